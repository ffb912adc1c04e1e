/- slices.Collect of the files of a table of one file, as a given function of the small machine. -/
import Derived.Test.YtmpheeanjjfddaaDoorAMStore
import Derived.Test.YtmpheeanjjfddaaDoorHFVals
namespace Go.Proofs.YtmpheeanjjfddaaDoor.AM
open Go Go.RowKit Go.Maps Go.WideMaps Go.Proofs.YtmpheeanjjfddaaDoor.X Go.Proofs.YtmpheeanjjfddaaDoorW.PrintWords
set_option linter.unusedVariables false
set_option linter.unusedSimpArgs false
variable {E : Env} {base : Nat} {w0 w w' : World} {s s' : St}

def oCollect : Ora
  | [.func (.func g) [] [.ptr n 0]], s => if Nat.beq g 43 then match cellsOf s n with
    | some [.map m] => match hget s.H m with
      | some (.map [(.str k, .agg [.str p, .str t, .int .i64 x, .bool d], b)] clock) =>
        if Nat.ble k.length 1000 && Nat.blt b clock then match s.alloc (.row [.str p, .str t, .int .i64 x, .bool d] 25 s.nx) with
          | some (nm, s') => some (.sl nm 0 1 4, s')
          | none => none
        else none
      | _ => none
    | _ => none
    else none
  | _, _ => none
theorem own1 {w : World} {b clock born : Nat} {key : ByteArray} {x : FileU} (hb : w.heap[b]? = some (.map #[⟨.string key, fileV x, born⟩] clock)) (hk : key.size ≤ maxLen) (hbo : born < clock) :
    w.ownsMap Tryd.prog 9 RF b 1 (.map [(.string key.data.toList, fileD x)]) := by
  have hrd : WideElems.rd Tryd.prog 9 RF ⟨.string key, fileV x, born⟩ = some (.string key.data.toList, fileD x) := by
    unfold WideElems.rd
    simp only [keyOf_string_mk Tryd.underlying9 hk, Option.bind_some, RF_mk, Option.map_some]
  refine ⟨_, clock, hb, ⟨by simp [maxLen], ⟨?_, by simp, by simp⟩, ?_⟩, Nat.le_refl _, ?_⟩
  · intro y hy; simp at hy; subst hy; exact hbo
  · intro y hy; simp at hy; subst hy; exact ⟨_, hrd⟩
  · simp [WideElems.rg, hrd, DataW.insert]
theorem all1 {key : List UInt8} {x : FileU} {ps : List (List UInt8 × FileU)} (h : AllOf (.map [(.string key, fileD x)]) ps) : ps = [(key, x)] := by
  obtain ⟨h1, h2⟩ := h
  have hl : ps.length = 1 := by simpa [strKeys] using h1.length_eq
  obtain ⟨p, rfl⟩ := List.length_eq_one_iff.1 hl
  obtain ⟨k, y⟩ := p
  have hk : k = key := by simpa [strKeys, strOf] using h1
  subst hk
  have h3 := h2 (k, y) (by simp) .nil
  have h4 : DataW.atKey (.map [(.string k, fileD x)]) (.string k) (.nil : DataW Unit) = fileD x := by
    have : (Lit.string k).sameKey (.string k) = true := by simp [Lit.sameKey]
    simp [DataW.atKey, this]
  rw [fileD_inj (h4.symm.trans h3)]

theorem oCollect_ok : OneOK Tryd.prog base w0 41 oCollect := by
  intro args s v s' h E w cargs hW hargs
  unfold oCollect at h
  split at h
  · rename_i g n s0
    split at h
    · rename_i hgf
      simp only [Nat.beq_eq] at hgf
      subst hgf
      split at h
      · rename_i m hcs
        split at h
        · rename_i kk p t x d bo clock hm
          split at h
          · rename_i hok
            simp only [Bool.and_eq_true, Nat.ble_eq, Nat.blt_eq] at hok
            split at h
            · rename_i nm s2 hal
              cases h
              obtain ⟨hq, hH, _⟩ := St.alloc_ok hal
              obtain ⟨cx, rfl, hvx⟩ := args1 hargs
              simp only [VR] at hvx
              obtain ⟨a', c', rfl, ha, hc⟩ := hvx
              simp only [VRs, VR] at ha hc
              obtain ⟨cp, m', hm', ⟨b, N, hG, rfl⟩, rfl⟩ := hc
              have ea : a' = #[] := by rw [← Array.toList_inj]; exact ha
              have ec : c' = #[.pointer (some ⟨b, 0, none⟩)] := by rw [← Array.toList_inj]; exact hm'
              subst ea ec
              obtain ⟨arr, ty, h1, h2, h3, h4⟩ := cells_of hW hcs hG
              obtain ⟨cm, hcm, hvm⟩ := take_get (x := .map m) h4 (show [AV.map m][0]? = _ from rfl)
              simp only [VR] at hvm
              obtain ⟨bm, M, hGm, rfl⟩ := hvm
              have hcell : w.cell? ⟨b, 0, none⟩ = some (.map (some bm)) := by rw [cell_at h1]; simpa using hcm
              have hblt : b < w.heap.size := (Array.getElem?_eq_some_iff.1 h1).1
              obtain ⟨_, _, es', he1, he2⟩ := hW.live m _ bm M hm hGm
              obtain ⟨e, r', he3, hk, hv, hbo, hr⟩ := he2
              have hr0 : r' = [] := hr
              subst hr0
              have hes : es' = #[e] := by rw [← Array.toList_inj]; exact he3
              subst hes
              simp only [VR, VRs] at hk hv
              obtain ⟨cs, hcs2, v1, l1, hl1, ⟨rfl, hp⟩, v2, l2, rfl, ⟨rfl, ht⟩, v3, l3, rfl, rfl, v4, l4, rfl, rfl, rfl⟩ := hv
              have ecs : cs = #[.string (BS p), .string (BS t), .int .i64 x, .bool d] := by rw [← Array.toList_inj]; exact hl1
              subst ecs
              obtain ⟨ek, ev, eb⟩ := e
              simp only at hk hcs2 hbo
              obtain ⟨hk, _⟩ := hk
              subst hk hcs2 hbo
              have hown := own1 (x := ⟨BS p, BS t, d, x⟩) (key := BS kk) he1 (by simp only [BS, ByteArray.size]; simp; unfold maxLen; omega) hok.2
              refine (collectVals b bm 1 _ w hblt (by simp [Maps.size]) hcell hown).mono ?_
              rintro e w' ⟨cv, ps, rfl, hps, hrow, hb⟩
              obtain rfl := all1 hps
              have hW1 := hW.step hb
              obtain ⟨_, hown2⟩ := hrow
              rcases hown2 with ⟨_, h0⟩ | ⟨g, cap, cur, rfl, hg, hcur, hcap, _, hsz, htake⟩
              · simp at h0
              · have hlt : g < w'.heap.size := (Array.getElem?_eq_some_iff.1 hcur).1
                have hle : E.le (E.set nm g cur.size) := Env.le_set (hW.dom _ hq)
                simp only [List.length_cons, List.length_nil, Nat.zero_add, Nat.one_mul] at hcap htake
                refine ⟨E.set nm g cur.size, _, rfl, hle, ?_, ?_⟩
                · simp only [VR]
                  exact ⟨g, cur.size, cap, Env.get_set _ _ _ _, rfl, hcap, by omega⟩
                · rw [hH]
                  refine hW1.alias hq (Nat.le_trans hW.big hg) hlt _ ?_ ?_
                  · refine ⟨cur, hcur, rfl, by simp; omega, ?_⟩
                    show VRs _ _ (List.take 4 cur.toList)
                    rw [htake]
                    exact VRs_cons (by simp only [VR]; exact ⟨trivial, hp⟩) (VRs_cons (by simp only [VR]; exact ⟨trivial, ht⟩) (VRs_cons (by simp only [VR]) (VRs_cons (by simp only [VR]) VRs_nil)))
                  · intro k o M hk hGk
                    have := (hW.live k o g M hk hGk).2.1
                    omega
            · cases h
          · cases h
        · cases h
      · cases h
    · cases h
  · cases h
end Go.Proofs.YtmpheeanjjfddaaDoor.AM
