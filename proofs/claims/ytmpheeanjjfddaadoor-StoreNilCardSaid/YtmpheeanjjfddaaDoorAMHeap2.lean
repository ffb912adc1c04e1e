/- The small machine's stores and appends answer as the model's do. -/
import Derived.Test.YtmpheeanjjfddaaDoorAMHeap
namespace Go.Proofs.YtmpheeanjjfddaaDoor.AM
open Go Go.RowKit
set_option linter.unusedVariables false
set_option linter.unusedSimpArgs false
variable {P : Program} {E : Env} {tm : Tm} {a : Act} {o : Oper} {v : AV} {base : Nat} {w0 w : World} {s : St}

theorem seg_take {α : Type} (l c : List α) (n off : Nat) (h : off + c.length ≤ n) (hn : n ≤ l.length) : (l.take off ++ c ++ l.drop (off + c.length)).take n = (l.take n).take off ++ c ++ (l.take n).drop (off + c.length) := by
  rw [List.take_append, List.take_of_length_le (by simp; omega), List.take_take, Nat.min_eq_left (by omega), List.drop_take]
  congr 2
  simp
  omega
theorem put_len (vs c : List AV) (off : Nat) (h : off + c.length ≤ vs.length) : (putRange vs off c).length = vs.length := by simp [putRange]; omega
theorem put_rel {vs c : List AV} {l cv : List Value} {off : Nat} (h : VRs E vs l) (hc : VRs E c cv) : VRs E (putRange vs off c) (l.take off ++ cv ++ l.drop (off + cv.length)) := by
  rw [VRs_length _ _ hc]
  exact VRs_append (VRs_append (VRs_take _ h) hc) (VRs_drop _ h)
/-- Cells are written into a row's block, behind some place: what reaches beyond it is dead, but one. -/
theorem row_write (hW : WR E base w0 s.H w) {n b N off : Nat} {vs vs2 : List AV} {t l : Nat} {arr arr2 : Array Value} (hn : hget s.H n = some (.row vs t l)) (hG : E.G n = some (b, N)) (harr : w.heap[b]? = some (.cells arr t (0, 0)))
    (hsz : arr2.size = arr.size) (hpre : arr2.toList.take off = arr.toList.take off) (h2 : vs2.length ≤ N) (hv2 : VRs E vs2 (arr2.toList.take vs2.length)) :
    WR E base w0 (hset (hmap (kill l off n) s.H) n (.row vs2 t l)) (w.setRow b arr2) := by
  obtain ⟨hb, hlt, arr', h1, hN, hle, hvs⟩ := hW.live n _ b N hn hG
  rw [harr] at h1
  have harr' : arr' = arr := by injection h1 with h1; injection h1 with h1; exact h1.symm
  subst harr'
  have hnew := setRow_heap w b arr' arr2 t (0, 0) harr
  have hcond : ∀ m o', hget (hset (hmap (kill l off n) s.H) n (.row vs2 t l)) m = some o' → m ≠ n → ∃ o, hget s.H m = some o ∧ o' = kill l off n m o := by
    intro m o' hm hmn
    rw [hget_hset, if_neg hmn, hget_hmap] at hm
    obtain ⟨o, ho, rfl⟩ := Option.map_eq_some_iff.1 hm
    exact ⟨o, ho, rfl⟩
  have hkill : ∀ m o, kill l off n m o = o ∨ kill l off n m o = .dead := by
    intro m o
    unfold kill
    split
    · split
      · exact .inr rfl
      · exact .inl rfl
    · exact .inl rfl
  refine hW.write (b := b) hb (setRow_size _ _ _) rfl rfl rfl (fun k hk => setRow_other w b k arr2 hk) ?_ ?_ ?_ ?_
  · intro m hm
    rw [hget_hset] at hm
    split at hm
    · cases hm
    · rw [hget_hmap] at hm; simpa using hm
  · intro m o' hm
    by_cases hmn : m = n
    · subst hmn
      rw [hget_hset, if_pos rfl] at hm
      cases hm
      exact ⟨_, hn, .inr (.inr ⟨rfl, by simp⟩)⟩
    · obtain ⟨o, ho, rfl⟩ := hcond m o' hm hmn
      refine ⟨o, ho, ?_⟩
      rcases hkill m o with h | h
      · exact .inr (.inl h)
      · exact .inl h
  · intro m o' M hm hGm
    by_cases hmn : m = n
    · subst hmn
      rw [hget_hset, if_pos rfl] at hm
      cases hm
      rw [hG] at hGm; cases hGm
      exact ⟨arr2, hnew, by omega, h2, hv2⟩
    · obtain ⟨o, ho, rfl⟩ := hcond m o' hm hmn
      rcases hW.kin m n o _ b M N ho hn hmn hGm hG with rfl | h | ⟨l', hl1, hl2⟩
      · simp [kill, OR]
      · cases h
      · simp only [lin, Option.some.injEq] at hl2
        subst hl2
        cases o with
        | row vm tm' lm =>
          simp only [lin, Option.some.injEq] at hl1
          subst hl1
          simp only [kill]
          split
          · trivial
          · rename_i hc
            have hlen : vm.length ≤ off := by
              simp only [Bool.and_eq_true, Nat.beq_eq, Nat.blt_eq, Bool.not_eq_true', not_and] at hc
              by_cases hh : off < vm.length
              · have h3 := hc ⟨by simp, hh⟩
                have h4 : Nat.beq m n = false := by
                  cases hb : Nat.beq m n
                  · rfl
                  · exact absurd (Nat.eq_of_beq_eq_true hb) hmn
                exact absurd h4 h3
              · omega
            obtain ⟨_, _, arrm, g1, g2, g3, g4⟩ := hW.live m _ b M ho hGm
            rw [harr] at g1
            have e1 : arr' = arrm ∧ t = tm' := by injection g1 with g1; injection g1 with g1 g5; exact ⟨g1, g5⟩
            obtain ⟨rfl, rfl⟩ := e1
            refine ⟨arr2, hnew, by omega, g3, ?_⟩
            have : arr2.toList.take vm.length = arr'.toList.take vm.length := by
              have := congrArg (List.take vm.length) hpre
              rwa [List.take_take, List.take_take, Nat.min_eq_left hlen] at this
            rw [this]; exact g4
        | _ => simp [lin] at hl1
  · intro m o' c M hm hGm hc
    by_cases hmn : m = n
    · subst hmn; rw [hG] at hGm; cases hGm; exact absurd rfl hc
    · obtain ⟨o, ho, rfl⟩ := hcond m o' hm hmn
      exact ⟨o, ho, hkill m o⟩
theorem putA_ok (hW : WR E base w0 s.H w) {n off : Nat} {c : List AV} {cv : List Value} {s' : St} (h : putA n off c s = some s') (hcv : VRs E c cv) {b N : Nat} (hG : E.G n = some (b, N)) :
    ∃ w', WR E base w0 s'.H w' ∧ (storeCells ⟨b, off, none⟩ cv).run P w = .ok () w' := by
  unfold putA at h
  split at h
  · rename_i hone
    have hlen := VRs_length _ _ hcv
    have h1c := all_one hone hcv
    have hrun : ∀ arr ty, w.heap[b]? = some (.cells arr ty (0, 0)) → off + cv.length ≤ arr.size →
        (storeCells ⟨b, off, none⟩ cv).run P w = .ok () (w.setRow b (arr.toList.take off ++ cv ++ arr.toList.drop (off + cv.length)).toArray) := by
      intro arr ty harr hle
      have := run_storeCells_at P b off ty cv 0 arr w harr (by simpa using hle) h1c
      simp only [Nat.add_zero] at this
      exact this
    split at h
    · rename_i vs ty hn
      split at h
      · rename_i hle
        cases h
        obtain ⟨hb, hlt, arr, g1, g2, g3⟩ := hW.live n _ b N hn hG
        have hl := VRs_length _ _ g2
        simp at hl
        refine ⟨_, ?_, hrun arr ty g1 (by omega)⟩
        refine hW.write (b := b) hb (setRow_size _ _ _) rfl rfl rfl (fun k hk => setRow_other w b k _ hk) ?_ ?_ ?_ ?_
        · intro m hm
          rw [hget_hset] at hm
          split at hm
          · cases hm
          · exact hm
        · intro m o' hm
          rw [hget_hset] at hm
          split at hm
          · rename_i he; subst he; cases hm; exact ⟨_, hn, .inr (.inr ⟨rfl, by simp⟩)⟩
          · exact ⟨o', hm, .inr (.inl rfl)⟩
        · intro m o' M hm hGm
          rw [hget_hset] at hm
          split at hm
          · rename_i he; subst he; cases hm
            rw [hG] at hGm; cases hGm
            refine ⟨_, setRow_heap w b arr _ ty (0, 0) g1, by simpa using put_rel g2 hcv, ?_⟩
            simp
            omega
          · rename_i he
            rcases hW.kin m n o' _ b M N hm hn he hGm hG with rfl | h | ⟨l, _, h⟩
            · trivial
            · cases h
            · cases h
        · intro m o' c' M hm hGm hc
          rw [hget_hset] at hm
          split at hm
          · rename_i he; subst he; rw [hG] at hGm; cases hGm; exact absurd rfl hc
          · exact ⟨o', hm, .inl rfl⟩
      · cases h
    · rename_i vs ty l hn
      split at h
      · rename_i hle
        cases h
        obtain ⟨hb, hlt, arr, g1, g2, g3, g4⟩ := hW.live n _ b N hn hG
        refine ⟨_, ?_, hrun arr ty g1 (by omega)⟩
        have hal : arr.toList.length = arr.size := by simp
        refine row_write hW hn hG g1 ?_ ?_ (by rw [put_len _ _ _ hle]; exact g3) ?_
        · simp
          omega
        · simp only [List.append_assoc]
          rw [List.take_append_of_le_length (by simp; omega), List.take_take, Nat.min_self]
        · rw [put_len _ _ _ hle]
          simp only
          have h5 := put_rel (off := off) g4 hcv
          rw [← seg_take _ _ vs.length off (by omega) (by omega)] at h5
          exact h5
      · cases h
    · cases h
  · cases h
theorem storeA_ok (hW : WR E base w0 s.H w) {t : TypeId} {n off : Nat} {v : AV} {cv : Value} {s' : St} (h : storeA P t n off v s = some s') (hv : VR E v cv) {b N : Nat} (hG : E.G n = some (b, N)) :
    ∃ w', WR E base w0 s'.H w' ∧ (storeVar t ⟨b, off, none⟩ cv).run P w = .ok () w' := by
  unfold storeA at h
  split at h
  · rename_i k hk
    split at h
    · rename_i hck
      simp only [Nat.beq_eq] at hck
      have hcv := cells_ok hv
      have hlen := VRs_length _ _ hcv
      obtain ⟨w', hW', hr⟩ := putA_ok (P := P) hW h hcv hG
      refine ⟨w', hW', ?_⟩
      have hne : ¬ cv.cells.size ≠ k := by
        have : cv.cells.size = cv.cells.toList.length := by simp
        omega
      simp only [storeVar, Sem.run_bind, run_sizeOf hk, Result.andThen_ok, if_neg hne]
      exact hr
    · cases h
  · cases h

/-! append -/
/-- Where new elements come from: how many, and their cells in whatever world that has this one's heap. -/
def From (P : Program) (t : TypeId) (size n : Nat) (x : Value) (news : List Value) (w : World) : Prop :=
  (∃ d, P.underlying t = some d ∧ ((∃ e, d = .slice e) ∨ d = .string)) ∧ (∀ w', (Builtin.lenOf x).run P w' = .ok n w') ∧ (∀ w', w'.heap = w.heap → (Builtin.firstCells size n x).run P w' = .ok news.toArray w')
theorem run_append_in {t tx ty e : TypeId} {i : TypeInfo} (ht : P.underlying t = some (.slice e)) (hi : P.info? e = some i) {b len cap : Nat} {x : Value} {n : Nat} {news : List Value} (hs : From P tx i.size n x news w)
    {arr : Array Value} {te : Nat} (harr : w.heap[b]? = some (.cells arr te (0, 0))) (hroom : len + n ≤ cap) (hfit : len * i.size + news.length ≤ arr.size) (h1 : ∀ v ∈ news, v.oneCell' = true) :
    (Builtin.append_ #[t, tx] ty #[.slice (some ⟨b, 0, none⟩) len cap, x]).run P w = .ok (.slice (some ⟨b, 0, none⟩) (len + n) cap) (w.setRow b (arr.toList.take (len * i.size) ++ news ++ arr.toList.drop (len * i.size + news.length)).toArray) := by
  obtain ⟨⟨d, hd, hk⟩, hl, hc⟩ := hs
  have hst := run_storeCells_at P b (len * i.size) te news 0 arr w harr (by simpa using hfit) h1
  simp only [Nat.add_zero] at hst
  rcases hk with ⟨e', rfl⟩ | rfl <;> simp [Builtin.append_, run_underlying ht, run_underlying hd, sizeOf, typeInfo, hi, hl, hroom, hc w rfl, addr_add, hst]
theorem run_append_nil0 {t tx ty e : TypeId} {i : TypeInfo} (ht : P.underlying t = some (.slice e)) (hi : P.info? e = some i) {x : Value} {news : List Value} (hs : From P tx i.size 0 x news w) :
    (Builtin.append_ #[t, tx] ty #[.slice none 0 0, x]).run P w = .ok (.slice none 0 0) w := by
  obtain ⟨⟨d, hd, hk⟩, hl, hc⟩ := hs
  rcases hk with ⟨e', rfl⟩ | rfl <;> simp [Builtin.append_, run_underlying ht, run_underlying hd, sizeOf, typeInfo, hi, hl, hc w rfl]
theorem run_append_more {t tx ty e : TypeId} {i : TypeInfo} {z : Value} (ht : P.underlying t = some (.slice e)) (hi : P.info? e = some i) (hz : i.zero = some z) {ob : Option Addr} {len cap : Nat} {x : Value} {n : Nat} {olds news : List Value} (hs : From P tx i.size n x news w)
    (hold : ∀ w', w'.heap = w.heap → (Builtin.firstCells i.size len (.slice ob len cap)).run P w' = .ok olds.toArray w') (hg : cap < len + n) (h63 : len + n ≤ 1000000) (hb : i.bytes ≤ 1000000) :
    (Builtin.append_ #[t, tx] ty #[.slice ob len cap, x]).run P w =
      .ok (.slice (some ⟨w.heap.size, 0, none⟩) (len + n) (grownCap w (len + n) cap e)) (w.drew.alloc (.cells (olds.toArray ++ news.toArray ++ Builtin.zeroCells z.cells (grownCap w (len + n) cap e - (len + n))) e)) := by
  obtain ⟨⟨d, hd, hk⟩, hl, hc⟩ := hs
  have hn : ¬ (len + n ≤ cap) := by omega
  have h63' : ¬ (9223372036854775807 < ((len : Int) + (n : Int))) := by omega
  have hfit : Builtin.nextslicecap (len + n) cap * i.bytes ≤ 281474976710656 := by
    have h1 := nextslicecap_le hg
    have h2 : Builtin.nextslicecap (len + n) cap * i.bytes ≤ (2 * (len + n)) * 1000000 := Nat.mul_le_mul h1 hb
    omega
  have h48' : ¬ (281474976710656 < Builtin.nextslicecap (len + n) cap * i.bytes) := by omega
  have hf := hc w.drew rfl
  have hfo := hold w.drew rfl
  rcases hk with ⟨e', rfl⟩ | rfl <;>
    (simp [Builtin.append_, run_underlying ht, run_underlying hd, sizeOf, typeInfo, zeroValue, hi, hz, hl, hn, h63', h48', Question.forced, hf, hfo, newRow, grownCap]
     congr 2
     apply Array.ext'
     simp [List.append_assoc])
theorem grown_ge (w : World) (need old : Nat) (e : TypeId) : need ≤ grownCap w need old e := by simp [grownCap, Question.cut]
end Go.Proofs.YtmpheeanjjfddaaDoor.AM
