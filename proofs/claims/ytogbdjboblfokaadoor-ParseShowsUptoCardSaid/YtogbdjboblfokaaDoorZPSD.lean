/- Texts of this claim, one behind the other (merged by the session's own program merge.py: a claim bears sixty files): HLawShowsB, HRowCmds, LawParseShows. -/
import Derived.Deep.Slices
import Derived.Deep.Strs
import Derived.ChangeSame
import Derived.ChangeArms
import Derived.Test.YtogbdjboblfokaaDoorRows
import Derived.Test.YtogbdjboblfokaaDoorCards
import Derived.Test.YtogbdjboblfokaaDoorTie
import Derived.WalkKit
import Derived.ProofKit
import Derived.OpenShut
import Derived.ShutString
import Derived.ChangeOld
import Derived.Below
import Derived.SizedLaws
import Derived.HandedShaped
import Derived.Shelf.Vars
import Derived.Deep.DeepHandedRow
import Derived.Lib.LaidTab
import Derived.Test.YtogbdjboblfokaaDoorZPSC
/- The law ParseShows, walked. -/
namespace Go.Proofs.YtogbdjboblfokaaDoor.X
open Go.RowKit Go.Proofs.YtogbdjboblfokaaDoorW.PrintWords Go.Proofs.YtogbdjboblfokaaDoorW.PrintLast Go.Proofs.YtogbdjboblfokaaDoorW.PrintMore Go.Proofs.YtogbdjboblfokaaDoor.XW05 Go.Proofs.YtogbdjboblfokaaDoor.XT06 Go.Proofs.YtogbdjboblfokaaDoor.XW06
set_option linter.unusedSimpArgs false
set_option linter.unusedVariables false

set_option maxRecDepth 100000 in
set_option maxHeartbeats 4000000 in
theorem lawParseShows (cs : List Cmd) (L : List S40) (e : L = cs.map toS) (A : Option Addr) (c : Nat) (w : World) (hSH : Shp w) (hC : Kd.C k40 w A L.length L) (hc : L.length ≤ c) (hn : wsum L < 1152921504606846976) :
    Calls Tryd.prog 4 #[.slice A L.length c] w fun e w' => e = .returned (.bool true) ∧ Below w.heap.size w w' := by
  have HB := Aside0.mk (Below.refl w.heap.size w)
  have HSH := Aside0.mk hSH
  have HC := Aside0.mk hC
  have HE := Aside0.mk e
  have HCC := Aside0.mk hc
  have HN := Aside0.mk hn
  have HEL := Aside0.mk (show L.length = cs.length by rw [e, List.length_map])
  clear hSH hC e hc hn
  by_cases hlong : 20 < L.length
  · have hl1 : decide ((L.length : Int) > 20) = true := decide_eq_true (by omega)
    go_enter Tryd.func4, Tryd.ntmps4
    go_wp2_with (go_at_call 6; refine (flatironlaw06_lives.calls true _ lives06).mono ?_; rintro e1 w1 ⟨rfl, hb1⟩; replace HB := Aside0.mk (below_step HB.out hb1); clear hb1)
    go_ret
    exact ⟨rfl, HB.out⟩
  · have hl1 : decide ((L.length : Int) > 20) = false := decide_eq_false (by omega)
    have hl2 : L.length ≤ 20 := by omega
    go_enter Tryd.func4, Tryd.ntmps4
    go_wp2_with (go_at_call 6; refine (flatironlaw06_lives.calls true _ lives06).mono ?_; rintro e1 w1 ⟨rfl, hb1⟩; replace HB := Aside0.mk (below_step HB.out hb1); clear hb1)
    go_loopg [3, 24] L.length (fun g v3 v24 wr => ∃ (wo : World) (i : Nat), wo = wr ∧ i ≤ L.length ∧ L.length - i ≤ g ∧ v3 = .int .i64 ((wsum (L.take i) : Nat) : Int) ∧ v24 = .int .i64 (i : Int) ∧ Aside0 (Below w.heap.size w wr))
    case atStart => exact ⟨_, 0, rfl, Nat.zero_le _, by omega, rfl, rfl, HB⟩
    case round =>
      clear HB
      obtain ⟨wo, i, rfl, hi, hg, rfl, rfl, HB⟩ := hrel
      by_cases hlt : i < L.length
      · obtain ⟨b, o, rfl, hb, hcc⟩ := cmdRow (Kd.C_below HC.out HB.out) (by omega)
        obtain ⟨A1, c1, A2, c2, d0, d1, d2, l1, g1, l2, g2⟩ := hcc i hlt
        have hsu : wsum (L.take (i + 1)) = wsum (L.take i) + cw L[i] := sum_take_succ cw L i hlt
        have hsl : wsum (L.take (i + 1)) ≤ wsum L := sum_take_le cw L (i + 1)
        have hnn := HN.out
        have HSU := Aside0.mk hsu
        obtain ⟨z, hz⟩ : ∃ z, L[i] = z := ⟨_, rfl⟩
        rw [hz] at d0 d1 d2 l1 g1 l2 g2 hsu HSU
        obtain ⟨a, xs, ts⟩ := z
        simp only at d0 d1 d2 l1 g1 l2 g2
        have hcw : cw ⟨a, xs, ts⟩ = xs.length + ts.length + sB xs + sT ts := rfl
        rw [hcw] at hsu HSU
        obtain ⟨s, hs⟩ : ∃ s, wsum (L.take i) = s := ⟨_, rfl⟩
        rw [hs] at hsu HSU ⊢
        have HBD := Aside0.mk (show s + (xs.length + ts.length + sB xs + sT ts) < 1152921504606846976 by omega)
        have hbd := HBD.out
        have HG1 := Aside0.mk g1
        have HG2 := Aside0.mk g2
        clear hcc hz g1 g2 hcw hsu hsl hnn hs
        obtain ⟨go, hgo⟩ : ∃ x, gk = x := ⟨_, rfl⟩
        have b5 := blk_new wo (.cells #[.int .i64 a, .slice A1 xs.length c1, .slice A2 ts.length c2] 40 (0, 0))
        have f1 : (wo.alloc (.cells #[.int .i64 a, .slice A1 xs.length c1, .slice A2 ts.length c2] 40)).cell? ⟨wo.heap.size, 1, none⟩ = some (.slice A1 xs.length c1) := blk_cell b5 1
        have f2 : (wo.alloc (.cells #[.int .i64 a, .slice A1 xs.length c1, .slice A2 ts.length c2] 40)).cell? ⟨wo.heap.size, 2, none⟩ = some (.slice A2 ts.length c2) := blk_cell b5 2
        have hw5 : Below wo.heap.size wo (wo.alloc (.cells #[.int .i64 a, .slice A1 xs.length c1, .slice A2 ts.length c2] 40)) := below_alloc (Below.refl _ _) _
        have HB5 := Aside0.mk (below_step HB.out hw5)
        replace HG1 := Aside0.mk (Kd.C_below HG1.out hw5)
        replace HG2 := Aside0.mk (Kd.C_below HG2.out hw5)
        have F2 := Aside0.mk f2
        clear b5 hw5 f2
        go_wp2
        go_loopg [3, 40] xs.length (fun g v3 v40 wi => ∃ (k : Nat), k ≤ xs.length ∧ xs.length - k ≤ g ∧ v3 = .int .i64 ((s : Int) + (xs.length + ts.length) + ((sB (xs.take k) : Nat) : Int)) ∧ v40 = .int .i64 (k : Int) ∧ wi = (wo.alloc (.cells #[.int .i64 a, .slice A1 xs.length c1, .slice A2 ts.length c2] 40)))
        case atStart => exact ⟨0, Nat.zero_le _, by omega, by simp [sB], rfl, rfl⟩
        case round =>
          obtain ⟨k, hk, hgi, rfl, rfl, rfl⟩ := hrel
          have hk1 : sB (xs.take k) ≤ sB xs := sum_take_le ByteArray.size xs k
          by_cases hlk : k < xs.length
          · obtain ⟨b1, o1, rfl, hb1, hcc1⟩ := rd_string HG1.out (by omega)
            have q0 := hcc1 k hlk
            have hk2 : sB (xs.take (k + 1)) = sB (xs.take k) + xs[k].size := sum_take_succ ByteArray.size xs k hlk
            have hk3 : sB (xs.take (k + 1)) ≤ sB xs := sum_take_le ByteArray.size xs (k + 1)
            have HK2 := Aside0.mk hk2
            obtain ⟨y, hy⟩ : ∃ y, xs[k] = y := ⟨_, rfl⟩
            rw [hy] at q0 hk2 HK2
            obtain ⟨sk, hsk⟩ : ∃ sk, sB (xs.take k) = sk := ⟨_, rfl⟩
            rw [hsk] at hk1 hk2 HK2 ⊢
            clear hcc1 hy hsk
            have hbd := HBD.out
            go_wp2
            go_roundg (gk - 1)
            case measure => omega
            case rel => exact ⟨k + 1, by omega, by omega, by rw [HK2.out]; go_num, by go_num, rfl⟩
          · have hk' : k = xs.length := by omega
            subst hk'
            rw [List.take_length] at hk1 ⊢
            have f2 := F2.out
            have hbd := HBD.out
            go_wp2
            go_loopg [3, 52] ts.length (fun g v3 v52 wi => ∃ (w2 : World) (k : Nat), w2 = wi ∧ k ≤ ts.length ∧ ts.length - k ≤ g ∧ v3 = .int .i64 ((s : Int) + (xs.length + ts.length) + ((sB xs : Nat) : Int) + ((sT (ts.take k) : Nat) : Int)) ∧ v52 = .int .i64 (k : Int) ∧ Aside0 (Below (wo.alloc (.cells #[.int .i64 a, .slice A1 xs.length c1, .slice A2 ts.length c2] 40)).heap.size (wo.alloc (.cells #[.int .i64 a, .slice A1 xs.length c1, .slice A2 ts.length c2] 40)) wi))
            case atStart => exact ⟨_, 0, rfl, Nat.zero_le _, by omega, by simp [sT], rfl, ⟨Below.refl _ _⟩⟩
            case round =>
              obtain ⟨w2, k, rfl, hk, hgi, rfl, rfl, HJ⟩ := hrel
              have hk1 : sT (ts.take k) ≤ sT ts := sum_take_le (fun t : S42 => t.f1.size) ts k
              by_cases hlk : k < ts.length
              · obtain ⟨b2, o2, rfl, hb2, hcc2⟩ := toRow (Kd.C_below HG2.out HJ.out) (by omega)
                obtain ⟨q0, q1⟩ := hcc2 k hlk
                have hk2 : sT (ts.take (k + 1)) = sT (ts.take k) + ts[k].f1.size := sum_take_succ (fun t : S42 => t.f1.size) ts k hlk
                have hk3 : sT (ts.take (k + 1)) ≤ sT ts := sum_take_le (fun t : S42 => t.f1.size) ts (k + 1)
                have HK2 := Aside0.mk hk2
                obtain ⟨y, hy⟩ : ∃ y, ts[k] = y := ⟨_, rfl⟩
                rw [hy] at q0 q1 hk2 HK2
                obtain ⟨y0, y1⟩ := y
                simp only at q0 q1 hk2 HK2
                obtain ⟨sk, hsk⟩ : ∃ sk, sT (ts.take k) = sk := ⟨_, rfl⟩
                rw [hsk] at hk1 hk2 HK2 ⊢
                clear hcc2 hy hsk
                have hbd := HBD.out
                have b8 := blk_new w2 (.cells #[.int .i64 y0, .string y1] 42 (0, 0))
                have p1 : (w2.alloc (.cells #[.int .i64 y0, .string y1] 42)).cell? ⟨w2.heap.size, 1, none⟩ = some (.string y1) := blk_cell b8 1
                have HJ2 := Aside0.mk (below_step HJ.out (below_alloc (Below.refl _ _) (.cells #[.int .i64 y0, .string y1] 42)))
                clear b8
                go_wp2
                go_roundg (gk - 1)
                case measure => omega
                case rel => exact ⟨_, k + 1, rfl, by omega, by omega, by rw [HK2.out]; go_num, by go_num, HJ2⟩
              · have hk' : k = ts.length := by omega
                subst hk'
                rw [List.take_length] at hk1 ⊢
                have hbd := HBD.out
                go_wp2
                go_roundg (go - 1)
                case measure => omega
                case rel => exact ⟨_, i + 1, rfl, by omega, by omega, by rw [HSU.out]; go_num, by go_num, ⟨below_step HB5.out HJ.out⟩⟩
      · have hi' : i = L.length := by omega
        subst hi'
        rw [List.take_length]
        by_cases hbig : 1000 < wsum L
        · have hb1 : decide (((wsum L : Nat) : Int) > 1000) = true := decide_eq_true (by omega)
          go_wp2
          go_ret
          exact ⟨rfl, HB.out⟩
        · have hb1 : decide (((wsum L : Nat) : Int) > 1000) = false := decide_eq_false (by omega)
          have hs : smallC cs := small_of cs (by have := HEL.out; omega) (by rw [← HE.out]; omega)
          have HS := Aside0.mk hs
          have HBK := Aside0.mk (fun h => parse_back cs h)
          have HJ := Aside0.mk (shown_len cs hs.2.1 hs.2.2.1)
          clear hs
          cases hr : rightS cs with
          | false =>
            have HR := Aside0.mk hr
            clear hr
            go_wp2_with (first
              | (go_at_call 9; refine (sh_badL L cs HE.out HS.out HR.out A c _ (Shp.below HSH.out HB.out) (Kd.C_below HC.out HB.out) HCC.out).mono ?_; rintro e4 w4 ⟨rfl, hb4⟩; replace HB := Aside0.mk (below_step HB.out hb4); clear hb4)
              | (go_at_call 12; refine (rt_okL L cs HE.out HS.out A c _ (Kd.C_below HC.out HB.out) HCC.out).mono ?_; rintro e10 w10 ⟨rfl, hb10⟩; rw [HR.out]; replace HB := Aside0.mk (below_step HB.out hb10); clear hb10)
              | (go_at_call 11; refine (of_okL L cs HE.out HS.out A c _ (Kd.C_below HC.out HB.out)).mono ?_; rintro e6 w6 ⟨A2, c2, rfl, hc2, hC2, hb6⟩; replace HB := Aside0.mk (below_step HB.out hb6); have C2 := Aside0.mk hC2; have L2 := Aside0.mk hc2; clear hb6 hC2 hc2)
              | (go_at_call 13; refine (rr_ok cs HS.out _ _ _ C2.out L2.out).mono ?_; rintro e7 w7 ⟨rfl, hb7⟩; rw [HR.out]; replace HB := Aside0.mk (below_step HB.out hb7); clear hb7))
            go_ret
            exact ⟨rfl, HB.out⟩
          | true =>
            have HR := Aside0.mk hr
            clear hr
            go_wp2_with (first
              | (go_at_call 9; refine (sh_okL L cs HE.out HS.out HR.out A c _ (Shp.below HSH.out HB.out) (Kd.C_below HC.out HB.out) HCC.out).mono ?_; rintro e4 w4 ⟨rfl, hb4⟩; replace HB := Aside0.mk (below_step HB.out hb4); clear hb4)
              | (go_at_call 12; refine (rt_okL L cs HE.out HS.out A c _ (Kd.C_below HC.out HB.out) HCC.out).mono ?_; rintro e10 w10 ⟨rfl, hb10⟩; rw [HR.out]; replace HB := Aside0.mk (below_step HB.out hb10); clear hb10)
              | (go_at_call 13; refine (rr_ok cs HS.out _ _ _ C2.out L2.out).mono ?_; rintro e7 w7 ⟨rfl, hb7⟩; rw [HR.out]; replace HB := Aside0.mk (below_step HB.out hb7); clear hb7)
              | (go_at_call 7; refine (ln_some (joinU ((toksAll cs).map show1)) (by have := HJ.out; omega) cs (HBK.out HR.out) _).mono ?_; rintro e5 w5 ⟨A5, c5, rfl, hc5, hC5, hb5⟩; replace HB := Aside0.mk (below_step HB.out hb5); have C5 := Aside0.mk hC5; clear hb5 hC5 hc5)
              | (go_at_call 14; refine (rsh_ok cs HS.out HR.out _ _ _ C2.out L2.out).mono ?_; rintro e8 w8 ⟨rfl, hb8⟩; replace HB := Aside0.mk (below_step HB.out hb8); replace C5 := Aside0.mk (Kd.C_below C5.out hb8); have M1 := Aside0.mk True.intro; clear hb8)
              | (go_at_call 11; first
                  | (have hx := C7.out; clear hx; refine (of_okL L cs HE.out HS.out A c _ (Kd.C_below HC.out HB.out)).mono ?_; rintro e6 w6 ⟨A2, c2, rfl, hc2, hC2, hb6⟩; replace HB := Aside0.mk (below_step HB.out hb6); have C2 := Aside0.mk hC2; have L2 := Aside0.mk hc2; (try replace C5 := Aside0.mk (Kd.C_below C5.out hb6)); (try replace C7 := Aside0.mk (Kd.C_below C7.out hb6)); clear hb6 hC2 hc2)
                  | (have hx := M1.out; clear hx; refine (of_ok cs HS.out A5 c5 _ C5.out).mono ?_; rintro e9 w9 ⟨A7, c7, rfl, hc7, hC7, hb9⟩; replace HB := Aside0.mk (below_step HB.out hb9); have C7 := Aside0.mk hC7; clear hb9 hC7 hc7)
                  | (refine (of_okL L cs HE.out HS.out A c _ (Kd.C_below HC.out HB.out)).mono ?_; rintro e6 w6 ⟨A2, c2, rfl, hc2, hC2, hb6⟩; replace HB := Aside0.mk (below_step HB.out hb6); have C2 := Aside0.mk hC2; have L2 := Aside0.mk hc2; (try replace C5 := Aside0.mk (Kd.C_below C5.out hb6)); (try replace C7 := Aside0.mk (Kd.C_below C7.out hb6)); clear hb6 hC2 hc2))
              | (go_at_call 10; refine (sm_ok cs HS.out _ _ _ _ _ C7.out C2.out).mono ?_; rintro e11 w11 ⟨rfl, hb11⟩; replace HB := Aside0.mk (below_step HB.out hb11); clear hb11))
            go_ret
            exact ⟨rfl, HB.out⟩
end Go.Proofs.YtogbdjboblfokaaDoor.X
/- A row of commands that came in, as a law's row reads it: its cells, and what it counts against its bulk. -/
namespace Go.Proofs.YtogbdjboblfokaaDoor.X
open Go.RowKit Go.ChangeShapes Go.WideShapes Go.Deep Go.Deep Go.Proofs.YtogbdjboblfokaaDoorW.PrintWords Go.Proofs.YtogbdjboblfokaaDoor.XT06
set_option linter.unusedSimpArgs false
set_option linter.unusedVariables false
section
variable {H : Type} {enc : TypeId × Value → H} {W : World} {base : Nat} {spare : Nat → Bool} {held : Bool}
theorem bulk_map {α : Type} (f : α → Nat) (Z : Nat → α) (D : Nat → DataW H) : ∀ (l : List Nat), (∀ i ∈ l, f (Z i) + 1 ≤ Rows.uptoBulk (D i)) → ((l.map Z).map f).sum + l.length ≤ Rows.uptoBulkAll (l.map D)
  | [], _ => by simp [Rows.uptoBulkAll]
  | i :: r, h => by
    have h1 := h i (List.mem_cons_self ..)
    have h2 := bulk_map f Z D r (fun j hj => h j (List.mem_cons_of_mem _ hj))
    simp only [List.map_cons, List.sum_cons, List.length_cons, Rows.uptoBulkAll]
    omega
theorem rows_open {α : Type} {P : Program} {t e : TypeId} (K : Kd α) (z0 : α) (hu : P.underlying t = some (.slice e)) (hsz : P.cellsOf e = K.sz) (f : α → Nat)
    (hel : ∀ m cs x, DataW.trod enc P W base spare held m e cs = some x → ∃ z, K.K W z cs ∧ f z + 1 ≤ Rows.uptoBulk x.1)
    {fuel : Nat} {cs : List Value} {x : DataW H × List MemPlace} (h : DataW.trod enc P W base spare held fuel t cs = some x) :
    ∃ (A : Option Addr) (L : List α) (cap : Nat), cs = [.slice A L.length cap] ∧ L.length ≤ cap ∧ K.C W A L.length L ∧ (L.map f).sum + L.length + 1 ≤ Rows.uptoBulk x.1 := by
  rcases open_slice hu h with ⟨rfl, rfl⟩ | ⟨a, len, cap, m, n, D, Pl, rfl, hb, hl, hm, hmm, rfl, hx⟩
  · exact ⟨none, [], 0, rfl, Nat.le_refl _, ⟨rfl, by simp, fun h => by simp at h⟩, by simp [Rows.uptoBulk]⟩
  · have hml : len ≤ m := by rw [hmm]; split <;> omega
    haveI : Inhabited α := ⟨z0⟩
    obtain ⟨Z, hZ⟩ := choose_lt (α := α) (n := len) (p := fun i z => ∃ cs', W.cells? base (a.add (i * P.cellsOf e)) (P.cellsOf e) = some cs' ∧ K.K W z cs' ∧ f z + 1 ≤ Rows.uptoBulk (D i)) (fun i hi => by
      obtain ⟨cs', h1, h2⟩ := hx i (by omega)
      obtain ⟨z, g1, g2⟩ := hel _ _ _ h2
      exact ⟨z, cs', h1, g1, g2⟩)
    have hlen : ((List.range len).map Z).length = len := by simp
    unfold maxLen at hm
    refine ⟨some a, (List.range len).map Z, cap, by rw [hlen], by rw [hlen]; exact hl, ⟨rfl, by rw [hlen]; omega, fun _ => ⟨a, rfl, fun j p hj => ?_⟩⟩, ?_⟩
    · obtain ⟨hj1, hj2⟩ := List.getElem?_eq_some_iff.1 hj
      rw [hlen] at hj1
      rw [List.getElem_map, List.getElem_range] at hj2
      subst hj2
      obtain ⟨cs', h1, h2, _⟩ := hZ j hj1
      obtain ⟨_, hcl, hcc⟩ := World.cells?_some h1
      refine ⟨cs', by rw [hcl, hsz], h2, fun i u hi => ?_⟩
      have := hcc i (by have := (List.getElem?_eq_some_iff.1 hi).1; omega)
      rw [hi, Go.Deep.add_add, hsz] at this
      exact this
    · rw [hlen]
      have := bulk_map f Z D (List.range len) (fun i hi => by obtain ⟨_, _, _, h3⟩ := hZ i (List.mem_range.1 hi); exact h3)
      rw [List.length_range] at this
      simp only [Rows.uptoBulk]
      omega
theorem string_row {m : Nat} {cs : List Value} {x : DataW H × List MemPlace} (h : DataW.trod enc Tryd.prog W base spare held m 9 cs = some x) : ∃ z, Kd.string.K W z cs ∧ z.size + 1 ≤ Rows.uptoBulk x.1 := by
  obtain ⟨s, rfl, rfl, _⟩ := DataW.trod_string Tryd.underlying9 h
  exact ⟨s, rfl, by simp [Rows.uptoBulk]⟩
set_option maxRecDepth 100000 in
theorem to_row {m : Nat} {cs : List Value} {x : DataW H × List MemPlace} (h : DataW.trod enc Tryd.prog W base spare held m 42 cs = some x) : ∃ z, k42.K W z cs ∧ z.f1.size + 1 ≤ Rows.uptoBulk x.1 := by
  obtain ⟨y0, y1, n, rfl, hlen, g0, g1⟩ := trod_struct2 Tryd.underlying42 h
  rw [show Tryd.prog.cellsOf 42 = 2 by kernel_rfl] at hlen
  match cs, hlen with
  | [a, b], _ =>
    obtain ⟨k, hk, e0, _⟩ := DataW.trod_int Tryd.underlying36 g0
    obtain ⟨s, hs, e1, _⟩ := DataW.trod_string Tryd.underlying9 g1
    have hk : [a] = [Value.int .i64 k] := hk
    have hs : [b] = [Value.string s] := hs
    obtain rfl := (List.cons.inj hk).1
    obtain rfl := (List.cons.inj hs).1
    refine ⟨⟨k, s⟩, k42_mk W ⟨k, s⟩, ?_⟩
    rw [e0, e1]
    simp [Rows.uptoBulk, Rows.uptoBulkAll]
    omega
set_option maxRecDepth 100000 in
theorem cmd_row {m : Nat} {cs : List Value} {x : DataW H × List MemPlace} (h : DataW.trod enc Tryd.prog W base spare held m 40 cs = some x) : ∃ z, k40.K W z cs ∧ cw z + 1 ≤ Rows.uptoBulk x.1 := by
  obtain ⟨y0, y1, y2, n, rfl, hlen, g0, g1, g2⟩ := trod_struct3 Tryd.underlying40 h
  rw [show Tryd.prog.cellsOf 40 = 3 by kernel_rfl] at hlen
  match cs, hlen with
  | [a, b, c], _ =>
    obtain ⟨k, hk, e0, _⟩ := DataW.trod_int Tryd.underlying36 g0
    obtain ⟨A1, l1, c1, e1, hc1, hC1, hb1⟩ := rows_open Kd.string ByteArray.empty Tryd.underlying37 (show _ = 1 by kernel_rfl) ByteArray.size (fun m cs x hx => string_row hx) g1
    obtain ⟨A2, l2, c2, e2, hc2, hC2, hb2⟩ := rows_open k42 ⟨0, ByteArray.empty⟩ Tryd.underlying38 (show _ = 2 by kernel_rfl) (fun t => t.f1.size) (fun m cs x hx => to_row hx) g2
    have hk : [a] = [Value.int .i64 k] := hk
    have e1 : [b] = [Value.slice A1 l1.length c1] := e1
    have e2 : [c] = [Value.slice A2 l2.length c2] := e2
    obtain rfl := (List.cons.inj hk).1
    obtain rfl := (List.cons.inj e1).1
    obtain rfl := (List.cons.inj e2).1
    refine ⟨⟨k, l1, l2⟩, k40_mk W ⟨k, l1, l2⟩ hc1 hC1 hc2 hC2, ?_⟩
    rw [e0]
    simp only [Rows.uptoBulk, Rows.uptoBulkAll]
    show l1.length + l2.length + sB l1 + sT l2 + 1 ≤ _
    unfold sB sT
    omega
/-- What a row of commands holds. -/
theorem cmds_open {A : Option Addr} {len cap : Nat} {d : DataW H} {ps : List MemPlace} (h : DataW.Trod enc Tryd.prog W base spare held 23 (.slice A len cap) d ps) :
    ∃ L : List S40, len = L.length ∧ Kd.C k40 W A L.length L ∧ L.length ≤ cap ∧ wsum L ≤ Rows.uptoBulk d := by
  obtain ⟨fuel, hf⟩ := h
  obtain ⟨A1, L, c1, e1, hc1, hC1, hb1⟩ := rows_open k40 ⟨0, [], []⟩ Tryd.underlying23 (show _ = 3 by kernel_rfl) cw (fun m cs x hx => cmd_row hx) hf
  have e1 : [Value.slice A len cap] = [Value.slice A1 L.length c1] := e1
  injection (List.cons.inj e1).1 with q1 q2 q3
  subst q1 q2 q3
  exact ⟨L, rfl, hC1, hc1, by unfold wsum; show _ ≤ Rows.uptoBulk d; have : _ ≤ Rows.uptoBulk d := hb1; omega⟩
end
end Go.Proofs.YtogbdjboblfokaaDoor.X
/- The row of the law ParseShows, second form: where what it reads is of the bulk that the statement names the call returns true and its arguments read as before. -/
namespace Go.Proofs.YtogbdjboblfokaaDoor.parseShows
open Go.ChangeShapes Go.WideShapes Go.ChangeAt Go.RowKit
open Go.ChangeMaps (open_string shut_string)
set_option linter.unusedVariables false
theorem laidOut : laidOutB Tryd.prog = true := by kernel_rfl
theorem own : ownKnob Tryd.prog.godebug = none := by kernel_rfl
noncomputable def laidWorld (os : Os) : World :=
  { World.holding Tryd.prog os ⟨#[], #[], []⟩ with heap := (((World.holding Tryd.prog os ⟨#[], #[], []⟩).heap.modify 2 (fun
      | .cells _ t frozen => .cells #[.int .u8 128, .int .u8 191, .int .u8 160, .int .u8 191, .int .u8 128, .int .u8 159, .int .u8 144, .int .u8 191, .int .u8 128, .int .u8 143, .int .u8 0, .int .u8 0, .int .u8 0, .int .u8 0, .int .u8 0, .int .u8 0, .int .u8 0, .int .u8 0, .int .u8 0, .int .u8 0, .int .u8 0, .int .u8 0, .int .u8 0, .int .u8 0, .int .u8 0, .int .u8 0, .int .u8 0, .int .u8 0, .int .u8 0, .int .u8 0, .int .u8 0, .int .u8 0] t frozen
      | o => o)).modify 1 (fun
      | .cells _ t frozen => .cells ((Go.Pinned.utf8FirstZ.map fun (n : Nat) => Value.int .u8 (n : Int)).toArray) t frozen
      | o => o)) }
set_option maxRecDepth 100000 in
theorem laid_met (os : Os) : laidMet Tryd.prog Rows.parseShowsUptoRow.laid ((laidWorld os).forCall (fun _ _ => 0) ⟨#[], #[.slice none 0 0], []⟩).memory :=
  laidMet_of_run' 8 (by kernel_rfl) (by kernel_rfl)
theorem reads (os : Os) {H : Type} (enc : TypeId × Value → H) : ∃ places, DataW.whole enc Tryd.prog ((laidWorld os).forCall (fun _ _ => 0) ⟨#[], #[.slice none 0 0], []⟩).memory Tryd.f4.params.toList Rows.parseShowsSpec.vars false #[Value.slice none 0 0].toList 8 = some ([.nil], [], places) :=
  ⟨[], by kernel_rfl⟩
set_option maxRecDepth 100000 in
theorem lifted (os : Os) (started : os.Started) (H : Type) (enc : TypeId × Value → H) (F : Stop.Interp) :
    ReturnsInHanded {} Tryd.checked os 4 .any ((Rows.OpenSpec.upto Rows.parseShowsSpec).preRow enc Tryd.prog Tryd.f4 Rows.parseShowsUptoRow.domain false Rows.parseShowsUptoRow.laid) (((Rows.OpenSpec.upto Rows.parseShowsSpec).at F).post enc Tryd.prog Tryd.f4 false true false false) := by
  obtain ⟨places, hx⟩ := reads os enc
  refine returnsInHanded_of_row (C := Tryd.checked) (s := Rows.OpenSpec.upto Rows.parseShowsSpec) own started (by kernel_rfl) Tryd.func4
    (witness_row_at (enc := enc) (C := Tryd.checked) false (laidWorld os) #[.slice none 0 0] rfl (by kernel_rfl) (by kernel_rfl) (by kernel_rfl)
      (OpenSpec.preRow_of_cond 8 hx (by kernel_rfl) (fun k hk => by cases hk; kernel_rfl) (by kernel_rfl) (laid_met os))) ?_
  intro W base args ds gs before hval0 hW _ hcond hsz0 _ hsh _
  have hk : Rows.uptoSmall H (ds ++ gs) = true := hcond _ rfl
  have hval : ∀ (j : Nat) t v, Tryd.f4.params[j]? = some t → args[j]? = some v → Value.okWide Tryd.prog W .any base t v := hval0
  have hW' := hW
  obtain ⟨p, q, hA0, hV, rfl, hfz, hnd⟩ := hW
  have hA : DataW.TrodAll enc Tryd.prog W 0 (fun _ => true) true Tryd.f4.params.toList args.toList ds p := hA0
  rw [Tryd.params4] at hA hval
  obtain ⟨v0, vs0, d0, ds0, p0, q0, hargs, rfl, rfl, h0, r0⟩ := trodAll_cons hA
  obtain ⟨rfl, rfl, rfl⟩ := trodAll_nil r0
  obtain rfl : args = #[v0] := by cases args; simp_all
  obtain ⟨rfl, rfl⟩ := trodVars_none hV
  have k0 := h0
  have lt0 : ∀ x ∈ p0, x.block < W.heap.size := by obtain ⟨m, hm⟩ := k0; exact DataW.trod_lt m _ _ _ hm
  obtain ⟨A0, len0, cap0, rfl⟩ := okWide_slice Tryd.underlying23 (hval 0 23 v0 rfl rfl)
  obtain ⟨L, rfl, hC, hc, hn⟩ := X.cmds_open h0
  have hb : X.wsum L < 1152921504606846976 := by
    have h := of_decide_eq_true hk
    simp only [List.cons_append, List.nil_append, Rows.uptoBulkAll] at h
    omega
  obtain ⟨cs, hcs⟩ := X.ex_toS L
  clear hA0 hval0 hsz0
  refine (X.lawParseShows cs L hcs A0 cap0 W (X.Shp.of_shaped hsh) hC hc hb).mono fun e W' ⟨he, bel0⟩ => ?_
  have bel : Below W.heap.size W W' := bel0
  subst he
  exact ⟨_, rfl, _, _, _, [], _, [], hW', trodAll_mk1 (shut_bool Tryd.underlying4 _), (trodAll_cons_mk (Below.trod laidOut (by kernel_rfl) (of_decide_eq_true (by kernel_rfl)) k0 bel lt0) trodAll_mk0), rfl, bel.frame _, fun h => by cases h⟩
theorem said : Rows.ParseShowsUptoSaid :=
  OpenClaim.holds_of_cond 4 Tryd.f4 rfl rfl rfl rfl rfl rfl rfl ⟨rfl, rfl, rfl, rfl, rfl⟩ rfl rfl rfl rfl rfl (by kernel_rfl) Tryd.func4 (by kernel_rfl)
    (of_decide_eq_true (by kernel_rfl)) (by unfold Func.isWrapper; first | (rw [if_pos (by decide +kernel)]; kernel_rfl) | (rw [if_neg (by decide +kernel)]; exact ⟨rfl, rfl⟩))
    (fun os started H enc _ F => by rw [OpenClaim.pre_eq_preRow]; exact lifted os started H enc F)
theorem plain (f : FuncId) (fn : Func) (hf : Tryd.pinned.checked.prog.funcNamed Rows.parseShowsUptoRow.func = some f) (hfn : Tryd.pinned.checked.prog.funcs[f]? = some fn) :
    false = Tryd.pinned.checked.prog.looks [] ∧ ∀ (j : Nat) t, fn.params[j]? = some t → Tryd.pinned.checked.prog.wantsStandIn t = false := by
  obtain rfl : f = 4 := Option.some.inj ((show Tryd.prog.funcNamed Rows.parseShowsUptoRow.func = some 4 by kernel_rfl).symm.trans hf) |>.symm
  obtain rfl : fn = Tryd.f4 := (Option.some.inj (Tryd.func4.symm.trans hfn)).symm
  refine ⟨by kernel_rfl, fun j t ht => ?_⟩
  rw [Tryd.params4] at ht
  have ht2 := Array.mem_of_getElem? ht
  simp only [List.mem_toArray, List.mem_cons, List.not_mem_nil, or_false] at ht2
  subst ht2
  · exact (show Tryd.prog.wantsStandIn 23 = false by kernel_rfl)
theorem proved : Rows.ParseShowsUptoCardSaid :=
  Claim7.holds_tied_plain_at .later [] _ _ _ _ said (fun _ h => by cases h) (by kernel_rfl) (fun _ h => by cases h) parseShowsUpto_row_tie rfl ⟨rfl, rfl⟩ (by kernel_rfl) rfl plain (by kernel_rfl)
#print axioms proved
end Go.Proofs.YtogbdjboblfokaaDoor.parseShows
namespace Go.Proofs.YtogbdjboblfokaaDoor
/-- The card, under a short name, for the claim. -/
theorem parseShows_holds : Rows.ParseShowsUptoCardSaid := parseShows.proved
end Go.Proofs.YtogbdjboblfokaaDoor
