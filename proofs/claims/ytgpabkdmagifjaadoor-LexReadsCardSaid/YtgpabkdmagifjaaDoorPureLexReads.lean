/- The statement of LexReads, over the printed functions; plain Lean; condition: the text's own bound. -/
import Derived.Test.YtgpabkdmagifjaaDoorPLexJ
namespace Go.Proofs.YtgpabkdmagifjaaDoor.X
open Go.RowKit Go.Proofs.YtgpabkdmagifjaaDoorW.PrintWords Go.Proofs.YtgpabkdmagifjaaDoorW.PrintLast Go.Proofs.YtgpabkdmagifjaaDoorW.PrintMore Go.Proofs.YtgpabkdmagifjaaDoor.XW05
set_option linter.unusedSimpArgs false
set_option linter.unusedVariables false
set_option maxRecDepth 100000

set_option maxRecDepth 100000 in
theorem lives05 : flatironlaw05_lives.f 100 = some true := by kernel_rfl
theorem lives05_ev : Ev (fun k => flatironlaw05_lives.f k) true := ⟨100, fun k hk => at_rounds flatironlaw05_lives.mono hk lives05⟩
end Go.Proofs.YtgpabkdmagifjaaDoor.X
namespace Go.Proofs.YtgpabkdmagifjaaDoor.X
open Go.RowKit Go.Proofs.YtgpabkdmagifjaaDoorW.PrintWords Go.Proofs.YtgpabkdmagifjaaDoorW.PrintLast Go.Proofs.YtgpabkdmagifjaaDoorW.PrintMore Go.Proofs.YtgpabkdmagifjaaDoor.XW05
theorem lexReads_pure (a0 : ByteArray) (w0 : a0.size ≤ 140737488351232) : ∃ k, flatironlaw05_LexReads.f k a0 = some true := by
  refine Ev.get ?_
  obtain ⟨l, rfl, hl⟩ := ex_B a0
  rw [B_size] at w0
  refine Ev.congr (fun k => by rw [flatironlaw05_LexReads.f]) ?_
  refine Ev.bind lives05_ev ?_
  refine Ev.pos rfl ?_
  refine Ev.step (fun k => by rw [flatironlaw05_LexReads.j0]) ?_
  refine Ev.iff (show (decide (((B l).size : Int) > 1000) = true) = (1000 < l.length) by rw [B_size, decide_eq_true_eq]; exact propext (by omega)) ?_ ?_
  · intro _
    refine Ev.bind lives05_ev ?_
    exact Ev.ret _
  · intro hn
    have hn' : l.length ≤ 1000 := by omega
    refine Ev.bind (Tokens_ev l (by omega)) ?_
    refine Ev.bind (refTokens_ev l (by omega)) ?_
    cases ht : tokS [] l with
    | none =>
      refine Ev.neg (by simp [resF]) ?_
      refine Ev.pos (by simp [resT]) ?_
      refine Ev.eq (Ev.ret _) ?_
      simp [resT]
    | some res =>
      have hok := tokS_ok _ l [] res (Nat.le_refl _) (by simp) ht
      obtain ⟨hlen, hsz⟩ := tokS_len 1000 _ l [] res (Nat.le_refl _) hn' (by simp) ht
      simp only [List.length_nil, Nat.zero_add] at hlen
      have hj : (joinU (res.map show1)).length ≤ 1000 * (4002 + 1) := by
        have h1 := joinU_len 4002 (res.map show1) (by
          intro x hx
          obtain ⟨y, hy, rfl⟩ := List.mem_map.1 hx
          have := show1_len y
          have := hsz y hy
          omega)
        rw [List.length_map] at h1
        exact Nat.le_trans h1 (Nat.mul_le_mul_right _ (Nat.le_trans hlen hn'))
      refine Ev.pos (by simp [resF]) ?_
      refine Ev.bind (Show_ev res (by omega) hok (fun x hx => by have := hsz x hx; omega) (by omega)) ?_
      have hback : tokS [] (joinU (res.map show1)) = some res := by rw [tokS_show res hok []]; simp
      have ht2 := Tokens_ev (joinU (res.map show1)) (by omega)
      rw [hback] at ht2
      refine Ev.bind ht2 ?_
      refine Ev.pos (by simp [resT]) ?_
      refine Ev.bind (of_ev res (by omega)) ?_
      refine Ev.bind (same_ev (res.map s78) (by rw [List.length_map]; omega)) ?_
      refine Ev.pos rfl ?_
      refine Ev.pos (by simp [resT]) ?_
      refine Ev.bind (of_ev res (by omega)) ?_
      refine Ev.bind (same_ev (res.map s78) (by rw [List.length_map]; omega)) ?_
      exact Ev.ret _
end Go.Proofs.YtgpabkdmagifjaaDoor.X
namespace Go.Proofs.YtgpabkdmagifjaaDoor.Pure
open Go.Proofs.YtgpabkdmagifjaaDoor.XW05
theorem LexReads (a0 : ByteArray) (w0 : a0.size ≤ 140737488351232) : ∃ k, flatironlaw05_LexReads.f k a0 = some true := X.lexReads_pure a0 w0
end Go.Proofs.YtgpabkdmagifjaaDoor.Pure
