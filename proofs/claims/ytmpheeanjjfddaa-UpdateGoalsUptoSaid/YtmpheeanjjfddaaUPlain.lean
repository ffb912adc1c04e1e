/- What is made, and in which order: the plain machine. -/
import Derived.Test.YtmpheeanjjfddaaSLib
namespace Go.Proofs.Ytmpheeanjjfddaa.Upd
set_option linter.unusedVariables false
set_option linter.unusedSimpArgs false
abbrev Bs := List UInt8
structure It where
  path : Bs
  needs : List Bs
  order : List Bs
  rule : Bool
  recipe : Bool
  phony : Bool
  time : Nat
  fails : Bool
  writes : Bool
structure St where
  l : List It
  now : Nat
  made : List Bs
  dropped : List (Bs × Bs)
  done : List Bs
  begun : List Bs
  stale : List Bs
def none_ (p : Bs) : It := ⟨p, [], [], false, false, false, 0, false, false⟩
def get (l : List It) (p : Bs) : It := (l.find? fun x => decide (x.path = p)).getD (none_ p)
/-- The first item of a path is changed. -/
def setT (p : Bs) (t : Nat) : List It → List It
  | [] => []
  | x :: r => if x.path = p then { x with time := t } :: r else x :: setT p t r
/-- An item is made; none: it fails. -/
def make (s : St) (p : Bs) : Option St :=
  match s.l.find? fun x => decide (x.path = p) with
  | none => none
  | some x => if x.fails then none else if x.writes then some { s with now := s.now + 1, l := setT p (s.now + 1) s.l } else some s
/-- Behind the needs: is it stale, is it made? -/
def close (s : St) (p : Bs) (count : List Bs) : St × Nat × Bs :=
  let x := get s.l p
  let stale := (x.phony || decide (x.time = 0) || count.any fun q => decide (q ∈ s.stale) || decide (x.time < (get s.l q).time)) && x.rule
  let fin (s : St) : St := { s with stale := if stale then s.stale ++ [p] else s.stale, done := s.done ++ [p], begun := s.begun.dropLast }
  if stale && x.recipe then
    match make s p with
    | none => (s, 9, p)
    | some s => (fin { s with made := s.made ++ [p] }, 0, [])
  else (fin s, 0, [])
mutual
def upd : Nat → St → Bs → Option (St × Nat × Bs)
  | 0, _, _ => none
  | n + 1, s, p =>
    if p ∈ s.done then some (s, 0, []) else
    let x := get s.l p
    let s := { s with begun := s.begun ++ [p] }
    if x.rule = false ∧ x.time = 0 then some (s, 8, p) else
    match needs n s p (x.needs.map (·, true) ++ x.order.map (·, false)) [] with
    | none => none
    | some (s, k, at_, count) => if k ≠ 0 then some (s, k, at_) else some (close s p count)
def needs : Nat → St → Bs → List (Bs × Bool) → List Bs → Option (St × Nat × Bs × List Bs)
  | _, s, _, [], count => some (s, 0, [], count)
  | n, s, p, (q, c) :: r, count =>
    if q ∈ s.begun then needs n { s with dropped := s.dropped ++ [(p, q)] } p r count else
    match upd n s q with
    | none => none
    | some (s, k, at_) => if k ≠ 0 then some (s, k, at_, count) else needs n s p r (if c then count ++ [q] else count)
end
def goals (n : Nat) : St → List Bs → Option (St × Nat × Bs)
  | s, [] => some (s, 0, [])
  | s, p :: r => match upd n s p with
    | none => none
    | some (s, k, at_) => if k ≠ 0 then some (s, k, at_) else goals n s r
end Go.Proofs.Ytmpheeanjjfddaa.Upd
