/- Calls, the operations on the heap, regions and code: what must hold so that a proposition holds behind them. -/
import Derived.Test.YtmpheeanjjfddaaSOp
namespace Go.Proofs.Ytmpheeanjjfddaa.SM
open Go Go.RowKit
set_option linter.unusedVariables false
set_option linter.unusedSimpArgs false

/-- How a call ends. -/
inductive Rs where
  | ret (v : V)
  | pan (v : V)
  deriving Inhabited
/-- Where all is: the program, and what was there ahead of all. -/
structure Cx where
  P : Program
  base : Nat
  w0 : World
def RsR (E : Env) : Rs → Ending → Prop
  | .ret v, e => ∃ cv, e = .returned cv ∧ VR E v cv
  | .pan v, e => ∃ cv, e = .panicked [{ v := cv, recovered := false }] ∧ VR E v cv
/-- A call, whatever the world is: it ends, and Q is so then. -/
def Ac (X : Cx) (f : FuncId) (args : List V) (H : Hp) (Q : Rs → Hp → Prop) : Prop :=
  ∀ E w (cargs : Array Value), WR E X.base X.w0 H w → VRs E args cargs.toList →
    Calls X.P f cargs w fun e w' => ∃ r J D, Q r J ∧ E.le D ∧ WR D X.base X.w0 J w' ∧ RsR D r e
theorem Ac.mono {X : Cx} {f : FuncId} {args : List V} {H : Hp} {Q R : Rs → Hp → Prop} (h : Ac X f args H Q) (k : ∀ r J, Q r J → R r J) : Ac X f args H R := by
  intro E w cargs hW ha
  refine (h E w cargs hW ha).mono ?_
  rintro e w' ⟨r, J, D, hq, rest⟩
  exact ⟨r, J, D, k r J hq, rest⟩

/-! the heap -/
def ldE (ag : Bool) (k : Nat) (v : V) (H : Hp) (K : V → Prop) : Prop := match v with
  | .ptr n off => (match H n with
    | some (.box vs _) => partE ag k vs off K
    | some (.row vs _) => partE ag k vs off K
    | _ => False)
  | .vptr cs => partE ag k cs 0 K
  | _ => False
def ldT (P : Program) (t : TypeId) (v : V) (H : Hp) (K : V → Prop) : Prop := optP (isAggA P t) fun ag => optP (sizeA P t) fun k => ldE ag k v H K
def stE (v : V) (cs : List V) (H : Hp) (K : Hp → Prop) : Prop := match v with
  | .ptr n off => (match H n with
    | some (.box vs t) => off + cs.length ≤ vs.length ∧ cs.all oneV = true ∧ K (H.set n (.box (putRange vs off cs) t))
    | some (.row vs t) => off + cs.length ≤ vs.length ∧ cs.all oneV = true ∧ K (H.set n (.row (putRange vs off cs) t))
    | _ => False)
  | _ => False
def mapE (v : V) (H : Hp) (K : List (List UInt8 × V) → Prop) : Prop := match v with
  | .nilmap => K []
  | .map n => (match H n with
    | some (.map _ es) => K es
    | _ => False)
  | _ => False
def getK (k : List UInt8) (es : List (List UInt8 × V)) : Option V := (es.find? fun e => e.1 == k).map (·.2)
def insK (k : List UInt8) (v : V) : List (List UInt8 × V) → List (List UInt8 × V)
  | [] => [(k, v)]
  | e :: r => if k < e.1 then (k, v) :: e :: r else e :: insK k v r
def delK (k : List UInt8) (es : List (List UInt8 × V)) : List (List UInt8 × V) := es.filter fun e => !(e.1 == k)
def putK (k : List UInt8) (v : V) (es : List (List UInt8 × V)) : List (List UInt8 × V) := insK k v (delK k es)
/-- What stands under a key; a type's zero, where nothing does. -/
def lkE (m : V) (k : List UInt8) (z : V) (H : Hp) (K : V → Bool → Prop) : Prop :=
  mapE m H fun es => match getK k es with
    | some v => K v true
    | none => K z false
def upE (m : V) (H : Hp) (f : List (List UInt8 × V) → List (List UInt8 × V)) (K : Hp → Prop) : Prop := match m with
  | .map n => (match H n with
    | some (.map st es) => K (H.set n (.map st (f es)))
    | _ => False)
  | _ => False
/-- An entry is taken away: where nobody holds a stamp. -/
def dlE (m : V) (H : Hp) (k : List UInt8) (K : Hp → Prop) : Prop := match m with
  | .map n => (match H n with
    | some (.map false es) => K (H.set n (.map false (delK k es)))
    | _ => False)
  | _ => False
/-- An entry, to be written later. -/
def entE (m : V) (k : List UInt8) (z : V) (H : Hp) (K : V → Nat → Hp → Prop) : Prop := match m with
  | .map n => (match H n with
    | some (.map _ es) => (match getK k es with
      | some v => K v n (H.set n (.map true es))
      | none => K z n (H.set n (.map true (putK k z es))))
    | _ => False)
  | _ => False
/-- It is written. -/
def esE (m s v : V) (H : Hp) (K : Hp → Prop) : Prop := match m, s with
  | .map n, .stamp n' k => n' = n ∧ (match H n with
    | some (.map st es) => K (H.set n (.map st (putK k v es)))
    | _ => False)
  | _, _ => False
def newE (H : Hp) (o : O) (K : Nat → Hp → Prop) : Prop := ∀ n, H n = none → K n (H.set n o)
/-- Elements of a slice that stand for ever. -/
def valsE (sz : Nat) (v : V) (K : List V → Prop) : Prop := match v with
  | .nilsl | .zsl => K []
  | .vsl z l | .osl _ z l => (match Nat.beq z sz with
    | true => K l
    | false => False)
  | _ => False
def bytesV (s : List UInt8) : List V := s.map fun b => .int .u8 (b.toNat : Int)
/-- Elements' cells. -/
def okEl : V → Bool
  | .any => false
  | .tuple _ => false
  | _ => true
def rowCells (l : List V) : List V := l.flatMap cellsA
/-- A new row: of elements that stand for ever, or one that may be written. -/
def newR (sz : Nat) (e : TypeId) (new : List V) (H : Hp) (K : V → Hp → Prop) : Prop :=
  (newE H (.tip (new.length * sz) e) fun n J => K (.osl n sz new) J) ∨
  ((new.all okEl = true ∧ (rowCells new).all oneV = true) ∧ newE H (.row (rowCells new) e) fun n J => K (.sl n 0 new.length sz) J)
/-- An append: to nothing, to a row that may grow, to a row that may be written. -/
def appE (sz : Nat) (e : TypeId) (s : V) (new : List V) (H : Hp) (K : V → Hp → Prop) : Prop :=
  match s with
  | .nilsl => (match new with
    | [] => K .nilsl H
    | _ :: _ => new.length ≤ 4294967296 ∧ newR sz e new H K)
  | .zsl => (match new with
    | [] => K .zsl H
    | _ :: _ => new.length ≤ 4294967296 ∧ newR sz e new H K)
  | .osl n z l => z = sz ∧ (match new with
    | [] => K s H
    | _ :: _ => l.length + new.length ≤ 4294967296 ∧ H n = some (.tip (l.length * sz) e) ∧ newE (H.set n .dead) (.tip ((l.length + new.length) * sz) e) fun m J => K (.osl m sz (l ++ new)) J)
  | .sl n 0 len z => z = sz ∧ (match new with
    | [] => K s H
    | _ :: _ => len + new.length ≤ 4294967296 ∧ new.all okEl = true ∧ (rowCells new).all oneV = true ∧ ∃ vs, H n = some (.row vs e) ∧ len * sz ≤ vs.length ∧ newE (H.set n .dead) (.row (vs.take (len * sz) ++ rowCells new) e) fun m J => K (.sl m 0 (len + new.length) sz) J)
  | _ => False
def hasBody (P : Program) (f : FuncId) : Bool := match P.funcs[f]? with
  | some fn => fn.body.isSome && !(fn.name == "runtime.NumGoroutine")
  | none => false
def thenR (K : V → Hp → Prop) (Xp : V → Hp → Prop) : Rs → Hp → Prop := fun r J => match r with
  | .ret v => K v J
  | .pan v => Xp v J
def callE (X : Cx) (f : FuncId) (args : List V) (H : Hp) (K : V → Hp → Prop) (Xp : V → Hp → Prop) : Prop :=
  match hasBody X.P f with
  | true => Ac X f args H (thenR K Xp)
  | false => False
def funcE (v : V) (K : FuncId → List V → List V → Prop) : Prop := match v with
  | .func f a c => K f a c
  | _ => False
/-- A method of a concrete type, by its name. -/
def methodA (P : Program) (t : TypeId) (name : String) : Option FuncId :=
  match P.info? t with
  | some i => match i.methods.find? (·.name == name) with
    | some m => if m.path.isEmpty then
        match m.func, P.underlying t with
        | some (f, true), some (.pointer _) => some f
        | some (_, false), some (.pointer _) => none
        | some (f, false), some _ => some f
        | _, _ => none
      else none
    | none => none
  | none => none
def invE (P : Program) (v : V) (name : String) (K : FuncId → V → Prop) : Prop := match v with
  | .iface t x => optP (methodA P t name) fun f => K f x
  | _ => False

def heapE (X : Cx) (tm : Tm) (o : Oper) (H : Hp) (K : V → Hp → Prop) (Xp : V → Hp → Prop) : Prop :=
  match o.op with
  | .alloc e => optP (zeroA X.P e) fun z => newE H (.box (cellsA z) e) fun n J => K (.ptr n 0) J
  | .box e x => cellsT X.P e (ev tm x) fun cs => newE H (.box cs e) fun n J => K (.ptr n 0) J
  | .buildSlice t len parts => (match X.P.underlying t with
    | some (.slice e) => optP (sizeA X.P e) fun sz => optP (zeroA X.P e) fun z => optP (isAggA X.P e) fun agg => (match Nat.ble (len * sz) 16777216, Nat.beq (cellsA z).length sz, Nat.blt 0 sz, agg || Nat.beq sz 1 with
      | true, true, true, true => fillE X.P (fun i => some (i * sz, e)) (parts.toList.map fun p => (p.1, ev tm p.2)) (rep (cellsA z) len) fun cs => onesE cs (match len with
        | 0 => K .zsl H
        | _ + 1 => newE H (.tip (len * sz) e) fun n J => K (.osl n sz (groups agg sz len cs)) J)
      | _, _, _, _ => False)
    | _ => False)
  | .load t a => ldT X.P t (ev tm a) H fun v => openE X.P o.type v fun v => K v H
  | .store t a x => cellsT X.P t (ev tm x) fun cs => stE (ev tm a) cs H fun J => K (.tuple []) J
  | .makeMap t r => (match X.P.underlying t with
    | some (.map _ _) => (match r with
      | none => newE H (.map false []) fun n J => K (.map n) J
      | some x => intE (ev tm x) fun _ _ => newE H (.map false []) fun n J => K (.map n) J)
    | _ => False)
  | .lookup t m k ok => (match X.P.underlying t with
    | some (.map kt et) => (match X.P.underlying kt with
      | some .string => strE (ev tm k) fun key => optP (zeroA X.P et) fun z => lkE (ev tm m) key z H fun v b => openE X.P et v fun v => (match ok with
        | true => K (.tuple [v, .bool b]) H
        | false => K v H)
      | _ => False)
    | _ => False)
  | .mapUpdate t m k x | .insert t m k x => (match X.P.underlying t with
    | some (.map kt _) => (match X.P.underlying kt with
      | some .string => strE (ev tm k) fun key => upE (ev tm m) H (putK key (ev tm x)) fun J => K (.tuple []) J
      | _ => False)
    | _ => False)
  | .mapEntry t m k => (match X.P.underlying t with
    | some (.map kt et) => (match X.P.underlying kt with
      | some .string => strE (ev tm k) fun key => optP (zeroA X.P et) fun z => entE (ev tm m) key z H fun v n J => K (.tuple [v, .stamp n key]) J
      | _ => False)
    | _ => False)
  | .entryStore _ m s x => esE (ev tm m) (ev tm s) (ev tm x) H fun J => K (.tuple []) J
  | .call { callee := .builtin .len, args, argTypes } => (match args.toList, (argTypes[0]?).bind (X.P.underlying ·) with
    | [x], some (.map _ _) => mapE (ev tm x) H fun es => K (.int .i64 (es.length : Int)) H
    | _, _ => False)
  | .call { callee := .builtin .delete, args, argTypes } => (match args.toList, (argTypes[0]?).bind (X.P.underlying ·) with
    | [m, k], some (.map kt _) => (match X.P.underlying kt with
      | some .string => strE (ev tm k) fun key => dlE (ev tm m) H key fun J => K (.tuple []) J
      | _ => False)
    | _, _ => False)
  | .call { callee := .builtin .append, args, argTypes } => (match args.toList, (argTypes[0]?).bind (X.P.underlying ·), (argTypes[1]?).bind (X.P.underlying ·) with
    | [a, b], some (.slice e), some (.slice _) => optP (sizeA X.P e) fun sz => optP (bytesA X.P e) fun by_ => optP (zeroA X.P e) fun z => (match Nat.ble by_ 16384, Nat.beq (cellsA z).length sz with
      | true, true => valsE sz (ev tm b) fun new => appE sz e (ev tm a) new H K
      | _, _ => False)
    | [a, b], some (.slice e), some .string => optP (sizeA X.P e) fun sz => optP (bytesA X.P e) fun by_ => optP (zeroA X.P e) fun z => (match Nat.ble by_ 16384, Nat.beq (cellsA z).length sz, Nat.beq sz 1 with
      | true, true, true => strE (ev tm b) fun s => appE sz e (ev tm a) (bytesV s) H K
      | _, _, _ => False)
    | _, _, _ => False)
  | .call { callee := .value f, args, .. } => funcE (ev tm f) fun g a c => callE X g (a ++ args.toList.map (ev tm) ++ c) H (fun v J => openE X.P o.type v fun v => K v J) Xp
  | .call { callee := .invoke r name, args, .. } => invE X.P (ev tm r) name fun g x => callE X g (x :: args.toList.map (ev tm)) H (fun v J => openE X.P o.type v fun v => K v J) Xp
  | .panic x => (match ev tm x with
    | .iface t v => Xp (.iface t v) H
    | _ => False)
  | _ => False
def opE (X : Cx) (tm : Tm) (o : Oper) (H : Hp) (K : V → Hp → Prop) (Xp : V → Hp → Prop) : Prop :=
  match isPure X.P o with
  | true => pureE X.P tm o fun v => K v H
  | false => heapE X tm o H K Xp

/-! regions -/
structure Fr where
  tm : Tm
  H : Hp
  df : List (FuncId × List V)
/-- Is an operation wanted? What is known of that is kept. -/
def guardE (ops : List Oper) (tm : Tm) (o : Oper) (A C : Tm → Prop) : Prop :=
  match o.guard with
  | none => A tm
  | some (j, want) => (match (ops[j]?).bind (·.dst) with
    | none => C tm
    | some t => (match tm.getD t .any with
      | .bool b => cnd (b == want) (A (tm.set t (.bool want))) (C (tm.set t (.bool (!want))))
      | .tuple _ => C tm
      | _ => False))
def stepE (X : Cx) (ops : List Oper) (o : Oper) (f : Fr) (K : Fr → Prop) (Xp : V → Hp → Prop) : Prop :=
  guardE ops f.tm o
    (fun tm => match o.op with
      | .defer { callee := .value g, args, .. } => funcE (ev tm g) fun g a c => (match hasBody X.P g with
        | true => K ⟨put tm o.dst (.tuple []), f.H, (g, a ++ args.toList.map (ev tm) ++ c) :: f.df⟩
        | false => False)
      | _ => opE X tm o f.H (fun v J => K ⟨put tm o.dst v, J, f.df⟩) Xp)
    (fun tm => K ⟨put tm o.dst (.tuple []), f.H, f.df⟩)
def opsE (X : Cx) (ops : List Oper) (Xp : Fr → V → Hp → Prop) : List Oper → Fr → (Fr → Prop) → Prop
  | [], f, K => K f
  | o :: r, f, K => stepE X ops o f (fun g => opsE X ops Xp r g K) (Xp f)
/-- Of a region that draws its order: what looks at no world first, else each that may come up. -/
def pickPure (P : Program) (ops : Array Oper) (listed : Array Bool) : List Nat → Option Nat
  | [] => none
  | i :: r => match ops[i]? with
    | some o => if isPure P o && Region.free .any ops listed i then some i else pickPure P ops listed r
    | none => pickPure P ops listed r
def allE (G : Nat → Prop) : List Nat → Prop
  | [] => True
  | [i] => G i
  | i :: r => G i ∧ allE G r
def anyE (X : Cx) (ops : Array Oper) (Xp : Fr → V → Hp → Prop) : Nat → Array Bool → Fr → (Fr → Prop) → Prop
  | 0, listed, f, K => match Region.ready .any ops listed with
    | [] => K f
    | _ :: _ => False
  | n + 1, listed, f, K => match Region.ready .any ops listed with
    | [] => K f
    | i0 :: r0 => match pickPure X.P ops listed (i0 :: r0) with
      | some i => optP ops[i]? fun o => stepE X ops.toList o f (fun g => anyE X ops Xp n (listed.setIfInBounds i true) g K) (Xp f)
      | none => allE (fun i => optP ops[i]? fun o => stepE X ops.toList o f (fun g => anyE X ops Xp n (listed.setIfInBounds i true) g K) (Xp f)) (i0 :: r0)
/-- Operations that look at the heap and leave it as it is. -/
def isRead (P : Program) (o : Oper) : Bool :=
  match o.op with
  | .load .. | .lookup .. => true
  | .call { callee := .builtin .len, argTypes, .. } => (match (argTypes[0]?).bind (P.underlying ·) with
    | some (.map _ _) => true
    | _ => false)
  | _ => false
/-- What was read, and how it is read again. -/
abbrev Pend := List (Nat × (Hp → Prop))
def stabsE : Pend → Hp → Prop → Prop
  | [], _, A => A
  | p :: r, H, A => p.2 H ∧ stabsE r H A
def afters (ops : Array Oper) (i : Nat) : List Nat := match ops[i]? with
  | some o => (o.after.toList.filter (Region.binds .any)).map (·.on)
  | none => []
def memB (i : Nat) (l : List Nat) : Bool := l.any (Nat.beq i)
def reachGo (ops : Array Oper) : Nat → List Nat → List Nat
  | 0, m => m
  | j + 1, m => match memB j m with
    | true => reachGo ops j (afters ops j ++ m)
    | false => reachGo ops j m
/-- All that an operation waits for. -/
def reach (ops : Array Oper) (i : Nat) : List Nat := reachGo ops i (afters ops i)
def dropP (m : List Nat) : Pend → Pend
  | [] => []
  | p :: r => match memB p.1 m with
    | true => dropP m r
    | false => p :: dropP m r
/-- Who writes a temporary. -/
def writers (t : Tmp) : Nat → List Oper → List Nat
  | _, [] => []
  | i, o :: r => match o.dst with
    | some d => (match Nat.beq d t with
      | true => i :: writers t (i + 1) r
      | false => writers t (i + 1) r)
    | none => writers t (i + 1) r
/-- Edges go down; a temporary is written once, ahead of who looks at it. -/
def neat (ops : Array Oper) : Bool :=
  (List.range ops.size).all fun i => match ops[i]? with
    | none => false
    | some o => (afters ops i).all (fun k => Nat.blt k i) && (o.looksAt ops).all (fun t => (writers t 0 ops.toList).all fun j => memB j (reach ops i)) && (match o.dst with
      | none => true
      | some d => (writers d 0 ops.toList).all (Nat.beq i))
/-- Its value hangs on nothing but the values that it looks at. -/
def isFixed (o : Oper) : Bool := match o.op with
  | .slice _ _ _ _ (some _) => false
  | _ => true
def pickEager (P : Program) (ops : Array Oper) : List Nat → Option Nat
  | [] => none
  | i :: r => match ops[i]? with
    | some o => (match (isPure P o && isFixed o) || isRead P o with
      | true => some i
      | false => pickEager P ops r)
    | none => pickEager P ops r
/-- A value that waits for nobody; and how it is read again. -/
def eagE (X : Cx) (tm : Tm) (o : Oper) (H : Hp) (i : Nat) (pend : Pend) (K : V → Pend → Prop) : Prop :=
  match isPure X.P o with
  | true => pureE X.P tm o fun v => K v pend
  | false => heapE X tm o H (fun v _ => K v ((i, fun J => heapE X tm o J (fun u _ => u = v) fun _ _ => False) :: pend)) fun _ _ => False
/-- Of a region that draws its order, and whose operations are neat: what was read is read first, and must stay. -/
def anyE2 (X : Cx) (ops : Array Oper) (Xp : Fr → V → Hp → Prop) : Nat → Array Bool → Pend → Fr → (Fr → Prop) → Prop
  | 0, listed, pend, f, K => match Region.ready .any ops listed with
    | [] => K f
    | _ :: _ => False
  | n + 1, listed, pend, f, K => match Region.ready .any ops listed with
    | [] => K f
    | i0 :: r0 => match pickEager X.P ops (i0 :: r0) with
      | some i => optP ops[i]? fun o => guardE ops.toList f.tm o
          (fun tm => eagE X tm o f.H i pend fun v pend => anyE2 X ops Xp n (listed.setIfInBounds i true) pend ⟨put tm o.dst v, f.H, f.df⟩ K)
          (fun tm => anyE2 X ops Xp n (listed.setIfInBounds i true) pend ⟨put tm o.dst (.tuple []), f.H, f.df⟩ K)
      | none => allE (fun i => optP ops[i]? fun o => stepE X ops.toList o f (fun g => stabsE (dropP (reach ops i) pend) g.H (anyE2 X ops Xp n (listed.setIfInBounds i true) (dropP (reach ops i) pend) g K)) (Xp f)) (i0 :: r0)

/-! code -/
inductive Ex where
  | normal
  | exit (id : Nat)
  | ret
  | pan (v : V)
def DR (E : Env) : List (FuncId × List V) → List Deferred → Prop
  | [], l => l = []
  | (f, vs) :: r, l => ∃ d m cap, l = d :: m ∧ d.target = .fn (.func f) cap ∧ VRs E vs (d.args ++ cap).toList ∧ DR E r m
def Rel (X : Cx) (E : Env) (f : Fr) (a : Act) (w : World) : Prop := VRs E f.tm a.tmps.toList ∧ DR E f.df a.defers ∧ WR E X.base X.w0 f.H w
def ExR (E : Env) : Ex → Exit → Prop
  | .normal, e => e = .normal
  | .exit id, e => e = .exit id
  | .ret, e => e = .ret
  | .pan v, e => ∃ cv, e = .panic [{ v := cv, recovered := false }] ∧ VR E v cv
abbrev Pp := Ex → Fr → Prop
def Pst (X : Cx) (E : Env) (Q : Pp) : Exit → Act → World → Prop := fun e a w => ∃ x g D, Q x g ∧ E.le D ∧ Rel X D g a w ∧ ExR D x e
/-- Code, whatever the world is. -/
def Aw (X : Cx) (c : Code) (f : Fr) (Q : Pp) : Prop := ∀ E a w, Rel X E f a w → c.wp X.P (Pst X E Q) a w
def anys (f : Fr) (H : Hp) : Fr := ⟨List.replicate f.tm.length .any, H, f.df⟩
/-- A loop's head, whatever the world is. -/
def Al (X : Cx) (c : Code) (f : Fr) (Q : Pp) : Prop := ∀ E a w, Rel X E f a w → ∀ (b : Frame) (k : List Item) (cs : List Frame), ∃ e a' w', Pst X E Q e a' w' ∧ Arrives X.P (lone (b.at a (.code c :: .inLoop c :: k)) cs w) b k cs e a' w'
/-- Behind a panic: of the temporaries nothing is told. -/
def panQ (Q : Pp) : Fr → V → Hp → Prop := fun f v J => Q (.pan v) (anys f J)
/-- A frame in which only some temporaries are known. -/
def keepT : List Nat → Nat → Tm → Tm
  | _, _, [] => []
  | ks, i, v :: r => (match ks.contains i with
    | true => v
    | false => .any) :: keepT ks (i + 1) r
def firstR : Code → Option Nat
  | .region id _ _ => some id
  | .seq a b => match firstR a with
    | some i => some i
    | none => firstR b
  | .cond _ a b => match firstR a with
    | some i => some i
    | none => firstR b
  | .block _ b | .loop b => firstR b
  | _ => none
abbrev Plan := Nat → Option (List Nat)
def planOf : List (Nat × List Nat) → Plan
  | [], _ => none
  | (i, l) :: r, n => if Nat.beq i n then some l else planOf r n
/-- Behind code: what comes then; cut, where the plan says so. -/
def cutE (X : Cx) (pl : Plan) (wp : Fr → Pp → Prop) (b : Code) (g : Fr) (Q : Pp) : Prop :=
  match (firstR b).bind pl with
  | none => wp g Q
  | some ks => Aw X b ⟨keepT ks 0 g.tm, g.H, g.df⟩ Q
def kSeq (k : Fr → Prop) (Q : Pp) : Pp := fun x g => match x with
  | .normal => k g
  | x => Q x g
def kBlock (id : Nat) (Q : Pp) : Pp := fun x g => match x with
  | .exit i => (match Nat.beq i id with
    | true => Q .normal g
    | false => Q (.exit i) g)
  | x => Q x g
/-- Behind a round: the loop again. -/
def kLoop (X : Cx) (ks : List Nat) (b : Code) (Q : Pp) : Pp := kSeq (fun g => Al X b ⟨keepT ks 0 g.tm, g.H, g.df⟩ Q) Q
/-- What comes behind the first of two. -/
def kS (X : Cx) (pl : Plan) (wp : Fr → Pp → Prop) (b : Code) (Q : Pp) : Pp := kSeq (fun g => cutE X pl wp b g Q) Q
def setB (f : Fr) (c : Operand) (b : Bool) : Fr := match c with
  | .tmp t => ⟨f.tm.set t (.bool b), f.H, f.df⟩
  | _ => f
def wpE (X : Cx) (pl pL : Plan) : Code → Fr → Pp → Prop
  | .skip => fun f Q => Q .normal f
  | .region _ ops false => fun f Q => opsE X ops.toList (panQ Q) ops.toList f fun g => Q .normal g
  | .region _ ops true => fun f Q => (match Region.noSelect ops with
    | true => (match neat ops with
      | true => anyE2 X ops (panQ Q) ops.size (Array.replicate ops.size false) [] f fun g => Q .normal g
      | false => anyE X ops (panQ Q) ops.size (Array.replicate ops.size false) f fun g => Q .normal g)
    | false => False)
  | .seq a b => fun f Q => wpE X pl pL a f (kS X pl (wpE X pl pL b) b Q)
  | .cond c a b => fun f Q => boolE (ev f.tm c) fun p => cnd p (wpE X pl pL a (setB f c true) Q) (wpE X pl pL b (setB f c false) Q)
  | .block id b => fun f Q => wpE X pl pL b f (kBlock id Q)
  | .loop b => fun f Q => optP ((firstR b).bind pL) fun ks => Al X b ⟨keepT ks 0 f.tm, f.H, f.df⟩ Q
  | .exit id => fun f Q => Q (.exit id) f
  | .ret => fun f Q => Q .ret f
  | _ => fun _ _ => False

/-- A part of code, and what comes behind it. -/
def cAt : Code → List Nat → Code
  | .seq a b, i :: p => (match i with
    | 0 => cAt a p
    | _ => cAt b p)
  | .cond _ a b, i :: p => (match i with
    | 0 => cAt a p
    | _ => cAt b p)
  | .block _ b, _ :: p => cAt b p
  | .loop b, _ :: p => cAt b p
  | c, _ => c
def kAt (X : Cx) (pl pL : Plan) : Code → List Nat → Pp → Pp
  | .seq a b, i :: p, Q => (match i with
    | 0 => kAt X pl pL a p (kS X pl (wpE X pl pL b) b Q)
    | _ => kAt X pl pL b p Q)
  | .cond _ a b, i :: p, Q => (match i with
    | 0 => kAt X pl pL a p Q
    | _ => kAt X pl pL b p Q)
  | .block id b, _ :: p, Q => kAt X pl pL b p (kBlock id Q)
  | .loop b, _ :: p, Q => kAt X pl pL b p (kLoop X (((firstR b).bind pL).getD []) b Q)
  | _, _, Q => Q

/-! calls -/
def resE (P : Program) (tm : Tm) (H : Hp) : List ResultVar → (List V → Prop) → Prop
  | [], K => K []
  | .tmp t :: r, K => resE P tm H r fun l => K (tm.getD t .any :: l)
  | .cell a t :: r, K => ldT P t (tm.getD a .any) H fun v => openE P t v fun v => resE P tm H r fun l => K (v :: l)
def retV : List V → V
  | [v] => v
  | l => .tuple l
/-- The end of a function that defers nothing. -/
def kFin (P : Program) (rs : List ResultVar) (Q : Rs → Hp → Prop) : Pp := fun x g => match g.df with
  | _ :: _ => False
  | [] => (match x with
    | .normal => resE P g.tm g.H rs fun l => Q (.ret (retV l)) g.H
    | .ret => resE P g.tm g.H rs fun l => Q (.ret (retV l)) g.H
    | .pan v => Q (.pan v) g.H
    | .exit _ => False)
end Go.Proofs.Ytmpheeanjjfddaa.SM
