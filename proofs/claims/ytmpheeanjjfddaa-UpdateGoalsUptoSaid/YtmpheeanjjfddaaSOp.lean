/- The machine's operations: what must hold of values and heap so that a proposition holds behind them. -/
import Derived.Test.YtmpheeanjjfddaaSDef
namespace Go.Proofs.Ytmpheeanjjfddaa.SM
open Go Go.RowKit
set_option linter.unusedVariables false
set_option linter.unusedSimpArgs false

/-- Constants. -/
def ofS : Value → V
  | .bool b => .bool b
  | .int k n => .int k n
  | .string s => .str s.data.toList
  | .pointer none => .nilp
  | .slice none 0 0 => .nilsl
  | .map none => .nilmap
  | .nilFunc => .nilfunc
  | .nilIface => .niliface
  | _ => .any
def ofV : Value → V
  | .agg cs => .agg (cs.toList.map ofS)
  | .tuple cs => .tuple (cs.toList.map ofS)
  | v => ofS v
abbrev Tm := List V
def ev (tm : Tm) : Operand → V
  | .tmp t => tm.getD t .any
  | .const v => ofV v
  | .global _ => .any
  | .func f => .func f [] []
def put (tm : Tm) (d : Option Tmp) (v : V) : Tm :=
  match d with
  | some t => tm.set t v
  | none => tm

/-! the program's types -/
def sizeA (P : Program) (t : TypeId) : Option Nat := (P.info? t).map (·.size)
def zeroA (P : Program) (t : TypeId) : Option V := ((P.info? t).bind (·.zero)).map ofV
def isAggA (P : Program) (t : TypeId) : Option Bool := (P.underlying t).map fun | .struct _ | .array _ _ => true | _ => false
def bytesA (P : Program) (t : TypeId) : Option Nat := (P.info? t).map (·.bytes)

/-! ways -/
def cnd (c : Bool) (A C : Prop) : Prop := match c with
  | true => A
  | false => C
theorem cnd_iff (c : Bool) (A C : Prop) : cnd c A C ↔ ((c = true → A) ∧ (c = false → C)) := by cases c <;> simp [cnd]
def optP {α : Type} (x : Option α) (K : α → Prop) : Prop := match x with
  | some a => K a
  | none => False
theorem optP_some {α : Type} (a : α) (K : α → Prop) : optP (some a) K = K a := rfl
theorem optP_iff {α : Type} (x : Option α) (K : α → Prop) : optP x K ↔ ∃ a, x = some a ∧ K a := by cases x <;> simp [optP]
def boolE (v : V) (K : Bool → Prop) : Prop := match v with
  | .bool b => K b
  | _ => False
def intE (v : V) (K : IntKind → Int → Prop) : Prop := match v with
  | .int k n => K k n
  | _ => False
def strE (v : V) (K : List UInt8 → Prop) : Prop := match v with
  | .str s => K s
  | _ => False
def aggE (v : V) (K : List V → Prop) : Prop := match v with
  | .agg l => K l
  | _ => False
def tupE (v : V) (K : List V → Prop) : Prop := match v with
  | .tuple l => K l
  | _ => False
def ptrE (v : V) (K : Nat → Nat → Prop) : Prop := match v with
  | .ptr n o => K n o
  | _ => False

/-! shapes -/
inductive LK where
  | str | bool | int (k : IntKind) | other
inductive TK where
  | leaf (k : LK) | agg (l : List LK)
def leafK (P : Program) (t : TypeId) : LK :=
  match P.underlying t with
  | some .string => .str
  | some .bool => .bool
  | some (.int k) => .int k
  | _ => .other
/-- The kinds of a struct's cells, where no field is a struct. -/
def aggK (P : Program) : List Field → Nat → Option (List LK)
  | [], _ => some []
  | f :: r, o => if isAggA P f.type = some false ∧ f.offset = o ∧ sizeA P f.type = some 1 then (aggK P r (o + 1)).map (leafK P f.type :: ·) else none
/-- The kinds of a value's cells. -/
def cellK (P : Program) : Nat → TypeId → List LK
  | 0, _ => []
  | d + 1, t => match P.underlying t with
    | some (.struct fs) => fs.toList.flatMap fun f => cellK P d f.type
    | some (.array n e) => (List.replicate n (cellK P d e)).flatten
    | _ => [leafK P t]
def kindA (P : Program) (t : TypeId) : TK :=
  match P.underlying t with
  | some (.struct _) => .agg (cellK P 10 t)
  | some (.array _ _) => .agg (cellK P 10 t)
  | _ => .leaf (leafK P t)
def headE (l : List V) (K : V → List V → Prop) : Prop := match l with
  | c :: r => K c r
  | [] => False
def endE (l : List V) (A : Prop) : Prop := match l with
  | [] => A
  | _ :: _ => False
def intK (k : IntKind) (v : V) (K : Int → Prop) : Prop := match v with
  | .int j n => (match decide (j = k) with
    | true => K n
    | false => False)
  | _ => False
def openL (k : LK) (v : V) (K : V → Prop) : Prop := match k with
  | .str => strE v fun s => K (.str s)
  | .bool => boolE v fun b => K (.bool b)
  | .int k => intK k v fun n => K (.int k n)
  | .other => K v
def openKs : List LK → List V → (List V → Prop) → Prop
  | [], l, K => endE l (K [])
  | k :: ks, l, K => headE l fun c r => openL k c fun v => openKs ks r fun vs => K (v :: vs)
def openT (k : TK) (v : V) (K : V → Prop) : Prop := match k with
  | .leaf k => openL k v K
  | .agg ks => aggE v fun l => openKs ks l fun vs => K (.agg vs)
def openTs : List TK → List V → (List V → Prop) → Prop
  | [], l, K => endE l (K [])
  | k :: ks, l, K => headE l fun c r => openT k c fun v => openTs ks r fun vs => K (v :: vs)
/-- A value of a type, in its shape. -/
def openE (P : Program) (t : TypeId) (v : V) (K : V → Prop) : Prop :=
  match P.underlying t with
  | some (.tuple ts) => tupE v fun l => openTs (ts.toList.map (kindA P)) l fun vs => K (.tuple vs)
  | _ => openT (kindA P t) v K

/-- The same; a stamp stays a stamp. -/
def openX (P : Program) (t : TypeId) (v : V) (K : V → Prop) : Prop :=
  match P.underlying t with
  | some (.int _) => (match v with
    | .stamp n k => K (.stamp n k)
    | v => openE P t v K)
  | _ => openE P t v K

/-! cells -/
def oneV : V → Bool
  | .agg _ | .tuple _ | .any => false
  | _ => true
def oneE (v : V) (A : Prop) : Prop := match v with
  | .agg _ => False
  | .tuple _ => False
  | .any => False
  | _ => A
def onesE : List V → Prop → Prop
  | [], A => A
  | v :: r, A => oneE v (onesE r A)
/-- A value's cells: as many as its type has. -/
def cellsE (agg : Bool) (n : Nat) (v : V) (K : List V → Prop) : Prop :=
  match agg with
  | true => aggE v fun l => (match Nat.beq l.length n with
    | true => K l
    | false => False)
  | false => (match Nat.beq n 1 with
    | true => oneE v (K [v])
    | false => False)
def cellsT (P : Program) (t : TypeId) (v : V) (K : List V → Prop) : Prop :=
  optP (isAggA P t) fun a => optP (sizeA P t) fun n => cellsE a n v K
def partE (ag : Bool) (k : Nat) (cs : List V) (off : Nat) (K : V → Prop) : Prop :=
  match ag with
  | true => (match Nat.ble (off + k) cs.length with
    | true => K (.agg ((cs.drop off).take k))
    | false => False)
  | false => optP cs[off]? K
def partT (P : Program) (t : TypeId) (cs : List V) (off : Nat) (K : V → Prop) : Prop :=
  optP (isAggA P t) fun ag => optP (sizeA P t) fun k => partE ag k cs off K
def putRange (vs : List V) (off : Nat) (new : List V) : List V := vs.take off ++ new ++ vs.drop (off + new.length)
def cellsA : V → List V
  | .agg l => l
  | v => [v]
/-- Parts are laid over cells. -/
def fillE (P : Program) (place : Nat → Option (Nat × TypeId)) : List (Nat × V) → List V → (List V → Prop) → Prop
  | [], cells, K => K cells
  | (i, v) :: rest, cells, K => optP (place i) fun p => cellsT P p.2 v fun cs => match Nat.ble (p.1 + cs.length) cells.length with
    | true => fillE P place rest (putRange cells p.1 cs) K
    | false => False
def rep (z : List V) : Nat → List V
  | 0 => []
  | n + 1 => z ++ rep z n
def buildE (P : Program) (t : TypeId) (parts : List (Nat × V)) (K : V → Prop) : Prop :=
  optP (zeroA P t) fun z => match P.underlying t with
    | some (.struct fs) => (match fs.toList.all fun f => (sizeA P f.type).isSome with
      | true => fillE P (fun i => (fs.toList[i]?).map fun f => (f.offset, f.type)) parts (cellsA z) fun cs => K (.agg cs)
      | false => False)
    | some (.array _ e) => optP (sizeA P e) fun n => fillE P (fun i => some (i * n, e)) parts (cellsA z) fun cs => K (.agg cs)
    | _ => False
/-- A slice's elements out of their cells. -/
def groups (agg : Bool) (sz : Nat) : Nat → List V → List V
  | 0, _ => []
  | n + 1, cs => (match agg with
    | true => V.agg (cs.take sz)
    | false => cs.headD .any) :: groups agg sz n (cs.drop sz)

/-! comparisons -/
def eqK : LK → V → V → Option Bool
  | .bool, .bool a, .bool b => some (a == b)
  | .int _, .int k a, .int j b => if k = j then some (decide (a = b)) else none
  | .str, .str a, .str b => some (decide (a = b))
  | _, _, _ => none
def eqKs : List LK → List V → List V → Option Bool
  | [], [], [] => some true
  | k :: ks, a :: r, b :: s => match eqK k a b, eqKs ks r s with
    | some p, some q => some (p && q)
    | _, _ => none
  | _, _, _ => none
/-- Structs whose cells are compared one by one. -/
def flatT (P : Program) (t : TypeId) : Option (List LK) :=
  match P.underlying t with
  | some (.struct fs) => if (!P.stoodInHeld t && !P.eqGuardType P.depth t && fs.toList.all (fun f => f.name != "_")) = true then aggK P fs.toList 0 else none
  | some (.array 2 e) => if (!P.eqGuardType P.depth t) = true ∧ isAggA P e = some false ∧ sizeA P e = some 1 then some [leafK P e, leafK P e] else none
  | _ => none
inductive NK where
  | nil | some | no
/-- Types that have a nil: 0 pointers, 1 slices, 2 maps, 3 functions, 4 interfaces; 5: others. -/
def nilT (P : Program) (t : TypeId) : Nat :=
  match P.underlying t with
  | some (.pointer _) => 0
  | some (.slice _) => 1
  | some (.map ..) => 2
  | some (.func ..) => 3
  | some (.interface _) => 4
  | _ => 5
/-- Is a value nil? -/
def nilV : Nat → V → NK
  | 0, .nilp => .nil
  | 0, .ptr .. => .some
  | 0, .vptr _ => .some
  | 1, .nilsl => .nil
  | 1, .zsl => .some
  | 1, .osl .. => .some
  | 1, .sl .. => .some
  | 1, .vsl _ (_ :: _) => .some
  | 2, .nilmap => .nil
  | 2, .map _ => .some
  | 3, .nilfunc => .nil
  | 3, .func .. => .some
  | 4, .niliface => .nil
  | 4, .iface .. => .some
  | _, _ => .no
def isNilC : Nat → Operand → Bool
  | 0, .const (.pointer none) => true
  | 1, .const (.slice none 0 0) => true
  | 2, .const (.map none) => true
  | 3, .const .nilFunc => true
  | 4, .const .nilIface => true
  | _, _ => false
def nilE (k : Nat) (v : V) (K : Bool → Prop) : Prop := match nilV k v with
  | .nil => K true
  | .some => K false
  | .no => False
/-- Two pointers. -/
def samePtrE (a b : V) (K : Bool → Prop) : Prop := match a, b with
  | .ptr n o, .ptr m p => n = m ∧ K (Nat.beq o p)
  | _, _ => False
def sameE (P : Program) (t : TypeId) (x y : Operand) (a b : V) (K : Bool → Prop) : Prop :=
  match nilT P t with
  | 5 => optP (flatT P t) fun ks => aggE a fun xs => aggE b fun ys => optP (eqKs ks xs ys) K
  | k => match isNilC k x, isNilC k y with
    | _, true => nilE k a K
    | true, false => nilE k b K
    | false, false => match P.underlying t with
      | some (.pointer e) => (match sizeA P e with | some (_ + 1) => samePtrE a b K | _ => False)
      | _ => False

/-! numbers and texts -/
def intOp (op : BinOp) (k : IntKind) (a b : Int) (K : V → Prop) : Prop :=
  match op with
  | .add => K (.int k (k.wrap (a + b)))
  | .sub => K (.int k (k.wrap (a - b)))
  | .mul => K (.int k (k.wrap (a * b)))
  | .quo => b ≠ 0 ∧ K (.int k (k.wrap (a.tdiv b)))
  | .rem => b ≠ 0 ∧ K (.int k (a.tmod b))
  | .and => K (.int k (k.wrap (BitVec.ofInt k.bits a &&& BitVec.ofInt k.bits b).toNat))
  | .or => K (.int k (k.wrap (BitVec.ofInt k.bits a ||| BitVec.ofInt k.bits b).toNat))
  | .eql => K (.bool (decide (a = b)))
  | .neq => K (.bool (!decide (a = b)))
  | .lss => K (.bool (decide (a < b)))
  | .leq => K (.bool (decide (a ≤ b)))
  | .gtr => K (.bool (decide (b < a)))
  | .geq => K (.bool (decide (b ≤ a)))
  | _ => False
def shiftOp (op : BinOp) (k : IntKind) (a b : Int) (K : V → Prop) : Prop :=
  match op with
  | .shl => 0 ≤ b ∧ K (.int k (k.wrap (a * 2 ^ min b.toNat k.bits)))
  | .shr => 0 ≤ b ∧ K (.int k (a.fdiv (2 ^ min b.toNat k.bits)))
  | _ => False
def strOp (op : BinOp) (a b : List UInt8) (K : V → Prop) : Prop :=
  match op with
  | .add => ((a.length + b.length : Nat) : Int) ≤ 4611686018427387904 ∧ K (.str (a ++ b))
  | .eql => K (.bool (decide (a = b)))
  | .neq => K (.bool (!decide (a = b)))
  | .lss => K (.bool (decide (a < b)))
  | .leq => K (.bool (decide (a ≤ b)))
  | .gtr => K (.bool (decide (b < a)))
  | .geq => K (.bool (decide (b ≤ a)))
  | _ => False
def isShift : BinOp → Bool
  | .shl | .shr => true
  | _ => false
/-- What kind of operands: 0 numbers, 1 texts, 2 truths, 3 others. -/
def sortT (P : Program) (t : TypeId) : Nat :=
  match P.underlying t with
  | some (.int _) => 0
  | some .string => 1
  | some .bool => 2
  | _ => 3
def binE (P : Program) (op : BinOp) (t : TypeId) (x y : Operand) (a b : V) (K : V → Prop) : Prop :=
  match isShift op with
  | true => intE a fun k m => intE b fun _ n => shiftOp op k m n K
  | false => match sortT P t with
    | 0 => intE a fun k m => intE b fun j n => (match decide (k = j) with
      | true => intOp op k m n K
      | false => False)
    | 1 => strE a fun s => strE b fun r => strOp op s r K
    | 2 => boolE a fun p => boolE b fun q => match op with
      | .eql => K (.bool (p == q))
      | .neq => K (.bool (!(p == q)))
      | _ => False
    | _ => match op with
      | .eql => sameE P t x y a b fun r => K (.bool r)
      | .neq => sameE P t x y a b fun r => K (.bool (!r))
      | _ => False
def unE (op : UnOp) (v : V) (K : V → Prop) : Prop :=
  match op with
  | .not => boolE v fun b => K (.bool (!b))
  | .neg => intE v fun k n => K (.int k (k.wrap (0 - n)))
  | _ => False
def convE (P : Program) (src dst : TypeId) (v : V) (K : V → Prop) : Prop :=
  match P.underlying src, P.underlying dst with
  | some (.int _), some (.int k) => intE v fun _ n => K (.int k (k.wrap n))
  | some .string, some .string => strE v fun s => K (.str s)
  | some (.int _), some .string => intE v fun _ n => K (.str (Utf8.encode n).data.toList)
  | _, _ => False

/-! slices -/
def lenE (v : V) (K : Nat → Prop) : Prop := match v with
  | .nilsl | .zsl => K 0
  | .vsl _ l | .osl _ _ l => K l.length
  | .sl _ _ len _ => K len
  | _ => False
/-- An element's cells. -/
def elemE (x : V) (K : List V → Prop) : Prop := match x with
  | .agg l => K l
  | .any => False
  | .tuple _ => False
  | v => K [v]
/-- The address of an element. -/
def idxE (sz : Nat) (v : V) (i : Int) (K : V → Prop) : Prop := match v with
  | .vsl z l | .osl _ z l => z = sz ∧ 0 ≤ i ∧ optP l[i.toNat]? fun x => elemE x fun cs => K (.vptr cs)
  | .sl n o len z => z = sz ∧ 0 ≤ i ∧ i < (len : Int) ∧ K (.ptr n (o + i.toNat * sz))
  | _ => False
def strAt (v : V) (i : Int) (K : V → Prop) : Prop :=
  strE v fun s => 0 ≤ i ∧ optP s[i.toNat]? fun b => K (.int .u8 (b.toNat : Int))
/-- A bound that may lack. -/
def bndE (v : Option V) (d : Nat) (K : Nat → Prop) : Prop := match v with
  | none => K d
  | some v => intE v fun _ n => 0 ≤ n ∧ K n.toNat
def cutS (s : List UInt8) (lo hi : Nat) (K : V → Prop) : Prop := lo ≤ hi ∧ hi ≤ s.length ∧ K (.str ((s.take hi).drop lo))
def cutV (sz : Nat) (v : V) (lo hi : Nat) (K : V → Prop) : Prop := match v with
  | .nilsl => lo = 0 ∧ hi = 0 ∧ K .nilsl
  | .zsl => lo = 0 ∧ hi = 0 ∧ K .zsl
  | .vsl z l | .osl _ z l => z = sz ∧ lo ≤ hi ∧ hi ≤ l.length ∧ K (.vsl sz ((l.take hi).drop lo))
  | .sl n o len z => z = sz ∧ lo ≤ hi ∧ hi ≤ len ∧ (lo < hi ∨ lo = 0) ∧ K (.sl n (o + lo * sz) (hi - lo) sz)
  | _ => False
def cutZ (sz : Nat) (l : List V) (K : V → Prop) : Nat → Nat → Prop
  | 0, 0 => (l ≠ [] ∧ K .zsl) ∨ (l = [] ∧ K .nilsl ∧ K .zsl)
  | hi, _ => K (.vsl sz (l.take hi))
def cutM (sz : Nat) (v : V) (lo hi mx : Nat) (K : V → Prop) : Prop := match v with
  | .nilsl => lo = 0 ∧ hi = 0 ∧ mx = 0 ∧ K .nilsl
  | .zsl => lo = 0 ∧ hi = 0 ∧ mx = 0 ∧ K .zsl
  | .vsl z l | .osl _ z l => z = sz ∧ lo = 0 ∧ hi ≤ mx ∧ mx ≤ l.length ∧ cutZ sz l K hi mx
  | _ => False
def sliceE (P : Program) (t : TypeId) (v : V) (lo hi mx : Option V) (K : V → Prop) : Prop :=
  match P.underlying t, mx with
  | some .string, none => strE v fun s => bndE lo 0 fun l => bndE hi s.length fun h => cutS s l h K
  | some (.slice e), none => optP (sizeA P e) fun sz => lenE v fun n => bndE lo 0 fun l => bndE hi n fun h => cutV sz v l h K
  | some (.slice e), some m => optP (sizeA P e) fun sz => lenE v fun n => bndE lo 0 fun l => bndE hi n fun h => bndE (some m) 0 fun x => cutM sz v l h x K
  | _, _ => False

/-! addresses -/
def nckE (v : V) (K : V → Prop) : Prop := match v with
  | .ptr n o => K (.ptr n o)
  | .vptr c => K (.vptr c)
  | .iface t v => K (.iface t v)
  | .func f a c => K (.func f a c)
  | _ => False
/-- A field's address. -/
def faE (o : Nat) (v : V) (K : V → Prop) : Prop := match v with
  | .ptr n off => K (.ptr n (off + o))
  | .vptr cs => o ≤ cs.length ∧ K (.vptr (cs.drop o))
  | _ => False
/-- A value's dynamic type, asked for. -/
def tasE (t : TypeId) (ok : Bool) (z : V) (v : V) (K : V → Prop) : Prop := match v with
  | .iface u v => (match Nat.beq u t, ok with
    | true, true => K (.tuple [v, .bool true])
    | true, false => K v
    | false, true => K (.tuple [z, .bool false])
    | false, false => False)
  | .niliface => (match ok with
    | true => K (.tuple [z, .bool false])
    | false => False)
  | _ => False
/-! operations that look at no world -/
def pureE (P : Program) (tm : Tm) (o : Oper) (K : V → Prop) : Prop :=
  match o.op with
  | .move x | .assign x => K (ev tm x)
  | .pick c a b => boolE (ev tm c) fun p => cnd p (K (ev tm a)) (K (ev tm b))
  | .build t parts => buildE P t (parts.toList.map fun p => (p.1, ev tm p.2)) K
  | .nilCheck x => nckE (ev tm x) K
  | .makeInterface t x => (match P.underlying t with
    | some (.interface _) => False
    | some _ => K (.iface t (ev tm x))
    | none => False)
  | .makeFunc (.func f) a c => K (.func f (a.toList.map (ev tm)) (c.toList.map (ev tm)))
  | .fieldAddr t x i => (match P.underlying t with
    | some (.struct fs) => optP fs[i]? fun f => (match sizeA P f.type with
      | some (_ + 1) => faE f.offset (ev tm x) K
      | _ => False)
    | _ => False)
  | .field t x i => (match P.underlying t with
    | some (.struct fs) => optP fs[i]? fun f => aggE (ev tm x) fun cs => partT P f.type cs f.offset fun v => openE P o.type v K
    | _ => False)
  | .indexAddr t x i => (match P.underlying t with
    | some (.slice e) => optP (sizeA P e) fun sz => intE (ev tm i) fun _ n => idxE sz (ev tm x) n K
    | _ => False)
  | .index t x i => (match P.underlying t with
    | some .string => intE (ev tm i) fun _ n => strAt (ev tm x) n K
    | some (.array len e) => optP (sizeA P e) fun sz => intE (ev tm i) fun _ n => 0 ≤ n ∧ n < (len : Int) ∧ aggE (ev tm x) fun cs => partT P e cs (n.toNat * sz) fun v => openE P o.type v K
    | _ => False)
  | .slice t x lo hi mx => (match mx, hi with
    | some _, none => False
    | _, _ => sliceE P t (ev tm x) (lo.map (ev tm)) (hi.map (ev tm)) (mx.map (ev tm)) K)
  | .typeAssert x xt t ok => (match P.underlying t with
    | some (.interface _) => False
    | some _ => optP (zeroA P t) fun z => tasE t ok z (ev tm x) fun v => openE P o.type v K
    | none => False)
  | .extract x i => tupE (ev tm x) fun l => optP l[i]? fun v => openX P o.type v K
  | .binOp op t x y _ => binE P op t x y (ev tm x) (ev tm y) K
  | .unOp op _ x => unE op (ev tm x) K
  | .convert s d x => convE P s d (ev tm x) K
  | .call { callee := .builtin .len, args, argTypes } => (match args.toList, (argTypes[0]?).bind (P.underlying ·) with
    | [x], some .string => strE (ev tm x) fun s => K (.int .i64 (s.length : Int))
    | [x], some (.slice _) => lenE (ev tm x) fun n => K (.int .i64 (n : Int))
    | [x], some (.array n _) => K (.int .i64 (n : Int))
    | _, _ => False)
  | .call { callee := .builtin .min, args, argTypes } => (match args.toList with
    | [x, y] => intE (ev tm x) fun k a => intE (ev tm y) fun _ b => K (.int k (if b < a then b else a))
    | _ => False)
  | .call { callee := .builtin .max, args, argTypes } => (match args.toList with
    | [x, y] => intE (ev tm x) fun k a => intE (ev tm y) fun _ b => K (.int k (if a < b then b else a))
    | _ => False)
  | _ => False
/-- Is an operation one of those? -/
def isPure (P : Program) (o : Oper) : Bool :=
  match o.op with
  | .move _ | .assign _ | .pick .. | .build .. | .nilCheck _ | .makeInterface .. | .makeFunc (.func _) _ _ | .fieldAddr .. | .field .. | .indexAddr .. | .index .. | .slice .. | .extract .. | .binOp .. | .unOp .. | .typeAssert .. => true
  | .convert s d _ => (match P.underlying s, P.underlying d with
    | some (.int _), some (.int _) | some .string, some .string | some (.int _), some .string => true
    | _, _ => false)
  | .call { callee := .builtin .len, argTypes, .. } => (match (argTypes[0]?).bind (P.underlying ·) with
    | some .string | some (.slice _) | some (.array ..) => true
    | _ => false)
  | .call { callee := .builtin .min, .. } | .call { callee := .builtin .max, .. } => true
  | _ => false
end Go.Proofs.Ytmpheeanjjfddaa.SM
