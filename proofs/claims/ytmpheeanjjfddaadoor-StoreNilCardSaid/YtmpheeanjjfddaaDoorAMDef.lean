/- A small machine of our own for closed runs: values with names for blocks, a heap of named objects, an evaluator over the program's own code. (That it answers as the model does is proved in the texts behind it.) -/
import Derived.Calls
import Derived.Orders
namespace Go.Proofs.YtmpheeanjjfddaaDoor.AM
open Go
set_option linter.unusedVariables false

/-- Numbers that hang on the lengths of texts that are not known. -/
inductive SE where
  | len (i : Nat)
  | num (n : Int)
  | add (a b : SE)
  deriving Inhabited
inductive AV where
  | bool (b : Bool)
  | int (k : IntKind) (n : Int)
  | sint (e : SE)
  | str (s : List Nat)
  | sym (i : Nat)
  | nilp
  | ptr (n off : Nat)
  | glob (g : Nat)
  | nilsl
  | esl
  | sl (n off len sz : Nat)
  | nilmap
  | map (n : Nat)
  | func (fn : Fn) (first captured : List AV)
  | nilfunc
  | iface (t : Nat) (v : AV)
  | niliface
  | agg (l : List AV)
  | tuple (l : List AV)
  deriving Inhabited

/-- Are two lists of numbers one? -/
def natsEq : List Nat → List Nat → Bool
  | [], [] => true
  | a :: r, b :: s => Nat.beq a b && natsEq r s
  | _, _ => false
def intEq : Int → Int → Bool
  | .ofNat a, .ofNat b => Nat.beq a b
  | .negSucc a, .negSucc b => Nat.beq a b
  | _, _ => false
def SE.beq : SE → SE → Bool
  | .len a, .len b => Nat.beq a b
  | .num a, .num b => intEq a b
  | .add a b, .add c d => SE.beq a c && SE.beq b d
  | _, _ => false
mutual
def AV.beq : AV → AV → Bool
  | .bool a, .bool b => a == b
  | .int k a, .int j b => decide (k = j) && intEq a b
  | .sint a, .sint b => SE.beq a b
  | .str a, .str b => natsEq a b
  | .sym a, .sym b => Nat.beq a b
  | .nilp, .nilp | .nilsl, .nilsl | .esl, .esl | .nilmap, .nilmap | .nilfunc, .nilfunc | .niliface, .niliface => true
  | .ptr a b, .ptr c d => Nat.beq a c && Nat.beq b d
  | .glob a, .glob b => Nat.beq a b
  | .sl a b c d, .sl a' b' c' d' => Nat.beq a a' && Nat.beq b b' && Nat.beq c c' && Nat.beq d d'
  | .map a, .map b => Nat.beq a b
  | .func f a c, .func g b d => decide (f = g) && AV.beqs a b && AV.beqs c d
  | .iface t v, .iface u x => Nat.beq t u && AV.beq v x
  | .agg a, .agg b | .tuple a, .tuple b => AV.beqs a b
  | _, _ => false
def AV.beqs : List AV → List AV → Bool
  | [], [] => true
  | a :: r, b :: s => AV.beq a b && AV.beqs r s
  | _, _ => false
end

/-- Objects. A row is what a slice leads to: its block may have more places behind, of which nothing is said. -/
inductive AO where
  | box (vs : List AV) (t : Nat)
  | row (vs : List AV) (t lin : Nat)
  | map (es : List (AV × AV × Nat)) (clock : Nat)
  | siter (s : List Nat) (pos : Nat)
  | dead
  deriving Inhabited
def esEq : List (AV × AV × Nat) → List (AV × AV × Nat) → Bool
  | [], [] => true
  | (a, b, c) :: r, (a', b', c') :: s => AV.beq a a' && AV.beq b b' && Nat.beq c c' && esEq r s
  | _, _ => false
def AO.beq : AO → AO → Bool
  | .box a t, .box b u => AV.beqs a b && Nat.beq t u
  | .row a t l, .row b u m => AV.beqs a b && Nat.beq t u && Nat.beq l m
  | .map a c, .map b d => esEq a b && Nat.beq c d
  | .siter a p, .siter b q => natsEq a b && Nat.beq p q
  | .dead, .dead => true
  | _, _ => false
abbrev Hp := List (Nat × AO)
def Hp.beq : Hp → Hp → Bool
  | [], [] => true
  | (n, o) :: r, (m, p) :: s => Nat.beq n m && AO.beq o p && Hp.beq r s
  | _, _ => false
def hget : Hp → Nat → Option AO
  | [], _ => none
  | (k, x) :: r, n => if Nat.beq k n then some x else hget r n
def hset : Hp → Nat → AO → Hp
  | [], n, o => [(n, o)]
  | (k, x) :: r, n, o => if Nat.beq k n then (n, o) :: r else if Nat.blt k n then (n, o) :: (k, x) :: r else (k, x) :: hset r n o
/-- Every object is turned. -/
def hmap (f : Nat → AO → AO) : Hp → Hp
  | [] => []
  | (k, x) :: r => (k, f k x) :: hmap f r

structure St where
  H : Hp
  nx : Nat
  deriving Inhabited
def St.alloc (s : St) (o : AO) : Option (Nat × St) :=
  match hget s.H s.nx with
  | none => some (s.nx, ⟨hset s.H s.nx o, s.nx + 1⟩)
  | some _ => none

/-- Values without addresses, there and back. -/
def ofS : Value → Option AV
  | .bool b => some (.bool b)
  | .int k n => some (.int k n)
  | .string s => some (.str (s.data.toList.map UInt8.toNat))
  | .pointer none => some .nilp
  | .slice none 0 0 => some .nilsl
  | .map none => some .nilmap
  | .nilFunc => some .nilfunc
  | .nilIface => some .niliface
  | _ => none
def ofSs : List Value → Option (List AV)
  | [] => some []
  | v :: r => match ofS v, ofSs r with
    | some a, some l => some (a :: l)
    | _, _ => none
def ofV : Value → Option AV
  | .agg cs => (ofSs cs.toList).map .agg
  | .tuple vs => (ofSs vs.toList).map .tuple
  | v => ofS v
def toS : AV → Option Value
  | .bool b => some (.bool b)
  | .int k n => some (.int k n)
  | .str s => some (.string ⟨(s.map UInt8.ofNat).toArray⟩)
  | .nilp => some (.pointer none)
  | .nilsl => some (.slice none 0 0)
  | .nilmap => some (.map none)
  | .nilfunc => some .nilFunc
  | .niliface => some .nilIface
  | _ => none
def toSs : List AV → Option (List Value)
  | [] => some []
  | v :: r => match toS v, toSs r with
    | some a, some l => some (a :: l)
    | _, _ => none
def toV : AV → Option Value
  | .agg cs => (toSs cs).map fun l => .agg l.toArray
  | .tuple vs => (toSs vs).map fun l => .tuple l.toArray
  | v => toS v

/-- A computation that looks at no world. -/
def pr (P : Program) {α : Type} : Sem α → Option α
  | .pure a => some a
  | .program k => pr P (k P)
  | _ => none

abbrev Tm := List AV
def ev (tm : Tm) : Operand → Option AV
  | .tmp t => some (tm.getD t (.tuple []))
  | .const v => ofV v
  | .global g => some (.glob g)
  | .func f => some (.func (.func f) [] [])
def evs (tm : Tm) : List Operand → Option (List AV)
  | [] => some []
  | x :: r => match ev tm x, evs tm r with
    | some a, some l => some (a :: l)
    | _, _ => none
def put (tm : Tm) (d : Option Tmp) (v : AV) : Tm :=
  match d with
  | some t => tm.set t v
  | none => tm
def ground (tm : Tm) (x : Operand) : Value := ((ev tm x).bind toV).getD undef
def allGround (tm : Tm) : List Operand → Bool
  | [] => true
  | x :: r => ((ev tm x).bind toV).isSome && allGround tm r

def sizeA (P : Program) (t : TypeId) : Option Nat := (P.info? t).map (·.size)
def zeroA (P : Program) (t : TypeId) : Option AV := ((P.info? t).bind (·.zero)).bind ofV
def isAggA (P : Program) (t : TypeId) : Option Bool := (P.underlying t).map fun | .struct _ | .array _ _ => true | _ => false
def cellsA : AV → List AV
  | .agg l => l
  | v => [v]
def one : AV → Bool
  | .agg _ | .tuple _ => false
  | _ => true

/-- What an operation comes to. -/
inductive R where
  | val (v : AV) (s : St)
  | call (f : FuncId) (args : List AV) (s : St)

def cellsOf (s : St) (n : Nat) : Option (List AV) :=
  match hget s.H n with
  | some (.box vs _) => some vs
  | some (.row vs _ _) => some vs
  | _ => none
def partA (P : Program) (t : TypeId) (l : List AV) (off : Nat) : Option AV :=
  match isAggA P t with
  | some true => match sizeA P t with
    | some k => if off + k ≤ l.length then some (.agg ((l.drop off).take k)) else none
    | none => none
  | some false => l[off]?
  | none => none
def loadA (P : Program) (t : TypeId) (n off : Nat) (s : St) : Option AV :=
  match cellsOf s n with
  | some vs => partA P t vs off
  | none => none
def putRange (vs : List AV) (off : Nat) (new : List AV) : List AV := vs.take off ++ new ++ vs.drop (off + new.length)
/-- Rows of a lineage that reach beyond a place are dead, but one. -/
def kill (lin len but : Nat) (k : Nat) : AO → AO
  | .row vs t l => if Nat.beq l lin && Nat.blt len vs.length && !Nat.beq k but then .dead else .row vs t l
  | o => o
/-- Cells are written. -/
def putA (n off : Nat) (c : List AV) (s : St) : Option St :=
  if c.all one then
    match hget s.H n with
    | some (.box vs ty) => if off + c.length ≤ vs.length then some { s with H := hset s.H n (.box (putRange vs off c) ty) } else none
    | some (.row vs ty lin) => if off + c.length ≤ vs.length then some { s with H := hset (hmap (kill lin off n) s.H) n (.row (putRange vs off c) ty lin) } else none
    | _ => none
  else none
def storeA (P : Program) (t : TypeId) (n off : Nat) (v : AV) (s : St) : Option St :=
  match sizeA P t with
  | some k => if Nat.beq (cellsA v).length k then putA n off (cellsA v) s else none
  | none => none

def rep (z : List AV) : Nat → List AV
  | 0 => []
  | n + 1 => z ++ rep z n
/-- Parts are laid into cells. -/
def fillA (place : Nat → Option (Nat × Nat)) (cells : List AV) : List (Nat × AV) → Option (List AV)
  | [] => some cells
  | (i, v) :: rest =>
    match place i with
    | none => none
    | some (off, size) =>
      if !Nat.beq (cellsA v).length size || Nat.blt cells.length (off + (cellsA v).length) then none
      else fillA place (putRange cells off (cellsA v)) rest
def evParts (tm : Tm) : List (Nat × Operand) → Option (List (Nat × AV))
  | [] => some []
  | (i, x) :: r => match ev tm x, evParts tm r with
    | some a, some l => some ((i, a) :: l)
    | _, _ => none
def sizesA (P : Program) : List Field → Option (List (Nat × Nat))
  | [] => some []
  | f :: r => match sizeA P f.type, sizesA P r with
    | some n, some l => some ((f.offset, n) :: l)
    | _, _ => none
def buildA (P : Program) (t : TypeId) (parts : List (Nat × AV)) : Option AV :=
  match zeroA P t with
  | none => none
  | some z => match P.underlying t with
  | some (.struct fields) => match sizesA P fields.toList with
    | some l => (fillA (fun i => l[i]?) (cellsA z) parts).map .agg
    | none => none
  | some (.array _ e) => match sizeA P e with
    | some n => (fillA (fun i => some (i * n, n)) (cellsA z) parts).map .agg
    | none => none
  | _ => none
def buildSliceA (P : Program) (t : TypeId) (len : Nat) (parts : List (Nat × AV)) (s : St) : Option (AV × St) :=
  match P.underlying t with
  | some (.slice e) => match sizeA P e, zeroA P e with
    | some n, some z =>
      if len * n ≤ 16777216 ∧ (cellsA z).length = n then
        match fillA (fun i => some (i * n, n)) (rep (cellsA z) len) parts with
        | some cs => match s.alloc (.row cs e s.nx) with
          | some (nm, s) => some (.sl nm 0 len n, s)
          | none => none
        | none => none
      else none
    | _, _ => none
  | _ => none
/-- The cells of a slice, or of a string's bytes. -/
def sliceCells (v : AV) (s : St) : Option (List AV) :=
  match v with
  | .nilsl | .esl => some []
  | .sl n off len sz => match cellsOf s n with
    | some vs => if off + len * sz ≤ vs.length then some ((vs.drop off).take (len * sz)) else none
    | none => none
  | .str l => some (l.map fun b => .int .u8 (Int.ofNat b))
  | _ => none
def lenA (v : AV) : Option Nat :=
  match v with
  | .nilsl | .esl => some 0
  | .sl _ _ len _ => some len
  | .str l => some l.length
  | _ => none
/-- The new cells behind the first len elements of a slice. -/
def growA (e sz len : Nat) (new : List AV) (n m : Nat) (s : St) : Option (AV × St) :=
  match hget s.H m with
  | some (.row vs t' lin) =>
    if t' = e ∧ len * sz ≤ vs.length then
      match (St.mk (hmap (kill lin (len * sz) s.nx) s.H) s.nx).alloc (.row (vs.take (len * sz) ++ new) e lin) with
      | some (nm, s2) => some (.sl nm 0 (len + n) sz, s2)
      | none => none
    else none
  | _ => none
def appendA (P : Program) (t : TypeId) (sv x : AV) (s : St) : Option (AV × St) :=
  match P.underlying t with
  | some (.slice e) => match sizeA P e, zeroA P e, (P.info? e).map (·.bytes), lenA x, sliceCells x s with
    | some sz, some z, some by_, some n, some new =>
      if new.length = n * sz ∧ new.all one = true ∧ (cellsA z).length = sz ∧ by_ ≤ 1000000 then
        if n = 0 then (match sv with
          | .nilsl => some (.nilsl, s)
          | .sl m off len sz' => some (.sl m off len sz', s)
          | _ => none)
        else match sv with
          | .nilsl => if n ≤ 1000000 then
              match s.alloc (.row new e s.nx) with
              | some (nm, s) => some (.sl nm 0 n sz, s)
              | none => none
            else none
          | .sl m 0 len sz' => if sz = sz' ∧ len + n ≤ 1000000 then growA e sz len new n m s else none
          | _ => none
      else none
    | _, _, _, _, _ => none
  | _ => none
def asNatA : AV → Option Nat
  | .int _ (.ofNat n) => some n
  | _ => none
def boundA (tm : Tm) (d : Nat) : Option Operand → Option Nat
  | none => some d
  | some x => (ev tm x).bind asNatA
/-- xs[lo:hi] -/
def resliceA (v : AV) (lo hi : Nat) : Option AV :=
  match v with
  | .sl n off len sz => if lo ≤ hi ∧ hi ≤ len then (if lo = hi ∧ 0 < lo then some .esl else some (.sl n (off + lo * sz) (hi - lo) sz)) else none
  | .nilsl => if lo = 0 ∧ hi = 0 then some .nilsl else none
  | _ => none

/-- Keys of maps: strings, numbers, truths; a text that is not known is its own. -/
def keyEq : AV → AV → Option Bool
  | .str a, .str b => some (natsEq a b)
  | .sym a, .sym b => if Nat.beq a b then some true else none
  | .int k a, .int j b => if k = j then some (intEq a b) else none
  | .bool a, .bool b => some (a == b)
  | _, _ => none
def findA (k : AV) : List (AV × AV × Nat) → Nat → Option (Option (Nat × AV × Nat))
  | [], _ => some none
  | (key, v, born) :: r, i =>
    match keyEq k key with
    | some true => some (some (i, v, born))
    | some false => findA k r (i + 1)
    | none => none
def setVal : List (AV × AV × Nat) → Nat → AV → List (AV × AV × Nat)
  | [], _, _ => []
  | (k, _, b) :: r, 0, v => (k, v, b) :: r
  | e :: r, i + 1, v => e :: setVal r i v
def keyFits (P : Program) (t : TypeId) (k : AV) : Bool :=
  match P.underlying t, k with
  | some .string, .str _ | some .string, .sym _ | some (.int _), .int .. | some .bool, .bool _ => true
  | _, _ => false
def entriesOf (m : AV) (s : St) : Option (List (AV × AV × Nat)) :=
  match m with
  | .nilmap => some []
  | .map n => match hget s.H n with
    | some (.map es _) => some es
    | _ => none
  | _ => none
def lookupA (P : Program) (t : TypeId) (m k : AV) (ok : Bool) (s : St) : Option AV :=
  match P.underlying t with
  | some (.map kt et) =>
    if keyFits P kt k then
      match entriesOf m s with
      | some es => match findA k es 0 with
        | some (some (_, v, _)) => some (if ok then .tuple [v, .bool true] else v)
        | some none => match zeroA P et with
          | some z => some (if ok then .tuple [z, .bool false] else z)
          | none => none
        | none => none
      | none => none
    else none
  | _ => none
def updateA (P : Program) (t : TypeId) (m k v : AV) (s : St) : Option St :=
  match P.underlying t, m with
  | some (.map kt _), .map n =>
    if keyFits P kt k then
      match hget s.H n with
      | some (.map es clock) =>
        match findA k es 0 with
        | some (some (i, _, _)) => some { s with H := hset s.H n (.map (setVal es i v) clock) }
        | some none => some { s with H := hset s.H n (.map (es ++ [(k, v, clock)]) (clock + 1)) }
        | none => none
      | _ => none
    else none
  | _, _ => none
def entryA (P : Program) (t : TypeId) (m k : AV) (s : St) : Option (AV × St) :=
  match P.underlying t, m with
  | some (.map kt et), .map n =>
    if keyFits P kt k then
      match hget s.H n with
      | some (.map es clock) =>
        match findA k es 0 with
        | some (some (_, v, born)) => some (.tuple [v, .int .i64 (Int.ofNat born)], s)
        | some none => match zeroA P et with
          | some z => some (.tuple [z, .int .i64 (Int.ofNat clock)], { s with H := hset s.H n (.map (es ++ [(k, z, clock)]) (clock + 1)) })
          | none => none
        | none => none
      | _ => none
    else none
  | _, _ => none
def findBorn : List (AV × AV × Nat) → Nat → Nat → Option Nat
  | [], _, _ => none
  | (_, _, b) :: r, born, i => if Nat.beq b born then some i else findBorn r born (i + 1)
def entryStoreA (m stamp v : AV) (s : St) : Option St :=
  match m, stamp with
  | .map n, .int _ (.ofNat born) =>
    match hget s.H n with
    | some (.map es clock) => match findBorn es born 0 with
      | some i => some { s with H := hset s.H n (.map (setVal es i v) clock) }
      | none => none
    | _ => none
  | _, _ => none

/-- Is a value nil, where a type has a nil? -/
def nilA (P : Program) (t : TypeId) (v : AV) : Option Bool :=
  match P.underlying t, v with
  | some (.pointer _), .nilp => some true
  | some (.pointer _), .ptr .. => some false
  | some (.slice _), .nilsl => some true
  | some (.slice _), .esl | some (.slice _), .sl .. => some false
  | some (.map _ _), .nilmap => some true
  | some (.map _ _), .map _ => some false
  | some (.func ..), .nilfunc => some true
  | some (.func ..), .func .. => some false
  | some (.interface _), .niliface => some true
  | some (.interface _), .iface .. => some false
  | _, _ => none
/-- Alike, text for text: structs of strings, numbers and truths, of which some texts are not known. -/
def eqGo (P : Program) (eq : TypeId → AV → AV → Option Bool) (xs ys : List AV) : List Field → Option Bool
  | [] => some true
  | f :: r =>
    match isAggA P f.type with
    | some false =>
      match xs[f.offset]?, ys[f.offset]? with
      | some a, some b =>
        if f.name = "_" then none
        else match eq f.type a b with
          | some true => eqGo P eq xs ys r
          | some false => some false
          | none => none
      | _, _ => none
    | _ => none
def eqA (P : Program) : Nat → TypeId → AV → AV → Option Bool
  | 0, _, _, _ => none
  | d + 1, t, x, y =>
    match P.underlying t, x, y with
    | some .bool, .bool a, .bool b => some (a == b)
    | some (.int _), .int k a, .int j b => if k = j then some (intEq a b) else none
    | some .string, .str a, .str b => some (natsEq a b)
    | some .string, .sym a, .sym b => if Nat.beq a b then some true else none
    | some (.struct fields), .agg xs, .agg ys => if P.stoodInHeld t then none else eqGo P (eqA P d) xs ys fields.toList
    | _, _, _ => none

/-- Alike: structs, texts that are not known, what may be nil. -/
def isStr (P : Program) (t : TypeId) : Bool :=
  match P.underlying t with
  | some .string => true
  | _ => false
def litO : Operand → Bool
  | .const _ => true
  | _ => false
def sameA (P : Program) (t : TypeId) (lit : Bool) (a b : AV) : Option Bool :=
  match a, b with
  | .niliface, .niliface => if lit then nilA P t a else none
  | .agg _, .agg _ => if P.eqGuardType P.depth t then none else eqA P 100 t a b
  | .sym i, .sym j => if Nat.beq i j && isStr P t then some true else none
  | .ptr n o, .ptr m q => match P.underlying t with
    | some (.pointer e) => if Nat.beq n m then (match sizeA P e with
      | some (_ + 1) => some (Nat.beq o q)
      | _ => none) else none
    | _ => none
  | a, b => match nilA P t a, nilA P t b with
    | some x, some true => some x
    | some true, some y => some y
    | _, _ => none

/-- A method of a concrete type, by its name: the function, and whether the receiver is handed on as it is. -/
def methodA (P : Program) (t : TypeId) (v : AV) (name : String) : Option (FuncId × AV) :=
  match P.info? t with
  | some i => match i.methods.find? (·.name == name) with
    | some m => if m.path.isEmpty then
        match m.func, P.underlying t with
        | some (f, true), some (.pointer _) => some (f, v)
        | some (f, false), some (.pointer _) => none
        | some (f, false), some _ => some (f, v)
        | _, _ => none
      else none
    | none => none
  | none => none

def callA (P : Program) (f : FuncId) (args : List AV) (s : St) : Option R :=
  match P.funcs[f]? with
  | some fn => if fn.body.isSome && !(fn.name == "runtime.NumGoroutine") then some (.call f args s) else none
  | none => none

/-- What is known of numbers that hang on lengths: comparisons, and how they come out. -/
abbrev Asm := List (BinOp × SE × SE × Bool)
def look (op : BinOp) (a b : SE) : Asm → Option Bool
  | [] => none
  | (o, x, y, r) :: m => if decide (o = op) && SE.beq x a && SE.beq y b then some r else look op a b m
def toSE : AV → Option SE
  | .sint e => some e
  | .int .i64 n => some (.num n)
  | _ => none
def isS : AV → Bool
  | .sint _ => true
  | _ => false
def symA (A : Asm) (op : BinOp) (x y : AV) : Option AV :=
  if isS x || isS y then
    match toSE x, toSE y with
    | some a, some b => match op with
      | .add => some (.sint (.add a b))
      | .eql | .neq | .lss | .leq | .gtr | .geq => (look op a b A).map .bool
      | _ => none
    | _, _ => none
  else none
/-- Of values without addresses, and if no world is looked at: what the model itself computes. -/
def restA (P : Program) (tm : Tm) (o : Oper) : Option AV :=
  if allGround tm o.op.operands.toList then
    match pr P (execOp (ground tm) o) with
    | some (.value v) => ofV v
    | _ => none
  else none
/-- Operations that look at no world. -/
def pureA (P : Program) (A : Asm) (tm : Tm) (o : Oper) : Option AV :=
  let rest : Option AV := restA P tm o
  match o.op with
  | .move x | .assign x => ev tm x
  | .pick c a b => match ev tm c with
    | some (.bool true) => ev tm a
    | some (.bool false) => ev tm b
    | _ => none
  | .build t parts => match evParts tm parts.toList with
    | some l => buildA P t l
    | none => none
  | .nilCheck x => match ev tm x with
    | some (.ptr n off) => some (.ptr n off)
    | some (.iface t v) => some (.iface t v)
    | _ => none
  | .makeInterface t x => match P.underlying t, ev tm x with
    | some (.interface _), _ => none
    | some _, some v => some (.iface t v)
    | _, _ => none
  | .makeFunc fn a c => match evs tm a.toList, evs tm c.toList with
    | some a, some c => some (.func fn a c)
    | _, _ => none
  | .fieldAddr t x i => match P.underlying t, ev tm x with
    | some (.struct fields), some (.ptr n off) => match fields[i]? with
      | some f => match sizeA P f.type with
        | some (_ + 1) => some (.ptr n (off + f.offset))
        | _ => none
      | none => none
    | _, _ => none
  | .field t x i => match P.underlying t, ev tm x with
    | some (.struct fields), some (.agg cs) => match fields[i]? with
      | some f => partA P f.type cs f.offset
      | none => none
    | _, _ => none
  | .indexAddr t x i => match P.underlying t, ev tm x, (ev tm i).bind asNatA with
    | some (.slice e), some (.sl n off len sz), some i => if i < len ∧ sizeA P e = some sz then some (.ptr n (off + i * sz)) else none
    | _, _, _ => none
  | .slice t x lo hi none => match P.underlying t, ev tm x with
    | some (.slice e), some v => match lenA v with
      | some len => match boundA tm 0 lo, boundA tm len hi with
        | some lo, some hi => match v with
          | .sl _ _ _ sz => if sizeA P e = some sz then resliceA v lo hi else none
          | .nilsl => if (sizeA P e).isSome then resliceA v lo hi else none
          | _ => none
        | _, _ => none
      | none => none
    | _, _ => rest
  | .extract x i => match ev tm x with
    | some (.tuple vs) => vs[i]?
    | _ => none
  | .binOp op t x y _ => match (match ev tm x, ev tm y with | some a, some b => symA A op a b | _, _ => none) with
    | some v => some v
    | none => match op, ev tm x, ev tm y with
    | .eql, some a, some b => match sameA P t (litO x || litO y) a b with
      | some r => some (.bool r)
      | none => rest
    | .neq, some a, some b => match sameA P t (litO x || litO y) a b with
      | some r => some (.bool !r)
      | none => rest
    | _, _, _ => rest
  | .call { callee := .builtin .len, args, argTypes } => match evs tm args.toList with
    | some [.sym i] => match (argTypes[0]?).bind (P.underlying ·) with
      | some .string => some (.sint (.len i))
      | _ => none
    | some [v] => match lenA v, v, (argTypes[0]?).bind (P.underlying ·) with
      | some n, .str _, some .string => some (.int .i64 (Int.ofNat n))
      | some n, .sl .., some (.slice _) | some n, .nilsl, some (.slice _) | some n, .esl, some (.slice _) => some (.int .i64 (Int.ofNat n))
      | _, _, _ => none
    | _ => none
  | .select .. | .go _ | .defer _ | .panic _ | .send .. | .recv .. | .ready _ | .waits _ => none
  | .alloc _ | .box .. | .buildSlice .. | .load .. | .store .. | .makeMap .. | .makeSlice .. | .lookup .. | .mapUpdate .. | .insert .. | .mapEntry .. | .entryStore .. | .range .. | .next .. | .entry _ => none
  | .call { callee := .builtin .append, .. } | .call { callee := .builtin .clear, .. } | .call { callee := .value _, .. } | .call { callee := .invoke .., .. } => none
  | _ => rest

def heapA (P : Program) (tm : Tm) (o : Oper) (s : St) : Option R :=
  let valS (x : Option (AV × St)) : Option R := x.map fun p => R.val p.1 p.2
  let unit (x : Option St) : Option R := x.map fun s => R.val (.tuple []) s
  match o.op with
  | .alloc e => match zeroA P e with
    | some z => match s.alloc (.box (cellsA z) e) with
      | some (n, s) => some (.val (.ptr n 0) s)
      | none => none
    | none => none
  | .box e x => match ev tm x with
    | some v => match s.alloc (.box (cellsA v) e) with
      | some (n, s) => some (.val (.ptr n 0) s)
      | none => none
    | none => none
  | .buildSlice t len parts => match evParts tm parts.toList with
    | some l => valS (buildSliceA P t len l s)
    | none => none
  | .load t a => match ev tm a with
    | some (.ptr n off) => (loadA P t n off s).map (R.val · s)
    | _ => none
  | .store t a x => match ev tm a, ev tm x with
    | some (.ptr n off), some v => unit (storeA P t n off v s)
    | _, _ => none
  | .makeMap t r => match P.underlying t, r.map (ev tm) with
    | some (.map _ _), none | some (.map _ _), some (some (.int _ _)) => match s.alloc (.map [] 0) with
      | some (n, s) => some (.val (.map n) s)
      | none => none
    | _, _ => none
  | .makeSlice t l c => match P.underlying t, (ev tm l).bind asNatA, (ev tm c).bind asNatA with
    | some (.slice e), some l, some c => match (P.info? e).map (·.bytes), zeroA P e, sizeA P e with
      | some b, some z, some n =>
        if Nat.beq l c && Nat.ble l 1000000 && Nat.ble b 1000000 && Nat.beq (cellsA z).length n then
          match s.alloc (.row (rep (cellsA z) l) e s.nx) with
          | some (nm, s) => some (.val (.sl nm 0 l n) s)
          | none => none
        else none
      | _, _, _ => none
    | _, _, _ => none
  | .lookup t m k ok => match ev tm m, ev tm k with
    | some m, some k => (lookupA P t m k ok s).map (R.val · s)
    | _, _ => none
  | .mapUpdate t m k v | .insert t m k v => match ev tm m, ev tm k, ev tm v with
    | some m, some k, some v => unit (updateA P t m k v s)
    | _, _, _ => none
  | .mapEntry t m k => match ev tm m, ev tm k with
    | some m, some k => valS (entryA P t m k s)
    | _, _ => none
  | .entryStore _ m st v => match ev tm m, ev tm st, ev tm v with
    | some m, some st, some v => unit (entryStoreA m st v s)
    | _, _, _ => none
  | .call { callee := .builtin .len, args, argTypes } => match evs tm args.toList with
    | some [.nilmap] => match (argTypes[0]?).bind (P.underlying ·) with
      | some (.map _ _) => some (.val (.int .i64 0) s)
      | _ => none
    | some [.map n] => match (argTypes[0]?).bind (P.underlying ·), hget s.H n with
      | some (.map _ _), some (.map es _) => some (.val (.int .i64 (Int.ofNat es.length)) s)
      | _, _ => none
    | _ => none
  | .call { callee := .builtin .clear, args, argTypes } => match evs tm args.toList, (argTypes[0]?).bind (P.underlying ·) with
    | some [.nilsl], some (.slice _) | some [.esl], some (.slice _) => some (.val (.tuple []) s)
    | some [.sl n off len sz], some (.slice e) =>
      if len = 0 then some (.val (.tuple []) s) else
      match zeroA P e with
      | some z => if (cellsA z).length = sz then unit (putA n off (rep (cellsA z) len) s) else none
      | none => none
    | _, _ => none
  | .call { callee := .builtin .append, args, argTypes } => match evs tm args.toList with
    | some [a, b] => match argTypes[0]?, (argTypes[1]?).bind (P.underlying ·) with
      | some t, some (.slice _) => valS (appendA P t a b s)
      | some t, some .string => valS (appendA P t a b s)
      | _, _ => none
    | _ => none
  | .call { callee := .value f, args, .. } => match ev tm f, evs tm args.toList with
    | some (.func (.func g) first cap), some as => callA P g (first ++ as ++ cap) s
    | _, _ => none
  | .call { callee := .invoke r name, args, .. } => match ev tm r, evs tm args.toList with
    | some (.iface t v), some as => match methodA P t v name with
      | some (f, rc) => callA P f (rc :: as) s
      | none => none
    | _, _ => none
  | _ => none
def opA (P : Program) (A : Asm) (tm : Tm) (o : Oper) (s : St) : Option R :=
  match pureA P A tm o with
  | some v => some (.val v s)
  | none => heapA P tm o s

/-- Functions that are given: of the library, or proved otherwise. -/
abbrev Orc := FuncId → Option (List AV → St → Option (AV × St))
abbrev CallF := FuncId → List AV → St → Option (AV × St)

structure Fr where
  tm : Tm
  s : St
  deriving Inhabited
def yieldA (ops : List Oper) (tm : Tm) (j : Nat) : Option Bool :=
  match (ops[j]?).bind (·.dst) with
  | some t => match tm.getD t (.tuple []) with
    | .bool b => some b
    | _ => none
  | none => none
def wantedA (ops : List Oper) (tm : Tm) (o : Oper) : Bool :=
  match o.guard with
  | none => true
  | some (j, want) => match yieldA ops tm j with
    | some b => b == want
    | none => false
def step1 (P : Program) (A : Asm) (cf : CallF) (ops : List Oper) (o : Oper) (f : Fr) : Option Fr :=
  if wantedA ops f.tm o then
    match opA P A f.tm o f.s with
    | some (.val v s) => some ⟨put f.tm o.dst v, s⟩
    | some (.call g args s) => match cf g args s with
      | some (v, s) => some ⟨put f.tm o.dst v, s⟩
      | none => none
    | none => none
  else some ⟨put f.tm o.dst (.tuple []), f.s⟩
def runOps (P : Program) (A : Asm) (cf : CallF) (ops : List Oper) : List Oper → Fr → Option Fr
  | [], f => some f
  | o :: r, f => match step1 P A cf ops o f with
    | some f => runOps P A cf ops r f
    | none => none

inductive Ex where
  | normal
  | exit (id : Nat)
  | ret
  deriving Inhabited

/-- A region that draws its order: what looks at no world first, else each that may come up; ways that have listed the same must have come to the same. Names: a range of its own for each operation. -/
def bitsEq : List Bool → List Bool → Bool
  | [], [] => true
  | a :: r, b :: s => (a == b) && bitsEq r s
  | _, _ => false
def Fr.beq (a b : Fr) : Bool := AV.beqs a.tm b.tm && Hp.beq a.s.H b.s.H && Nat.beq a.s.nx b.s.nx
abbrev Lv := List (Array Bool × Fr)
/-- Lays a state under what is listed; none: another one lies there. -/
def layAt (l : Array Bool) (f : Fr) : Lv → Option Lv
  | [] => some [(l, f)]
  | (m, g) :: r => if bitsEq l.toList m.toList then (if f.beq g then some ((m, g) :: r) else none) else (layAt l f r).map ((m, g) :: ·)
/-- The first of those that may come up which looks at no world: its place, what it yields. -/
def firstPure (P : Program) (A : Asm) (ops : Array Oper) (listed : Array Bool) (tm : Tm) : List Nat → Option (Nat × AV × Option Tmp)
  | [] => none
  | i :: r => match ops[i]? with
    | some o =>
      if !wantedA ops.toList tm o then (if Region.free .any ops listed i then some (i, .tuple [], o.dst) else firstPure P A ops listed tm r)
      else match pureA P A tm o with
        | some v => if Region.free .any ops listed i then some (i, v, o.dst) else firstPure P A ops listed tm r
        | none => firstPure P A ops listed tm r
    | none => firstPure P A ops listed tm r
def stepAll (P : Program) (A : Asm) (cf : CallF) (ops : Array Oper) (listed : Array Bool) (f : Fr) : List Nat → Lv → Option Lv
  | [], lv => some lv
  | i :: r, lv => match ops[i]? with
    | some o => match step1 P A cf ops.toList o ⟨f.tm, ⟨f.s.H, (f.s.nx * 64 + i) * 1048576⟩⟩ with
      | some g => match layAt (listed.setIfInBounds i true) ⟨g.tm, ⟨g.s.H, f.s.nx⟩⟩ lv with
        | some lv => stepAll P A cf ops listed f r lv
        | none => none
      | none => none
    | none => none
def level (P : Program) (A : Asm) (cf : CallF) (ops : Array Oper) : Lv → Lv → Option Lv
  | [], lv => some lv
  | (listed, f) :: r, lv =>
    let ready := Region.ready .any ops listed
    match firstPure P A ops listed f.tm ready with
    | some (i, v, d) => match layAt (listed.setIfInBounds i true) ⟨put f.tm d v, f.s⟩ lv with
      | some lv => level P A cf ops r lv
      | none => none
    | none => if ready.isEmpty then none else match stepAll P A cf ops listed f ready lv with
      | some lv => level P A cf ops r lv
      | none => none
def levels (P : Program) (A : Asm) (cf : CallF) (ops : Array Oper) : Nat → Lv → Option Lv
  | 0, lv => some lv
  | n + 1, lv => match level P A cf ops lv [] with
    | some lv => levels P A cf ops n lv
    | none => none
def drawn (P : Program) (A : Asm) (cf : CallF) (ops : Array Oper) (f : Fr) : Option Fr :=
  if Region.noSelect ops then
    match levels P A cf ops ops.size [(Array.replicate ops.size false, f)] with
    | some [(listed, g)] => if (Region.ready .any ops listed).isEmpty then some ⟨g.tm, ⟨g.s.H, g.s.nx + 1⟩⟩ else none
    | _ => none
  else none

def exec (P : Program) (A : Asm) (cf : CallF) : Nat → Code → Fr → Option (Ex × Fr)
  | 0, _, _ => none
  | k + 1, c, f => match c with
    | .skip => some (.normal, f)
    | .region _ ops false => (runOps P A cf ops.toList ops.toList f).map (Ex.normal, ·)
    | .region _ ops true => (drawn P A cf ops f).map (Ex.normal, ·)
    | .seq a b => match exec P A cf k a f with
      | some (.normal, f) => exec P A cf k b f
      | r => r
    | .cond c a b => match ev f.tm c with
      | some (.bool true) => exec P A cf k a f
      | some (.bool false) => exec P A cf k b f
      | _ => none
    | .block id b => match exec P A cf k b f with
      | some (.exit i, f) => if Nat.beq i id then some (.normal, f) else some (.exit i, f)
      | r => r
    | .loop b => match exec P A cf k b f with
      | some (.normal, f) => exec P A cf k (.loop b) f
      | r => r
    | .exit id => some (.exit id, f)
    | .ret => some (.ret, f)
    | _ => none
def resultA (P : Program) (tm : Tm) (s : St) : ResultVar → Option AV
  | .tmp t => some (tm.getD t (.tuple []))
  | .cell a t => match tm.getD a (.tuple []) with
    | .ptr n off => loadA P t n off s
    | _ => none
def resultsA (P : Program) (tm : Tm) (s : St) : List ResultVar → Option (List AV)
  | [] => some []
  | r :: l => match resultA P tm s r, resultsA P tm s l with
    | some a, some as => some (a :: as)
    | _, _ => none
def retA : List AV → AV
  | [v] => v
  | l => .tuple l
def pad (l : List AV) : Nat → List AV
  | 0 => l
  | n + 1 => match l with
    | [] => .tuple [] :: pad [] n
    | a :: r => a :: pad r n
/-- A call: DEPTH rounds of calls, FUEL rounds of each body. -/
def call (P : Program) (A : Asm) (orc : Orc) (fuel : Nat) : Nat → CallF
  | 0, _, _, _ => none
  | d + 1, f, args, s => match orc f with
    | some o => o args s
    | none => match P.funcs[f]? with
      | some fn => match fn.body with
        | some c => match exec P A (call P A orc fuel d) fuel c ⟨args ++ pad [] (fn.ntmps - args.length), s⟩ with
          | some (.normal, g) | some (.ret, g) => (resultsA P g.tm g.s fn.results.toList).map fun l => (retA l, g.s)
          | _ => none
        | none => none
      | none => none
end Go.Proofs.YtmpheeanjjfddaaDoor.AM
