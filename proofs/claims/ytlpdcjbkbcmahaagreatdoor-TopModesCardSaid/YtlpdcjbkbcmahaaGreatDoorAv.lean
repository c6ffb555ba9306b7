/- Values without addresses, and what each operation does to them: the words in which a function of the program is told (no proof here). -/
import Derived.Test.YtlpdcjbkbcmahaaGreatDoorAvB
set_option linter.unusedVariables false
set_option linter.unusedSimpArgs false
namespace Go.Av
open Go.RowKit Go.Base

/-- Data: a value that is told whole, without memory. -/
inductive D where
  | bool (b : Bool)
  | int (k : IntKind) (n : Int)
  | str (s : List UInt8)
  /-- a slice (nil or not): n elements of sz cells -/
  | sl (sz n : Nat) (f : Nat → D)
  | agg (cs : List D)
  | tup (vs : List D)
  | bad
instance : Inhabited D := ⟨.bad⟩
def D.cells : D → List D
  | .agg cs => cs
  | x => [x]
def D.one : D → Bool
  | .agg _ | .tup _ | .bad => false
  | _ => true

/-- The right to append in place. -/
inductive Right where
  | nl
  | tok (t : Nat) (e : TypeId)

/-- Values of a function that is under way: data, or places in its own memory. -/
inductive AV where
  | d (x : D)
  | ap (sz n : Nat) (f : Nat → D) (r : Right)
  | ptr (id off : Nat)
  | ep (x : D) (off : Nat)
  | pa (id sz i off : Nat)
  | arr (id sz n : Nat)
  /-- an own row of n elements that may grow (it may be nil) -/
  | vec (id sz n : Nat)
  /-- a place in it -/
  | pv (id sz i off : Nat)
  | mp (id : Nat)
  | fn (f : FuncId) (cap : List AV)
  | nilp
  | nilf
  | agg (cs : List AV)
  | tup (vs : List AV)
  | any
instance : Inhabited AV := ⟨.any⟩
def AV.cells : AV → List AV
  | .d (.agg cs) => cs.map .d
  | .agg cs => cs
  | x => [x]
def AV.one : AV → Bool
  | .d x => x.one
  | .agg _ | .tup _ | .any => false
  | _ => true

/-- Objects of the function's own memory. -/
inductive Ob where
  | cells (cs : List AV)
  | arr (sz n : Nat) (f : Nat → D)
  /-- a map from strings to integers: no more than n entries; what it holds at each key -/
  | map (P : Program) (k e : TypeId) (n : Nat) (f : List UInt8 → Option Int)
  /-- a row that may grow -/
  | vec (e : TypeId) (sz n : Nat) (f : Nat → D)
  /-- what nothing is known of -/
  | gone
  /-- a new builder of strings, of type T -/
  | bld0 (T : TypeId)
def Ob.ok : Ob → Bool
  | .gone => false
  | _ => true
def Ob.isBlk : Ob → Bool
  | .gone => false
  | .vec .. => false
  | _ => true

def look : List (Nat × AV) → Nat → AV
  | [], _ => .any
  | (i, v) :: l, t => if i = t then v else look l t
def lookO : List (Nat × Ob) → Nat → Option Ob
  | [], _ => none
  | (i, v) :: l, t => if i = t then some v else lookO l t
def lookD : List (Nat × D) → Nat → D
  | [], _ => .bad
  | (i, v) :: l, t => if i = t then v else lookD l t

/-- The state between statements. -/
structure St where
  fr : List (Nat × AV)
  hp : List (Nat × Ob)
  live : List Nat
  nx : Nat

def constA : Value → AV
  | .bool b => .d (.bool b)
  | .int k n => .d (.int k n)
  | .string s => .d (.str s.data.toList)
  | .slice none 0 0 => .ap 0 0 (fun _ => .bad) .nl
  | .pointer none => .nilp
  | .nilFunc => .nilf
  | _ => .any

def unD : List AV → Option (List D)
  | [] => some []
  | .d x :: l => (unD l).map (x :: ·)
  | _ :: _ => none
def aggOf (l : List AV) : AV := match unD l with | some ds => .d (.agg ds) | none => .agg l
def tupOf (l : List AV) : AV := match unD l with | some ds => .d (.tup ds) | none => .tup l

def sizeT (P : Program) (t : TypeId) : Nat := match P.info? t with | some i => i.size | none => 0
def isAggT (P : Program) (t : TypeId) : Bool := match P.underlying t with | some (.struct _) => true | some (.array ..) => true | _ => false
def elemT (P : Program) (t : TypeId) : Option TypeId := match P.underlying t with | some (.slice e) => some e | _ => none
def zeroA (P : Program) (t : TypeId) : Option (List AV) := match P.info? t with | some i => (match i.zero with | some v => some (v.cells.toList.map constA) | none => none) | none => none

/-- What a call that is given own objects leaves: its result; the objects that it is given, and the rights; the objects that it changes or makes; the rights that it gives back. -/
structure OT where
  r : AV
  ids : List Nat
  lv : List Nat
  ups : List (Nat × Ob)
  toks : List Nat
/-- What a quiet operation does. -/
structure Q where
  ok : Bool := true
  ob : List Prop := []
  v : AV := .any
  new : Option Ob := none
  tok : Bool := false
  upd : Option (Nat × Ob) := none
  kill : Option Nat := none
  mo : Option OT := none
def Q.no : Q := { ok := false }
def Q.ret (v : AV) : Q := { v }
def Q.when (ob : List Prop) (v : AV) : Q := { ob, v }

def eqL : List D → List D → Option Bool
  | [], [] => some true
  | .int _ a :: x, .int _ b :: y => (eqL x y).map ((a == b) && ·)
  | .bool a :: x, .bool b :: y => (eqL x y).map ((a == b) && ·)
  | .str a :: x, .str b :: y => (eqL x y).map ((a == b) && ·)
  | _, _ => none

/-- The cells of a type whose values are compared cell by cell. -/
def flatT (P : Program) : Nat → TypeId → Option (List TypeDesc)
  | 0, _ => none
  | d + 1, t => match P.underlying t with
    | some (.int k) => some [.int k]
    | some .bool => some [.bool]
    | some .string => some [.string]
    | some (.struct fs) => if P.stoodInHeld t then none else
      let rec go : List Field → Nat → Option (List TypeDesc)
        | [], _ => some []
        | f :: l, off => if f.name = "_" ∨ f.offset ≠ off then none else
          match flatT P d f.type with
          | some x => if sizeT P f.type = x.length then (go l (off + x.length)).map (x ++ ·) else none
          | none => none
      go fs.toList 0
    | _ => none

def intBin (op : BinOp) (k : IntKind) (a b : Int) : Q :=
  match op with
  | .add => .ret (.d (.int k (k.wrap (a + b))))
  | .sub => .ret (.d (.int k (k.wrap (a - b))))
  | .mul => .ret (.d (.int k (k.wrap (a * b))))
  | .quo => .when [b ≠ 0] (.d (.int k (k.wrap (a.tdiv b))))
  | .rem => .when [b ≠ 0] (.d (.int k (a.tmod b)))
  | .and => .ret (.d (.int k (k.wrap (BitVec.ofInt k.bits a &&& BitVec.ofInt k.bits b).toNat)))
  | .or => .ret (.d (.int k (k.wrap (BitVec.ofInt k.bits a ||| BitVec.ofInt k.bits b).toNat)))
  | .xor => .ret (.d (.int k (k.wrap (BitVec.ofInt k.bits a ^^^ BitVec.ofInt k.bits b).toNat)))
  | .andNot => .ret (.d (.int k (k.wrap (BitVec.ofInt k.bits a &&& ~~~BitVec.ofInt k.bits b).toNat)))
  | .eql => .ret (.d (.bool (a == b)))
  | .neq => .ret (.d (.bool (a != b)))
  | .lss => .ret (.d (.bool (decide (a < b))))
  | .leq => .ret (.d (.bool (decide (a ≤ b))))
  | .gtr => .ret (.d (.bool (decide (b < a))))
  | .geq => .ret (.d (.bool (decide (b ≤ a))))
  | _ => .no
def strBin (op : BinOp) (a b : List UInt8) : Q :=
  match op with
  | .add => .when [a.length + b.length ≤ 9223372036854775807] (.d (.str (a ++ b)))
  | .eql => .ret (.d (.bool (a == b)))
  | .neq => .ret (.d (.bool (a != b)))
  | .lss => .ret (.d (.bool (Op.bytesLess a b)))
  | .leq => .ret (.d (.bool (Op.bytesLess a b || a == b)))
  | .gtr => .ret (.d (.bool (!(Op.bytesLess a b || a == b))))
  | .geq => .ret (.d (.bool (!Op.bytesLess a b)))
  | _ => .no
def partD (P : Program) (t : TypeId) (cs : List D) (off : Nat) : Option D :=
  if isAggT P t then (if off + sizeT P t ≤ cs.length then some (.agg ((cs.drop off).take (sizeT P t))) else none) else cs[off]?
def eqF (P : Program) (eq : TypeId → D → D → Option Bool) : List Field → List D → List D → Option Bool
  | [], _, _ => some true
  | f :: l, xs, ys =>
    if f.name = "_" ∨ (P.underlying f.type).isSome = false then none else
    match partD P f.type xs f.offset, partD P f.type ys f.offset with
    | some a, some b =>
      match eq f.type a b, eqF P eq l xs ys with
      | some r, some q => some (r && q)
      | _, _ => none
    | _, _ => none
/-- Whether two values of a type are equal. -/
def eqD (P : Program) : Nat → TypeId → D → D → Option Bool
  | 0, _, _, _ => none
  | d + 1, t, x, y =>
    match P.underlying t, x, y with
    | some (.int _), .int k a, .int k' b => if k = k' then some (a == b) else none
    | some .bool, .bool a, .bool b => some (a == b)
    | some .string, .str a, .str b => some (a == b)
    | some (.struct fs), .agg xs, .agg ys => if P.stoodInHeld t = true then none else eqF P (eqD P d) fs.toList xs ys
    | _, _, _ => none
def ptrQ (P : Program) (op : BinOp) (t : TypeId) (b : Bool) : Q :=
  match P.underlying t, op with
  | some (.pointer _), .eql => .ret (.d (.bool b))
  | some (.pointer _), .neq => .ret (.d (.bool (!b)))
  | _, _ => .no
def binQ (P : Program) (op : BinOp) (t : TypeId) (x y : AV) : Q :=
  match x, y with
  | .d (.int k a), .d (.int k' b) =>
    match op with
    | .shl => .when [0 ≤ b] (.d (.int k (k.wrap (a * 2 ^ (min b.toNat k.bits)))))
    | .shr => .when [0 ≤ b] (.d (.int k (a.fdiv (2 ^ (min b.toNat k.bits)))))
    | op => if k = k' then intBin op k a b else .no
  | .d (.str a), .d (.str b) => strBin op a b
  | .d (.bool a), .d (.bool b) =>
    match P.underlying t, op with
    | some .bool, .eql => .ret (.d (.bool (a == b)))
    | some .bool, .neq => .ret (.d (.bool (a != b)))
    | _, _ => .no
  | .d (.agg a), .d (.agg b) =>
    if P.eqGuardType P.depth t = true then .no else
    match op, eqD P 20 t (.agg a) (.agg b) with
    | .eql, some v => .ret (.d (.bool v))
    | .neq, some v => .ret (.d (.bool (!v)))
    | _, _ => .no
  | .nilp, .nilp => ptrQ P op t true
  | .ptr _ _, .nilp => ptrQ P op t false
  | .ep _ _, .nilp => ptrQ P op t false
  | _, _ => .no

def fieldT (P : Program) (t : TypeId) (i : Nat) : Option Field := match P.underlying t with | some (.struct fs) => fs[i]? | _ => none
def partA (P : Program) (t : TypeId) (cs : List AV) (off : Nat) : Option AV :=
  if isAggT P t then (if off + sizeT P t ≤ cs.length then some (aggOf ((cs.drop off).take (sizeT P t))) else none) else cs[off]?
def optQ {α : Type} (x : Option α) (f : α → Q) : Q := match x with | some v => f v | none => .no

def fillA (off : Nat) : List AV → List AV → List AV
  | [], cs => cs
  | x :: l, cs => fillA (off + 1) l (cs.set off x)
def buildA (places : Nat → Option (Nat × Nat)) (e : Operand → AV) : List (Nat × Operand) → List AV → Option (List AV)
  | [], cs => some cs
  | (i, x) :: l, cs => match places i with
    | some (off, size) => if (e x).cells.length = size ∧ off + size ≤ cs.length ∧ (e x).cells.all AV.one = true then buildA places e l (fillA off (e x).cells cs) else none
    | none => none
def structPlaces (P : Program) (fs : Array Field) (i : Nat) : Option (Nat × Nat) := (fs[i]?).map fun f => (f.offset, sizeT P f.type)

def asSl : AV → Option (Nat × Nat × (Nat → D))
  | .d (.sl sz n f) => some (sz, n, f)
  | .ap sz n f _ => some (sz, n, f)
  | _ => none
def asInt : AV → Option Int
  | .d (.int _ n) => some n
  | _ => none

def loadQ (P : Program) (t : TypeId) (hp : Nat → Option Ob) : AV → Q
  | .ptr id off => match hp id with
    | some (.cells cs) => optQ (partA P t cs off) .ret
    | _ => .no
  | .ep x off => optQ (partD P t x.cells off) fun y => .ret (.d y)
  | .pa id sz i off => match hp id with
    | some (.arr z n f) => if z = sz then optQ (partD P t (f i).cells off) fun y => .when [i < n] (.d y) else .no
    | _ => .no
  | .pv id sz i off => match hp id with
    | some (.vec _ z n f) => if z = sz then optQ (partD P t (f i).cells off) fun y => .when [i < n] (.d y) else .no
    | _ => .no
  | _ => .no

def sliceStr (s : List UInt8) (lo hi : Option Int) : Q :=
  match lo, hi with
  | none, none => .ret (.d (.str s))
  | none, some h => .when [0 ≤ h, h ≤ s.length] (.d (.str (s.take h.toNat)))
  | some l, none => .when [0 ≤ l, l ≤ s.length] (.d (.str (s.drop l.toNat)))
  | some l, some h => .when [0 ≤ l, l ≤ h, h ≤ s.length] (.d (.str ((s.take h.toNat).drop l.toNat)))
def sliceSl (sz n : Nat) (f : Nat → D) (lo hi : Option Int) : Q :=
  match lo, hi with
  | none, none => .ret (.d (.sl sz n f))
  | none, some h => .when [0 ≤ h, h ≤ n] (.d (.sl sz h.toNat f))
  | some l, none => .when [0 ≤ l, l ≤ n] (.d (.sl sz (n - l.toNat) fun i => f (l.toNat + i)))
  | some l, some h => .when [0 ≤ l, l ≤ h, h ≤ n] (.d (.sl sz (h.toNat - l.toNat) fun i => f (l.toNat + i)))
def optInt (e : Operand → AV) : Option Operand → Option (Option Int)
  | none => some none
  | some x => (asInt (e x)).map some

/-- An element of a slice literal. -/
def litF (l : List D) (i : Nat) : D := match l[i]? with | some x => x | none => .bad
def coldL : List AV → Option (List D)
  | [] => some []
  | .d x :: l => (coldL l).map (x :: ·)
  | .ap s n f _ :: l => (coldL l).map (.sl s n f :: ·)
  | _ :: _ => none
/-- A value as data: what may be appended to loses that right. -/
def coldA : AV → Option D
  | .d x => some x
  | .ap s n f _ => some (.sl s n f)
  | .agg l => (coldL l).map .agg
  | _ => none
def partsD (e : Operand → AV) (sz : Nat) : Nat → List (Nat × Operand) → Option (List D)
  | _, [] => some []
  | i, (j, x) :: l => if i = j then
      match coldA (e x) with
      | some y => if y.cells.length = sz ∧ y.cells.all D.one = true then (partsD e sz (i + 1) l).map (y :: ·) else none
      | none => none
    else none

def appF (n : Nat) (f g : Nat → D) (i : Nat) : D := if i < n then f i else g (i - n)
def bytesF (s : List UInt8) (i : Nat) : D := .int .u8 (match s[i]? with | some b => (b.toNat : Int) | none => 0)

def minMax (isMax : Bool) : List AV → Option (IntKind × Int)
  | [.d (.int k a)] => some (k, a)
  | [.d (.int k a), .d (.int _ b)] => some (k, if isMax then (if a < b then b else a) else (if b < a then b else a))
  | [.d (.int k a), .d (.int _ b), .d (.int _ c)] => some (k, if isMax then (let m := (if a < b then b else a); if m < c then c else m) else (let m := (if b < a then b else a); if c < m then c else m))
  | _ => none

def appQ (P : Program) (el : TypeId) (sz m : Nat) (k : Nat → Nat → Q) : Q :=
  match P.info? el with
  | some i => (match i.zero with
    | some z => if (i.size = sz ∨ m = 0) ∧ 0 < i.size ∧ 0 < i.bytes ∧ z.cells.size = i.size then k i.bytes i.size else .no
    | none => .no)
  | none => .no
def armF (x : Bool) (a : AV) : Q := match a with | .d (.bool y) => .ret (.d (.bool (x && y))) | _ => .when [x = false] (.d (.bool false))
def armT (x : Bool) (b : AV) : Q := match b with | .d (.bool z) => .ret (.d (.bool (x || z))) | _ => .when [x = true] (.d (.bool true))
def pickQ (c a b : AV) (isF isT : Bool) : Q :=
  match c with
  | .d (.bool x) =>
    if isF then armF x a
    else if isT then armT x b
    else .no
  | _ => .no
def isBool (b : Bool) : Operand → Bool
  | .const (.bool c) => c == b
  | _ => false
/-- A builder of strings: a pointer to its own type, and a slice. -/
def bldT (P : Program) (t : TypeId) : Bool := match P.info? t with
  | some i => (match i.zero with
    | some v => (match v.cells.toList, P.underlying t with
      | [.pointer none, .slice none 0 0], some (.struct fs) => (match fs[0]? with
        | some f => (match P.underlying f.type with
          | some (.pointer u) => decide (u = t)
          | _ => false)
        | none => false)
      | _, _ => false)
    | none => false)
  | none => false
def allocQ (P : Program) (id : Nat) (t : TypeId) : Q :=
  if bldT P t = true then { v := .ptr id 0, new := some (.bld0 t) } else
  optQ (zeroA P t) fun cs => if cs.all AV.one = true then { v := .ptr id 0, new := some (.cells cs) } else .no
def boxQ (id : Nat) (x : AV) : Q := if x.cells.all AV.one = true then { v := .ptr id 0, new := some (.cells x.cells) } else .no
def buildQ (P : Program) (t : TypeId) (parts : List (Nat × Operand)) (e : Operand → AV) : Q :=
  optQ (zeroA P t) fun z => match P.underlying t with
    | some (.struct fs) => if fs.toList.all (fun f => (P.info? f.type).isSome) = true then optQ (buildA (structPlaces P fs) e parts z) fun cs => .ret (aggOf cs) else .no
    | some (.array _ el) => if (P.info? el).isSome = true then optQ (buildA (fun i => some (i * sizeT P el, sizeT P el)) e parts z) fun cs => .ret (aggOf cs) else .no
    | _ => .no
def buildSliceQ (P : Program) (id : Nat) (t : TypeId) (len : Nat) (parts : List (Nat × Operand)) (e : Operand → AV) : Q :=
  match elemT P t with
  | some el => optQ (partsD e (sizeT P el) 0 parts) fun ds =>
      if ds.length = len ∧ len * sizeT P el ≤ 16777216 ∧ 0 < sizeT P el ∧ (zeroA P el).isSome = true then { v := .ap (sizeT P el) len (litF ds) (.tok id el), tok := true } else .no
  | none => .no
def fieldAddrQ (P : Program) (t : TypeId) (i : Nat) (x : AV) : Q :=
  optQ (fieldT P t i) fun f => if sizeT P f.type = 0 then .no else
    match x with
    | .ptr d off => .ret (.ptr d (off + f.offset))
    | .ep y off => .ret (.ep y (off + f.offset))
    | .pa d s j off => .ret (.pa d s j (off + f.offset))
    | .pv d s j off => .ret (.pv d s j (off + f.offset))
    | _ => .no
def fieldQ (P : Program) (t : TypeId) (i : Nat) (x : AV) : Q :=
  optQ (fieldT P t i) fun f => if (P.underlying f.type).isSome = true then (match x with
    | .d (.agg cs) => optQ (partD P f.type cs f.offset) fun y => .ret (.d y)
    | .agg cs => optQ (partA P f.type cs f.offset) .ret
    | _ => .no) else .no
def indexAddrQ (P : Program) (t : TypeId) (x i : AV) : Q :=
  optQ (asInt i) fun j => optQ (P.underlying t) fun d => match d, x with
    | .slice el, .d (.sl sz n f) => if sizeT P el = sz ∧ 0 < sz then .when [0 ≤ j, j < n] (.ep (f j.toNat) 0) else .no
    | .slice el, .ap sz n f _ => if sizeT P el = sz ∧ 0 < sz then .when [0 ≤ j, j < n] (.ep (f j.toNat) 0) else .no
    | .slice el, .arr d sz n => if sizeT P el = sz ∧ 0 < sz then .when [0 ≤ j, j < n] (.pa d sz j.toNat 0) else .no
    | .slice el, .vec d sz n => if sizeT P el = sz ∧ 0 < sz then .when [0 ≤ j, j < n] (.pv d sz j.toNat 0) else .no
    | .array len el, .ptr d off => if 0 ≤ j ∧ j < len ∧ 0 < sizeT P el then .ret (.ptr d (off + j.toNat * sizeT P el)) else .no
    | _, _ => .no
/-- Numbers of one kind. -/
def intsD : List D → Option (IntKind × List Int)
  | [] => none
  | .int k n :: l => match l with
    | [] => some (k, [n])
    | _ => match intsD l with
      | some (k', ns) => if k = k' then some (k, n :: ns) else none
      | none => none
  | _ :: _ => none
def indexQ (P : Program) (t : TypeId) (x i : AV) : Q :=
  optQ (asInt i) fun j => optQ (P.underlying t) fun d => match d, x with
    | .string, .d (.str s) => .when [0 ≤ j, j < s.length] (.d (bytesF s j.toNat))
    | .array len el, .d (.agg cs) => (match intsD cs with
      | some (k, ns) => if (P.underlying el).isSome = true ∧ isAggT P el = false ∧ sizeT P el = 1 ∧ ns.length = len then .when [0 ≤ j, j < len] (.d (.int k (ns.getD j.toNat 0))) else .no
      | none => if 0 ≤ j ∧ j < len ∧ (P.underlying el).isSome = true then optQ (partD P el cs (j.toNat * sizeT P el)) fun y => .ret (.d y) else .no)
    | .array len el, .agg cs => if 0 ≤ j ∧ j < len ∧ (P.underlying el).isSome = true then optQ (partA P el cs (j.toNat * sizeT P el)) .ret else .no
    | _, _ => .no
def sliceQ (P : Program) (t : TypeId) (x : AV) (lo hi : Option (Option Int)) : Q :=
  optQ lo fun l => optQ hi fun h => optQ (P.underlying t) fun d => match d, x with
    | .string, .d (.str s) => sliceStr s l h
    | .slice el, .d (.sl sz n f) => if sizeT P el = sz ∧ 0 < sz then sliceSl sz n f l h else .no
    | .slice el, .ap sz n f _ => if sizeT P el = sz ∧ 0 < sz then sliceSl sz n f l h else .no
    | .slice el, .arr id sz n => if sizeT P el = sz ∧ 0 < sz then (match l, h with
      | none, some h => .when [0 ≤ h, h ≤ n] (.arr id sz (min h.toNat n))
      | _, _ => .no) else .no
    | _, _ => .no
def extractQ (i : Nat) (x : AV) : Q :=
  match x with
  | .d (.tup vs) => optQ vs[i]? fun y => .ret (.d y)
  | .tup vs => optQ vs[i]? .ret
  | _ => .no
def unQ (op : UnOp) (x : AV) : Q :=
  match op, x with
  | .not, .d (.bool b) => .ret (.d (.bool (!b)))
  | .neg, .d (.int k n) => .ret (.d (.int k (k.wrap (0 - n))))
  | .xor, .d (.int k n) => .ret (.d (.int k (k.wrap (BitVec.ofInt k.bits (if k.signed then -1 else k.max) ^^^ BitVec.ofInt k.bits n).toNat)))
  | _, _ => .no
def convertQ (P : Program) (s t : TypeId) (x : AV) : Q :=
  optQ (P.underlying s) fun c => optQ (P.underlying t) fun d => match c, d, x with
    | .int _, .int k, .d (.int _ n) => .ret (.d (.int k (k.wrap n)))
    | .string, .string, .d (.str s) => .ret (.d (.str s))
    | _, _, _ => .no
def makeFuncQ (fn : Fn) (first cap : List AV) : Q :=
  match fn with
  | .func f => if first.length = 0 then .ret (.fn f cap) else .no
  | _ => .no
def nilCheckQ (x : AV) : Q :=
  match x with
  | .ptr d off => .ret (.ptr d off)
  | .fn f c => .ret (.fn f c)
  | _ => .no
def lenQ (P : Program) (args : List AV) (ts : List TypeId) : Q :=
  match args, ts with
  | [x], [t] => optQ (P.underlying t) fun d => (match d, x with
      | .string, .d (.str s) => .ret (.d (.int .i64 s.length))
      | .slice _, .d (.sl _ n _) => .ret (.d (.int .i64 n))
      | .slice _, .ap _ n _ _ => .ret (.d (.int .i64 n))
      | .slice _, .arr _ _ n => .ret (.d (.int .i64 n))
      | .slice _, .vec _ _ n => .ret (.d (.int .i64 n))
      | _, _ => .no)
  | _, _ => .no
def makeSliceQ (P : Program) (id : Nat) (t : TypeId) (l c : AV) : Q :=
  optQ (elemT P t) fun el => optQ (asInt l) fun n => optQ (asInt c) fun m => optQ (zeroA P el) fun z => optQ (P.info? el) fun i =>
    match unD z with
    | some [zd] => if i.size = 1 ∧ zd.one = true then { ob := [0 ≤ n, n = m, n * i.bytes ≤ 140737488355328, n ≤ 9223372036854775807], v := .arr id 1 n.toNat, new := some (.arr 1 n.toNat fun _ => zd) } else .no
    | _ => .no
def appendQ (P : Program) (id : Nat) (args : List AV) (ts : List TypeId) : Q :=
  match args, ts with
  | [s, x], [t, u] =>
    if t = u then
      optQ (elemT P t) fun el => optQ (asSl x) fun (sz, m, g) => match s with
        | .ap z n f r => (match r with
          | .nl => if n = 0 then appQ P el sz m fun b z => { ob := [m * b ≤ 140737488355328], v := .ap z m g (.tok id el), tok := true } else .no
          | .tok tk te => appQ P el sz m fun b y => if te = el ∧ z = y then { ob := [(n + m) * b ≤ 140737488355328], v := .ap z (n + m) (appF n f g) (.tok id el), tok := true, kill := some tk } else .no)
        | _ => .no
    else .no
  | _, _ => .no
def fillL (off : Nat) : List D → List D → List D
  | [], cs => cs
  | x :: l, cs => fillL (off + 1) l (cs.set off x)
/-- Element y, with x put at an offset. -/
def setD (y : D) (off : Nat) (x : D) : D := match y with
  | .agg cs => .agg (fillL off x.cells cs)
  | _ => x
def storeQ (P : Program) (t : TypeId) (hp : Nat → Option Ob) (a x : AV) : Q :=
  match a with
  | .ptr d off =>
    match hp d with
    | some (.cells cs) => if 0 < sizeT P t ∧ x.cells.length = sizeT P t ∧ off + sizeT P t ≤ cs.length ∧ x.cells.all AV.one = true then { upd := some (d, .cells (fillA off x.cells cs)) } else .no
    | _ => .no
  | .pa d sz i off =>
    match hp d, x with
    | some (.arr z n f), .d y => if off = 0 ∧ z = sz ∧ sizeT P t = sz ∧ 0 < sz ∧ y.cells.length = sz ∧ y.cells.all D.one = true then { ob := [i < n], upd := some (d, .arr sz n fun k => if k = i then y else f k) } else .no
    | _, _ => .no
  | .pv d sz i off =>
    match hp d, coldA x with
    | some (.vec e z n f), some y => if z = sz ∧ sizeT P t = y.cells.length ∧ 0 < sizeT P t ∧ off + y.cells.length ≤ sz ∧ (f i).cells.length = sz ∧ y.cells.all D.one = true ∧ (f i).cells.all D.one = true then { ob := [i < n], upd := some (d, .vec e sz n fun k => if k = i then setD (f i) off y else f k) } else .no
    | _, _ => .no
  | _ => .no
def copyQ (P : Program) (hp : Nat → Option Ob) (args : List AV) (ts : List TypeId) : Q :=
  match args, ts with
  | [s, x], [t, _] =>
    optQ (elemT P t) fun el => optQ (asSl x) fun (z, m, g) => match s with
      | .arr d sz n => (match hp d with
        | some (.arr s' k f) => if s' = sz ∧ (z = sz ∨ m = 0) ∧ sizeT P el = sz ∧ sz = 1 then { ob := [k = n], v := .d (.int .i64 (min m n : Nat)), upd := some (d, .arr sz k fun i => if i < m then g i else f i) } else .no
        | _ => .no)
      | _ => .no
  | _, _ => .no
def mapT (P : Program) (t : TypeId) : Option (TypeId × TypeId) := match P.underlying t with
  | some (.map k e) => (match P.underlying k, P.underlying e with
    | some .string, some (.int .i64) => (match P.info? e with
      | some i => (match i.zero with
        | some (.int .i64 z) => if z = 0 then some (k, e) else none
        | _ => none)
      | none => none)
    | _, _ => none)
  | _ => none
def makeMapQ (P : Program) (id : Nat) (t : TypeId) : Q := optQ (mapT P t) fun (k, e) => { v := .mp id, new := some (.map P k e 0 fun _ => none) }
def lookupQ (P : Program) (t : TypeId) (hp : Nat → Option Ob) (m x : AV) : Q :=
  optQ (mapT P t) fun (k, e) => match m, x with
    | .mp id, .d (.str s) => (match hp id with
      | some (.map Q' k' e' _ f) => if k' = k ∧ e' = e then .when [Q' = P, s.length ≤ maxLen] (.d (.tup [.int .i64 ((f s).getD 0), .bool (f s).isSome])) else .no
      | _ => .no)
    | _, _ => .no
def mapUpdateQ (P : Program) (t : TypeId) (hp : Nat → Option Ob) (m x y : AV) : Q :=
  optQ (mapT P t) fun (k, e) => match m, x, y with
    | .mp id, .d (.str s), .d (.int .i64 v) => (match hp id with
      | some (.map Q' k' e' n f) => if k' = k ∧ e' = e then { ob := [Q' = P, s.length ≤ maxLen, n < maxLen, (Lit.int .i64 v).wf = true], upd := some (id, .map Q' k e (n + 1) fun q => if q = s then some v else f q) } else .no
      | _ => .no)
    | _, _, _ => .no
def minMaxQ (b : Bool) (args : List AV) : Q := optQ (minMax b args) fun (k, n) => .ret (.d (.int k n))
def Q.quiet (q : Q) : Q := { ok := q.ok, ob := q.ob, v := q.v, new := q.new, tok := q.tok }
def Q.val (q : Q) : Q := { ok := q.ok, ob := q.ob, v := q.v }
def qop (P : Program) (o : Op) (e : Operand → AV) (hp : Nat → Option Ob) (id : Nat) : Q :=
  match o with
  | .move x | .assign x => .ret (e x)
  | .pick c a b => (pickQ (e c) (e a) (e b) (isBool false b) (isBool true a)).val
  | .alloc t => (allocQ P id t).quiet
  | .box _ x => (boxQ id (e x)).quiet
  | .build t parts => (buildQ P t parts.toList e).val
  | .buildSlice t len parts => (buildSliceQ P id t len parts.toList e).quiet
  | .load t a => if (P.underlying t).isSome = true then (loadQ P t hp (e a)).val else .no
  | .fieldAddr t x i => (fieldAddrQ P t i (e x)).val
  | .field t x i => (fieldQ P t i (e x)).val
  | .indexAddr t x i => (indexAddrQ P t (e x) (e i)).val
  | .index t x i => (indexQ P t (e x) (e i)).val
  | .slice t x lo hi none => (sliceQ P t (e x) (optInt e lo) (optInt e hi)).val
  | .extract x i => (extractQ i (e x)).val
  | .binOp op t x y _ => (binQ P op t (e x) (e y)).val
  | .unOp op _ x => (unQ op (e x)).val
  | .convert s t x => (convertQ P s t (e x)).val
  | .makeFunc fn first cap => (makeFuncQ fn (first.toList.map e) (cap.toList.map e)).val
  | .nilCheck x => (nilCheckQ (e x)).val
  | .makeSlice t l c => (makeSliceQ P id t (e l) (e c)).quiet
  | .call { callee := .builtin .len, args, argTypes } => (lenQ P (args.toList.map e) argTypes.toList).val
  | .call { callee := .builtin .min, args, .. } => (minMaxQ false (args.toList.map e)).val
  | .call { callee := .builtin .max, args, .. } => (minMaxQ true (args.toList.map e)).val
  | .store t a x => storeQ P t hp (e a) (e x)
  | .makeMap t none => (makeMapQ P id t).quiet
  | .lookup t m x true => (lookupQ P t hp (e m) (e x)).val
  | .mapUpdate t m x y => mapUpdateQ P t hp (e m) (e x) (e y)
  | .call { callee := .builtin .copy, args, argTypes } => copyQ P hp (args.toList.map e) argTypes.toList
  | .call { callee := .builtin .append, args, argTypes } => appendQ P id (args.toList.map e) argTypes.toList
  | _ => .no

end Go.Av
