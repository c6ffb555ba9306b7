/- A part of the proof. -/
import Derived.WalkKit
import Derived.Deep.Draws
import Derived.Deep.AppendLies
import Derived.Maps.AppendAt
import Derived.OwnWalk
import Derived.RegionTactic
import Derived.Lib.LaidTab
import Derived.Lib.ItoaNum
import Derived.Maps.OwnSet
import Derived.Deep.MidRow
import Derived.Laws.Slices
import Derived.Laws.Strings
import Derived.ChangeKeysEq
import Derived.Laws.StructEq
import Derived.WideLaws
import Derived.Laws.Runes
import Derived.Laws.BytesString
import Derived.Laws.Cells
import Derived.Great.BuildSlice
import Derived.Laws.MakeOwn
import Derived.Laws.CopyRow
import Derived.Lib.AppendStr
import Derived.StringKeys
set_option linter.unusedVariables false
set_option linter.unusedSimpArgs false
set_option linter.unusedSectionVars false
namespace Go.Base
open Go.RowKit
abbrev Gv (w w':World):Prop:=Below w.heap.size w w'
theorem dv {w:World} {a:Addr} {v:Value} (h:w.cell? a=some v):a.block < w.heap.size:=by
 rcases Nat.lt_or_ge a.block w.heap.size with hlt | hge
 ·exact hlt
 ·unfold World.cell? at h
  rw[Array.getElem?_eq_none hge]at h
  cases h
structure Rd (w:World) (size:Nat) (A:Option Addr) (n c:Nat) (xs:List Value):Prop where
 len:xs.length=n * size
 cap:n≤c
 max:c≤maxLen
 at_:0 < n→∃ b o,A=some ⟨b,o,none⟩∧b < w.heap.size∧∀ j u,xs[j]?=some u→w.cell? ⟨b,o+j,none⟩=some u
section
variable {w w':World} {size n c:Nat} {A:Option Addr} {xs:List Value}
theorem Rd.nil_ (w:World) (size:Nat) (A:Option Addr) (c:Nat) (hc:c≤maxLen):Rd w size A 0 c []:=⟨by simp,Nat.zero_le _,hc,fun h=>absurd h (by omega)⟩
end
section
variable {P:Program} (w:World)
theorem Mw (base:Nat) (t ty e:TypeId) (i:TypeInfo) (size:Nat) (ht:P.underlying t=some (.slice e)) (hi:P.info? e=some i)
  (v:Value) (n:Nat) (xs:List Value) (hown:w.ownsRow base e size v n xs) (c:Nat):(Builtin.append_ #[t,t] ty #[v,.slice none 0 c]).run P w=.ok v w:=by
 rcases hown.2 with⟨rfl,rfl⟩ | ⟨g,cap,cur,rfl,_,_,hnc,_⟩
 ·simp[Builtin.append_,run_underlying ht,sizeOf,typeInfo,hi,Builtin.lenOf,Builtin.firstCells]
 ·simp[Builtin.append_,run_underlying ht,sizeOf,typeInfo,hi,Builtin.lenOf,Builtin.firstCells,hnc,storeCells]
theorem Eg (base:Nat) (t ty e:TypeId) (i:TypeInfo) (z:Value) (size bytes:Nat) (ht:P.underlying t=some (.slice e)) (hi:P.info? e=some i) (hz:i.zero=some z)
  (hsize:i.size=size) (hby:i.bytes=bytes) (hzs:z.cells.size=size) (hsz:0 < size)
  (v:Value) (n:Nat) (xs:List Value) (hown:w.ownsRow base e size v n xs)
  (A:Option Addr) (m c:Nat) (news:List Value) (hr:Rd w size A m c news) (h1:∀ u∈news,u.oneCell'=true)
  (h63:n+m≤maxLen) (hbytes:(n+m) * bytes≤140737488355328) (hbase:base≤w.heap.size) :
  ∃ v' w',(Builtin.append_ #[t,t] ty #[v,.slice A m c]).run P w=.ok v' w'∧w'.ownsRow base e size v' (n+m) (xs++news)∧w.grownBy w' v.ownBlock ∧
   (v'.ownBlock=v.ownBlock∨v'.ownBlock=some w.heap.size):=by
 have far (a:Addr) (j:Nat):a.spot=none→a.add j=⟨a.block,a.off+j,none⟩:=by
  intro h
  unfold Addr.add
  split
  ·rename_i h0;subst h0;cases a;simp at h;simp[h]
  ·rfl
 rcases A with _ | ad
 ·have hm:m=0:=by
   rcases Nat.eq_zero_or_pos m with h0 | h0
   ·exact h0
   ·obtain⟨_,_,h,_⟩:=hr.at_ h0
    cases h
  subst hm
  have hn:news=[]:=List.eq_nil_of_length_eq_zero (by simpa using hr.len)
  subst hn
  exact⟨v,w,Mw w base t ty e i size ht hi v n xs hown c,by simpa using hown,World.grownBy.refl w _,.inl rfl⟩
 ·have hcells:∀ j u,news[j]?=some u→w.cell? (ad.add j)=some u:=by
   intro j u hu
   rcases Nat.eq_zero_or_pos m with h0 | h0
   ·subst h0
    have hn:news=[]:=List.eq_nil_of_length_eq_zero (by simpa using hr.len)
    subst hn
    simp at hu
   ·obtain⟨b,o,h,_,hc⟩:=hr.at_ h0
    injection h with h
    subst h
    rw[far _ _ rfl]
    exact hc j u hu
  obtain⟨v',w',hrun,h2,h3,_,h5⟩:=run_append_own_at (P:=P) w base t ty e i z size bytes ht hi hz hsize hby hzs hsz v n xs hown ad m c news hr.len hcells h1 h63 hbytes hbase
  exact⟨v',w',hrun,h2,h3,h5⟩
end
end Go.Base
namespace Go.Av
open Go.RowKit Go.Base
inductive D where
 | bool (b:Bool)
 | int (k:IntKind) (n:Int)
 | str (s:List UInt8)
 /-- a slice (nil or not): n elements of sz cells -/
 | sl (sz n:Nat) (f:Nat→D)
 | agg (cs:List D)
 | tup (vs:List D)
 | bad
 /-- an error: is there one -/
 | err (b:Bool)
instance:Inhabited D:=⟨.bad⟩
def D.cells:D→List D
 | .agg cs=>cs
 | x=>[x]
def D.one:D→Bool
 | .agg _ | .tup _ | .bad=>false
 | _=>true
inductive Yy where
 | nl
 | tok (t:Nat) (e:TypeId)
inductive AV where
 | d (x:D)
 | ap (sz n:Nat) (f:Nat→D) (r:Yy)
 | ptr (id off:Nat)
 | ep (x:D) (off:Nat)
 | pa (id sz i off:Nat)
 | arr (id sz n:Nat)
 /-- an own row of n elements that may grow (it may be nil) -/
 | vec (id sz n:Nat)
 /-- a place in it -/
 | pv (id sz i off:Nat)
 | mp (id:Nat)
 | fn (f:FuncId) (cap:List AV)
 | nilp
 | nilf
 /-- this very value -/
 | raw (v:Value)
 | agg (cs:List AV)
 | tup (vs:List AV)
 | any
instance:Inhabited AV:=⟨.any⟩
def AV.cells:AV→List AV
 | .d (.agg cs)=>cs.map .d
 | .agg cs=>cs
 | x=>[x]
def AV.one:AV→Bool
 | .d x=>x.one
 | .agg _ | .tup _ | .any | .raw _=>false
 | _=>true
inductive Ob where
 | cells (cs:List AV)
 | arr (sz n:Nat) (f:Nat→D)
 /-- a map from strings to integers: no more than n entries;what it holds at each key -/
 | map (P:Program) (k e:TypeId) (n:Nat) (f:List UInt8→Option Int)
 /-- a row that may grow -/
 | vec (e:TypeId) (sz n:Nat) (f:Nat→D)
 /-- what nothing is known of -/
 | gone
 /-- a new builder of strings,of type T -/
 | bld0 (T:TypeId)
 /-- a map from strings to flat data: it has n entries;at which keys;what it holds there (elsewhere: the zero value) -/
 | gm (P:Program) (k e:TypeId) (n:Nat) (h:List UInt8→Bool) (f:List UInt8→D)
 /-- n cells: one of them (if it is told) a value,the others what vs says -/
 | vals (n:Nat) (vs:Nat→Value) (x:Option (Nat×AV))
def Ob.ok:Ob→Bool
 | .gone=>false
 | _=>true
def Ob.isBlk:Ob→Bool
 | .gone=>false
 | .vec ..=>false
 | _=>true
def Bp:List (Nat×AV)→Nat→AV
 | [],_=>.any
 | (i,v) :: l,t=>if i=t then v else Bp l t
def Af:List (Nat×Ob)→Nat→Option Ob
 | [],_=>none
 | (i,v) :: l,t=>if i=t then some v else Af l t
def W9:List (Nat×D)→Nat→D
 | [],_=>.bad
 | (i,v) :: l,t=>if i=t then v else W9 l t
structure St where
 fr:List (Nat×AV)
 hp:List (Nat×Ob)
 live:List Nat
 nx:Nat
def Dw:Value→AV
 | .bool b=>.d (.bool b)
 | .int k n=>.d (.int k n)
 | .string s=>.d (.str s.data.toList)
 | .slice none 0 0=>.ap 0 0 (fun _=>.bad) .nl
 | .pointer none=>.nilp
 | .nilFunc=>.nilf
 | .nilIface=>.raw .nilIface
 | _=>.any
def Ky:List AV→Option (List D)
 | []=>some []
 | .d x :: l=>(Ky l).map (x :: ·)
 | _ :: _=>none
def Z2 (l:List AV):AV:=match Ky l with | some ds=>.d (.agg ds) | none=>.agg l
def Ap (P:Program) (t:TypeId):Nat:=match P.info? t with | some i=>i.size | none=>0
def Fo (P:Program) (t:TypeId):Bool:=match P.underlying t with | some (.struct _)=>true | some (.array ..)=>true | _=>false
def Kj (P:Program) (t:TypeId):Option TypeId:=match P.underlying t with | some (.slice e)=>some e | _=>none
def Px (P:Program) (t:TypeId):Option (List AV):=match P.info? t with | some i=>(match i.zero with | some v=>some (v.cells.toList.map Dw) | none=>none) | none=>none
structure OT where
 r:AV
 ids:List Nat
 lv:List Nat
 ups:List (Nat×Ob)
 toks:List Nat
structure Q where
 ok:Bool:=true
 ob:List Prop:=[]
 v:AV:=.any
 new:Option Ob:=none
 tok:Bool:=false
 upd:Option (Nat×Ob):=none
 kill:Option Nat:=none
 mo:Option OT:=none
def Q.no:Q:={ ok:=false }
def Q.ret (v:AV):Q:={ v }
def Q.when (ob:List Prop) (v:AV):Q:={ ob,v }
def Ui (op:BinOp) (k:IntKind) (a b:Int):Q :=
 match op with
 | .add=>.ret (.d (.int k (k.wrap (a+b))))
 | .sub=>.ret (.d (.int k (k.wrap (a - b))))
 | .mul=>.ret (.d (.int k (k.wrap (a * b))))
 | .quo=>.when [b≠0] (.d (.int k (k.wrap (a.tdiv b))))
 | .rem=>.when [b≠0] (.d (.int k (a.tmod b)))
 | .and=>.ret (.d (.int k (k.wrap (BitVec.ofInt k.bits a &&& BitVec.ofInt k.bits b).toNat)))
 | .or=>.ret (.d (.int k (k.wrap (BitVec.ofInt k.bits a ||| BitVec.ofInt k.bits b).toNat)))
 | .xor=>.ret (.d (.int k (k.wrap (BitVec.ofInt k.bits a ^^^ BitVec.ofInt k.bits b).toNat)))
 | .andNot=>.ret (.d (.int k (k.wrap (BitVec.ofInt k.bits a &&& ~~~BitVec.ofInt k.bits b).toNat)))
 | .eql=>.ret (.d (.bool (a==b)))
 | .neq=>.ret (.d (.bool (a != b)))
 | .lss=>.ret (.d (.bool (decide (a < b))))
 | .leq=>.ret (.d (.bool (decide (a≤b))))
 | .gtr=>.ret (.d (.bool (decide (b < a))))
 | .geq=>.ret (.d (.bool (decide (b≤a))))
 | _=>.no
def Vo (op:BinOp) (a b:List UInt8):Q :=
 match op with
 | .add=>.when [a.length+b.length≤9223372036854775807] (.d (.str (a++b)))
 | .eql=>.ret (.d (.bool (a==b)))
 | .neq=>.ret (.d (.bool (a != b)))
 | .lss=>.ret (.d (.bool (Op.bytesLess a b)))
 | .leq=>.ret (.d (.bool (Op.bytesLess a b || a==b)))
 | .gtr=>.ret (.d (.bool (!(Op.bytesLess a b || a==b))))
 | .geq=>.ret (.d (.bool (!Op.bytesLess a b)))
 | _=>.no
def N7 (P:Program) (t:TypeId) (cs:List D) (off:Nat):Option D :=
 if Fo P t then(if off+Ap P t≤cs.length then some (.agg ((cs.drop off).take (Ap P t)))else none)else cs[off]?
def eqF (P:Program) (eq:TypeId→D→D→Option Bool):List Field→List D→List D→Option Bool
 | [],_,_=>some true
 | f :: l,xs,ys =>
  if f.name = "_" ∨ (P.underlying f.type).isSome=false then none else
  match N7 P f.type xs f.offset,N7 P f.type ys f.offset with
  | some a,some b =>
   match eq f.type a b,eqF P eq l xs ys with
   | some r,some q=>some (r&&q)
   | _,_=>none
  | _,_=>none
def eqD (P:Program):Nat→TypeId→D→D→Option Bool
 | 0,_,_,_=>none
 | d+1,t,x,y =>
  match P.underlying t,x,y with
  | some (.int _),.int k a,.int k' b=>if k=k' then some (a==b)else none
  | some .bool,.bool a,.bool b=>some (a==b)
  | some .string,.str a,.str b=>some (a==b)
  | some (.struct fs),.agg xs,.agg ys=>if P.stoodInHeld t=true then none else eqF P (eqD P d) fs.toList xs ys
  | _,_,_=>none
def f7 (P:Program) (op:BinOp) (t:TypeId) (b:Bool):Q :=
 match P.underlying t,op with
 | some (.pointer _),.eql=>.ret (.d (.bool b))
 | some (.pointer _),.neq=>.ret (.d (.bool (!b)))
 | _,_=>.no
def ck:Operand→Bool
 | .const .nilIface=>true
 | _=>false
def yx (P:Program) (op:BinOp) (t:TypeId) (x y:AV):Q :=
 match x,y,P.underlying t,op with
 | .d (.err b),.raw .nilIface,some (.interface _),.eql=>.ret (.d (.bool (!b)))
 | .d (.err b),.raw .nilIface,some (.interface _),.neq=>.ret (.d (.bool b))
 | _,_,_,_=>.no
def lz (P:Program) (op:BinOp) (t:TypeId) (x y:AV):Q :=
 match x,y with
 | .d (.int k a),.d (.int k' b) =>
  match op with
  | .shl=>.when [0≤b] (.d (.int k (k.wrap (a * 2 ^ (min b.toNat k.bits)))))
  | .shr=>.when [0≤b] (.d (.int k (a.fdiv (2 ^ (min b.toNat k.bits)))))
  | op=>if k=k' then Ui op k a b else .no
 | .d (.str a),.d (.str b)=>Vo op a b
 | .d (.bool a),.d (.bool b) =>
  match P.underlying t,op with
  | some .bool,.eql=>.ret (.d (.bool (a==b)))
  | some .bool,.neq=>.ret (.d (.bool (a != b)))
  | _,_=>.no
 | .d (.agg a),.d (.agg b) =>
  if P.eqGuardType P.depth t=true then .no else
  match op,eqD P 20 t (.agg a) (.agg b) with
  | .eql,some v=>.ret (.d (.bool v))
  | .neq,some v=>.ret (.d (.bool (!v)))
  | _,_=>.no
 | .nilp,.nilp=>f7 P op t true
 | .ptr _ _,.nilp=>f7 P op t false
 | .ep _ _,.nilp=>f7 P op t false
 | _,_=>.no
def Zl (P:Program) (t:TypeId) (i:Nat):Option Field:=match P.underlying t with | some (.struct fs)=>fs[i]? | _=>none
def Wg (P:Program) (t:TypeId) (cs:List AV) (off:Nat):Option AV :=
 if Fo P t then(if off+Ap P t≤cs.length then some (Z2 ((cs.drop off).take (Ap P t)))else none)else cs[off]?
def B0 {α:Type} (x:Option α) (f:α→Q):Q:=match x with | some v=>f v | none=>.no
def W4 (off:Nat):List AV→List AV→List AV
 | [],cs=>cs
 | x :: l,cs=>W4 (off+1) l (cs.set off x)
def Kg (places:Nat→Option (Nat×Nat)) (e:Operand→AV):List (Nat×Operand)→List AV→Option (List AV)
 | [],cs=>some cs
 | (i,x) :: l,cs=>match places i with
  | some (off,size)=>if(e x).cells.length=size∧off+size≤cs.length∧(e x).cells.all AV.one=true then Kg places e l (W4 off (e x).cells cs)else none
  | none=>none
def Vp (P:Program) (fs:Array Field) (i:Nat):Option (Nat×Nat):=(fs[i]?).map fun f=>(f.offset,Ap P f.type)
def Xq:AV→Option (Nat×Nat×(Nat→D))
 | .d (.sl sz n f)=>some (sz,n,f)
 | .ap sz n f _=>some (sz,n,f)
 | _=>none
def Mx:AV→Option Int
 | .d (.int _ n)=>some n
 | _=>none
def Pb (P:Program) (t:TypeId) (hp:Nat→Option Ob):AV→Q
 | .ptr id off=>match hp id with
  | some (.cells cs)=>B0 (Wg P t cs off) .ret
  | _=>.no
 | .ep x off=>B0 (N7 P t x.cells off) fun y=>.ret (.d y)
 | .pa id sz i off=>match hp id with
  | some (.arr z n f)=>if z=sz then B0 (N7 P t (f i).cells off) fun y=>.when [i < n] (.d y)else .no
  | some (.vals n _ (some (j,a)))=>if sz=1∧off=0∧Fo P t=false then .when [i < n,i=j] a else .no
  | _=>.no
 | .pv id sz i off=>match hp id with
  | some (.vec _ z n f)=>if z=sz then B0 (N7 P t (f i).cells off) fun y=>.when [i < n] (.d y)else .no
  | _=>.no
 | _=>.no
def qy (s:List UInt8) (lo hi:Option Int):Q :=
 match lo,hi with
 | none,none=>.ret (.d (.str s))
 | none,some h=>.when [0≤h,h≤s.length] (.d (.str (s.take h.toNat)))
 | some l,none=>.when [0≤l,l≤s.length] (.d (.str (s.drop l.toNat)))
 | some l,some h=>.when [0≤l,l≤h,h≤s.length] (.d (.str ((s.take h.toNat).drop l.toNat)))
def R8 (sz n:Nat) (f:Nat→D) (lo hi:Option Int):Q :=
 match lo,hi with
 | none,none=>.ret (.d (.sl sz n f))
 | none,some h=>.when [0≤h,h≤n] (.d (.sl sz h.toNat f))
 | some l,none=>.when [0≤l,l≤n] (.d (.sl sz (n - l.toNat) fun i=>f (l.toNat+i)))
 | some l,some h=>.when [0≤l,l≤h,h≤n] (.d (.sl sz (h.toNat - l.toNat) fun i=>f (l.toNat+i)))
def Ft (e:Operand→AV):Option Operand→Option (Option Int)
 | none=>some none
 | some x=>(Mx (e x)).map some
def As (l:List D) (i:Nat):D:=match l[i]? with | some x=>x | none=>.bad
def Eo:List AV→Option (List D)
 | []=>some []
 | .d x :: l=>(Eo l).map (x :: ·)
 | .ap s n f _ :: l=>(Eo l).map (.sl s n f :: ·)
 | _ :: _=>none
def Ow:AV→Option D
 | .d x=>some x
 | .ap s n f _=>some (.sl s n f)
 | .agg l=>(Eo l).map .agg
 | _=>none
def Hl (e:Operand→AV) (sz:Nat):Nat→List (Nat×Operand)→Option (List D)
 | _,[]=>some []
 | i,(j,x) :: l=>if i=j then
   match Ow (e x) with
   | some y=>if y.cells.length=sz∧y.cells.all D.one=true then(Hl e sz (i+1) l).map (y :: ·)else none
   | none=>none
  else none
def Bb (n:Nat) (f g:Nat→D) (i:Nat):D:=if i < n then f i else g (i - n)
def Ei (s:List UInt8) (i:Nat):D:=.int .u8 (match s[i]? with | some b=>(b.toNat:Int) | none=>0)
def minMax (isMax:Bool):List AV→Option (IntKind×Int)
 | [.d (.int k a)]=>some (k,a)
 | [.d (.int k a),.d (.int _ b)]=>some (k,if isMax then(if a < b then b else a)else(if b < a then b else a))
 | [.d (.int k a),.d (.int _ b),.d (.int _ c)]=>some (k,if isMax then(let m:=(if a < b then b else a);if m < c then c else m)else(let m:=(if b < a then b else a);if c < m then c else m))
 | _=>none
def F9 (P:Program) (el:TypeId) (sz m:Nat) (k:Nat→Nat→Q):Q :=
 match P.info? el with
 | some i=>(match i.zero with
  | some z=>if(i.size=sz∨m=0)∧0 < i.size∧0 < i.bytes∧z.cells.size=i.size then k i.bytes i.size else .no
  | none=>.no)
 | none=>.no
def yc (x:Bool) (a:AV):Q:=match a with | .d (.bool y)=>.ret (.d (.bool (x&&y))) | _=>.when [x=false] (.d (.bool false))
def ye (x:Bool) (b:AV):Q:=match b with | .d (.bool z)=>.ret (.d (.bool (x || z))) | _=>.when [x=true] (.d (.bool true))
def cp (c a b:AV) (isF isT:Bool):Q :=
 match c with
 | .d (.bool x) =>
  if isF then yc x a
  else if isT then ye x b
  else .no
 | _=>.no
def J4 (b:Bool):Operand→Bool
 | .const (.bool c)=>c==b
 | _=>false
def firstT (P:Program) (t:TypeId):Option TypeId:=match P.underlying t with
 | some (.struct fs)=>(fs[0]?).map fun f=>f.type
 | _=>none
def selfT (P:Program) (t:TypeId):Bool:=match firstT P t with
 | some f=>(match P.underlying f with
  | some (.pointer u)=>decide (u=t)
  | _=>false)
 | none=>false
def yh (P:Program) (t:TypeId):Bool:=match P.info? t with
 | some i=>(match i.zero with
  | some v=>(match v.cells.toList with
   | [.pointer none,.slice none 0 0]=>(selfT P t || (match firstT P t with | some f=>selfT P f | none=>false))
   | _=>false)
  | none=>false)
 | none=>false
def Z4 (P:Program) (id:Nat) (t:TypeId):Q :=
 if yh P t=true then { v:=.ptr id 0,new:=some (.bld0 t) } else
 B0 (Px P t) fun cs=>if cs.all AV.one=true then { v:=.ptr id 0,new:=some (.cells cs) } else .no
def yi (id:Nat) (x:AV):Q:=if x.cells.all AV.one=true then { v:=.ptr id 0,new:=some (.cells x.cells) } else .no
def U9 (P:Program) (t:TypeId) (parts:List (Nat×Operand)) (e:Operand→AV):Q :=
 B0 (Px P t) fun z=>match P.underlying t with
  | some (.struct fs)=>if fs.toList.all (fun f=>(P.info? f.type).isSome)=true then B0 (Kg (Vp P fs) e parts z) fun cs=>.ret (Z2 cs)else .no
  | some (.array _ el)=>if(P.info? el).isSome=true then B0 (Kg (fun i=>some (i * Ap P el,Ap P el)) e parts z) fun cs=>.ret (Z2 cs)else .no
  | _=>.no
def J3 (P:Program) (id:Nat) (t:TypeId) (len:Nat) (parts:List (Nat×Operand)) (e:Operand→AV):Q :=
 match Kj P t with
 | some el=>B0 (Hl e (Ap P el) 0 parts) fun ds =>
   if ds.length=len∧len * Ap P el≤16777216∧0 < Ap P el∧(Px P el).isSome=true then { v:=.ap (Ap P el) len (As ds) (.tok id el),tok:=true } else .no
 | none=>.no
def Mz (P:Program) (t:TypeId) (i:Nat) (x:AV):Q :=
 B0 (Zl P t i) fun f=>if Ap P f.type=0 then .no else
  match x with
  | .ptr d off=>.ret (.ptr d (off+f.offset))
  | .ep y off=>.ret (.ep y (off+f.offset))
  | .pa d s j off=>.ret (.pa d s j (off+f.offset))
  | .pv d s j off=>.ret (.pv d s j (off+f.offset))
  | _=>.no
def Zk (P:Program) (t:TypeId) (i:Nat) (x:AV):Q :=
 B0 (Zl P t i) fun f=>if(P.underlying f.type).isSome=true then(match x with
  | .d (.agg cs)=>B0 (N7 P f.type cs f.offset) fun y=>.ret (.d y)
  | .agg cs=>B0 (Wg P f.type cs f.offset) .ret
  | _=>.no)else .no
def Kl (P:Program) (t:TypeId) (x i:AV):Q :=
 B0 (Mx i) fun j=>B0 (P.underlying t) fun d=>match d,x with
  | .slice el,.d (.sl sz n f)=>if Ap P el=sz∧0 < sz then .when [0≤j,j < n] (.ep (f j.toNat) 0)else .no
  | .slice el,.ap sz n f _=>if Ap P el=sz∧0 < sz then .when [0≤j,j < n] (.ep (f j.toNat) 0)else .no
  | .slice el,.arr d sz n=>if Ap P el=sz∧0 < sz then .when [0≤j,j < n] (.pa d sz j.toNat 0)else .no
  | .slice el,.vec d sz n=>if Ap P el=sz∧0 < sz then .when [0≤j,j < n] (.pv d sz j.toNat 0)else .no
  | .array len el,.ptr d off=>if 0≤j∧j < len∧0 < Ap P el then .ret (.ptr d (off+j.toNat * Ap P el))else .no
  | _,_=>.no
def Jb:List D→Option (IntKind×List Int)
 | []=>none
 | .int k n :: l=>match l with
  | []=>some (k,[n])
  | _=>match Jb l with
   | some (k',ns)=>if k=k' then some (k,n :: ns)else none
   | none=>none
 | _ :: _=>none
def Uh (P:Program) (t:TypeId) (x i:AV):Q :=
 B0 (Mx i) fun j=>B0 (P.underlying t) fun d=>match d,x with
  | .string,.d (.str s)=>.when [0≤j,j < s.length] (.d (Ei s j.toNat))
  | .array len el,.d (.agg cs)=>(match (if Fo P el=true then none else Jb cs) with
   | some (k,ns)=>if(P.underlying el).isSome=true∧Fo P el=false∧Ap P el=1∧ns.length=len then .when [0≤j,j < len] (.d (.int k (ns.getD j.toNat 0)))else .no
   | none=>if 0≤j∧j < len∧(P.underlying el).isSome=true then B0 (N7 P el cs (j.toNat * Ap P el)) fun y=>.ret (.d y)else .no)
  | .array len el,.agg cs=>if 0≤j∧j < len∧(P.underlying el).isSome=true then B0 (Wg P el cs (j.toNat * Ap P el)) .ret else .no
  | _,_=>.no
def Vl (P:Program) (t:TypeId) (x:AV) (lo hi:Option (Option Int)):Q :=
 B0 lo fun l=>B0 hi fun h=>B0 (P.underlying t) fun d=>match d,x with
  | .string,.d (.str s)=>qy s l h
  | .slice el,.d (.sl sz n f)=>if Ap P el=sz∧0 < sz then R8 sz n f l h else .no
  | .slice el,.ap sz n f _=>if Ap P el=sz∧0 < sz then R8 sz n f l h else .no
  | .slice el,.arr id sz n=>if Ap P el=sz∧0 < sz then(match l,h with
   | none,some h=>.when [0≤h,h≤n] (.arr id sz (min h.toNat n))
   | _,_=>.no)else .no
  | _,_=>.no
def Rt (i:Nat) (x:AV):Q :=
 match x with
 | .d (.tup vs)=>B0 vs[i]? fun y=>.ret (.d y)
 | .tup vs=>B0 vs[i]? .ret
 | _=>.no
def unQ (op:UnOp) (x:AV):Q :=
 match op,x with
 | .not,.d (.bool b)=>.ret (.d (.bool (!b)))
 | .neg,.d (.int k n)=>.ret (.d (.int k (k.wrap (0 - n))))
 | .xor,.d (.int k n)=>.ret (.d (.int k (k.wrap (BitVec.ofInt k.bits (if k.signed then -1 else k.max) ^^^ BitVec.ofInt k.bits n).toNat)))
 | _,_=>.no
def Rp (P:Program) (s t:TypeId) (x:AV):Q :=
 B0 (P.underlying s) fun c=>B0 (P.underlying t) fun d=>match c,d,x with
  | .int _,.int k,.d (.int _ n)=>.ret (.d (.int k (k.wrap n)))
  | .string,.string,.d (.str s)=>.ret (.d (.str s))
  | .int _,.string,.d (.int _ n)=>.ret (.d (.str (Utf8.encode n).data.toList))
  | _,_,_=>.no
def isU8:D→Bool
 | .int .u8 _=>true
 | _=>false
def byteD:D→UInt8
 | .int _ k=>UInt8.ofNat k.toNat
 | _=>0
def Rl (n:Nat) (f:Nat→D):Bool:=(List.range n).all fun i=>isU8 (f i)
def Ey (n:Nat) (f:Nat→D):List UInt8:=(List.range n).map fun i=>byteD (f i)
def Zc (P:Program) (s t:TypeId):Bool:=match P.underlying s,P.underlying t with
 | some (.slice e),some .string=>(match P.underlying e with | some (.int .u8)=>true | _=>false)
 | _,_=>false
def Ua (x:AV):Q:=match Xq x with
 | some (1,n,f)=>.when [0 < n,Rl n f=true] (.d (.str (Ey n f)))
 | _=>.no
def Pe (fn:Fn) (first cap:List AV):Q :=
 match fn with
 | .func f=>if first.length=0 then .ret (.fn f cap)else .no
 | _=>.no
def Pf (x:AV):Q :=
 match x with
 | .ptr d off=>.ret (.ptr d off)
 | .fn f c=>.ret (.fn f c)
 | .pv d s i off=>.ret (.pv d s i off)
 | _=>.no
def zf (P:Program) (args:List AV) (ts:List TypeId):Q :=
 match args,ts with
 | [x],[t]=>B0 (P.underlying t) fun d=>(match d,x with
   | .string,.d (.str s)=>.ret (.d (.int .i64 s.length))
   | .slice _,.d (.sl _ n _)=>.ret (.d (.int .i64 n))
   | .slice _,.ap _ n _ _=>.ret (.d (.int .i64 n))
   | .slice _,.arr _ _ n=>.ret (.d (.int .i64 n))
   | .slice _,.vec _ _ n=>.ret (.d (.int .i64 n))
   | _,_=>.no)
 | _,_=>.no
def zu (id:Nat) (i:TypeInfo) (n m:Int) (z:List AV):Q :=
 match Ky z with
 | some [zd]=>if i.size=1∧zd.one=true then { ob:=[0≤n,n=m,n * i.bytes≤140737488355328,n≤9223372036854775807],v:=.arr id 1 n.toNat,new:=some (.arr 1 n.toNat fun _=>zd) } else .no
 | _=>(match z with
  | [.ap 0 0 _ .nl]=>if i.size=1 then { ob:=[0≤n,n=m,n * i.bytes≤140737488355328,n≤9223372036854775807],v:=.arr id 1 n.toNat,new:=some (.vals n.toNat (fun _=>.slice none 0 0) none) } else .no
  | _=>.no)
def Kr (P:Program) (id:Nat) (t:TypeId) (l c:AV):Q :=
 B0 (Kj P t) fun el=>B0 (Mx l) fun n=>B0 (Mx c) fun m=>B0 (Px P el) fun z=>B0 (P.info? el) fun i=>zu id i n m z
def Hr (P:Program) (id:Nat) (args:List AV) (ts:List TypeId):Q :=
 match args,ts with
 | [s,x],[t,u] =>
  if t=u then
   B0 (Kj P t) fun el=>B0 (Xq x) fun(sz,m,g)=>match s with
    | .ap z n f r=>(match r with
     | .nl=>if n=0 then F9 P el sz m fun b z=>{ ob:=[m * b≤140737488355328],v:=.ap z m g (.tok id el),tok:=true } else .no
     | .tok tk te=>F9 P el sz m fun b y=>if te=el∧z=y then { ob:=[(n+m) * b≤140737488355328],v:=.ap z (n+m) (Bb n f g) (.tok id el),tok:=true,kill:=some tk } else .no)
    | _=>.no
  else .no
 | _,_=>.no
def Zm (off:Nat):List D→List D→List D
 | [],cs=>cs
 | x :: l,cs=>Zm (off+1) l (cs.set off x)
def AA7 (y:D) (off:Nat) (x:D):D:=match y with
 | .agg cs=>.agg (Zm off x.cells cs)
 | _=>x
def Hn (P:Program) (t:TypeId) (hp:Nat→Option Ob) (a x:AV):Q :=
 match a with
 | .ptr d off =>
  match hp d with
  | some (.cells cs)=>if 0 < Ap P t∧x.cells.length=Ap P t∧off+Ap P t≤cs.length∧x.cells.all AV.one=true then { upd:=some (d,.cells (W4 off x.cells cs)) } else .no
  | _=>.no
 | .pa d sz i off =>
  match hp d,x with
  | some (.arr z n f),.d y=>if off=0∧z=sz∧Ap P t=sz∧0 < sz∧y.cells.length=sz∧y.cells.all D.one=true then { ob:=[i < n],upd:=some (d,.arr sz n fun k=>if k=i then y else f k) } else if z=sz∧Ap P t=y.cells.length∧0 < Ap P t∧off+y.cells.length≤sz∧y.cells.all D.one=true then { ob:=[i < n],upd:=some (d,.arr sz n fun k=>if k=i then AA7 (f i) off y else f k) } else .no
  | some (.vals n vs (some (j,_))),x=>if sz=1∧off=0∧Ap P t=1∧x.one=true then { ob:=[i < n,i=j],upd:=some (d,.vals n vs (some (j,x))) } else .no
  | _,_=>.no
 | .pv d sz i off =>
  match hp d,Ow x with
  | some (.vec e z n f),some y=>if z=sz∧Ap P t=y.cells.length∧0 < Ap P t∧off=0∧y.cells.length=sz∧y.cells.all D.one=true then { ob:=[i < n],upd:=some (d,.vec e sz n fun k=>if k=i then y else f k) } else if z=sz∧Ap P t=y.cells.length∧0 < Ap P t∧off+y.cells.length≤sz∧y.cells.all D.one=true then { ob:=[i < n],upd:=some (d,.vec e sz n fun k=>if k=i then AA7 (f i) off y else f k) } else .no
  | _,_=>.no
 | _=>.no
def Kh (P:Program) (hp:Nat→Option Ob) (args:List AV) (ts:List TypeId):Q :=
 match args,ts with
 | [s,x],[t,_] =>
  B0 (Kj P t) fun el=>B0 (Xq x) fun(z,m,g)=>match s with
   | .arr d sz n=>(match hp d with
    | some (.arr s' k f)=>if s'=sz∧(z=sz∨m=0)∧Ap P el=sz∧sz=1 then { ob:=[k=n],v:=.d (.int .i64 (min m n:Nat)),upd:=some (d,.arr sz k fun i=>if i < m then g i else f i) } else .no
    | _=>.no)
   | _=>.no
 | _,_=>.no
def S4 (P:Program) (t:TypeId):Option (TypeId×TypeId×Bool):=match P.underlying t with
 | some (.map k e)=>(match P.underlying k,P.underlying e with
  | some .string,some (.int .i64)=>(match P.info? e with
   | some i=>(match i.zero with
    | some (.int .i64 z)=>if z=0 then some (k,e,false)else none
    | _=>none)
   | none=>none)
  | some (.int .i64),some .bool=>(match P.info? e with
   | some i=>(match i.zero with
    | some (.bool z)=>if z=false then some (k,e,true)else none
    | _=>none)
   | none=>none)
  | _,_=>none)
 | _=>none
def J1:Int→List UInt8
 | .ofNat n=>List.replicate n 1
 | .negSucc n=>0 :: List.replicate n 1
def ze (b:Bool) (x:AV):Option (List UInt8×Prop):=match b,x with
 | false,.d (.str s)=>some (s,s.length≤maxLen)
 | true,.d (.int .i64 z)=>some (J1 z,(Lit.int .i64 z).wf=true)
 | _,_=>none
def valA (b:Bool) (y:AV):Option (Int×List Prop):=match b,y with
 | false,.d (.int .i64 v)=>some (v,[(Lit.int .i64 v).wf=true])
 | true,.d (.bool c)=>some (if c=true then 1 else 0,[])
 | _,_=>none
def au (b ok:Bool) (g:Option Int):AV:=match b,ok with
 | false,true=>.d (.tup [.int .i64 (g.getD 0),.bool g.isSome])
 | false,false=>.d (.int .i64 (g.getD 0))
 | true,true=>.d (.tup [.bool (g.getD 0 != 0),.bool g.isSome])
 | true,false=>.d (.bool (g.getD 0 != 0))
def S3 (P:Program) (id:Nat) (t:TypeId):Q:=B0 (S4 P t) fun(k,e,_)=>{ v:=.mp id,new:=some (.map P k e 0 fun _=>none) }
def Jz (P:Program) (t:TypeId) (hp:Nat→Option Ob) (m x:AV) (ok:Bool):Q :=
 B0 (S4 P t) fun(k,e,b)=>B0 (ze b x) fun(s,kp)=>match m with
  | .mp id=>(match hp id with
   | some (.map Q' k' e' _ f)=>if k'=k∧e'=e then .when [Q'=P,kp] (au b ok (f s))else .no
   | _=>.no)
  | _=>.no
def Cf (P:Program) (t:TypeId) (hp:Nat→Option Ob) (m x y:AV):Q :=
 B0 (S4 P t) fun(k,e,b)=>B0 (ze b x) fun(s,kp)=>B0 (valA b y) fun(v,vp)=>match m with
  | .mp id=>(match hp id with
   | some (.map Q' k' e' n f)=>if k'=k∧e'=e then { ob:=(Q'=P) :: kp :: (n < maxLen) :: vp,upd:=some (id,.map Q' k e (n+1) fun q=>if q=s then some v else f q) } else .no
   | _=>.no)
  | _=>.no
def Vr:Value→Option D
 | .bool b=>some (.bool b)
 | .int k n=>some (.int k n)
 | .string s=>some (.str s.data.toList)
 | _=>none
def Lu:List Value→Option (List D)
 | []=>some []
 | v :: l=>match Vr v,Lu l with
  | some d,some r=>some (d :: r)
  | _,_=>none
def Vq (v:Value):Option D:=match v with
 | .agg cs=>(Lu cs.toList).map .agg
 | v=>Vr v
def Gy:D→Bool
 | .bool _ | .int _ _ | .str _=>true
 | _=>false
def N0:D→Bool
 | .agg l=>l.all Gy
 | x=>Gy x
def mr (P:Program) (t:TypeId):Option (TypeId×TypeId×D):=match P.underlying t with
 | some (.map k e)=>(match P.underlying k,P.info? e with
  | some .string,some i=>(match i.zero with
   | some z=>(Vq z).map fun d=>(k,e,d)
   | none=>none)
  | _,_=>none)
 | _=>none
def W6 (P:Program) (id:Nat) (t:TypeId):Q:=B0 (mr P t) fun(k,e,z)=>{ v:=.mp id,new:=some (.gm P k e 0 (fun _=>false) fun _=>z) }
def Jw (P:Program) (t:TypeId) (hp:Nat→Option Ob) (m x:AV) (ok:Bool):Q :=
 B0 (mr P t) fun(k,e,_)=>match x with
  | .d (.str s)=>(match m with
   | .mp id=>(match hp id with
    | some (.gm Q' k' e' _ h f)=>if k'=k∧e'=e then .when [Q'=P,s.length≤maxLen] (match ok with | true=>.d (.tup [f s,.bool (h s)]) | false=>.d (f s))else .no
    | _=>.no)
   | _=>.no)
  | _=>.no
def Fl (P:Program) (t:TypeId) (hp:Nat→Option Ob) (m x y:AV):Q :=
 B0 (mr P t) fun(k,e,_)=>match x,y with
  | .d (.str s),.d d=>(match m with
   | .mp id=>(match hp id with
    | some (.gm Q' k' e' n h f)=>if k'=k∧e'=e∧N0 d=true then { ob:=[Q'=P,s.length≤maxLen,n < maxLen],upd:=some (id,.gm Q' k e (if h s=true then n else n+1) (fun q=>q==s || h q) fun q=>if q=s then d else f q) } else .no
    | _=>.no)
   | _=>.no)
  | _,_=>.no
def Gj (P:Program) (hp:Nat→Option Ob) (args:List AV) (ts:List TypeId):Q:=match args,ts with
 | [m,x],[t,k2]=>B0 (mr P t) fun(k,e,z)=>(match x with
  | .d (.str s)=>(match m with
   | .mp id=>(match hp id with
    | some (.gm Q' k' e' n h f)=>if k'=k∧e'=e∧k2=k then { ob:=[Q'=P,s.length≤maxLen],upd:=some (id,.gm Q' k e (if h s=true then n - 1 else n) (fun q=>!(q==s)&&h q) fun q=>if q=s then z else f q) } else .no
    | _=>.no)
   | _=>.no)
  | _=>.no)
 | _,_=>.no
def Me (P:Program) (hp:Nat→Option Ob) (args:List AV) (ts:List TypeId):Q:=match args,ts with
 | [m],[t]=>B0 (mr P t) fun(k,e,_)=>(match m with
  | .mp id=>(match hp id with
   | some (.gm Q' k' e' n _ _)=>if k'=k∧e'=e then .when [Q'=P] (.d (.int .i64 n))else .no
   | _=>.no)
  | _=>.no)
 | _,_=>.no
def isMp:List AV→Bool
 | [.mp _]=>true
 | _=>false
def Qs (b:Bool) (args:List AV):Q:=B0 (minMax b args) fun(k,n)=>.ret (.d (.int k n))
def Q.quiet (q:Q):Q:={ ok:=q.ok,ob:=q.ob,v:=q.v,new:=q.new,tok:=q.tok }
def Q.val (q:Q):Q:={ ok:=q.ok,ob:=q.ob,v:=q.v }
def C1 (P:Program) (o:Op) (e:Operand→AV) (hp:Nat→Option Ob) (id:Nat):Q :=
 match o with
 | .move x | .assign x=>.ret (e x)
 | .pick c a b=>(cp (e c) (e a) (e b) (J4 false b) (J4 true a)).val
 | .alloc t=>(Z4 P id t).quiet
 | .box _ x=>(yi id (e x)).quiet
 | .build t parts=>(U9 P t parts.toList e).val
 | .buildSlice t len parts=>(J3 P id t len parts.toList e).quiet
 | .load t a=>if(P.underlying t).isSome=true then(Pb P t hp (e a)).val else .no
 | .fieldAddr t x i=>(Mz P t i (e x)).val
 | .field t x i=>(Zk P t i (e x)).val
 | .indexAddr t x i=>(Kl P t (e x) (e i)).val
 | .index t x i=>(Uh P t (e x) (e i)).val
 | .slice t x lo hi none=>(Vl P t (e x) (Ft e lo) (Ft e hi)).val
 | .extract x i=>(Rt i (e x)).val
 | .binOp op t x y _=>(if ck y=true then yx P op t (e x) (e y)else lz P op t (e x) (e y)).val
 | .unOp op _ x=>(unQ op (e x)).val
 | .convert s t x=>(if Zc P s t=true then Ua (e x)else Rp P s t (e x)).val
 | .makeFunc fn first cap=>(Pe fn (first.toList.map e) (cap.toList.map e)).val
 | .nilCheck x=>(Pf (e x)).val
 | .makeSlice t l c=>(Kr P id t (e l) (e c)).quiet
 | .call { callee:=.builtin .len,args,argTypes }=>(if isMp (args.toList.map e)=true then Me P hp (args.toList.map e) argTypes.toList else zf P (args.toList.map e) argTypes.toList).val
 | .call { callee:=.builtin .min,args,.. }=>(Qs false (args.toList.map e)).val
 | .call { callee:=.builtin .max,args,.. }=>(Qs true (args.toList.map e)).val
 | .store t a x=>Hn P t hp (e a) (e x)
 | .makeMap t none=>(if(S4 P t).isSome=true then S3 P id t else W6 P id t).quiet
 | .lookup t m x b=>(if(S4 P t).isSome=true then Jz P t hp (e m) (e x) b else Jw P t hp (e m) (e x) b).val
 | .mapUpdate t m x y=>if(S4 P t).isSome=true then Cf P t hp (e m) (e x) (e y)else Fl P t hp (e m) (e x) (e y)
 | .insert t m x y=>if(S4 P t).isSome=true then Cf P t hp (e m) (e x) (e y)else Fl P t hp (e m) (e x) (e y)
 | .call { callee:=.builtin .delete,args,argTypes }=>Gj P hp (args.toList.map e) argTypes.toList
 | .call { callee:=.builtin .copy,args,argTypes }=>Kh P hp (args.toList.map e) argTypes.toList
 | .call { callee:=.builtin .append,args,argTypes }=>Hr P id (args.toList.map e) argTypes.toList
 | _=>.no
end Go.Av
namespace Go.Av
open Go.RowKit Go.Base
def Zu : List (Nat × (Array Value → Prop)) :=
  [(8, fun cs => ∃ tp p, cs = #[.iface tp p]), (9, fun cs => ∃ tp p, cs = #[.iface tp p]),
   (0, fun cs => cs = (Lib.pow10Tab.map fun z => Value.int .u64 z).toArray)]
end Go.Av
namespace Go.Av
open Go.RowKit Go.Base
inductive Pl where
 | blk (b:Nat)
 | vec (v:Value) (e:TypeId) (sz:Nat)
def Pl.block:Pl→Option Nat
 | .blk b=>some b
 | .vec v _ _=>v.ownBlock
structure G where
 μ:Nat→Nat→Option Value
 ι:Nat→Option Pl
 τ:Nat→Option (Value×TypeId×Nat)
mutual
def Rep (μ:Nat→Nat→Option Value):D→Value→Prop
 | .bool b,v=>v=.bool b
 | .int k n,v=>v=.int k n
 | .str s,v=>v=.string ⟨⟨s⟩⟩
 | .sl sz n f,v=>∃ A c,v=.slice A n c∧n≤c∧c≤maxLen∧(0 < n→∃ b o,A=some ⟨b,o,none⟩∧∀ i,i < n→∃ u,Rep μ (f i) u∧u.cells.size=sz∧(∀ x∈u.cells,x.oneCell'=true)∧∀ j,j < sz→μ b (o+i * sz+j)=u.cells[j]?)
 | .agg cs,v=>∃ vs:List Value,v=.agg vs.toArray∧RepL μ cs vs
 | .tup cs,v=>∃ vs:List Value,v=.tuple vs.toArray∧RepL μ cs vs
 | .bad,_=>False
 | .err b,v=>if b=true then ∃ t p,v=.iface t p else v=.nilIface
def RepL (μ:Nat→Nat→Option Value):List D→List Value→Prop
 | [],vs=>vs=[]
 | d :: l,vs=>∃ v t,vs=v :: t∧Rep μ d v∧RepL μ l t
end
def RightOk (γ:G) (sz:Nat) (v:Value):Yy→Prop
 | .nl=>v=.slice none 0 0
 | .tok t e=>γ.τ t=some (v,e,sz)∨v=.slice none 0 0
mutual
def RepA (γ:G):AV→Value→Prop
 | .d x,v=>Rep γ.μ x v
 | .ap sz n f r,v=>Rep γ.μ (.sl sz n f) v∧RightOk γ sz v r
 | .ptr id off,v=>∃ b,γ.ι id=some (.blk b)∧v=.pointer (some ⟨b,off,none⟩)
 | .ep x off,v=>∃ b o u,v=.pointer (some ⟨b,o+off,none⟩)∧Rep γ.μ x u∧(∀ x∈u.cells,x.oneCell'=true)∧∀ j,j < u.cells.size→γ.μ b (o+j)=u.cells[j]?
 | .pa id sz i off,v=>∃ b,γ.ι id=some (.blk b)∧v=.pointer (some ⟨b,i * sz+off,none⟩)
 | .arr id _ n,v=>∃ b c,γ.ι id=some (.blk b)∧v=.slice (some ⟨b,0,none⟩) n c∧n≤c∧c≤maxLen
 | .vec id sz n,v=>∃ e A c,γ.ι id=some (.vec v e sz)∧v=.slice A n c∧n≤c∧c≤maxLen∧(0 < n→∃ b,A=some ⟨b,0,none⟩)
 | .pv id sz i off,v=>∃ u e b,γ.ι id=some (.vec u e sz)∧u.ownBlock=some b∧v=.pointer (some ⟨b,i * sz+off,none⟩)
 | .mp id,v=>∃ b,γ.ι id=some (.blk b)∧v=.map (some b)
 | .fn f cap,v=>∃ vs:List Value,v=.func (.func f) #[] vs.toArray∧RepAL γ cap vs
 | .nilp,v=>v=.pointer none
 | .nilf,v=>v=.nilFunc
 | .raw u,v=>v=u
 | .agg cs,v=>∃ vs:List Value,v=.agg vs.toArray∧RepAL γ cs vs
 | .tup cs,v=>∃ vs:List Value,v=.tuple vs.toArray∧RepAL γ cs vs
 | .any,_=>True
def RepAL (γ:G):List AV→List Value→Prop
 | [],vs=>vs=[]
 | d :: l,vs=>∃ v t,vs=v :: t∧RepA γ d v∧RepAL γ l t
end
def MapIs (P:Program) (k e:TypeId) (n:Nat) (f:List UInt8→Option Int) (o:Go.Obj):Prop :=
 ∃ (es:Array MapEntry) (clock:Nat),o=.map es clock∧Go.WideElems.Fit (H:=Unit) P k (plainElem P e) es clock∧es.size≤n ∧
  (P.underlying k=some .string→∀ key:List UInt8,key.length≤maxLen→Maps.has (H:=Unit) (.map ((es.toList.map (Go.WideElems.rg P k (plainElem P e))).foldr DataW.insert [])) (.string key)=(f key).isSome ∧
   DataW.atKey (H:=Unit) (.map ((es.toList.map (Go.WideElems.rg P k (plainElem P e))).foldr DataW.insert [])) (.string key) (.lit (.int .i64 0))=.lit (.int .i64 ((f key).getD 0))) ∧
  (P.underlying k=some (.int .i64)→∀ z:Int,Maps.has (H:=Unit) (.map ((es.toList.map (Go.WideElems.rg P k (plainElem P e))).foldr DataW.insert [])) (.int .i64 z)=(f (J1 z)).isSome ∧
   DataW.atKey (H:=Unit) (.map ((es.toList.map (Go.WideElems.rg P k (plainElem P e))).foldr DataW.insert [])) (.int .i64 z) (.lit (.bool false))=.lit (.bool ((f (J1 z)).getD 0 != 0)))
def My:D→DataW Unit
 | .bool b=>.lit (.bool b)
 | .int k n=>.lit (.int k n)
 | .str s=>.lit (.string s)
 | _=>.nil
def Lc:D→DataW Unit
 | .agg l=>.agg (l.map My)
 | x=>My x
def Kk (v:Value):Option (DataW Unit×List MemPlace):=(Vq v).map fun d=>(Lc d,[])
def GmV (h:List UInt8→Bool) (f:List UInt8→D) (z0:D) (D0:DataW Unit):Prop:=∀ key:List UInt8,key.length≤maxLen→Maps.has D0 (.string key)=h key∧N0 (f key)=true∧D0.atKey (.string key) (Lc z0)=Lc (f key)
def GmIs (P:Program) (k e:TypeId) (n:Nat) (h:List UInt8→Bool) (f:List UInt8→D) (o:Go.Obj):Prop :=
 ∃ (es:Array MapEntry) (clock:Nat) (i:TypeInfo) (z:Value) (z0:D),o=.map es clock∧Go.WideElems.Fit (H:=Unit) P k Kk es clock∧es.size=n∧P.underlying k=some .string∧P.info? e=some i∧i.zero=some z∧Vq z=some z0 ∧
  GmV h f z0 (.map ((es.toList.map (Go.WideElems.rg P k Kk)).foldr DataW.insert []))
def ValAt (γ:G) (vs:Nat→Value) (x:Option (Nat×AV)) (i:Nat) (u:Value):Prop:=match x with
 | none=>u=vs i
 | some (j,a)=>(i≠j→u=vs i)∧(i=j→RepA γ a u)
def RepO (γ:G):Ob→Go.Obj→Prop
 | .cells cs,o=>∃ (vs:List Value) (e:TypeId),o=.cells vs.toArray e (0,0)∧RepAL γ cs vs∧∀ x∈vs,x.oneCell'=true
 | .arr sz n f,o=>∃ (vs:Array Value) (e:TypeId),o=.cells vs e (0,0)∧n * sz≤vs.size∧∀ i,i < n→∃ u,Rep γ.μ (f i) u∧u.cells.size=sz∧(∀ x∈u.cells,x.oneCell'=true)∧∀ j,j < sz→vs[i * sz+j]?=u.cells[j]?
 | .map P k e n f,o=>MapIs P k e n f o
 | .vec ..,_=>False
 | .gone,_=>False
 | .bld0 T,o=>o=.cells #[.pointer none,.slice none 0 0] T (0,0)
 | .gm P k e n h f,o=>GmIs P k e n h f o
 | .vals n vs x,o=>∃ (us:Array Value) (e:TypeId),o=.cells us e (0,0)∧us.size=n∧∀ i,i < n→∃ u,us[i]?=some u∧u.oneCell'=true∧ValAt γ vs x i u
def Kd (μ:Nat→Nat→Option Value) (w:World):Prop:=∀ b o v,μ b o=some v→w.cell? ⟨b,o,none⟩=some v
def LeM (μ ν:Nat→Nat→Option Value):Prop:=∀ b o v,μ b o=some v→ν b o=some v
theorem LeM.refl (μ:Nat→Nat→Option Value):LeM μ μ:=fun _ _ _ h=>h
mutual
theorem Rep.mono {μ ν:Nat→Nat→Option Value} (h:LeM μ ν):∀ (d:D) (v:Value),Rep μ d v→Rep ν d v
 | .bool b,v,hr=>by simpa only[Rep] using hr
 | .int k n,v,hr=>by simpa only[Rep] using hr
 | .str s,v,hr=>by simpa only[Rep] using hr
 | .bad,v,hr=>by simp only[Rep]at hr
 | .err b,v,hr=>by simpa only[Rep] using hr
 | .sl sz n f,v,hr=>by
  simp only[Rep]at hr ⊢
  obtain⟨A,c,e,h1,h2,h3⟩:=hr
  refine⟨A,c,e,h1,h2,fun hn=>?_⟩
  obtain⟨b,o,ea,h4⟩:=h3 hn
  refine⟨b,o,ea,fun i hi=>?_⟩
  obtain⟨u,h5,h6,h7,h8⟩:=h4 i hi
  refine⟨u,Rep.mono h (f i) u h5,h6,h7,fun j hj=>?_⟩
  have hlt:j < u.cells.size:=by rw[h6];exact hj
  have:=h8 j hj
  rw[Array.getElem?_eq_getElem hlt]at this ⊢
  exact h _ _ _ this
 | .agg cs,v,hr=>by
  simp only[Rep]at hr ⊢
  obtain⟨vs,e,hr⟩:=hr
  exact⟨vs,e,RepL.mono h cs vs hr⟩
 | .tup cs,v,hr=>by
  simp only[Rep]at hr ⊢
  obtain⟨vs,e,hr⟩:=hr
  exact⟨vs,e,RepL.mono h cs vs hr⟩
theorem RepL.mono {μ ν:Nat→Nat→Option Value} (h:LeM μ ν):∀ (d:List D) (v:List Value),RepL μ d v→RepL ν d v
 | [],_,hr=>by simpa only[RepL] using hr
 | d :: l,v,hr=>by
  simp only[RepL]at hr ⊢
  obtain⟨x,t,e,h1,h2⟩:=hr
  exact⟨x,t,e,Rep.mono h d x h1,RepL.mono h l t h2⟩
end
structure LeG (γ γ':G):Prop where
 μ:LeM γ.μ γ'.μ
 ι:∀ i b,γ.ι i=some b→γ'.ι i=some b
 τ:∀ i b,γ.τ i=some b→γ'.τ i=some b
theorem LeG.refl (γ:G):LeG γ γ:=⟨LeM.refl _,fun _ _ h=>h,fun _ _ h=>h⟩
theorem LeG.trans {a b c:G} (h:LeG a b) (k:LeG b c):LeG a c:=⟨fun x y v e=>k.μ x y v (h.μ x y v e),fun i b e=>k.ι i b (h.ι i b e),fun i b e=>k.τ i b (h.τ i b e)⟩
theorem RightOk.mono {γ γ':G} (h:LeG γ γ') {sz:Nat} {v:Value} {r:Yy} (hr:RightOk γ sz v r):RightOk γ' sz v r:=by
 cases r with
 | nl=>exact hr
 | tok t e=>exact hr.imp (h.τ _ _) id
mutual
theorem RepA.mono {γ γ':G} (h:LeG γ γ'):∀ (d:AV) (v:Value),RepA γ d v→RepA γ' d v
 | .d x,v,hr=>by simp only[RepA]at hr ⊢;exact Rep.mono h.μ _ _ hr
 | .ap sz n f r,v,hr=>by simp only[RepA]at hr ⊢;exact⟨Rep.mono h.μ _ _ hr.1,hr.2.mono h⟩
 | .ptr id off,v,hr=>by simp only[RepA]at hr ⊢;obtain⟨b,e,e2⟩:=hr;exact⟨b,h.ι _ _ e,e2⟩
 | .ep x off,v,hr=>by
  simp only[RepA]at hr ⊢
  obtain⟨b,o,u,e,h1,h3,h2⟩:=hr
  refine⟨b,o,u,e,Rep.mono h.μ _ _ h1,h3,fun j hj=>?_⟩
  have:=h2 j hj
  rw[Array.getElem?_eq_getElem hj]at this ⊢
  exact h.μ _ _ _ this
 | .pa id sz i off,v,hr=>by simp only[RepA]at hr ⊢;obtain⟨b,e,e2⟩:=hr;exact⟨b,h.ι _ _ e,e2⟩
 | .arr id _ n,v,hr=>by simp only[RepA]at hr ⊢;obtain⟨b,c,e,e2⟩:=hr;exact⟨b,c,h.ι _ _ e,e2⟩
 | .vec id _ n,v,hr=>by simp only[RepA]at hr ⊢;obtain⟨e,A,c,e1,e2⟩:=hr;exact⟨e,A,c,h.ι _ _ e1,e2⟩
 | .pv id sz i off,v,hr=>by simp only[RepA]at hr ⊢;obtain⟨u,e,b,e1,e2⟩:=hr;exact⟨u,e,b,h.ι _ _ e1,e2⟩
 | .mp id,v,hr=>by simp only[RepA]at hr ⊢;obtain⟨b,e,e2⟩:=hr;exact⟨b,h.ι _ _ e,e2⟩
 | .fn f cap,v,hr=>by simp only[RepA]at hr ⊢;obtain⟨vs,e,h2⟩:=hr;exact⟨vs,e,RepAL.mono h _ _ h2⟩
 | .nilp,v,hr=>by simpa only[RepA] using hr
 | .nilf,v,hr=>by simpa only[RepA] using hr
 | .raw u,v,hr=>by simpa only[RepA] using hr
 | .agg cs,v,hr=>by simp only[RepA]at hr ⊢;obtain⟨vs,e,h2⟩:=hr;exact⟨vs,e,RepAL.mono h _ _ h2⟩
 | .tup cs,v,hr=>by simp only[RepA]at hr ⊢;obtain⟨vs,e,h2⟩:=hr;exact⟨vs,e,RepAL.mono h _ _ h2⟩
 | .any,v,hr=>by simp only[RepA]
theorem RepAL.mono {γ γ':G} (h:LeG γ γ'):∀ (d:List AV) (v:List Value),RepAL γ d v→RepAL γ' d v
 | [],_,hr=>by simpa only[RepAL] using hr
 | d :: l,v,hr=>by
  simp only[RepAL]at hr ⊢
  obtain⟨x,t,e,h1,h2⟩:=hr
  exact⟨x,t,e,RepA.mono h d x h1,RepAL.mono h l t h2⟩
end
theorem ValAt.mono {γ γ':G} (h:LeG γ γ') {vs:Nat→Value} {x:Option (Nat×AV)} {i:Nat} {u:Value} (hv:ValAt γ vs x i u):ValAt γ' vs x i u:=by
 unfold ValAt at *
 split
 ·exact hv
 ·exact⟨hv.1,fun e=>RepA.mono h _ _ (hv.2 e)⟩
theorem RepO.mono {γ γ':G} (h:LeG γ γ') {o:Ob} {x:Go.Obj} (hr:RepO γ o x):RepO γ' o x:=by
 cases o with
 | cells cs=>obtain⟨vs,e,h1,h2,h3⟩:=hr;exact⟨vs,e,h1,RepAL.mono h _ _ h2,h3⟩
 | arr sz n f =>
  obtain⟨vs,e,h1,h2,h3⟩:=hr
  refine⟨vs,e,h1,h2,fun i hi=>?_⟩
  obtain⟨u,h4,h5⟩:=h3 i hi
  exact⟨u,Rep.mono h.μ _ _ h4,h5⟩
 | map P k e n f=>exact hr
 | vec e sz n f=>exact hr
 | gone=>exact hr
 | bld0 T=>exact hr
 | gm P k e n h f=>exact hr
 | vals n vs x =>
  obtain⟨us,e,h1,h2,h3⟩:=hr
  refine⟨us,e,h1,h2,fun i hi=>?_⟩
  obtain⟨u,h4,h5,h6⟩:=h3 i hi
  exact⟨u,h4,h5,h6.mono h⟩
def Rj (P:Program) (f:FuncId):Prop:=∃ fn,P.funcs[f]?=some fn∧fn.body.isSome=true∧fn.name ≠ "runtime.NumGoroutine"
def Glob (own:Nat→Prop) (w:World):Prop:=∀ q∈Zu,q.1 < w.heap.size∧¬ own q.1∧∃ cs t z,w.heap[q.1]?=some (.cells cs t z)∧q.2 cs
def GlobW (w:World):Prop:=∀ q∈Zu,∃ cs t z,w.heap[q.1]?=some (.cells cs t z)∧q.2 cs
theorem GlobW.lt {w:World} (h:GlobW w) {q:Nat×(Array Value→Prop)} (hq:q∈Zu):q.1 < w.heap.size:=by
 obtain⟨cs,t,z,h1,_⟩:=h q hq
 exact(Array.getElem?_eq_some_iff.1 h1).1
theorem GlobW.glob {w:World} (h:GlobW w):Glob (fun b=>w.heap.size≤b) w:=fun q hq=>⟨h.lt hq,by have:=h.lt hq;show ¬ (w.heap.size≤q.1);omega,h q hq⟩
structure Big (own:Nat→Prop) (w:World):Prop where
 big:∀ b,w.heap.size≤b→own b
 gl:Glob own w
instance {own:Nat→Prop} {w:World}:CoeFun (Big own w) (fun _=>∀ b,w.heap.size≤b→own b):=⟨Big.big⟩
theorem Big.gw {own:Nat→Prop} {w:World} (h:Big own w):GlobW w:=fun q hq=>(h.gl q hq).2.2
theorem Glob.less {own own':Nat→Prop} {w:World} (h:Glob own w) (hl:∀ b,own' b→own b):Glob own' w:=fun q hq=>⟨(h q hq).1,fun e=>(h q hq).2.1 (hl _ e),(h q hq).2.2⟩
def A9 (P:Program) (f:FuncId) (ds:List D) (r:D):Prop :=
 Rj P f∧∀ (μ:Nat→Nat→Option Value) (w:World) (vs:List Value),GlobW w→Kd μ w→RepL μ ds vs →
  Calls P f vs.toArray w fun e w'=>∃ v ν,e=.returned v∧Gv w w'∧(∀ b o,b < w.heap.size→ν b o=μ b o)∧Kd ν w'∧Rep ν r v
def Elems (μ:Nat→Nat→Option Value) (sz n:Nat) (f:Nat→D) (xs:List Value):Prop :=
 ∀ i,i < n→∃ u,Rep μ (f i) u∧u.cells.size=sz∧(∀ x∈u.cells,x.oneCell'=true)∧∀ j,j < sz→xs[i * sz+j]?=u.cells[j]?
def ObjAt (γ:G) (w:World) (o:Ob) (p:Pl):Prop:=match p with
 | .blk b=>∃ x,w.heap[b]?=some x∧RepO γ o x
 | .vec v e sz=>∃ n f xs,o=.vec e sz n f∧0 < sz∧w.ownsRow 0 e sz v n xs∧Elems γ.μ sz n f xs
structure Hp (own:Nat→Prop) (hp:Nat→Option Ob) (live:Nat→Prop) (γ:G) (w:World):Prop where
 fz:Kd γ.μ w
 obj:∀ id o,hp id=some o→o.ok=true→∃ p,γ.ι id=some p∧ObjAt γ w o p∧∀ b,p.block=some b→own b∧∀ k,γ.μ b k=none
 inj:∀ i j oi oj p q,hp i=some oi→hp j=some oj→oi.ok=true→oj.ok=true→i≠j→γ.ι i=some p→γ.ι j=some q→p.block=none∨p.block≠q.block
 tok:∀ t v e sz,live t→γ.τ t=some (v,e,sz)→∃ n xs,w.ownsRow 0 e sz v n xs∧∀ g,v.ownBlock=some g→own g∧(∀ k,n * sz≤k→γ.μ g k=none)∧∀ id o p,hp id=some o→o.ok=true→γ.ι id=some p→p.block≠some g
 tinj:∀ s t v u,live s→live t→s≠t→γ.τ s=some v→γ.τ t=some u→v.1.ownBlock=none∨v.1.ownBlock≠u.1.ownBlock
theorem Elems.mono {μ ν:Nat→Nat→Option Value} (h:LeM μ ν) {sz n:Nat} {f:Nat→D} {xs:List Value} (he:Elems μ sz n f xs):Elems ν sz n f xs:=fun i hi =>
 let ⟨u,h1,h2⟩:=he i hi;⟨u,Rep.mono h _ _ h1,h2⟩
theorem cm {w w':World} {v:Value} {e:TypeId} {sz n:Nat} {xs:List Value} (h:w.ownsRow 0 e sz v n xs) (hb:∀ g,v.ownBlock=some g→w'.heap[g]?=w.heap[g]?):w'.ownsRow 0 e sz v n xs:=by
 obtain⟨h1,h2⟩:=h
 refine⟨h1,h2.imp id ?_⟩
 rintro⟨g,cap,cur,rfl,k1,k2,k3⟩
 exact⟨g,cap,cur,rfl,k1,by rw[hb g rfl];exact k2,k3⟩
theorem ObjAt.kept {γ γ':G} {w w':World} {o:Ob} {p:Pl} (h:ObjAt γ w o p) (le:LeG γ γ') (hb:∀ b,p.block=some b→w'.heap[b]?=w.heap[b]?):ObjAt γ' w' o p:=by
 cases p with
 | blk b=>obtain⟨x,h1,h2⟩:=h;exact⟨x,by rw[hb b rfl];exact h1,h2.mono le⟩
 | vec v e sz=>obtain⟨n,f,xs,h1,h0,h2,h3⟩:=h;exact⟨n,f,xs,h1,h0,cm h2 hb,h3.mono le.μ⟩
theorem ObjAt.lt {γ:G} {w:World} {o:Ob} {p:Pl} (h:ObjAt γ w o p) {b:Nat} (hb:p.block=some b):b < w.heap.size:=by
 cases p with
 | blk b'=>obtain⟨x,h1,h2⟩:=h;simp only[Pl.block,Option.some.injEq]at hb;subst hb;exact(Array.getElem?_eq_some_iff.1 h1).1
 | vec v e sz=>obtain⟨n,f,xs,h1,h0,h2,h3⟩:=h;exact(h2.lt b hb).2
theorem Hp.blk {own:Nat→Prop} {hp:Nat→Option Ob} {live:Nat→Prop} {γ:G} {w:World} (H:Hp own hp live γ w) {id:Nat} {o:Ob} (h:hp id=some o) (hb:o.isBlk=true) :
  ∃ b x,γ.ι id=some (.blk b)∧w.heap[b]?=some x∧RepO γ o x∧own b∧∀ k,γ.μ b k=none:=by
 obtain⟨p,h1,h2,h3⟩:=H.obj id o h (by cases o<;>first | rfl | cases hb)
 cases p with
 | blk b=>obtain⟨x,h4,h5⟩:=h2;exact⟨b,x,h1,h4,h5,h3 b rfl⟩
 | vec v e sz=>obtain⟨n,f,xs,h4,_⟩:=h2;subst h4;cases hb
theorem Hp.vec {own:Nat→Prop} {hp:Nat→Option Ob} {live:Nat→Prop} {γ:G} {w:World} (H:Hp own hp live γ w) {id:Nat} {e:TypeId} {sz n:Nat} {f:Nat→D} (h:hp id=some (.vec e sz n f)) :
  ∃ v xs,γ.ι id=some (.vec v e sz)∧0 < sz∧w.ownsRow 0 e sz v n xs∧Elems γ.μ sz n f xs∧∀ b,v.ownBlock=some b→own b∧∀ k,γ.μ b k=none:=by
 obtain⟨p,h1,h2,h3⟩:=H.obj id _ h rfl
 cases p with
 | blk b=>obtain⟨x,h4,h5⟩:=h2;exact h5.elim
 | vec v e' sz' =>
  obtain⟨n',f',xs,h4,h0,h5,h6⟩:=h2
  injection h4 with g1 g2 g3 g4
  subst g1 g2 g3 g4
  exact⟨v,xs,h1,h0,h5,h6,h3⟩
structure Base (own:Nat→Prop) (w0 w:World):Prop where
 os:w.os=w0.os
 tape:w.tape=w0.tape
 output:w.output=w0.output
 size:w0.heap.size≤w.heap.size
 block:∀ k,k < w0.heap.size→¬ own k→w.heap[k]?=w0.heap[k]?
theorem Glob.at {own:Nat→Prop} {w0 w:World} (h:Glob own w0) (b:Base own w0 w):Glob own w:=fun q hq=>by
 obtain⟨h1,h2,cs,t,z,h3,h4⟩:=h q hq
 exact⟨Nat.lt_of_lt_of_le h1 b.size,h2,cs,t,z,(b.block _ h1 h2).trans h3,h4⟩
theorem Big.at {own:Nat→Prop} {w0 w:World} (h:Big own w0) (b:Base own w0 w):Big own w:=⟨fun k hk=>h.big k (Nat.le_trans b.size hk),h.gl.at b⟩
end Go.Av
namespace Go.Av
open Go.RowKit Go.Base
variable {P:Program} {γ:G} {w:World}
theorem RepL.length {μ:Nat→Nat→Option Value}:∀ {ds:List D} {vs:List Value},RepL μ ds vs→ds.length=vs.length
 | [],_,h=>by simp only[RepL]at h;subst h;rfl
 | _ :: _,_,h=>by simp only[RepL]at h;obtain⟨v,t,rfl,_,h⟩:=h;simp[h.length]
theorem RepL.get {μ:Nat→Nat→Option Value}:∀ {ds:List D} {vs:List Value},RepL μ ds vs→∀ (i:Nat) (d:D),ds[i]?=some d→∃ v,vs[i]?=some v∧Rep μ d v
 | [],_,_,_,_,h=>by simp at h
 | x :: l,_,h,i,d,hd=>by
  simp only[RepL]at h
  obtain⟨v,t,rfl,h1,h2⟩:=h
  cases i with
  | zero=>simp at hd;subst hd;exact⟨v,by simp,h1⟩
  | succ i=>simpa using h2.get i d (by simpa using hd)
theorem RepL.drop {μ:Nat→Nat→Option Value}:∀ {ds:List D} {vs:List Value} (k:Nat),RepL μ ds vs→RepL μ (ds.drop k) (vs.drop k)
 | _,_,0,h=>by simpa using h
 | [],_,k+1,h=>by simp only[RepL]at h;subst h;simp[RepL]
 | x :: l,_,k+1,h=>by simp only[RepL]at h;obtain⟨v,t,rfl,_,h⟩:=h;simpa using h.drop k
theorem RepL.take {μ:Nat→Nat→Option Value}:∀ {ds:List D} {vs:List Value} (k:Nat),RepL μ ds vs→RepL μ (ds.take k) (vs.take k)
 | _,_,0,h=>by simp[RepL]
 | [],_,k+1,h=>by simp only[RepL]at h;subst h;simp[RepL]
 | x :: l,_,k+1,h=>by
  simp only[RepL]at h
  obtain⟨v,t,rfl,h1,h⟩:=h
  simp only[List.take_succ_cons,RepL]
  exact⟨v,_,rfl,h1,h.take k⟩
theorem RepAL.length:∀ {ds:List AV} {vs:List Value},RepAL γ ds vs→ds.length=vs.length
 | [],_,h=>by simp only[RepAL]at h;subst h;rfl
 | _ :: _,_,h=>by simp only[RepAL]at h;obtain⟨v,t,rfl,_,h⟩:=h;simp[h.length]
theorem RepAL.get:∀ {ds:List AV} {vs:List Value},RepAL γ ds vs→∀ (i:Nat) (d:AV),ds[i]?=some d→∃ v,vs[i]?=some v∧RepA γ d v
 | [],_,_,_,_,h=>by simp at h
 | x :: l,_,h,i,d,hd=>by
  simp only[RepAL]at h
  obtain⟨v,t,rfl,h1,h2⟩:=h
  cases i with
  | zero=>simp at hd;subst hd;exact⟨v,by simp,h1⟩
  | succ i=>simpa using h2.get i d (by simpa using hd)
theorem RepAL.drop:∀ {ds:List AV} {vs:List Value} (k:Nat),RepAL γ ds vs→RepAL γ (ds.drop k) (vs.drop k)
 | _,_,0,h=>by simpa using h
 | [],_,k+1,h=>by simp only[RepAL]at h;subst h;simp[RepAL]
 | x :: l,_,k+1,h=>by simp only[RepAL]at h;obtain⟨v,t,rfl,_,h⟩:=h;simpa using h.drop k
theorem RepAL.take:∀ {ds:List AV} {vs:List Value} (k:Nat),RepAL γ ds vs→RepAL γ (ds.take k) (vs.take k)
 | _,_,0,h=>by simp[RepAL]
 | [],_,k+1,h=>by simp only[RepAL]at h;subst h;simp[RepAL]
 | x :: l,_,k+1,h=>by
  simp only[RepAL]at h
  obtain⟨v,t,rfl,h1,h⟩:=h
  simp only[List.take_succ_cons,RepAL]
  exact⟨v,_,rfl,h1,h.take k⟩
theorem RepAL.of_map:∀ {ds:List D} {vs:List Value},RepL γ.μ ds vs→RepAL γ (ds.map .d) vs
 | [],_,h=>by simp only[RepL]at h;subst h;simp[RepAL]
 | x :: l,_,h=>by
  simp only[RepL]at h
  obtain⟨v,t,rfl,h1,h⟩:=h
  simp only[List.map_cons,RepAL,RepA]
  exact⟨v,_,rfl,h1,RepAL.of_map h⟩
theorem RepAL.to_map:∀ {ds:List D} {vs:List Value},RepAL γ (ds.map .d) vs→RepL γ.μ ds vs
 | [],_,h=>by simpa [RepAL,RepL] using h
 | x :: l,_,h=>by
  simp only[List.map_cons,RepAL,RepA]at h
  obtain⟨v,t,rfl,h1,h⟩:=h
  simp only[RepL]
  exact⟨v,t,rfl,h1,RepAL.to_map h⟩
theorem Sn:∀ {l:List AV} {ds:List D},Ky l=some ds→l=ds.map .d
 | [],_,h=>by simp[Ky]at h;subst h;rfl
 | .d x :: l,ds,h=>by
  simp only[Ky,Option.map_eq_some_iff]at h
  obtain⟨r,h1,rfl⟩:=h
  rw[Sn h1];rfl
 | .ap .. :: _,_,h=>by simp[Ky]at h
 | .ptr .. :: _,_,h=>by simp[Ky]at h
 | .ep .. :: _,_,h=>by simp[Ky]at h
 | .pa .. :: _,_,h=>by simp[Ky]at h
 | .arr .. :: _,_,h=>by simp[Ky]at h
 | .mp .. :: _,_,h=>by simp[Ky]at h
 | .vec .. :: _,_,h=>by simp[Ky]at h
 | .pv .. :: _,_,h=>by simp[Ky]at h
 | .fn .. :: _,_,h=>by simp[Ky]at h
 | .agg .. :: _,_,h=>by simp[Ky]at h
 | .tup .. :: _,_,h=>by simp[Ky]at h
 | .any :: _,_,h=>by simp[Ky]at h
theorem Vg {l:List AV} {vs:List Value} (h:RepAL γ l vs):RepA γ (Z2 l) (.agg vs.toArray):=by
 unfold Z2
 split
 ·rename_i ds hd
  rw[Sn hd]at h
  simp only[RepA,Rep]
  exact⟨vs,rfl,h.to_map⟩
 ·simp only[RepA]
  exact⟨vs,rfl,h⟩
theorem Rep.cells_one {μ:Nat→Nat→Option Value} {d:D} {v:Value} (h:Rep μ d v) (ho:d.one=true):v.oneCell'=true∧v.cells=#[v]∧d.cells=[d]:=by
 cases d with
 | bool b=>simp only[Rep]at h;subst h;exact⟨rfl,rfl,rfl⟩
 | int k n=>simp only[Rep]at h;subst h;exact⟨rfl,rfl,rfl⟩
 | str s=>simp only[Rep]at h;subst h;exact⟨rfl,rfl,rfl⟩
 | sl sz n f=>simp only[Rep]at h;obtain⟨A,c,rfl,_⟩:=h;exact⟨rfl,rfl,rfl⟩
 | agg _=>cases ho
 | tup _=>cases ho
 | bad=>cases ho
 | err b =>
  simp only[Rep]at h
  split at h
  ·obtain⟨t,p,rfl⟩:=h;exact⟨rfl,rfl,rfl⟩
  ·subst h;exact⟨rfl,rfl,rfl⟩
theorem RepA.cells_one {d:AV} {v:Value} (h:RepA γ d v) (ho:d.one=true):v.oneCell'=true∧v.cells=#[v]∧d.cells=[d]:=by
 cases d with
 | d x =>
  simp only[RepA]at h
  obtain⟨h1,h2,_⟩:=h.cells_one ho
  refine⟨h1,h2,?_⟩
  cases x<;>first | rfl | cases ho
 | ap sz n f r=>simp only[RepA,Rep]at h;obtain⟨⟨A,c,rfl,_⟩,_⟩:=h;exact⟨rfl,rfl,rfl⟩
 | ptr id off=>simp only[RepA]at h;obtain⟨b,_,rfl⟩:=h;exact⟨rfl,rfl,rfl⟩
 | ep x off=>simp only[RepA]at h;obtain⟨b,o,u,rfl,_⟩:=h;exact⟨rfl,rfl,rfl⟩
 | pa id sz i off=>simp only[RepA]at h;obtain⟨b,_,rfl⟩:=h;exact⟨rfl,rfl,rfl⟩
 | arr id sz n=>simp only[RepA]at h;obtain⟨b,c,_,rfl,_⟩:=h;exact⟨rfl,rfl,rfl⟩
 | mp id=>simp only[RepA]at h;obtain⟨b,_,rfl⟩:=h;exact⟨rfl,rfl,rfl⟩
 | vec id sz n=>simp only[RepA]at h;obtain⟨e,A,c,_,rfl,_⟩:=h;exact⟨rfl,rfl,rfl⟩
 | pv id sz i off=>simp only[RepA]at h;obtain⟨u,e,b,_,_,rfl⟩:=h;exact⟨rfl,rfl,rfl⟩
 | fn f c=>simp only[RepA]at h;obtain⟨vs,rfl,_⟩:=h;exact⟨rfl,rfl,rfl⟩
 | nilp=>simp only[RepA]at h;subst h;exact⟨rfl,rfl,rfl⟩
 | nilf=>simp only[RepA]at h;subst h;exact⟨rfl,rfl,rfl⟩
 | raw _=>cases ho
 | agg _=>cases ho
 | tup _=>cases ho
 | any=>cases ho
theorem Ed {μ:Nat→Nat→Option Value} {d:D} {v:Value} (h:Rep μ d v):RepL μ d.cells v.cells.toList:=by
 by_cases ho:d.one=true
 ·obtain⟨_,h2,h3⟩:=h.cells_one ho
  rw[h2,h3]
  simp only[RepL]
  exact⟨v,[],rfl,h,rfl⟩
 ·cases d with
  | agg cs=>simp only[Rep]at h;obtain⟨vs,rfl,h⟩:=h;simpa [D.cells,Value.cells] using h
  | tup cs =>
   have hh:=h
   simp only[Rep]at h
   obtain⟨vs,rfl,_⟩:=h
   simp only[D.cells,Value.cells,RepL]
   exact⟨_,[],rfl,hh,rfl⟩
  | bad=>simp only[Rep]at h
  | _=>exact absurd rfl ho
theorem Se {d:AV} {v:Value} (h:RepA γ d v) (ho:d.cells.all AV.one=true):RepAL γ d.cells v.cells.toList∧∀ x∈v.cells,x.oneCell'=true:=by
 have key:RepAL γ d.cells v.cells.toList:=by
  by_cases h1:d.one=true
  ·obtain⟨_,h2,h3⟩:=h.cells_one h1
   rw[h2,h3]
   simp only[RepAL]
   exact⟨v,[],rfl,h,rfl⟩
  ·cases d with
   | d x =>
    simp only[RepA]at h
    have:=Ed h
    cases x with
    | agg cs=>simpa [AV.cells,D.cells] using RepAL.of_map this
    | tup cs=>simp[AV.cells,AV.one,D.one]at ho
    | bad=>simp[AV.cells,AV.one,D.one]at ho
    | _=>exact absurd rfl h1
   | agg cs=>simp only[RepA]at h;obtain⟨vs,rfl,h⟩:=h;simpa [AV.cells,Value.cells] using h
   | tup cs=>simp[AV.cells,AV.one]at ho
   | any=>simp[AV.cells,AV.one]at ho
   | raw u=>simp[AV.cells,AV.one]at ho
   | _=>exact absurd rfl h1
 refine⟨key,fun x hx=>?_⟩
 obtain⟨i,hi,rfl⟩:=Array.mem_iff_getElem.1 hx
 have hl:=key.length
 have hi2:i < d.cells.length:=by rw[hl];simpa using hi
 obtain⟨u,hu,hr⟩:=key.get i d.cells[i] (List.getElem?_eq_getElem hi2)
 have hu2:v.cells[i]=u:=by
  have:v.cells.toList[i]?=some v.cells[i]:=by simp[hi]
  rw[this]at hu
  injection hu
 rw[hu2]
 exact(hr.cells_one (List.all_eq_true.1 ho _ (List.getElem_mem hi2))).1
theorem K8 (v:Value):RepA γ (Dw v) v:=by
 unfold Dw
 split<;>simp only[RepA,Rep,RightOk]
 exact⟨⟨none,0,rfl,Nat.le_refl _,by unfold maxLen;omega,fun h=>absurd h (by omega)⟩,trivial⟩
def Stay (P:Program) (γ:G) (w:World) (ρ:Operand→Value) (o:Oper) (v:AV):Prop:=∃ u,(execOp ρ o).run P w=.ok (.value u) w∧RepA γ v u
theorem Co {t:TypeId} {d:TypeDesc} (h:P.underlying t=some d):(underlying t).run P w=.ok d w:=run_underlying h w
theorem Fy {t:TypeId} {i:TypeInfo} (h:P.info? t=some i):(sizeOf t).run P w=.ok (Ap P t) w:=by
 simp[sizeOf,typeInfo,h,Ap]
theorem Yl {t:TypeId} {d:TypeDesc} (h:P.underlying t=some d):∃ i,P.info? t=some i:=by
 unfold Program.underlying at h
 cases hi:P.info? t with
 | none=>rw[hi]at h;cases h
 | some i=>exact⟨i,rfl⟩
theorem mw {t:TypeId} {d:TypeDesc} (h:P.underlying t=some d):(isAgg t).run P w=.ok (Fo P t) w:=by
 unfold isAgg Fo
 rw[Sem.run_bind,Co h,h]
 cases d<;>simp
theorem Cj (b o j:Nat):(⟨b,o,none⟩:Addr).add j=⟨b,o+j,none⟩:=by unfold Addr.add;split<;>simp_all
theorem R6 {t:TypeId} {d:TypeDesc} (hd:P.underlying t=some d) {b o:Nat} {cs:List Value}
  (hc:∀ j v,cs[j]?=some v→w.cell? ⟨b,o+j,none⟩=some v) (v:Value)
  (hv:if Fo P t then Ap P t=cs.length∧v=.agg cs.toArray else cs[0]?=some v):(loadVar t ⟨b,o,none⟩).run P w=.ok v w:=by
 obtain⟨i,hi⟩:=Yl hd
 unfold loadVar
 rw[Sem.run_bind,mw hd]
 split at hv
 ·rename_i ha
  obtain⟨h1,rfl⟩:=hv
  have:=run_loadCells_list (P:=P) w ⟨b,o,none⟩ cs (fun j v hv=>by rw[Cj];exact hc j v hv)
  rw[← h1]at this
  simp[ha,Fy hi,this]
 ·rename_i ha
  have:=hc 0 v hv
  simp only[Nat.add_zero]at this
  simp[ha,this]
theorem Fc {t:TypeId} {d:TypeDesc} (hd:P.underlying t=some d) {cs:List Value} {off:Nat} (v:Value)
  (hv:if Fo P t then off+Ap P t≤cs.length∧v=.agg ((cs.drop off).take (Ap P t)).toArray else cs[off]?=some v):(part t cs.toArray off).run P w=.ok v w:=by
 obtain⟨i,hi⟩:=Yl hd
 unfold part
 rw[Sem.run_bind,mw hd]
 split at hv
 ·rename_i ha
  obtain⟨h1,rfl⟩:=hv
  simp[ha,Fy hi]
 ·rename_i ha
  simp[ha,hv]
theorem Ga {μ:Nat→Nat→Option Value} {t:TypeId} {cs:List D} {off:Nat} {y:D} {vs:List Value} (h:N7 P t cs off=some y) (hr:RepL μ cs vs) :
  ∃ v,Rep μ y v∧if Fo P t then off+Ap P t≤vs.length∧v=.agg ((vs.drop off).take (Ap P t)).toArray else vs[off]?=some v:=by
 unfold N7 at h
 split at h
 ·rename_i ha
  split at h
  ·rename_i hl
   injection h with h
   subst h
   refine⟨_,?_,by rw[if_pos ha];exact⟨by rw[← hr.length];exact hl,rfl⟩⟩
   simp only[Rep]
   exact⟨_,rfl,(hr.drop off).take _⟩
  ·cases h
 ·rename_i ha
  obtain⟨v,h1,h2⟩:=hr.get off y h
  exact⟨v,h2,by rw[if_neg ha];exact h1⟩
theorem N6 {t:TypeId} {cs:List AV} {off:Nat} {y:AV} {vs:List Value} (h:Wg P t cs off=some y) (hr:RepAL γ cs vs) :
  ∃ v,RepA γ y v∧if Fo P t then off+Ap P t≤vs.length∧v=.agg ((vs.drop off).take (Ap P t)).toArray else vs[off]?=some v:=by
 unfold Wg at h
 split at h
 ·rename_i ha
  split at h
  ·rename_i hl
   injection h with h
   subst h
   exact⟨_,Vg ((hr.drop off).take _),by rw[if_pos ha];exact⟨by rw[← hr.length];exact hl,rfl⟩⟩
  ·cases h
 ·rename_i ha
  obtain⟨v,h1,h2⟩:=hr.get off y h
  exact⟨v,h2,by rw[if_neg ha];exact h1⟩
theorem Fq {t:TypeId} {d:TypeDesc} (hd:P.underlying t=some d) {b o off:Nat} {vs:List Value} (hc:∀ j v,vs[j]?=some v→w.cell? ⟨b,o+j,none⟩=some v) (v:Value)
  (hv:if Fo P t then off+Ap P t≤vs.length∧v=.agg ((vs.drop off).take (Ap P t)).toArray else vs[off]?=some v):(Instr.loadAt t (.pointer (some ⟨b,o+off,none⟩))).run P w=.ok v w:=by
 unfold Instr.loadAt Instr.sureAddr
 simp only[Sem.run_bind,Sem.run_pure,Result.andThen_ok]
 split at hv
 ·rename_i ha
  obtain⟨h1,rfl⟩:=hv
  refine R6 hd (cs:=(vs.drop off).take (Ap P t)) ?_ _ (by rw[if_pos ha];exact⟨by simp;omega,rfl⟩)
  intro j u hu
  rw[Nat.add_assoc]
  refine hc _ _ ?_
  rw[List.getElem?_take]at hu
  split at hu
  ·rw[List.getElem?_drop]at hu;exact hu
  ·cases hu
 ·rename_i ha
  refine R6 hd (cs:=vs.drop off) ?_ _ (by rw[if_neg ha];simpa using hv)
  intro j u hu
  rw[Nat.add_assoc]
  refine hc _ _ ?_
  rw[List.getElem?_drop]at hu;exact hu
theorem Ar {α:Type} {x:Option α} {f:α→Q} (h:(B0 x f).ok=true):∃ a,x=some a∧B0 x f=f a:=by
 cases x with
 | none=>cases h
 | some a=>exact⟨a,rfl,rfl⟩
section
variable {own:Nat→Prop} {hp:Nat→Option Ob} {live:Nat→Prop} {ρ:Operand→Value}
theorem stay_load (H:Hp own hp live γ w) {o:Oper} {t:TypeId} {a:Operand} (ho:o.op=.load t a) {d:TypeDesc} (hd:P.underlying t=some d) (p:AV) (hr:RepA γ p (ρ a))
  (hk:(Pb P t hp p).ok=true) (hob:∀ x∈(Pb P t hp p).ob,x):Stay P γ w ρ o (Pb P t hp p).v:=by
 unfold Stay execOp
 simp only[ho]
 unfold Pb at hk hob ⊢
 split at hk
 ·rename_i id off
  simp only[RepA]at hr
  obtain⟨b,hb,hv⟩:=hr
  cases hh:hp id with
  | none=>simp[hh,Q.no]at hk
  | some ob =>
   cases ob with
   | cells cs =>
    simp only[hh]at hk hob ⊢
    obtain⟨y,h1,h2⟩:=Ar hk
    rw[h2]
    obtain⟨b',x,e1,e2,e3,_⟩:=H.blk hh rfl
    obtain rfl:b'=b:=by rw[hb]at e1;injection e1 with e1;injection e1 with e1;exact e1.symm
    obtain⟨vs,el,rfl,e4,_⟩:=e3
    obtain⟨u,h3,h4⟩:=N6 h1 e4
    refine⟨u,?_,h3⟩
    rw[hv]
    have:=Fq (P:=P) (w:=w) hd (b:=b') (o:=0) (off:=off) (vs:=vs) (fun j v hj=>by simp[World.cell?,e2,hj]) u h4
    rw[Nat.zero_add]at this
    simp[this]
   | arr _ _ _=>simp[hh,Q.no]at hk
   | map _ _ _ _ _=>simp[hh,Q.no]at hk
   | gm _ _ _ _ _ _=>simp[hh,Q.no]at hk
   | vals _ _ _=>simp[hh,Q.no]at hk
   | vec _ _ _ _=>simp[hh,Q.no]at hk
   | gone=>simp[hh,Q.no]at hk
   | bld0 _=>simp[hh,Q.no]at hk
 ·rename_i x off
  simp only[RepA]at hr
  obtain⟨b,o',u,hv,h1,_,h2⟩:=hr
  obtain⟨y,h3,h4⟩:=Ar hk
  rw[h4]
  obtain⟨z,h5,h6⟩:=Ga h3 (Ed h1)
  refine⟨z,?_,by simpa only[Q.ret,RepA] using h5⟩
  rw[hv]
  have:=Fq (P:=P) (w:=w) hd (b:=b) (o:=o') (off:=off) (vs:=u.cells.toList) (fun j v hj=>by
   have hlt:j < u.cells.size:=by simpa using (List.getElem?_eq_some_iff.1 hj).1
   refine H.fz _ _ _ ?_
   rw[h2 j hlt]
   simpa using hj) z h6
  simp[this]
 ·rename_i id sz i off
  simp only[RepA]at hr
  obtain⟨b,hb,hv⟩:=hr
  cases hh:hp id with
  | none=>simp[hh,Q.no]at hk
  | some ob =>
   cases ob with
   | arr z n f =>
    simp only[hh]at hk hob ⊢
    split at hk
    ·rename_i hz
     subst hz
     simp only[if_true]at hob ⊢
     obtain⟨y,h1,h2⟩:=Ar hk
     rw[h2]at hob ⊢
     have hi:i < n:=hob _ (by simp[Q.when])
     obtain⟨b',x,e1,e2,e3,_⟩:=H.blk hh rfl
     obtain rfl:b'=b:=by rw[hb]at e1;injection e1 with e1;injection e1 with e1;exact e1.symm
     obtain⟨vs,el,rfl,_,e4⟩:=e3
     obtain⟨u,h3,h4,_,h5⟩:=e4 i hi
     obtain⟨q,h6,h7⟩:=Ga h1 (Ed h3)
     refine⟨q,?_,by simpa only[Q.when,RepA] using h6⟩
     rw[hv]
     have:=Fq (P:=P) (w:=w) hd (b:=b') (o:=i * z) (off:=off) (vs:=u.cells.toList) (fun j v hj=>by
      have hlt:j < z:=by rw[← h4];simpa using (List.getElem?_eq_some_iff.1 hj).1
      have h8:=h5 j hlt
      simp[World.cell?,e2,h8]
      simpa using hj) q h7
     simp[this]
    ·cases hk
   | cells _=>simp[hh,Q.no]at hk
   | map _ _ _ _ _=>simp[hh,Q.no]at hk
   | gm _ _ _ _ _ _=>simp[hh,Q.no]at hk
   | vals n vs x =>
    cases x with
    | none=>simp[hh,Q.no]at hk
    | some ja =>
     obtain⟨j,a⟩:=ja
     simp only[hh]at hk hob ⊢
     split at hk
     ·rename_i hc
      obtain⟨rfl,rfl,hagg⟩:=hc
      simp only[hagg,and_self,if_true]at hob ⊢
      have hi:i < n:=hob _ (by simp[Q.when])
      have hj:i=j:=hob _ (by simp[Q.when])
      obtain⟨b',y,e1,e2,e3,_⟩:=H.blk hh rfl
      obtain rfl:b'=b:=by rw[hb]at e1;injection e1 with e1;injection e1 with e1;exact e1.symm
      obtain⟨us,el,rfl,_,e4⟩:=e3
      obtain⟨u,h3,_,h5⟩:=e4 i hi
      refine⟨u,?_,h5.2 hj⟩
      rw[hv]
      have:=Fq (P:=P) (w:=w) hd (b:=b') (o:=i * 1) (off:=0) (vs:=[u]) (fun k v hk=>by
       have hk0:k=0:=by have:=(List.getElem?_eq_some_iff.1 hk).1;simp at this;omega
       subst hk0
       simp only[List.getElem?_cons_zero,Option.some.injEq]at hk
       subst hk
       simp[World.cell?,e2,h3]) u (by rw[hagg];simp)
      simp only[Nat.mul_one,Nat.add_zero]at this
      simp[this]
     ·cases hk
   | vec _ _ _ _=>simp[hh,Q.no]at hk
   | gone=>simp[hh,Q.no]at hk
   | bld0 _=>simp[hh,Q.no]at hk
 ·rename_i id sz i off
  simp only[RepA]at hr
  obtain⟨uv,el,b,hu,hub,hv⟩:=hr
  cases hh:hp id with
  | none=>simp[hh,Q.no]at hk
  | some ob =>
   cases ob with
   | vec e z n f =>
    simp only[hh]at hk hob ⊢
    split at hk
    ·rename_i hz
     subst hz
     simp only[if_true]at hob ⊢
     obtain⟨y,h1,h2⟩:=Ar hk
     rw[h2]at hob ⊢
     have hi:i < n:=hob _ (by simp[Q.when])
     obtain⟨v',xs,e1,_,e2,e3,_⟩:=H.vec hh
     rw[hu]at e1
     injection e1 with e1
     injection e1 with e1 e4 e5
     subst e1
     obtain⟨u,h3,h4,_,h5⟩:=e3 i hi
     obtain⟨q,h6,h7⟩:=Ga h1 (Ed h3)
     refine⟨q,?_,by simpa only[Q.when,RepA] using h6⟩
     rw[hv]
     have:=Fq (P:=P) (w:=w) hd (b:=b) (o:=i * z) (off:=off) (vs:=u.cells.toList) (fun j v hj=>by
      have hlt:j < z:=by rw[← h4];simpa using (List.getElem?_eq_some_iff.1 hj).1
      have h8:=h5 j hlt
      have h9:u.cells[j]?=some v:=by simpa using hj
      rw[h9]at h8
      have:=e2.cells hub _ _ h8
      rwa [Cj,Nat.zero_add]at this) q h7
     simp[this]
    ·cases hk
   | cells _=>simp[hh,Q.no]at hk
   | arr _ _ _=>simp[hh,Q.no]at hk
   | map _ _ _ _ _=>simp[hh,Q.no]at hk
   | gm _ _ _ _ _ _=>simp[hh,Q.no]at hk
   | vals _ _ _=>simp[hh,Q.no]at hk
   | gone=>simp[hh,Q.no]at hk
   | bld0 _=>simp[hh,Q.no]at hk
 ·cases hk
theorem yd (x:Bool) (a:AV):(∃ y,a=.d (.bool y)∧yc x a=.ret (.d (.bool (x&&y))))∨yc x a=.when [x=false] (.d (.bool false)):=by
 unfold yc
 split
 ·exact .inl ⟨_,rfl,rfl⟩
 ·exact .inr rfl
theorem yf (x:Bool) (a:AV):(∃ y,a=.d (.bool y)∧ye x a=.ret (.d (.bool (x || y))))∨ye x a=.when [x=true] (.d (.bool true)):=by
 unfold ye
 split
 ·exact .inl ⟨_,rfl,rfl⟩
 ·exact .inr rfl
theorem stay_pick {o:Oper} {c a b:Operand} (ho:o.op=.pick c a b) (e:Operand→AV) (hcst2:∀ v,ρ (.const v)=v)
  (hc:RepA γ (e c) (ρ c)) (ha:∀ x,e c=.d (.bool x)→x=true→RepA γ (e a) (ρ a)) (hb:∀ x,e c=.d (.bool x)→x=false→RepA γ (e b) (ρ b))
  (hk:(cp (e c) (e a) (e b) (J4 false b) (J4 true a)).ok=true) (hob:∀ z∈(cp (e c) (e a) (e b) (J4 false b) (J4 true a)).ob,z):Stay P γ w ρ o (cp (e c) (e a) (e b) (J4 false b) (J4 true a)).v:=by
 unfold Stay execOp
 simp only[ho]
 generalize hx:e c=xc at *
 unfold cp at hk hob ⊢
 split at hk
 ·rename_i x
  simp only[RepA,Rep]at hc
  simp only[hc,asBool,Sem.run_bind,Sem.run_pure,Result.andThen_ok]
  split at hk
  ·rename_i hf
   have hb2:ρ b=.bool false:=by
    unfold J4 at hf
    split at hf
    ·rename_i c' ; rw[hcst2];simp at hf;rw[hf]
    ·cases hf
   simp only[hf,if_true]at hob ⊢
   rcases yd x (e a) with⟨y,hy,hq⟩ | hq
   ·rw[hq]
    cases x
    ·exact⟨.bool false,by simp[hb2],by simp[Q.ret,RepA,Rep]⟩
    ·have:=ha _ rfl rfl
     simp only[hy,RepA,Rep]at this
     exact⟨.bool y,by simp[this],by simp[Q.ret,RepA,Rep]⟩
   ·rw[hq]at hob ⊢
    have hx0:x=false:=hob _ (by simp[Q.when])
    subst hx0
    exact⟨.bool false,by simp[hb2],by simp[Q.when,RepA,Rep]⟩
  ·rename_i hf
   split at hk
   ·rename_i ht
    have ha2:ρ a=.bool true:=by
     unfold J4 at ht
     split at ht
     ·rename_i c' ; rw[hcst2];simp at ht;rw[ht]
     ·cases ht
    simp only[hf,ht,if_true,Bool.false_eq_true,if_false]at hob ⊢
    rcases yf x (e b) with⟨y,hy,hq⟩ | hq
    ·rw[hq]
     cases x
     ·have:=hb _ rfl rfl
      simp only[hy,RepA,Rep]at this
      exact⟨.bool y,by simp[this],by simp[Q.ret,RepA,Rep]⟩
     ·exact⟨.bool true,by simp[ha2],by simp[Q.ret,RepA,Rep]⟩
    ·rw[hq]at hob ⊢
     have hx0:x=true:=hob _ (by simp[Q.when])
     subst hx0
     exact⟨.bool true,by simp[ha2],by simp[Q.when,RepA,Rep]⟩
   ·cases hk
 ·cases hk
theorem jt {o:Oper} {x:Operand} (ho:o.op=.move x∨o.op=.assign x) {v:AV} (hr:RepA γ v (ρ x)):Stay P γ w ρ o v:=by
 unfold Stay execOp
 rcases ho with ho | ho<;>simp only[ho]<;>exact⟨ρ x,rfl,hr⟩
theorem X6 {t:TypeId} {i:Nat} {f:Field} (h:Zl P t i=some f):∃ fs,P.underlying t=some (.struct fs)∧fs[i]?=some f:=by
 unfold Zl at h
 split at h
 ·rename_i fs hu;exact⟨fs,hu,h⟩
 ·cases h
theorem F4 {t:TypeId} (h:¬ Ap P t=0):∃ i,P.info? t=some i:=by
 unfold Ap at h
 cases hi:P.info? t with
 | none=>rw[hi]at h;exact absurd rfl h
 | some i=>exact⟨i,rfl⟩
theorem fe {o:Oper} {t:TypeId} {x:Operand} {i:Nat} (ho:o.op=.fieldAddr t x i) {p:AV} (hr:RepA γ p (ρ x)) (hk:(Mz P t i p).ok=true):Stay P γ w ρ o (Mz P t i p).v:=by
 unfold Stay execOp
 simp only[ho]
 unfold Mz at hk ⊢
 obtain⟨f,hf,h2⟩:=Ar hk
 rw[h2]at hk ⊢
 obtain⟨fs,hu,hi⟩:=X6 hf
 split at hk
 ·cases hk
 ·rename_i hz
  obtain⟨fi,hfi⟩:=F4 hz
  have run:∀ b o':Nat,(Instr.fieldAt t (.pointer (some ⟨b,o',none⟩)) i).run P w=.ok (.pointer (some ⟨b,o'+f.offset,none⟩)) w:=fun b o'=>by
   simp[Instr.fieldAt,Co hu,hi,Instr.sureAddr,fieldPlace,Fy hfi,hz,Cj]
  simp only[hz,if_false]
  split at hk<;>try simp only[RepA]at hr
  ·obtain⟨b,hb,hv⟩:=hr
   exact⟨_,by rw[hv];simp[run];rfl,by simp only[Q.ret,RepA];exact⟨b,hb,rfl⟩⟩
  ·obtain⟨b,o',u,hv,h1,h2⟩:=hr
   exact⟨_,by rw[hv];simp[run];rfl,by simp only[Q.ret,RepA];exact⟨b,o',u,by rw[Nat.add_assoc],h1,h2⟩⟩
  ·obtain⟨b,hb,hv⟩:=hr
   exact⟨_,by rw[hv];simp[run];rfl,by simp only[Q.ret,RepA];exact⟨b,hb,by rw[Nat.add_assoc]⟩⟩
  ·obtain⟨u,e,b,hu,hb,hv⟩:=hr
   exact⟨_,by rw[hv];simp[run];rfl,by simp only[Q.ret,RepA];exact⟨u,e,b,hu,hb,by rw[Nat.add_assoc]⟩⟩
  ·cases hk
theorem AAA {o:Oper} {t:TypeId} {x:Operand} {i:Nat} (ho:o.op=.field t x i) {p:AV} (hr:RepA γ p (ρ x)) (hk:(Zk P t i p).ok=true):Stay P γ w ρ o (Zk P t i p).v:=by
 unfold Stay execOp
 simp only[ho]
 unfold Zk at hk ⊢
 obtain⟨f,hf,h2⟩:=Ar hk
 rw[h2]at hk ⊢
 obtain⟨fs,hu,hi⟩:=X6 hf
 split at hk
 ·rename_i hs
  obtain⟨d,hd⟩:=Option.isSome_iff_exists.1 hs
  simp only[hs,if_true]
  have run:∀ (vs:List Value) (v:Value),(part f.type vs.toArray f.offset).run P w=.ok v w→(Instr.field t (.agg vs.toArray) i).run P w=.ok v w:=fun vs v hv=>by
   simp[Instr.field,Co hu,hi,asAgg,hv]
  split at hk<;>try simp only[RepA]at hr
  ·obtain⟨y,h3,h4⟩:=Ar hk
   simp only[Rep]at hr
   obtain⟨vs,hv,hr⟩:=hr
   obtain⟨v,h5,h6⟩:=Ga h3 hr
   rw[h4]
   exact⟨v,by rw[hv];simp[run vs v (Fc hd v h6)],by simpa only[Q.ret,RepA] using h5⟩
  ·obtain⟨y,h3,h4⟩:=Ar hk
   obtain⟨vs,hv,hr⟩:=hr
   obtain⟨v,h5,h6⟩:=N6 h3 hr
   rw[h4]
   exact⟨v,by rw[hv];simp[run vs v (Fc hd v h6)],by simpa only[Q.ret] using h5⟩
  ·cases hk
 ·cases hk
theorem G6 {x:AV} {j:Int} {v:Value} (h:Mx x=some j) (hr:RepA γ x v):∃ k,v=.int k j:=by
 unfold Mx at h
 split at h
 ·rename_i k n
  injection h with h
  subst h
  simp only[RepA,Rep]at hr
  exact⟨k,hr⟩
 ·cases h
theorem qh {μ:Nat→Nat→Option Value} {sz n:Nat} {f:Nat→D} {v:Value} (h:Rep μ (.sl sz n f) v) {j:Nat} (hj:j < n) :
  ∃ b o c u,v=.slice (some ⟨b,o,none⟩) n c∧Rep μ (f j) u∧u.cells.size=sz∧(∀ x∈u.cells,x.oneCell'=true)∧∀ k,k < sz→μ b (o+j * sz+k)=u.cells[k]?:=by
 simp only[Rep]at h
 obtain⟨A,c,rfl,_,_,h3⟩:=h
 obtain⟨b,o,rfl,h4⟩:=h3 (by omega)
 obtain⟨u,h5⟩:=h4 j hj
 exact⟨b,o,c,u,rfl,h5⟩
theorem ff {o:Oper} {t:TypeId} {x i:Operand} (ho:o.op=.indexAddr t x i) {p q:AV} (hr:RepA γ p (ρ x)) (hi:RepA γ q (ρ i)) (hk:(Kl P t p q).ok=true) (hob:∀ z∈(Kl P t p q).ob,z) :
  Stay P γ w ρ o (Kl P t p q).v:=by
 unfold Stay execOp
 simp only[ho]
 unfold Kl at hk hob ⊢
 obtain⟨j,hj,h2⟩:=Ar hk
 rw[h2]at hk hob ⊢
 obtain⟨d,hd,h3⟩:=Ar hk
 rw[h3]at hk hob ⊢
 obtain⟨k,hkv⟩:=G6 hj hi
 rw[hkv]
 have sl:∀ (el:TypeId) (sz n:Nat) (f:Nat→D),d=.slice el→(Ap P el=sz∧0 < sz)→(0≤j∧j < n)→Rep γ.μ (.sl sz n f) (ρ x)→∃ u,(Instr.indexAt t (ρ x) (.int k j)).run P w=.ok u w∧RepA γ (.ep (f j.toNat) 0) u:=by
  rintro el sz n f rfl ⟨hz,hp⟩ ⟨h0,h1⟩ hr
  obtain⟨jn,rfl⟩:=Int.eq_ofNat_of_zero_le h0
  obtain⟨b,o',c,u,hv,h4,h5,h6,h7⟩:=qh hr (j:=jn) (by omega)
  obtain⟨fi,hfi⟩:=F4 (P:=P) (t:=el) (by omega)
  refine⟨.pointer (some ⟨b,o'+jn * sz,none⟩),?_,?_⟩
  ·rw[hv]
   simp[Instr.indexAt,asIntOf,Co hd,Fy hfi,hz,Cj]
   omega
  ·simp only[RepA]
   refine⟨b,o'+jn * sz,u,rfl,by simpa using h4,h6,fun q hq=>h7 q (by rw[← h5];exact hq)⟩
 split at hk
 ·rename_i el sz n f
  split at hk
  ·rename_i hz
   simp only[hz,and_self,if_true]at hob ⊢
   simp only[RepA]at hr
   have ha:=hob (0≤j) (by simp[Q.when])
   have hb:=hob (j < n) (by simp[Q.when])
   obtain⟨u,h4,h5⟩:=sl el sz n f rfl hz ⟨ha,hb⟩ hr
   exact⟨u,by simp[h4],h5⟩
  ·cases hk
 ·rename_i el sz n f r
  split at hk
  ·rename_i hz
   simp only[hz,and_self,if_true]at hob ⊢
   simp only[RepA]at hr
   have ha:=hob (0≤j) (by simp[Q.when])
   have hb:=hob (j < n) (by simp[Q.when])
   obtain⟨u,h4,h5⟩:=sl el sz n f rfl hz ⟨ha,hb⟩ hr.1
   exact⟨u,by simp[h4],h5⟩
  ·cases hk
 ·rename_i el id sz n
  split at hk
  ·rename_i hz
   simp only[hz,and_self,if_true]at hob ⊢
   simp only[RepA]at hr
   have ha:=hob (0≤j) (by simp[Q.when])
   have hb:=hob (j < n) (by simp[Q.when])
   obtain⟨b,c,h4,hv,_⟩:=hr
   obtain⟨fi,hfi⟩:=F4 (P:=P) (t:=el) (by omega)
   refine⟨.pointer (some ⟨b,j.toNat * sz,none⟩),?_,?_⟩
   ·rw[hv]
    simp[Instr.indexAt,asIntOf,Co hd,Fy hfi,hz,Cj,ha,hb]
   ·simp only[Q.when,RepA]
    exact⟨b,h4,rfl⟩
  ·cases hk
 ·rename_i el id sz n
  split at hk
  ·rename_i hz
   simp only[hz,and_self,if_true]at hob ⊢
   simp only[RepA]at hr
   have ha:=hob (0≤j) (by simp[Q.when])
   have hb:=hob (j < n) (by simp[Q.when])
   obtain⟨e,A,c,h4,hv,hnc,hcm,hA⟩:=hr
   obtain⟨b,rfl⟩:=hA (by omega)
   obtain⟨fi,hfi⟩:=F4 (P:=P) (t:=el) (by omega)
   refine⟨.pointer (some ⟨b,j.toNat * sz,none⟩),?_,?_⟩
   ·rw[hv]
    simp[Instr.indexAt,asIntOf,Co hd,Fy hfi,hz,Cj,ha,hb]
   ·simp only[Q.when,RepA]
    exact⟨_,e,b,h4,by rw[hv];rfl,rfl⟩
  ·cases hk
 ·rename_i len el id off
  split at hk
  ·rename_i hz
   simp only[hz,and_self,if_true]at hob ⊢
   simp only[RepA]at hr
   obtain⟨b,h4,hv⟩:=hr
   obtain⟨fi,hfi⟩:=F4 (P:=P) (t:=el) (by omega)
   refine⟨.pointer (some ⟨b,off+j.toNat * Ap P el,none⟩),?_,?_⟩
   ·rw[hv]
    simp[Instr.indexAt,asIntOf,Co hd,Fy hfi,hz,Cj,Instr.sureAddr]
   ·simp only[Q.ret,RepA]
    exact⟨b,h4,rfl⟩
  ·cases hk
 ·cases hk
theorem Zy {k:IntKind}:∀ {cs:List D} {ns:List Int},Jb cs=some (k,ns)→cs=ns.map (D.int k)
 | [],_,h=>by simp[Jb]at h
 | .int k' n :: [],ns,h=>by simp only[Jb,Option.some.injEq,Prod.mk.injEq]at h;obtain⟨rfl,rfl⟩:=h;rfl
 | .int k' n :: x :: l,ns,h=>by
  rw[Jb]at h
  ·split at h
   ·rename_i k2 ns2 e
    split at h
    ·rename_i hk;injection h with h;injection h with h1 h2;subst hk h1 h2
     rw[Zy e];rfl
    ·cases h
   ·cases h
  ·intro h;cases h
 | .bool _ :: _,_,h=>by simp[Jb]at h
 | .str _ :: _,_,h=>by simp[Jb]at h
 | .sl .. :: _,_,h=>by simp[Jb]at h
 | .agg _ :: _,_,h=>by simp[Jb]at h
 | .tup _ :: _,_,h=>by simp[Jb]at h
theorem Kw {t el:TypeId} {len:Nat} {cs:List Value} {k:IntKind} {j:Int} (hd:P.underlying t=some (.array len el)) {i:TypeDesc} (he:P.underlying el=some i) (h0:0≤j) (h1:j < len) (v:Value)
  (hv:(part el cs.toArray (j.toNat * Ap P el)).run P w=.ok v w):(Instr.index t (.agg cs.toArray) (.int k j)).run P w=.ok v w:=by
 obtain⟨fi,hfi⟩:=Yl he
 have hs:(if 0≤j∧j < (len:Int)then True else False):=by rw[if_pos ⟨h0,h1⟩];trivial
 simp[Instr.index,Co hd,asIntOf,h0,h1,Fy hfi,hv]
theorem AAC {o:Oper} {t:TypeId} {x i:Operand} (ho:o.op=.index t x i) {p q:AV} (hr:RepA γ p (ρ x)) (hi:RepA γ q (ρ i)) (hk:(Uh P t p q).ok=true) (hob:∀ z∈(Uh P t p q).ob,z) :
  Stay P γ w ρ o (Uh P t p q).v:=by
 unfold Stay execOp
 simp only[ho]
 unfold Uh at hk hob ⊢
 obtain⟨j,hj,h2⟩:=Ar hk
 rw[h2]at hk hob ⊢
 obtain⟨d,hd,h3⟩:=Ar hk
 rw[h3]at hk hob ⊢
 obtain⟨k,hkv⟩:=G6 hj hi
 rw[hkv]
 split at hk
 ·rename_i s
  simp only[RepA,Rep]at hr
  have ha:=hob (0≤j) (by simp[Q.when])
  have hb:=hob (j < s.length) (by simp[Q.when])
  rw[hr]
  have hsz:(ByteArray.mk ⟨s⟩).size=s.length:=rfl
  refine⟨_,by simp only[Sem.run_bind,run_index_string (P:=P) w t _ k j hd,hsz,ha,hb,and_self,dite_true,Result.andThen_ok,Sem.run_pure];rfl,?_⟩
  simp only[Q.when,RepA,Ei,Rep]
  have hlt:j.toNat < s.length:=by omega
  rw[List.getElem?_eq_getElem hlt]
  rfl
 ·rename_i len el cs
  simp only[RepA,Rep]at hr
  obtain⟨vs,hv,hr⟩:=hr
  rw[hv]
  split at hk
  ·rename_i k' ns hI
   have hI':Jb cs=some (k',ns):=by
    split at hI
    ·cases hI
    ·exact hI
   simp only[hI]at hob ⊢
   split at hk
   ·rename_i hc
    rw[if_pos hc]at hob ⊢
    obtain⟨c1,c2,c3,c4⟩:=hc
    obtain⟨ed,hed⟩:=Option.isSome_iff_exists.1 c1
    have ha:=hob (0≤j) (by simp[Q.when])
    have hb:=hob (j < len) (by simp[Q.when])
    have hlt:j.toNat < ns.length:=by omega
    have hg:cs[j.toNat]?=some (.int k' (ns.getD j.toNat 0)):=by
     rw[Zy hI',List.getElem?_map,List.getD_eq_getElem?_getD,List.getElem?_eq_getElem hlt];rfl
    obtain⟨v,g1,g2⟩:=hr.get j.toNat _ hg
    refine⟨v,?_,?_⟩
    ·have hrun:(part el vs.toArray (j.toNat * Ap P el)).run P w=.ok v w:=Fc hed v (by rw[if_neg (by rw[c2];decide),c3,Nat.mul_one];exact g1)
     rw[Sem.run_bind,Kw hd hed ha hb v hrun];rfl
    ·simp only[Q.when,RepA];exact g2
   ·cases hk
  ·rename_i hI
   simp only[hI]at hob ⊢
   split at hk
   ·rename_i hc
    rw[if_pos hc]at hob ⊢
    obtain⟨c1,c2,c3⟩:=hc
    obtain⟨ed,hed⟩:=Option.isSome_iff_exists.1 c3
    obtain⟨y,h3,h4⟩:=Ar hk
    obtain⟨v,h5,h6⟩:=Ga h3 hr
    rw[h4]
    exact⟨v,by rw[Sem.run_bind,Kw hd hed c1 c2 v (Fc hed v h6)];rfl,by simpa only[Q.ret,RepA] using h5⟩
   ·cases hk
 ·rename_i len el cs
  simp only[RepA]at hr
  obtain⟨vs,hv,hr⟩:=hr
  rw[hv]
  split at hk
  ·rename_i hc
   rw[if_pos hc]
   obtain⟨c1,c2,c3⟩:=hc
   obtain⟨ed,hed⟩:=Option.isSome_iff_exists.1 c3
   obtain⟨y,h3,h4⟩:=Ar hk
   obtain⟨v,h5,h6⟩:=N6 h3 hr
   rw[h4]
   exact⟨v,by rw[Sem.run_bind,Kw hd hed c1 c2 v (Fc hed v h6)];rfl,by simpa only[Q.ret] using h5⟩
  ·cases hk
 ·cases hk
theorem rb {o:Oper} {x:Operand} {i:Nat} (ho:o.op=.extract x i) {p:AV} (hr:RepA γ p (ρ x)) (hk:(Rt i p).ok=true):Stay P γ w ρ o (Rt i p).v:=by
 unfold Stay execOp
 simp only[ho]
 unfold Rt at hk ⊢
 split at hk<;>try simp only[RepA]at hr
 ·obtain⟨y,h3,h4⟩:=Ar hk
  simp only[Rep]at hr
  obtain⟨vs,hv,hr⟩:=hr
  obtain⟨v,h5,h6⟩:=hr.get i y h3
  rw[h4]
  exact⟨v,by rw[hv];simp[Instr.extract,h5],by simpa only[Q.ret,RepA] using h6⟩
 ·obtain⟨y,h3,h4⟩:=Ar hk
  obtain⟨vs,hv,hr⟩:=hr
  obtain⟨v,h5,h6⟩:=hr.get i y h3
  rw[h4]
  exact⟨v,by rw[hv];simp[Instr.extract,h5],by simpa only[Q.ret] using h6⟩
 ·cases hk
theorem stay_un {o:Oper} {op:UnOp} {t:TypeId} {x:Operand} (ho:o.op=.unOp op t x) {p:AV} (hr:RepA γ p (ρ x)) (hk:(unQ op p).ok=true):Stay P γ w ρ o (unQ op p).v:=by
 unfold Stay execOp
 simp only[ho]
 unfold unQ at hk ⊢
 split at hk
 ·simp only[RepA,Rep]at hr
  exact⟨_,by rw[hr];simp[Op.unary];rfl,by simp[Q.ret,RepA,Rep]⟩
 ·simp only[RepA,Rep]at hr
  exact⟨_,by rw[hr];simp[Op.unary,Op.intArith];rfl,by simp[Q.ret,RepA,Rep]⟩
 ·simp only[RepA,Rep]at hr
  exact⟨_,by rw[hr];simp[Op.unary,Op.intBits];rfl,by simp[Q.ret,RepA,Rep]⟩
 ·cases hk
theorem ra {o:Oper} {s t:TypeId} {x:Operand} (ho:o.op=.convert s t x) {p:AV} (hr:RepA γ p (ρ x)) (hk:(Rp P s t p).ok=true):Stay P γ w ρ o (Rp P s t p).v:=by
 unfold Stay execOp
 simp only[ho]
 unfold Rp at hk ⊢
 obtain⟨c,hc,h2⟩:=Ar hk
 rw[h2]at hk ⊢
 obtain⟨d,hd,h3⟩:=Ar hk
 rw[h3]at hk ⊢
 split at hk
 ·simp only[RepA,Rep]at hr
  exact⟨_,by rw[hr];simp[convert,Co hc,Co hd,Conv.intToInt];rfl,by simp[Q.ret,RepA,Rep]⟩
 ·simp only[RepA,Rep]at hr
  exact⟨_,by rw[hr];simp[convert,Co hc,Co hd];rfl,by simp[Q.ret,RepA,Rep]⟩
 ·simp only[RepA,Rep]at hr
  exact⟨_,by rw[hr,Sem.run_bind,run_convert_int_string w s t _ _ (by rw[hc];rfl) hd];rfl,by simp[Q.ret,RepA,Rep]⟩
 ·cases hk
theorem kl {o:Oper} {x:Operand} (ho:o.op=.nilCheck x) {p:AV} (hr:RepA γ p (ρ x)) (hk:(Pf p).ok=true):Stay P γ w ρ o (Pf p).v:=by
 unfold Stay execOp
 simp only[ho]
 unfold Pf at hk ⊢
 split at hk
 ·have h2:=hr
  simp only[RepA]at hr
  obtain⟨b,_,hv⟩:=hr
  exact⟨_,by rw[hv];rfl,by rw[← hv];exact h2⟩
 ·have h2:=hr
  simp only[RepA]at hr
  obtain⟨vs,hv,_⟩:=hr
  exact⟨_,by rw[hv];rfl,by rw[← hv];exact h2⟩
 ·have h2:=hr
  simp only[RepA]at hr
  obtain⟨u,e,b,_,_,hv⟩:=hr
  exact⟨_,by rw[hv];rfl,by rw[← hv];exact h2⟩
 ·cases hk
theorem Yk (s:List UInt8):(ByteArray.mk ⟨s⟩).size=s.length:=rfl
theorem dc (s:List UInt8):(ByteArray.mk ⟨s⟩).toList=s:=ByteArray.toList_mk s
theorem ba_ext {a b:ByteArray} (h:a.data.toList=b.data.toList):a=b:=by
 cases a;cases b;simp only[ByteArray.mk.injEq];exact Array.toList_inj.1 h
theorem AAF (a b:List UInt8):ByteArray.mk ⟨a⟩++ByteArray.mk ⟨b⟩=ByteArray.mk ⟨a++b⟩:=by
 apply ba_ext
 simp
theorem sx (s:List UInt8) (l h:Nat):(ByteArray.mk ⟨s⟩).extract l h=ByteArray.mk ⟨(s.take h).drop l⟩:=by
 apply ba_ext
 simp[List.drop_take]
theorem Xf {e:Operand→AV} {x:Option Operand} {l:Option Int} (h:Ft e x=some l) (hr:∀ y,x=some y→RepA γ (e y) (ρ y)):(x=none∧l=none)∨∃ y k n,x=some y∧l=some n∧ρ y=.int k n:=by
 unfold Ft at h
 split at h
 ·injection h with h;exact .inl ⟨rfl,h.symm⟩
 ·rename_i y
  rw[Option.map_eq_some_iff]at h
  obtain⟨n,h1,rfl⟩:=h
  obtain⟨k,hk⟩:=G6 h1 (hr y rfl)
  exact .inr ⟨y,k,n,rfl,rfl,hk⟩
theorem Jj {t:TypeId} (hu:P.underlying t=some .string) (s:List UInt8) (l h:Option Value) (a b:Nat) (hb:(Instr.sliceBounds false s.length s.length l h none).run P w=.ok (a,b,s.length) w) :
  (Instr.sliceAt t (.string ⟨⟨s⟩⟩) l h none).run P w=.ok (.string ⟨⟨(s.take b).drop a⟩⟩) w:=by
 rw[run_sliceAt_string _ _ _ _ _ _ hu]
 simp only[Instr.slice,Sem.run_bind,Co hu,Result.andThen_ok,Option.isSome_none,Bool.false_eq_true,if_false,Yk,hb,Sem.run_pure,sx]
theorem Wl {μ:Nat→Nat→Option Value} {sz n:Nat} {f:Nat→D} {A:Option Addr} {c:Nat} (h:Rep μ (.sl sz n f) (.slice A n c)) {l k:Nat} (h1:l≤k) (h2:k≤n) :
  Rep μ (.sl sz (k - l) fun i=>f (l+i)) (.slice (if c=l then A else A.map (·.add (l * sz))) (k - l) (c - l)):=by
 simp only[Rep]at h ⊢
 obtain⟨A',c',hv,hc,hm,h3⟩:=h
 injection hv with e1 _ e3
 subst e1 e3
 refine⟨_,_,rfl,by omega,by omega,fun hn=>?_⟩
 obtain⟨b,o,rfl,h4⟩:=h3 (by omega)
 rw[if_neg (by omega)]
 refine⟨b,o+l * sz,by simp[Cj],fun i hi=>?_⟩
 obtain⟨u,h5,h6,h7,h8⟩:=h4 (l+i) (by omega)
 refine⟨u,h5,h6,h7,fun j hj=>?_⟩
 rw[← h8 j hj,Nat.add_mul]
 congr 1;omega
theorem Hm {t el:TypeId} (hu:P.underlying t=some (.slice el)) {sz:Nat} (hz:Ap P el=sz) (hp:0 < sz) (A:Option Addr) (n c:Nat) (l h:Option Value) (a b:Nat) (hb:(Instr.sliceBounds true n c l h none).run P w=.ok (a,b,c) w) :
  (Instr.sliceAt t (.slice A n c) l h none).run P w=.ok (.slice (if c=a then A else A.map (·.add (a * sz))) (b - a) (c - a)) w:=by
 obtain⟨fi,hfi⟩:=F4 (P:=P) (t:=el) (by omega)
 simp only[Instr.sliceAt,Instr.slice,Sem.run_bind,Co hu,Result.andThen_ok,hb,Fy hfi,hz,Sem.run_pure]
theorem AAD {o:Oper} {t:TypeId} {x:Operand} {lo hi:Option Operand} (ho:o.op=.slice t x lo hi none) (e:Operand→AV) {p:AV} (hr:RepA γ p (ρ x)) (hl:∀ y,lo=some y→RepA γ (e y) (ρ y)) (hh:∀ y,hi=some y→RepA γ (e y) (ρ y))
  (hk:(Vl P t p (Ft e lo) (Ft e hi)).ok=true) (hob:∀ z∈(Vl P t p (Ft e lo) (Ft e hi)).ob,z):Stay P γ w ρ o (Vl P t p (Ft e lo) (Ft e hi)).v:=by
 unfold Stay execOp
 simp only[ho]
 unfold Vl at hk hob ⊢
 obtain⟨l,hl1,h2⟩:=Ar hk
 rw[h2]at hk hob ⊢
 obtain⟨h,hh1,h3⟩:=Ar hk
 rw[h3]at hk hob ⊢
 obtain⟨d,hd,h4⟩:=Ar hk
 rw[h4]at hk hob ⊢
 have L:=Xf hl1 hl
 have Hh:=Xf hh1 hh
 clear h2 h3 h4 hl1 hh1 hl hh
 have sl:∀ (el:TypeId) (sz n:Nat) (f:Nat→D),d=.slice el→(Ap P el=sz∧0 < sz)→Rep γ.μ (.sl sz n f) (ρ x)→(∀ z∈(R8 sz n f l h).ob,z) →
   ∃ u,(Instr.sliceAt t (ρ x) (lo.map ρ) (hi.map ρ) none).run P w=.ok u w∧RepA γ (R8 sz n f l h).v u:=by
  rintro el sz n f rfl ⟨hz,hp⟩ hr hob
  have hr2:=hr
  simp only[Rep]at hr2
  obtain⟨A,c,hv,hc,hm,_⟩:=hr2
  rw[hv]at hr ⊢
  rcases L with⟨rfl,rfl⟩ | ⟨y,k,l,rfl,rfl,hy⟩<;>rcases Hh with⟨rfl,rfl⟩ | ⟨y2,k2,h,rfl,rfl,hy2⟩<;>simp only[R8,Q.when,Q.ret,List.mem_cons,List.not_mem_nil,or_false,forall_eq_or_imp,forall_eq,RepA]at hob ⊢
  ·refine⟨_,Hm hd hz hp A n c none none 0 n (by simp[Instr.sliceBounds]),?_⟩
   have:=Wl hr (l:=0) (k:=n) (by omega) (by omega)
   simpa using this
  ·obtain⟨kk,rfl⟩:=Int.eq_ofNat_of_zero_le hob.1
   refine⟨_,by rw[Option.map_none,Option.map_some,hy2];exact Hm hd hz hp A n c none _ 0 kk (by simp[Instr.sliceBounds,run_sliceBound (P:=P) w k2 kk c .sliceAcap (by omega) (by omega)]),?_⟩
   have:=Wl hr (l:=0) (k:=kk) (by omega) (by omega)
   simpa using this
  ·obtain⟨ll,rfl⟩:=Int.eq_ofNat_of_zero_le hob.1
   refine⟨_,by rw[Option.map_none,Option.map_some,hy];exact Hm hd hz hp A n c _ none ll n (by simp[Instr.sliceBounds,run_sliceBound (P:=P) w k ll n .sliceB (by omega) (by omega)]),?_⟩
   have:=Wl hr (l:=ll) (k:=n) (by omega) (by omega)
   simpa using this
  ·obtain⟨ll,rfl⟩:=Int.eq_ofNat_of_zero_le hob.1
   obtain⟨kk,rfl⟩:=Int.eq_ofNat_of_zero_le (show 0≤h by omega)
   refine⟨_,by rw[Option.map_some,Option.map_some,hy,hy2];exact Hm hd hz hp A n c _ _ ll kk (by simp[Instr.sliceBounds,run_sliceBound (P:=P) w k2 kk c .sliceAcap (by omega) (by omega),run_sliceBound (P:=P) w k ll kk .sliceB (by omega) (by omega)]),?_⟩
   have:=Wl hr (l:=ll) (k:=kk) (by omega) (by omega)
   simpa using this
 split at hk
 ·rename_i s
  simp only[RepA,Rep]at hr
  rw[hr]
  rcases L with⟨rfl,rfl⟩ | ⟨y,k,l,rfl,rfl,hy⟩<;>rcases Hh with⟨rfl,rfl⟩ | ⟨y2,k2,h,rfl,rfl,hy2⟩<;>simp only[qy,Q.when,Q.ret,List.mem_cons,List.not_mem_nil,or_false,forall_eq_or_imp,forall_eq,RepA,Rep]at hob ⊢
  ·refine⟨.string ⟨⟨s⟩⟩,?_,rfl⟩
   have:=Jj (P:=P) (w:=w) hd s none none 0 s.length (by simp[Instr.sliceBounds])
   simp at this
   simp[this]
  ·obtain⟨kk,rfl⟩:=Int.eq_ofNat_of_zero_le hob.1
   refine⟨.string ⟨⟨s.take kk⟩⟩,?_,by simp⟩
   have:=Jj (P:=P) (w:=w) hd s none (some (.int k2 kk)) 0 kk (by simp[Instr.sliceBounds,run_sliceBound (P:=P) w k2 kk s.length .sliceAlen (by omega) (by omega)])
   simp at this
   simp[hy2,this]
  ·obtain⟨ll,rfl⟩:=Int.eq_ofNat_of_zero_le hob.1
   refine⟨.string ⟨⟨s.drop ll⟩⟩,?_,by simp⟩
   have:=Jj (P:=P) (w:=w) hd s (some (.int k ll)) none ll s.length (by simp[Instr.sliceBounds,run_sliceBound (P:=P) w k ll s.length .sliceB (by omega) (by omega)])
   simp at this
   simp[hy,this]
  ·obtain⟨ll,rfl⟩:=Int.eq_ofNat_of_zero_le hob.1
   obtain⟨kk,rfl⟩:=Int.eq_ofNat_of_zero_le (show 0≤h by omega)
   refine⟨.string ⟨⟨(s.take kk).drop ll⟩⟩,?_,by simp⟩
   have:=Jj (P:=P) (w:=w) hd s (some (.int k ll)) (some (.int k2 kk)) ll kk (by simp[Instr.sliceBounds,run_sliceBound (P:=P) w k2 kk s.length .sliceAlen (by omega) (by omega),run_sliceBound (P:=P) w k ll kk .sliceB (by omega) (by omega)])
   simp[hy,hy2,this]
 ·rename_i el sz n f
  split at hk
  ·rename_i hz
   simp only[hz,and_self,if_true]at hob ⊢
   simp only[RepA]at hr
   obtain⟨u,h5,h6⟩:=sl el sz n f rfl hz hr hob
   exact⟨u,by simp[h5],h6⟩
  ·cases hk
 ·rename_i el sz n f r
  split at hk
  ·rename_i hz
   simp only[hz,and_self,if_true]at hob ⊢
   simp only[RepA]at hr
   obtain⟨u,h5,h6⟩:=sl el sz n f rfl hz hr.1 hob
   exact⟨u,by simp[h5],h6⟩
  ·cases hk
 ·rename_i el id sz n
  split at hk
  ·rename_i hz
   simp only[hz,and_self,if_true]at hob ⊢
   simp only[RepA]at hr
   obtain⟨b,c,e1,e2,e3,e4⟩:=hr
   split at hk
   ·rename_i h
    rcases L with⟨rfl,_⟩ | ⟨_,_,_,_,hc,_⟩
    ·rcases Hh with⟨_,hc⟩ | ⟨y2,k2,h',rfl,hc,hy2⟩
     ·cases hc
     ·injection hc with hc
      subst hc
      simp only[Q.when,List.mem_cons,List.not_mem_nil,or_false,forall_eq_or_imp,forall_eq,RepA]at hob ⊢
      obtain⟨kk,rfl⟩:=Int.eq_ofNat_of_zero_le hob.1
      have hrun:=Hm (P:=P) (w:=w) hd hz.1 hz.2 (some ⟨b,0,none⟩) n c none (some (ρ y2)) 0 kk (by rw[hy2];simp[Instr.sliceBounds,run_sliceBound (P:=P) w k2 kk c .sliceAcap (by omega) (by omega)])
      refine⟨_,by rw[e2,Option.map_none,Option.map_some];simp only[Option.map_none,Sem.run_bind]at hrun ⊢;rw[hrun];rfl,b,c,e1,?_,by omega,e4⟩
      have hmin:min (kk:Int).toNat n=kk:=by simp;omega
      rw[hmin]
      simp[Cj]
    ·cases hc
   ·cases hk
  ·cases hk
 ·cases hk
theorem kj {o:Oper} {fn:Fn} {first cap:Array Operand} (ho:o.op=.makeFunc fn first cap) (e:Operand→AV) (hc:∀ y∈cap,RepA γ (e y) (ρ y))
  (hk:(Pe fn (first.toList.map e) (cap.toList.map e)).ok=true):Stay P γ w ρ o (Pe fn (first.toList.map e) (cap.toList.map e)).v:=by
 unfold Stay execOp
 simp only[ho]
 unfold Pe at hk ⊢
 split at hk
 ·rename_i f
  split at hk
  ·rename_i h0
   have hf:first=#[]:=by simpa using h0
   refine⟨.func (.func f) #[] (cap.toList.map ρ).toArray,by simp[Instr.makeFunc,hf];rw[← Array.toList_inj];simp,?_⟩
   simp only[h0,if_true,Q.ret,RepA]
   refine⟨cap.toList.map ρ,rfl,?_⟩
   have:∀ l:List Operand,(∀ y∈l,RepA γ (e y) (ρ y))→RepAL γ (l.map e) (l.map ρ):=by
    intro l
    induction l with
    | nil=>intro _;simp[RepAL]
    | cons a l ih=>intro h;simp only[List.map_cons,RepAL];exact⟨_,_,rfl,h a (by simp),ih fun y hy=>h y (by simp[hy])⟩
   simpa using this cap.toList (fun y hy=>hc y (by simpa using hy))
  ·cases hk
 ·cases hk
theorem stay_len {o:Oper} {args:Array Operand} {ts:Array TypeId} (ho:o.op=.call { callee:=.builtin .len,args:=args,argTypes:=ts }) (e:Operand→AV) (hr:∀ y∈args,RepA γ (e y) (ρ y))
  (hk:(zf P (args.toList.map e) ts.toList).ok=true):Stay P γ w ρ o (zf P (args.toList.map e) ts.toList).v:=by
 unfold Stay execOp
 simp only[ho]
 unfold zf at hk ⊢
 split at hk
 ·rename_i x t hx ht
  obtain⟨y,rfl,rfl⟩:∃ y,args=#[y]∧e y=x:=by
   cases args with | mk l=>cases l with
    | nil=>simp at hx
    | cons a l=>cases l with
     | nil=>simp at hx;exact⟨a,rfl,hx⟩
     | cons b l=>simp at hx
  obtain rfl:ts=#[t]:=by cases ts;simp_all
  obtain⟨d,hd,h2⟩:=Ar hk
  rw[h2]at hk ⊢
  have hr1:=hr y (by simp)
  generalize hye:e y=p at *
  simp only[resolve,invoke,builtin,Builtin.len_]
  split at hk<;>try simp only[RepA,Rep]at hr1
  ·rename_i s
   exact⟨.int .i64 s.length,by simp[Co hd,hr1,Yk,goInt],by simp[Q.ret,RepA,Rep]⟩
  ·obtain⟨A,c,hv,_⟩:=hr1
   exact⟨_,by simp[Co hd,hv,goInt];rfl,by simp[Q.ret,RepA,Rep]⟩
  ·obtain⟨⟨A,c,hv,_⟩,_⟩:=hr1
   exact⟨_,by simp[Co hd,hv,goInt];rfl,by simp[Q.ret,RepA,Rep]⟩
  ·obtain⟨b,c,_,hv,_⟩:=hr1
   exact⟨_,by simp[Co hd,hv,goInt];rfl,by simp[Q.ret,RepA,Rep]⟩
  ·obtain⟨e,A,c,_,hv,_⟩:=hr1
   exact⟨_,by simp[Co hd,hv,goInt];rfl,by simp[Q.ret,RepA,Rep]⟩
  ·cases hk
 ·cases hk
theorem d6 (op:BinOp) (t:TypeId) (x y:Operand) (k k':IntKind) (a b:Int):(eqGuard op t x y (.int k a) (.int k' b)).run P w=.ok () w:=by
 unfold eqGuard;split<;>simp
theorem d7 (op:BinOp) (t:TypeId) (x y:Operand) (a b:ByteArray):(eqGuard op t x y (.string a) (.string b)).run P w=.ok () w:=by
 unfold eqGuard;split<;>simp
theorem Yg (op:BinOp) (t:TypeId) (x y:Operand) (a b:Bool):(eqGuard op t x y (.bool a) (.bool b)).run P w=.ok () w:=by
 unfold eqGuard;split<;>simp
theorem AA5 {op:BinOp} (hs:op≠.shl∧op≠.shr) {t:TypeId} {k:IntKind} {a b:Int} (hk:(Ui op k a b).ok=true) (hob:∀ z∈(Ui op k a b).ob,z) :
  ∃ u,(binOp op t (.int k a) (.int k b)).run P w=.ok u w∧RepA γ (Ui op k a b).v u:=by
 cases op<;>first | (exfalso;cases hk;done) | exact absurd rfl hs.1 | exact absurd rfl hs.2 | skip
 all_goals
  simp only[Ui,Q.ret,Q.when,List.mem_cons,List.not_mem_nil,or_false,forall_eq,RepA,Rep]at hob ⊢
  refine⟨_,?_,rfl⟩
 all_goals first
  | (simp[binOp,Op.intArith];done)
  | (simp[binOp,Op.intDiv,hob];done)
  | (simp[binOp,Op.intBits];done)
  | (simp[binOp,Op.intCmp];done)
theorem AA6 {op:BinOp} {t:TypeId} {a b:List UInt8} (hk:(Vo op a b).ok=true) (hob:∀ z∈(Vo op a b).ob,z) :
  ∃ u,(binOp op t (.string ⟨⟨a⟩⟩) (.string ⟨⟨b⟩⟩)).run P w=.ok u w∧RepA γ (Vo op a b).v u:=by
 cases op<;>first | (exfalso;cases hk;done) | skip
 all_goals
  simp only[Vo,Q.ret,Q.when,List.mem_cons,List.not_mem_nil,or_false,forall_eq,RepA,Rep]at hob ⊢
  refine⟨_,?_,rfl⟩
 all_goals first
  | (simp[binOp,Op.stringOp,dc];done)
  | (simp[binOp,Op.stringOp,dc,bne];done)
  | (simp only[binOp,Op.stringOp,Yk,AAF];rw[if_neg (by simp[IntKind.max,IntKind.signed,IntKind.bits];omega)];rfl)
theorem Qz {t:TypeId} (hu:P.underlying t=some .bool) (a b:Bool):(Op.equal t (.bool a) (.bool b)).run P w=.ok (a==b) w:=by
 have:Op.equal t (.bool a) (.bool b)=Op.equalIn (9999+1) t (.bool a) (.bool b):=rfl
 rw[this,Op.equalIn,Sem.run_bind,Co hu]
 rfl
theorem wb {μ:Nat→Nat→Option Value} {dd:Nat} {eq:TypeId→D→D→Option Bool} (he:∀ {t:TypeId} {x y:D} {v:Bool} {u1 u2:Value},eq t x y=some v→Rep μ x u1→Rep μ y u2→∀ w,(Op.equalIn dd t u1 u2).run P w=.ok v w) :
  ∀ (l:List Field) {xs ys:List D} {v:Bool} {vs1 vs2:List Value},eqF P eq l xs ys=some v→RepL μ xs vs1→RepL μ ys vs2→∀ w,(Op.eqFields dd vs1.toArray vs2.toArray l).run P w=.ok v w
 | [],xs,ys,v,vs1,vs2,h,_,_,w=>by
  simp only[eqF,Option.some.injEq]at h
  subst h
  simp[Op.eqFields]
 | f :: l,xs,ys,v,vs1,vs2,h,h1,h2,w=>by
  simp only[eqF]at h
  split at h
  ·cases h
  ·rename_i hn
   split at h
   ·rename_i a b ha hb
    split at h
    ·rename_i r q hr hq
     injection h with h
     subst h
     simp only[not_or,Bool.not_eq_false]at hn
     obtain⟨d',hd⟩:=Option.isSome_iff_exists.1 hn.2
     obtain⟨p1,p2,p3⟩:=Ga ha h1
     obtain⟨q1,q2,q3⟩:=Ga hb h2
     simp only[Op.eqFields,ne_eq,hn.1,not_false_eq_true,if_true,Sem.run_bind,Fc hd p1 p3,Fc hd q1 q3,Result.andThen_ok,he hr p2 q2 w]
     cases r
     ·simp
     ·simpa using wb he l hq h1 h2 w
    ·cases h
   ·cases h
theorem wa {μ:Nat→Nat→Option Value} (k:Nat):∀ (d:Nat) {t:TypeId} {x y:D} {v:Bool} {u1 u2:Value},eqD P d t x y=some v→Rep μ x u1→Rep μ y u2→∀ w,(Op.equalIn (k+d) t u1 u2).run P w=.ok v w:=by
 intro d
 induction d with
 | zero=>intro t x y v u1 u2 h;simp[eqD]at h
 | succ d ih =>
  intro t x y v u1 u2 h h1 h2 w
  simp only[eqD]at h
  split at h
  ·rename_i q kk a k' b hu
   split at h
   ·rename_i hk
    injection h with h
    simp only[Rep]at h1 h2
    subst h1 h2 hk h
    exact run_equalIn_int w (k+d) t kk q a b hu
   ·cases h
  ·rename_i a b hu
   injection h with h
   simp only[Rep]at h1 h2
   subst h1 h2 h
   exact run_equalIn_bool' w (k+d) t a b hu
  ·rename_i a b hu
   injection h with h
   simp only[Rep]at h1 h2
   subst h1 h2 h
   rw[show k+(d+1)=(k+d)+1 from rfl,run_equalIn_string w (k+d) t _ _ hu]
   simp only[ByteArray.toList_eq]
  ·rename_i fs xs ys hu
   split at h
   ·cases h
   ·rename_i hs
    have hf:P.fieldsOf t=fs:=by simp[Program.fieldsOf,hu]
    simp only[Rep]at h1 h2
    obtain⟨vs1,rfl,h1⟩:=h1
    obtain⟨vs2,rfl,h2⟩:=h2
    rw[show k+(d+1)=(k+d)+1 from rfl,run_equalIn_struct w (k+d) t _ _ (by rw[hf];exact hu) (by simpa using hs),hf]
    exact wb ih fs.toList h h1 h2 w
  ·cases h
theorem Kv (op:BinOp) (t:TypeId) (x y:Operand) (a b:Option Addr):(eqGuard op t x y (.pointer a) (.pointer b)).run P w=.ok () w:=by
 unfold eqGuard;split<;>simp
theorem Yi {op:BinOp} {t:TypeId} {a:Option Addr} (hk:(f7 P op t a.isNone).ok=true):∃ u,(binOp op t (.pointer a) (.pointer none)).run P w=.ok u w∧RepA γ (f7 P op t a.isNone).v u:=by
 unfold f7 at hk ⊢
 split at hk
 ·rename_i e hu
  have hp:P.underlying t=some (.pointer (P.pointee t)):=by simp only[Program.pointee,hu]
  exact⟨_,run_eql_pointer_nil w t a hp,by simp[Q.ret,RepA,Rep]⟩
 ·rename_i e hu
  have hp:P.underlying t=some (.pointer (P.pointee t)):=by simp only[Program.pointee,hu]
  exact⟨_,run_neq_pointer_nil w t a hp,by simp[Q.ret,RepA,Rep]⟩
 ·cases hk
theorem Gc (op:BinOp) (t:TypeId) (x y:Operand) (a b:Value) (h:ck y=true) (hb:b=.nilIface):(eqGuard op t x y a b).run P w=.ok () w:=by
 subst hb
 have hc:∃ c,y=.const c:=by cases y<;>simp[ck]at h ⊢
 obtain⟨c,rfl⟩:=hc
 unfold eqGuard
 split<;>cases a<;>simp
theorem stay_err {o:Oper} {op:BinOp} {t t2:TypeId} {x y:Operand} (ho:o.op=.binOp op t x y t2) {p q:AV} (hx:RepA γ p (ρ x)) (hy:RepA γ q (ρ y)) (hn:ck y=true) (hk:(yx P op t p q).ok=true) :
  Stay P γ w ρ o (yx P op t p q).v:=by
 unfold Stay execOp
 simp only[ho]
 unfold yx at hk ⊢
 split at hk<;>try simp only[RepA,Rep]at hx hy
 ·rename_i b ms hu
  have hi:P.underlying t=some (.interface (P.methodsAt t)):=by simp only[Program.methodsAt,hu]
  rw[hy]
  cases b with
  | true =>
   obtain⟨u,z,hv⟩:=(by simpa using hx:∃ t p,ρ x=.iface t p)
   rw[hv]
   refine⟨.bool false,?_,by simp[Q.ret,RepA,Rep]⟩
   simp[Gc _ _ _ _ _ _ hn rfl,run_eql_held_nil _ _ _ _ hi]
  | false =>
   have hv:ρ x=.nilIface:=by simpa using hx
   rw[hv]
   refine⟨.bool true,?_,by simp[Q.ret,RepA,Rep]⟩
   simp[Gc _ _ _ _ _ _ hn rfl,run_eql_nil_nil _ _ hi]
 ·rename_i b ms hu
  have hi:P.underlying t=some (.interface (P.methodsAt t)):=by simp only[Program.methodsAt,hu]
  rw[hy]
  cases b with
  | true =>
   obtain⟨u,z,hv⟩:=(by simpa using hx:∃ t p,ρ x=.iface t p)
   rw[hv]
   refine⟨.bool true,?_,by simp[Q.ret,RepA,Rep]⟩
   simp[Gc _ _ _ _ _ _ hn rfl,run_neq_held_nil _ _ _ _ hi]
  | false =>
   have hv:ρ x=.nilIface:=by simpa using hx
   rw[hv]
   refine⟨.bool false,?_,by simp[Q.ret,RepA,Rep]⟩
   simp[Gc _ _ _ _ _ _ hn rfl,run_neq_nil_nil _ _ hi]
 ·cases hk
theorem stay_bin {o:Oper} {op:BinOp} {t t2:TypeId} {x y:Operand} (ho:o.op=.binOp op t x y t2) {p q:AV} (hx:RepA γ p (ρ x)) (hy:RepA γ q (ρ y)) (hk:(lz P op t p q).ok=true) (hob:∀ z∈(lz P op t p q).ob,z) :
  Stay P γ w ρ o (lz P op t p q).v:=by
 unfold Stay execOp
 simp only[ho]
 unfold lz at hk hob ⊢
 split at hk<;>try simp only[RepA,Rep]at hx hy
 ·rename_i k a k' b
  rw[hx,hy]
  simp only[Sem.run_bind,d6,Result.andThen_ok]
  split at hk
  ·simp only[Q.when,List.mem_cons,List.not_mem_nil,or_false,forall_eq,RepA,Rep]at hob ⊢
   refine⟨_,?_,rfl⟩
   simp[binOp,Op.shift,show ¬ b < 0 by omega]
  ·simp only[Q.when,List.mem_cons,List.not_mem_nil,or_false,forall_eq,RepA,Rep]at hob ⊢
   refine⟨_,?_,rfl⟩
   simp[binOp,Op.shift,show ¬ b < 0 by omega]
  ·rename_i h1 h2
   split at hk
   ·rename_i hkk
    subst hkk
    simp only[if_true]at hob ⊢
    obtain⟨u,h3,h4⟩:=AA5 (P:=P) (γ:=γ) (w:=w) (t:=t) ⟨h1,h2⟩ hk hob
    exact⟨u,by simp[h3],h4⟩
   ·cases hk
 ·rename_i a b
  rw[hx,hy]
  obtain⟨u,h3,h4⟩:=AA6 (P:=P) (γ:=γ) (w:=w) (t:=t) hk hob
  exact⟨u,by simp[d7,h3],h4⟩
 ·rename_i a b
  rw[hx,hy]
  simp only[Sem.run_bind,Yg,Result.andThen_ok]
  split at hk
  ·rename_i hu
   exact⟨.bool (a==b),by simp[binOp,Qz hu],by simp[Q.ret,RepA,Rep]⟩
  ·rename_i hu
   exact⟨.bool (a != b),by simp[binOp,Qz hu,bne],by simp[Q.ret,RepA,Rep]⟩
  ·cases hk
 ·rename_i a b
  split at hk
  ·cases hk
  ·rename_i hg
   obtain⟨vs1,e1,r1⟩:=hx
   obtain⟨vs2,e2,r2⟩:=hy
   have hg':P.eqGuardType P.depth t=false:=by simpa using hg
   simp only[hg',Bool.false_eq_true,if_false]at hk hob ⊢
   rw[e1,e2]
   simp only[Sem.run_bind,run_eqGuard_agg w _ t x y _ _ hg',Result.andThen_ok]
   split at hk
   ·rename_i v hv
    have:(Op.equalIn 10000 t (.agg vs1.toArray) (.agg vs2.toArray)).run P w=.ok v w:=wa (P:=P) (μ:=γ.μ) 9980 20 hv (by simp only[Rep];exact⟨vs1,rfl,r1⟩) (by simp only[Rep];exact⟨vs2,rfl,r2⟩) w
    exact⟨.bool v,by simp[run_eql_struct,this],by simp[Q.ret,RepA,Rep]⟩
   ·rename_i v hv
    have:(Op.equalIn 10000 t (.agg vs1.toArray) (.agg vs2.toArray)).run P w=.ok v w:=wa (P:=P) (μ:=γ.μ) 9980 20 hv (by simp only[Rep];exact⟨vs1,rfl,r1⟩) (by simp only[Rep];exact⟨vs2,rfl,r2⟩) w
    exact⟨.bool (!v),by simp[run_neq_struct,this],by simp[Q.ret,RepA,Rep]⟩
   ·cases hk
 ·rw[hx,hy]
  obtain⟨u,h3,h4⟩:=Yi (P:=P) (γ:=γ) (w:=w) (a:=none) hk
  exact⟨u,by simp[Kv,h3],h4⟩
 ·rename_i id off
  obtain⟨b,_,e⟩:=hx
  rw[e,hy]
  obtain⟨u,h3,h4⟩:=Yi (P:=P) (γ:=γ) (w:=w) (a:=some ⟨b,off,none⟩) hk
  exact⟨u,by simp[Kv,h3],h4⟩
 ·rename_i d off
  obtain⟨b,ob,_,e,_⟩:=hx
  rw[e,hy]
  obtain⟨u,h3,h4⟩:=Yi (P:=P) (γ:=γ) (w:=w) (a:=some ⟨b,ob+off,none⟩) hk
  exact⟨u,by simp[Kv,h3],h4⟩
 ·cases hk
theorem Z7 {args:Array Operand} {e:Operand→AV} {p q:AV} (h:args.toList.map e=[p,q]):∃ x y,args=#[x,y]∧e x=p∧e y=q:=by
 cases args with | mk l=>match l,h with | [x,y],h=>simp at h;exact⟨x,y,rfl,h.1,h.2⟩
theorem args1 {args:Array Operand} {e:Operand→AV} {p:AV} (h:args.toList.map e=[p]):∃ x,args=#[x]∧e x=p:=by
 cases args with | mk l=>match l,h with | [x],h=>simp at h;exact⟨x,rfl,h⟩
theorem args3 {args:Array Operand} {e:Operand→AV} {p q r:AV} (h:args.toList.map e=[p,q,r]):∃ x y z,args=#[x,y,z]∧e x=p∧e y=q∧e z=r:=by
 cases args with | mk l=>match l,h with | [x,y,z],h=>simp at h;exact⟨x,y,z,rfl,h.1,h.2.1,h.2.2⟩
theorem qq (k k':IntKind) (a b:Int):(Builtin.max2 (.int k a) (.int k' b)).run P w=.ok (.int k (if a < b then b else a)) w:=by simp[Builtin.max2]
theorem qu (k k':IntKind) (a b:Int):(Builtin.min2 (.int k a) (.int k' b)).run P w=.ok (.int k (if b < a then b else a)) w:=by simp[Builtin.min2]
theorem Xj {o:Oper} {mx:Bool} {args:Array Operand} {ts:Array TypeId} (ho:o.op=.call { callee:=.builtin (if mx then .max else .min),args:=args,argTypes:=ts }) (e:Operand→AV) (hr:∀ y∈args,RepA γ (e y) (ρ y))
  (hk:(Qs mx (args.toList.map e)).ok=true):Stay P γ w ρ o (Qs mx (args.toList.map e)).v:=by
 unfold Stay execOp
 simp only[ho]
 unfold Qs at hk ⊢
 obtain⟨⟨k,n⟩,h1,h2⟩:=Ar hk
 rw[h2]
 simp only[Q.ret,RepA,Rep]
 refine⟨_,?_,rfl⟩
 unfold minMax at h1
 split at h1
 ·rename_i k' a heq
  injection h1 with h1
  obtain⟨x,rfl,hx⟩:=args1 heq
  have hx1:=hr x (by simp)
  rw[hx]at hx1
  simp only[RepA,Rep]at hx1
  obtain⟨rfl,rfl⟩:=Prod.mk.inj h1
  cases mx<;>simp[resolve,invoke,builtin,Builtin.max_,Builtin.min_,hx1]
 ·rename_i k' a k2 b heq
  injection h1 with h1
  obtain⟨x,y,rfl,hx,hy⟩:=Z7 heq
  have hx1:=hr x (by simp)
  have hy1:=hr y (by simp)
  rw[hx]at hx1
  rw[hy]at hy1
  simp only[RepA,Rep]at hx1 hy1
  obtain⟨rfl,rfl⟩:=Prod.mk.inj h1
  cases mx<;>simp[resolve,invoke,builtin,Builtin.max_,Builtin.min_,hx1,hy1,qq,qu]
 ·rename_i k' a k2 b k3 c heq
  injection h1 with h1
  obtain⟨x,y,z,rfl,hx,hy,hz⟩:=args3 heq
  have hx1:=hr x (by simp)
  have hy1:=hr y (by simp)
  have hz1:=hr z (by simp)
  rw[hx]at hx1
  rw[hy]at hy1
  rw[hz]at hz1
  simp only[RepA,Rep]at hx1 hy1 hz1
  obtain⟨rfl,rfl⟩:=Prod.mk.inj h1
  cases mx<;>simp[resolve,invoke,builtin,Builtin.max_,Builtin.min_,hx1,hy1,hz1,qq,qu]
 ·cases h1
end
end Go.Av
namespace Go.Av
open Go.RowKit Go.Base
variable {P:Program} {γ γ':G} {w w':World} {own:Nat→Prop} {hp:Nat→Option Ob} {live:Nat→Prop} {ρ:Operand→Value}
def Cb (id:Nat) (new:Option Ob) (hp:Nat→Option Ob):Nat→Option Ob:=fun j=>match new with
 | some o=>if j=id then some o else hp j
 | none=>hp j
def H7 (id:Nat) (tok:Bool) (live:Nat→Prop):Nat→Prop:=fun t=>live t∨(tok=true∧t=id)
theorem Gz {μ:Nat→Nat→Option Value} (h:Kd μ w) {b o:Nat} {v:Value} (e:μ b o=some v):b < w.heap.size:=dv (a:=⟨b,o,none⟩) (h b o v e)
theorem sj (h:Gv w w'):w.grownBy w' none:=⟨h.os,h.tape,h.output,h.size,fun k hk _=>h.block k hk⟩
theorem kz (H : Kd γ.μ w) {id : Nat} (hμ : ∀ b o, b < w.heap.size → γ'.μ b o = γ.μ b o) (h1 : γ.ι id = none) (h2 : γ.τ id = none) (hι : ∀ j, j ≠ id → γ'.ι j = γ.ι j) (hτ : ∀ j, j ≠ id → γ'.τ j = γ.τ j) : LeG γ γ' :=
  ⟨fun b o v e => by rw [hμ b o (Gz H e)]; exact e,
   fun i b e => by rw [hι i (fun h => by rw [h, h1] at e; cases e)]; exact e,
   fun i b e => by rw [hτ i (fun h => by rw [h, h2] at e; cases e)]; exact e⟩
theorem Hp.grow (H:Hp own hp live γ w) (hx:Gv w w') {id:Nat} (hμ:∀ b o,b < w.heap.size→γ'.μ b o=γ.μ b o) (hfz:Kd γ'.μ w') (h1:γ.ι id=none) (h2:γ.τ id=none)
  (hι:∀ j,j≠id→γ'.ι j=γ.ι j) (hτ:∀ j,j≠id→γ'.τ j=γ.τ j) (hid:hp id=none) (hlv:¬ live id) (new:Option Ob) (tok:Bool)
  (hn:∀ o,new=some o→∃ p,γ'.ι id=some p∧ObjAt γ' w' o p∧∀ b,p.block=some b→w.heap.size≤b∧own b∧∀ k,γ'.μ b k=none)
  (ht:tok=true→∀ v e sz,γ'.τ id=some (v,e,sz)→∃ n xs,w'.ownsRow 0 e sz v n xs∧∀ g,v.ownBlock=some g→w.heap.size≤g∧own g∧(∀ k,n * sz≤k→γ'.μ g k=none)∧∀ p,new≠none→γ'.ι id=some p→p.block≠some g) :
  Hp own (Cb id new hp) (H7 id tok live) γ' w':=by
 have le:=kz H.fz hμ h1 h2 hι hτ
 have old:∀ j o,hp j=some o→j≠id:=fun j o h e=>by rw[e,hid]at h;cases h
 have oldL:∀ j,live j→j≠id:=fun j h e=>hlv (e ▸ h)
 have cases_:∀ j o,Cb id new hp j=some o→(j=id∧new=some o)∨(j≠id∧hp j=some o):=by
  intro j o h
  unfold Cb at h
  cases new with
  | none=>exact .inr ⟨old j o h,h⟩
  | some x =>
   simp only at h
   split at h
   ·rename_i e;exact .inl ⟨e,h⟩
   ·rename_i e;exact .inr ⟨e,h⟩
 have blk:∀ b x,w.heap[b]?=some x→b < w.heap.size:=fun b x h=>(Array.getElem?_eq_some_iff.1 h).1
 have tokold:∀ t v e sz,live t→γ'.τ t=some (v,e,sz)→∃ n xs,w.ownsRow 0 e sz v n xs∧∀ g,v.ownBlock=some g→own g∧(∀ k,n * sz≤k→γ.μ g k=none)∧∀ id o p,hp id=some o→o.ok=true→γ.ι id=some p→p.block≠some g:=fun t v e sz hl hq=>by
  rw[hτ t (oldL t hl)]at hq
  exact H.tok t v e sz hl hq
 have oldlt:∀ j o p b,hp j=some o→o.ok=true→γ.ι j=some p→p.block=some b→b < w.heap.size:=fun j o p b h ho hp hb=>by
  obtain⟨p',e1,e2,_⟩:=H.obj j o h ho
  rw[hp]at e1;injection e1 with e1;subst e1
  exact e2.lt hb
 have newge:∀ o p b,new=some o→γ'.ι id=some p→p.block=some b→w.heap.size≤b:=fun o p b h hp hb=>by
  obtain⟨p',e1,e2,e3⟩:=hn o h
  rw[hp]at e1;injection e1 with e1;subst e1
  exact(e3 b hb).1
 refine⟨hfz,fun j o h ho=>?_,fun i j oi oj p q hi hj hoi hoj hne hp hq=>?_,fun t v e sz hl hq=>?_,fun s t v u hs ht2 hne hv hu=>?_⟩
 ·rcases cases_ j o h with⟨rfl,h9⟩ | ⟨hj,h9⟩
  ·obtain⟨p,e1,e2,e3⟩:=hn o h9
   exact⟨p,e1,e2,fun b hb=>(e3 b hb).2⟩
  ·obtain⟨p,e1,e2,e3⟩:=H.obj j o h9 ho
   exact⟨p,by rw[hι j hj];exact e1,e2.kept le fun b hb=>hx.block b (e2.lt hb),fun b hb=>⟨(e3 b hb).1,fun k=>by rw[hμ b k (e2.lt hb)];exact(e3 b hb).2 k⟩⟩
 ·have key:∀ b,p.block=some b→q.block=some b→False:=fun b hb hb'=>by
   rcases cases_ i oi hi with⟨rfl,h⟩ | ⟨h3,h⟩
   ·rcases cases_ j oj hj with⟨rfl,_⟩ | ⟨h4,h'⟩
    ·exact hne rfl
    ·rw[hι j h4]at hq
     have:=newge oi p b h hp hb
     have:=oldlt j oj q b h' hoj hq hb'
     omega
   ·rw[hι i h3]at hp
    rcases cases_ j oj hj with⟨rfl,h'⟩ | ⟨h4,h'⟩
    ·have:=newge oj q b h' hq hb'
     have:=oldlt i oi p b h hoi hp hb
     omega
    ·rw[hι j h4]at hq
     rcases H.inj i j oi oj p q h h' hoi hoj hne hp hq with h | h
     ·rw[hb]at h;cases h
     ·rw[hb,hb']at h;exact h rfl
  cases hb:p.block with
  | none=>exact .inl rfl
  | some b=>exact .inr fun e=>key b hb e.symm
 ·rcases hl with hl | ⟨h3,rfl⟩
  ·obtain⟨n,xs,o1,o2⟩:=tokold t v e sz hl hq
   refine⟨n,xs,o1.kept (sj hx) (by cases v.ownBlock<;>simp),fun g hg=>?_⟩
   obtain⟨p1,p2,p3⟩:=o2 g hg
   have hlt:g < w.heap.size:=(o1.lt g hg).2
   refine⟨p1,fun k hk=>by rw[hμ g k hlt];exact p2 k hk,fun j o p hj ho hp hb=>?_⟩
   rcases cases_ j o hj with⟨rfl,h⟩ | ⟨h4,h⟩
   ·have:=newge o p g h hp hb
    omega
   ·rw[hι j h4]at hp;exact p3 j o p h ho hp hb
  ·obtain⟨n,xs,o1,o2⟩:=ht h3 v e sz hq
   refine⟨n,xs,o1,fun g hg=>?_⟩
   obtain⟨p0,p1,p2,p3⟩:=o2 g hg
   refine⟨p1,p2,fun j o p hj ho hp hb=>?_⟩
   rcases cases_ j o hj with⟨rfl,h⟩ | ⟨h4,h⟩
   ·exact p3 p (by rw[h];simp) hp hb
   ·rw[hι j h4]at hp
    have:=oldlt j o p g h ho hp hb
    omega
 ·rcases hs with hs | ⟨h3,rfl⟩
  ·rcases ht2 with ht2 | ⟨h4,rfl⟩
   ·exact H.tinj s t v u hs ht2 hne (by rw[← hτ s (oldL s hs)];exact hv) (by rw[← hτ t (oldL t ht2)];exact hu)
   ·obtain⟨n,xs,o1,o2⟩:=tokold s v.1 v.2.1 v.2.2 hs hv
    obtain⟨n',xs',o1',o2'⟩:=ht h4 u.1 u.2.1 u.2.2 hu
    cases hb:v.1.ownBlock with
    | none=>exact .inl rfl
    | some g =>
     refine .inr fun e=>?_
     have:=(o1.lt g hb).2
     have:=(o2' g e.symm).1
     omega
  ·rcases ht2 with ht2 | ⟨h4,rfl⟩
   ·obtain⟨n,xs,o1,o2⟩:=tokold t u.1 u.2.1 u.2.2 ht2 hu
    obtain⟨n',xs',o1',o2'⟩:=ht h3 v.1 v.2.1 v.2.2 hv
    cases hb:v.1.ownBlock with
    | none=>exact .inl rfl
    | some g =>
     refine .inr fun e=>?_
     have:=(o1.lt g (by rw[← e])).2
     have:=(o2' g hb).1
     omega
   ·exact absurd rfl hne
structure Stp (own:Nat→Prop) (hp:Nat→Option Ob) (live:Nat→Prop) (γ:G) (w:World) (id:Nat) (hp':Nat→Option Ob) (live':Nat→Prop) (v:AV) (u:Value) (γ':G) (w':World):Prop where
 le:LeG γ γ'
 hp:Hp own hp' live' γ' w'
 base:Base own w w'
 rep:RepA γ' v u
 other:∀ j,(j < id∨id+16≤j)→γ'.ι j=γ.ι j∧γ'.τ j=γ.τ j
 mu:∀ b o,b < w.heap.size→¬ own b→γ'.μ b o=γ.μ b o
theorem Base.refl (own:Nat→Prop) (w:World):Base own w w:=⟨rfl,rfl,rfl,Nat.le_refl _,fun _ _ _=>rfl⟩
theorem Base.trans {a b c:World} (hown:∀ k,b.heap.size≤k→own k) (h:Base own a b) (k:Base own b c):Base own a c :=
 ⟨k.os.trans h.os,k.tape.trans h.tape,k.output.trans h.output,Nat.le_trans h.size k.size,fun i hi hn=>(k.block i (Nat.lt_of_lt_of_le hi h.size) hn).trans (h.block i hi hn)⟩
theorem Base.of_ext (h:Gv w w'):Base own w w':=⟨h.os,h.tape,h.output,h.size,fun k hk _=>h.block k hk⟩
theorem Ou (id:Nat):Cb id none hp=hp:=rfl
theorem Cd (id:Nat):H7 id false live=live:=by
 funext t;simp[H7]
theorem Stp.stay (H:Hp own hp live γ w) (id:Nat) {v:AV} {u:Value} (hr:RepA γ v u):Stp own hp live γ w id (Cb id none hp) (H7 id false live) v u γ w :=
 ⟨LeG.refl _,by rw[Ou,Cd];exact H,Base.refl _ _,hr,fun _ _=>⟨rfl,rfl⟩,fun _ _ _ _=>rfl⟩
theorem fz_alloc (h:Kd γ.μ w) (o:Go.Obj):Kd γ.μ (w.alloc o):=fun b k v e=>by
 have:=Gz h e
 rw[World.cell?_of_block (w:=w) (by exact Below.heap_alloc w o b this)]
 exact h b k v e
theorem Ls (H:Hp own hp live γ w) {id:Nat} (h1:γ.ι id=none) (h2:γ.τ id=none) (hid:hp id=none) (hlv:¬ live id) (hown:∀ b,w.heap.size≤b→own b) (o:Ob) (x:Go.Obj)
  (hr:∀ γ',LeG γ γ'→RepO γ' o x) (v:AV) (u:Value) (hv:∀ γ':G,γ'.ι id=some (.blk w.heap.size)→RepA γ' v u) :
  ∃ γ',Stp own hp live γ w id (Cb id (some o) hp) (H7 id false live) v u γ' (w.alloc x):=by
 let γ':G:=⟨γ.μ,fun j=>if j=id then some (.blk w.heap.size)else γ.ι j,γ.τ⟩
 have hι:∀ j,j≠id→γ'.ι j=γ.ι j:=fun j hj=>if_neg hj
 have hi:γ'.ι id=some (.blk w.heap.size):=if_pos rfl
 have hx:Gv w (w.alloc x):=(Below.refl _ w).alloc (Nat.le_refl _) x
 have le:LeG γ γ':=kz H.fz (fun _ _ _=>rfl) h1 h2 hι (fun _ _=>rfl)
 refine⟨γ',le,?_,Base.of_ext hx,hv γ' hi,fun j hj=>⟨hι j (by omega),rfl⟩,fun _ _ _ _=>rfl⟩
 refine H.grow (γ':=γ') hx (fun _ _ _=>rfl) (fz_alloc H.fz x) h1 h2 hι (fun _ _=>rfl) hid hlv _ _ (fun o' ho=>?_) (fun h=>by cases h)
 injection ho with ho
 subst ho
 refine⟨.blk w.heap.size,hi,⟨x,heap_alloc_new w x,hr γ' le⟩,fun b hb=>?_⟩
 simp only[Pl.block,Option.some.injEq]at hb
 subst hb
 refine⟨Nat.le_refl _,hown _ (Nat.le_refl _),fun k=>?_⟩
 cases hm:γ.μ w.heap.size k with
 | none=>rfl
 | some v=>exact absurd (Gz H.fz hm) (by omega)
theorem Kx (H:Hp own hp live γ w) {id:Nat} (h1:γ.ι id=none) (h2:γ.τ id=none) (hid:hp id=none) (hlv:¬ live id) (hown:∀ b,w.heap.size≤b→own b) {w':World} (hx:Gv w w') (u:Value) (e:TypeId) (sz n:Nat) (xs:List Value)
  (hown2:w'.ownsRow 0 e sz u n xs) (hg:∀ g,u.ownBlock=some g→w.heap.size≤g) (v:AV)
  (hv:∀ γ':G,LeG γ γ'→γ'.τ id=some (u,e,sz)→(∀ g j,u.ownBlock=some g→j < n * sz→γ'.μ g j=w'.cell? ⟨g,j,none⟩)→RepA γ' v u) :
  ∃ γ',Stp own hp live γ w id (Cb id none hp) (H7 id true live) v u γ' w':=by
 let γ':G:=⟨fun b o=>if u.ownBlock=some b∧o < n * sz then w'.cell? ⟨b,o,none⟩else γ.μ b o,γ.ι,fun j=>if j=id then some (u,e,sz)else γ.τ j⟩
 have hτ:∀ j,j≠id→γ'.τ j=γ.τ j:=fun j hj=>if_neg hj
 have hi:γ'.τ id=some (u,e,sz):=if_pos rfl
 have hμ:∀ b o,b < w.heap.size→γ'.μ b o=γ.μ b o:=fun b o hb=>if_neg (fun h=>by have:=hg b h.1;omega)
 have le:LeG γ γ':=kz H.fz hμ h1 h2 (fun _ _=>rfl) hτ
 refine⟨γ',le,?_,Base.of_ext hx,hv γ' le hi (fun g j h3 h4=>if_pos ⟨h3,h4⟩),fun j hj=>⟨rfl,hτ j (by omega)⟩,fun b o hb _=>hμ b o hb⟩
 refine H.grow (γ':=γ') hx hμ (fun b o v he=>?_) h1 h2 (fun _ _=>rfl) hτ hid hlv _ _ (fun o ho=>by cases ho) (fun _ v' e' sz' hq=>?_)
 ·by_cases hb:u.ownBlock=some b∧o < n * sz
  ·simp only[γ',hb,and_self,if_true]at he;exact he
  ·have he2:γ.μ b o=some v:=by simpa only[γ',if_neg hb] using he
   rw[World.cell?_of_block (w:=w) (by exact hx.block b (Gz H.fz he2))]
   exact H.fz b o v he2
 ·rw[hi]at hq
  injection hq with hq
  obtain⟨rfl,hq2⟩:=Prod.mk.inj hq
  obtain⟨rfl,rfl⟩:=Prod.mk.inj hq2
  refine⟨n,xs,hown2,fun g hg'=>⟨hg g hg',hown g (hg g hg'),fun k hk=>?_,fun _ h=>absurd rfl h⟩⟩
  show (if u.ownBlock=some g∧k < n * sz then _ else γ.μ g k)=none
  rw[if_neg (fun h=>by omega)]
  cases hm:γ.μ g k with
  | none=>rfl
  | some v=>exact absurd (Gz H.fz hm) (by have:=hg g hg';omega)
theorem Oc:∀ l:List Value,RepAL γ (l.map Dw) l
 | []=>by simp[RepAL]
 | v :: l=>by simp only[List.map_cons,RepAL];exact⟨v,l,rfl,K8 v,Oc l⟩
theorem Ez:∀ {cs:List AV} {vs:List Value},RepAL γ cs vs→cs.all AV.one=true→∀ x∈vs,x.oneCell'=true
 | [],_,h,_,x,hx=>by simp only[RepAL]at h;subst h;cases hx
 | c :: cs,_,h,ho,x,hx=>by
  simp only[RepAL]at h
  obtain⟨v,t,rfl,h1,h2⟩:=h
  simp only[List.all_cons,Bool.and_eq_true]at ho
  rcases List.mem_cons.1 hx with rfl | hx
  ·exact(h1.cells_one ho.1).1
  ·exact Ez h2 ho.2 x hx
theorem Hz {t:TypeId} {cs:List AV} (h:Px P t=some cs):∃ i v,P.info? t=some i∧i.zero=some v∧cs=v.cells.toList.map Dw:=by
 unfold Px at h
 split at h
 ·rename_i i hi
  split at h
  ·rename_i v hv;injection h with h;exact⟨i,v,hi,hv,h.symm⟩
  ·cases h
 ·cases h
theorem Og {t:TypeId} {i:TypeInfo} {v:Value} (hi:P.info? t=some i) (hv:i.zero=some v):(zeroValue t).run P w=.ok v w:=by
 simp[zeroValue,typeInfo,hi,hv]
theorem Sj (t:TypeId) (v:Value):(newVar t v).run P w=.ok ⟨w.heap.size,0,none⟩ (w.alloc (.cells v.cells t)):=by
 simp only[newVar,newRow,newObj,Sem.run_bind,Sem.run_pure];rfl
def Cy (id:Nat) (q:Q) (hp:Nat→Option Ob):Nat→Option Ob:=fun j=>match q.mo with
 | some t=>(match Af t.ups j with | some o=>some o | none=>hp j)
 | none=>match q.upd with
 | some (d,o)=>if j=d then some o else Cb id q.new hp j
 | none=>Cb id q.new hp j
def Ev (id:Nat) (q:Q) (live:Nat→Prop):Nat→Prop:=fun t=>match q.mo with
 | some m=>(live t∧¬ t∈m.lv)∨t∈m.toks
 | none=>(live t∧q.kill≠some t)∨(q.tok=true∧t=id)
theorem Fj {id:Nat} {q:Q} (h:q.upd=none) (hm:q.mo=none:=by rfl):Cy id q hp=Cb id q.new hp:=by
 funext j;simp only[Cy,h,hm]
theorem Ef {id:Nat} {q:Q} (h:q.kill=none) (hm:q.mo=none:=by rfl):Ev id q live=H7 id q.tok live:=by
 funext t;simp[Ev,H7,h,hm]
def Ran (u:Value):Result Next→World→Prop:=fun r w'=>r=.ok (.value u) w'∨(u=undef∧r=.ok .skip w')
def Does (P:Program) (own:Nat→Prop) (hp:Nat→Option Ob) (live:Nat→Prop) (γ:G) (w:World) (ρ:Operand→Value) (o:Oper) (id:Nat) (q:Q):Prop :=
 ∃ u w' γ',Ran u ((execOp ρ o).run P w) w'∧Stp own hp live γ w id (Cy id q hp) (Ev id q live) q.v u γ' w'
theorem Stay.does {o:Oper} {v:AV} (h:Stay P γ w ρ o v) (H:Hp own hp live γ w) (id:Nat) (q:Q) (h1:q.new=none) (h2:q.tok=false) (h3:q.v=v) (h6:q.upd=none) (h7:q.kill=none) (h8:q.mo=none:=by rfl):Does P own hp live γ w ρ o id q:=by
 obtain⟨u,h4,h5⟩:=h
 exact⟨u,w,γ,.inl h4,by rw[Fj h6 h8,Ef h7 h8,h1,h2,h3];exact Stp.stay H id h5⟩
theorem Le {o:Oper} {id:Nat} {q:Q} (h6:q.upd=none) (h7:q.kill=none) (h8:q.mo=none) (h:∃ u w' γ',(execOp ρ o).run P w=.ok (.value u) w'∧Stp own hp live γ w id (Cb id q.new hp) (H7 id q.tok live) q.v u γ' w'):Does P own hp live γ w ρ o id q:=by
 obtain⟨u,w',γ',h1,h2⟩:=h
 exact⟨u,w',γ',.inl h1,by rw[Fj h6 h8,Ef h7 h8];exact h2⟩
theorem bldT_zero {t:TypeId} (h:yh P t=true):∃ i v,P.info? t=some i∧i.zero=some v∧v.cells=#[.pointer none,.slice none 0 0]:=by
 unfold yh at h
 split at h
 ·rename_i i hi
  split at h
  ·rename_i v hv
   split at h
   ·rename_i hc
    exact⟨i,v,hi,hv,Array.ext' hc⟩
   ·cases h
  ·cases h
 ·cases h
theorem yt (H:Hp own hp live γ w) {id:Nat} (h1:γ.ι id=none) (h2:γ.τ id=none) (hid:hp id=none) (hlv:¬ live id) (hown:∀ b,w.heap.size≤b→own b) {o:Oper} {t:TypeId} (ho:o.op=.alloc t) (hk:(Z4 P id t).quiet.ok=true):Does P own hp live γ w ρ o id (Z4 P id t).quiet:=by
 refine Le rfl rfl rfl ?_
 unfold execOp
 simp only[ho]
 unfold Z4 at hk ⊢
 by_cases hb:yh P t=true
 ·rw[if_pos hb]
  obtain⟨i,v,hi,hv,hc⟩:=bldT_zero hb
  obtain⟨γ',h4⟩:=Ls H h1 h2 hid hlv hown (.bld0 t) (.cells v.cells t) (fun γ' _=>by rw[hc];exact rfl) (.ptr id 0) (.pointer (some ⟨w.heap.size,0,none⟩)) (fun γ' e=>by simp only[RepA];exact⟨_,e,rfl⟩)
  refine⟨_,_,γ',?_,h4⟩
  simp[Instr.alloc,Og hi hv,Sj]
 rw[if_neg hb]at hk ⊢
 obtain⟨cs,hc,h3⟩:=Ar hk
 rw[h3]at hk ⊢
 split at hk
 ·rename_i hone
  simp only[hone,if_true]
  obtain⟨i,v,hi,hv,rfl⟩:=Hz hc
  have hr:∀ γ':G,RepAL γ' (v.cells.toList.map Dw) v.cells.toList:=fun γ'=>Oc _
  obtain⟨γ',h4⟩:=Ls H h1 h2 hid hlv hown (.cells (v.cells.toList.map Dw)) (.cells v.cells t) (fun γ' _=>⟨v.cells.toList,t,by simp,hr γ',Ez (hr γ') hone⟩) (.ptr id 0) (.pointer (some ⟨w.heap.size,0,none⟩)) (fun γ' e=>by simp only[RepA];exact⟨_,e,rfl⟩)
  refine⟨_,_,γ',?_,h4⟩
  simp[Instr.alloc,Og hi hv,Sj]
 ·cases hk
theorem does_box (H:Hp own hp live γ w) {id:Nat} (h1:γ.ι id=none) (h2:γ.τ id=none) (hid:hp id=none) (hlv:¬ live id) (hown:∀ b,w.heap.size≤b→own b) {o:Oper} {t:TypeId} {x:Operand} (ho:o.op=.box t x) {p:AV} (hr:RepA γ p (ρ x)) (hk:(yi id p).quiet.ok=true):Does P own hp live γ w ρ o id (yi id p).quiet:=by
 refine Le rfl rfl rfl ?_
 unfold execOp
 simp only[ho]
 unfold yi at hk ⊢
 split at hk
 ·rename_i hone
  simp only[hone,if_true]
  obtain⟨γ',h4⟩:=Ls H h1 h2 hid hlv hown (.cells p.cells) (.cells (ρ x).cells t) (fun γ' le=>by
   obtain⟨a,b⟩:=Se (hr.mono le) hone
   exact⟨(ρ x).cells.toList,t,by simp,a,fun y hy=>b y (by simpa using hy)⟩) (.ptr id 0) (.pointer (some ⟨w.heap.size,0,none⟩)) (fun γ' e=>by simp only[RepA];exact⟨_,e,rfl⟩)
  exact⟨_,_,γ',by simp[Instr.box,Sj],h4⟩
 ·cases hk
theorem jj:∀ {cs:List AV} {vs:List Value} (i:Nat) {x:AV} {v:Value},RepAL γ cs vs→RepA γ x v→RepAL γ (cs.set i x) (vs.set i v)
 | [],_,i,_,_,h,_=>by simp only[RepAL]at h;subst h;simp[RepAL]
 | c :: cs,_,0,x,v,h,hx=>by
  simp only[RepAL]at h;obtain⟨u,t,rfl,h1,h2⟩:=h
  simp only[List.set_cons_zero,RepAL];exact⟨v,t,rfl,hx,h2⟩
 | c :: cs,_,i+1,x,v,h,hx=>by
  simp only[RepAL]at h;obtain⟨u,t,rfl,h1,h2⟩:=h
  simp only[List.set_cons_succ,RepAL];exact⟨u,_,rfl,h1,jj i h2 hx⟩
theorem Sd:∀ {xs:List AV} {us:List Value} (off:Nat) {cs:List AV} {vs:List Value},RepAL γ xs us→RepAL γ cs vs →
  RepAL γ (W4 off xs cs) ((us.zipIdx off).foldl (fun a p=>a.set p.2 p.1) vs)
 | [],_,off,cs,vs,h,hc=>by simp only[RepAL]at h;subst h;simpa [W4] using hc
 | x :: xs,_,off,cs,vs,h,hc=>by
  simp only[RepAL]at h
  obtain⟨u,t,rfl,h1,h2⟩:=h
  simp only[W4,List.zipIdx_cons,List.foldl_cons]
  exact Sd (off+1) h2 (jj off hc h1)
theorem Zn (off:Nat):∀ (us:List Value) (k:Nat) (vs:List Value),(us.zipIdx k).foldl (fun(cs:Array Value) (p:Value×Nat)=>cs.setIfInBounds (off+p.2) p.1) vs.toArray=((us.zipIdx (off+k)).foldl (fun a p=>a.set p.2 p.1) vs).toArray
 | [],_,_=>rfl
 | u :: us,k,vs=>by
  simp only[List.zipIdx_cons,List.foldl_cons,List.setIfInBounds_toArray]
  exact Zn off us (k+1) _
theorem Yh {places:Nat→Option (Nat×Nat)} {e:Operand→AV}:∀ (parts:List (Nat×Operand)) {cs r:List AV} {vs:List Value},Kg places e parts cs=some r→RepAL γ cs vs→(∀ p∈parts,RepA γ (e p.2) (ρ p.2)) →
  ∃ us:List Value,Instr.fill places vs.toArray (parts.map fun p=>(p.1,ρ p.2))=some us.toArray∧RepAL γ r us
 | [],cs,r,vs,h,hc,_=>by
  simp only[Kg,Option.some.injEq]at h
  subst h
  exact⟨vs,rfl,hc⟩
 | (i,x) :: l,cs,r,vs,h,hc,hr=>by
  simp only[Kg]at h
  simp only[List.map_cons,Instr.fill]
  split at h
  ·rename_i off size hp
   simp only[hp]
   split at h
   ·rename_i hs
    obtain⟨hcells,_⟩:=Se (hr (i,x) (by simp)) hs.2.2
    have hl:(ρ x).cells.size=size:=by have:=hcells.length;simp at this;omega
    have hc2:=hc.length
    rw[if_neg (by simp;omega)]
    have:=Yh (places:=places) l h (Sd off hcells hc) (fun p hp=>hr p (by simp[hp]))
    obtain⟨us,h3,h4⟩:=this
    refine⟨us,?_,h4⟩
    rw[← h3]
    congr 1
    have:=Zn off (ρ x).cells.toList 0 vs
    rw[← Array.foldl_toList,Array.toList_zipIdx]
    simpa using this
   ·cases h
  ·cases h
theorem jg:∀ (fs:List Field),fs.all (fun f=>(P.info? f.type).isSome)=true→fs.mapM (fun f=>(P.info? f.type).map fun i=>(f.offset,i.size))=some (fs.map fun f=>(f.offset,Ap P f.type))
 | [],_=>rfl
 | f :: fs,h=>by
  simp only[List.all_cons,Bool.and_eq_true]at h
  obtain⟨i,hi⟩:=Option.isSome_iff_exists.1 h.1
  simp[List.mapM_cons,hi,jg fs h.2,Ap]
theorem AA8 {o:Oper} {t:TypeId} {parts:Array (Nat×Operand)} (ho:o.op=.build t parts) (e:Operand→AV) (hr:∀ p∈parts.toList,RepA γ (e p.2) (ρ p.2)) (hk:(U9 P t parts.toList e).ok=true):Stay P γ w ρ o (U9 P t parts.toList e).v:=by
 unfold Stay execOp
 simp only[ho]
 unfold U9 at hk ⊢
 obtain⟨z,hz,h2⟩:=Ar hk
 rw[h2]at hk ⊢
 obtain⟨i,v,hi,hv,rfl⟩:=Hz hz
 have hc:RepAL γ (v.cells.toList.map Dw) v.cells.toList:=Oc _
 have key:∀ (us:List Value),P.built t (parts.toList.map fun p=>(p.1,ρ p.2))=some us.toArray→(Instr.build t (parts.map fun(i,x)=>(i,ρ x))).run P w=.ok (.agg us.toArray) w:=fun us h=>run_build w t _ _ (by simpa using h)
 split at hk
 ·rename_i fs hu
  split at hk
  ·rename_i ha
   simp only[ha,if_true]
   obtain⟨r,hr1,h3⟩:=Ar hk
   rw[h3]
   obtain⟨us,h4,h5⟩:=Yh (ρ:=ρ) parts.toList hr1 hc hr
   have hb:P.built t (parts.toList.map fun p=>(p.1,ρ p.2))=some us.toArray:=by
    unfold Program.built
    simp only[hi,hu,hv,jg _ ha]
    rw[← h4]
    congr 1
    funext k
    simp[Vp]
   exact⟨_,by rw[Sem.run_bind,key us hb];rfl,Vg h5⟩
  ·cases hk
 ·rename_i n el hu
  split at hk
  ·rename_i ha
   simp only[ha,if_true]
   obtain⟨r,hr1,h3⟩:=Ar hk
   rw[h3]
   obtain⟨us,h4,h5⟩:=Yh (ρ:=ρ) parts.toList hr1 hc hr
   obtain⟨ie,hie⟩:=Option.isSome_iff_exists.1 ha
   have hb:P.built t (parts.toList.map fun p=>(p.1,ρ p.2))=some us.toArray:=by
    unfold Program.built
    simp only[hi,hu,hv,hie]
    rw[← h4]
    congr 1
    funext k
    simp[Ap,hie]
   exact⟨_,by rw[Sem.run_bind,key us hb];rfl,Vg h5⟩
  ·cases hk
 ·cases hk
theorem E0 {t el:TypeId} (h:Kj P t=some el):P.underlying t=some (.slice el):=by
 unfold Kj at h
 split at h
 ·rename_i x hx;injection h with h;rw[hx,h]
 ·cases h
theorem Sb:∀ {l:List AV} {ds:List D} {vs:List Value},Eo l=some ds→RepAL γ l vs→RepL γ.μ ds vs
 | [],_,_,h,hr=>by simp only[Eo,Option.some.injEq]at h;subst h;simpa only[RepAL,RepL] using hr
 | .d x :: l,ds,vs,h,hr=>by
  simp only[Eo,Option.map_eq_some_iff]at h
  obtain⟨r,h1,rfl⟩:=h
  simp only[RepAL,RepA]at hr
  obtain⟨v,t,rfl,h2,h3⟩:=hr
  simp only[RepL]
  exact⟨v,t,rfl,h2,Sb h1 h3⟩
 | .ap sz n f r :: l,ds,vs,h,hr=>by
  simp only[Eo,Option.map_eq_some_iff]at h
  obtain⟨r,h1,rfl⟩:=h
  simp only[RepAL,RepA]at hr
  obtain⟨v,t,rfl,h2,h3⟩:=hr
  simp only[RepL]
  exact⟨v,t,rfl,h2.1,Sb h1 h3⟩
 | .ptr .. :: _,_,_,h,_=>by simp[Eo]at h
 | .ep .. :: _,_,_,h,_=>by simp[Eo]at h
 | .pa .. :: _,_,_,h,_=>by simp[Eo]at h
 | .arr .. :: _,_,_,h,_=>by simp[Eo]at h
 | .mp .. :: _,_,_,h,_=>by simp[Eo]at h
 | .vec .. :: _,_,_,h,_=>by simp[Eo]at h
 | .pv .. :: _,_,_,h,_=>by simp[Eo]at h
 | .fn .. :: _,_,_,h,_=>by simp[Eo]at h
 | .agg .. :: _,_,_,h,_=>by simp[Eo]at h
 | .tup .. :: _,_,_,h,_=>by simp[Eo]at h
 | .any :: _,_,_,h,_=>by simp[Eo]at h
theorem Mo {x:AV} {y:D} {v:Value} (h:Ow x=some y) (hr:RepA γ x v):Rep γ.μ y v:=by
 cases x with
 | d x=>simp only[Ow,Option.some.injEq]at h;subst h;simpa only[RepA] using hr
 | ap sz n f r=>simp only[Ow,Option.some.injEq]at h;subst h;simp only[RepA]at hr;exact hr.1
 | agg l =>
  simp only[Ow,Option.map_eq_some_iff]at h
  obtain⟨ds,h1,rfl⟩:=h
  simp only[RepA]at hr
  obtain⟨vs,e,h2⟩:=hr
  simp only[Rep]
  exact⟨vs,e,Sb h1 h2⟩
 | _=>simp only[Ow]at h;cases h
theorem Q4 {e:Operand→AV} {sz:Nat}:∀ (parts:List (Nat×Operand)) (i:Nat) (ds:List D),Hl e sz i parts=some ds→(∀ p∈parts,RepA γ (e p.2) (ρ p.2)) →
  parts.map (fun p=>(p.1,ρ p.2))=((parts.map fun p=>ρ p.2).zipIdx i).map (fun x=>(x.2,x.1))∧ds.length=parts.length ∧
  ∀ (k:Nat) (d:D),ds[k]?=some d→∃ u,(parts.map fun p=>ρ p.2)[k]?=some u∧Rep γ.μ d u∧u.cells.size=sz∧∀ x∈u.cells,x.oneCell'=true
 | [],i,ds,h,_=>by simp only[Hl,Option.some.injEq]at h;subst h;simp
 | (j,x) :: l,i,ds,h,hr=>by
  have hx:=hr (j,x) (by simp)
  simp only[Hl]at h
  split at h
  ·rename_i hij
   subst hij
   have step:∀ (y:D),((Hl e sz (i+1) l).map (y :: ·)=some ds)→Rep γ.μ y (ρ x)→(ρ x).cells.size=sz→(∀ z∈(ρ x).cells,z.oneCell'=true) →
     (((i,x) :: l).map (fun p=>(p.1,ρ p.2))=((((i,x) :: l).map fun p=>ρ p.2).zipIdx i).map (fun x=>(x.2,x.1))∧ds.length=((i,x) :: l).length ∧
     ∀ (k:Nat) (d:D),ds[k]?=some d→∃ u,(((i,x) :: l).map fun p=>ρ p.2)[k]?=some u∧Rep γ.μ d u∧u.cells.size=sz∧∀ x∈u.cells,x.oneCell'=true):=fun y hy h1 h2 h3=>by
    rw[Option.map_eq_some_iff]at hy
    obtain⟨r,hr1,rfl⟩:=hy
    obtain⟨a,b,c⟩:=Q4 l (i+1) r hr1 (fun p hp=>hr p (by simp[hp]))
    refine⟨by simp[a],by simp[b],?_⟩
    intro k d hk
    cases k with
    | zero=>simp at hk;subst hk;exact⟨ρ x,by simp,h1,h2,h3⟩
    | succ k=>simpa using c k d (by simpa using hk)
   split at h
   ·rename_i y hy
    have hx:=Mo hy hx
    split at h
    ·rename_i hc
     have hcells:=Ed hx
     refine step y h hx (by have:=hcells.length;simp at this;omega) ?_
     have:=Ez (γ:=γ) (RepAL.of_map hcells) (by simpa [List.all_map,Function.comp_def,AV.one] using hc.2)
     intro z hz;exact this z (by simpa using hz)
    ·cases h
   ·cases h
  ·cases h
theorem Zg (H:Hp own hp live γ w) {id:Nat} (h1:γ.ι id=none) (h2:γ.τ id=none) (hid:hp id=none) (hlv:¬ live id) (hown:∀ b,w.heap.size≤b→own b) {o:Oper} {t:TypeId} {len:Nat} {parts:Array (Nat×Operand)}
  (ho:o.op=.buildSlice t len parts) (e:Operand→AV) (hr:∀ p∈parts.toList,RepA γ (e p.2) (ρ p.2)) (hk:(J3 P id t len parts.toList e).quiet.ok=true):Does P own hp live γ w ρ o id (J3 P id t len parts.toList e).quiet:=by
 refine Le rfl rfl rfl ?_
 unfold execOp
 simp only[ho]
 unfold J3 at hk ⊢
 split at hk
 ·rename_i el hel
  have hu:=E0 hel
  obtain⟨ds,hd,h3⟩:=Ar hk
  rw[h3]at hk
  rw[h3]
  split at hk
  ·rename_i hc
   obtain⟨hlen,hsm,hpos,hzz⟩:=hc
   simp only[hlen,hsm,hpos,hzz,and_self,if_true]
   obtain⟨cs0,hz⟩:=Option.isSome_iff_exists.1 hzz
   obtain⟨i,z,hi,hz,_⟩:=Hz hz
   have hsz:i.size=Ap P el:=by simp[Ap,hi]
   obtain⟨p1,p2,p3⟩:=Q4 (γ:=γ) parts.toList 0 ds hd hr
   have vsz:∀ v∈parts.toList.map (fun p=>ρ p.2),v.cells.size=Ap P el:=by
    intro v hv
    obtain⟨k,hk2,rfl⟩:=List.mem_iff_getElem.1 hv
    have hk3:k < ds.length:=by rw[p2];simpa using hk2
    obtain⟨u,q1,q2,q3,_⟩:=p3 k ds[k] (List.getElem?_eq_getElem hk3)
    rw[List.getElem?_eq_getElem hk2]at q1
    injection q1 with q1
    rw[q1];exact q3
   by_cases hl0:len=0
   ·subst hl0
    have hpe:parts=#[]:=by
     have:parts.toList.length=0:=by omega
     simpa using this
    let w':=w.alloc (.cells #[] el)
    have run:(Instr.buildSlice t 0 (parts.map fun(i,x)=>(i,ρ x))).run P w=.ok (.slice (some ⟨w.heap.size,0,none⟩) 0 0) w':=by
     simp[Instr.buildSlice,Co hu,Fy hi,hpe,Instr.fill,newRow,newObj,w',Sem.run]
     exact congrArg (fun c=>w.alloc (.cells c el)) (by simp)
    obtain⟨γ',h4⟩:=Kx H h1 h2 hid hlv hown (w':=w') ((Below.refl _ w).alloc (Nat.le_refl _) _) (.slice (some ⟨w.heap.size,0,none⟩) 0 0) el (Ap P el) 0 []
     ⟨by simp,.inr ⟨w.heap.size,0,#[],rfl,Nat.zero_le _,heap_alloc_new w _,Nat.le_refl _,Nat.zero_le _,by simp,by simp⟩⟩ (fun g hg=>by simp[Value.ownBlock]at hg;omega)
     (.ap (Ap P el) 0 (As ds) (.tok id el)) (fun γ' _ hq _=>by
      simp only[RepA,Rep,RightOk]
      exact⟨⟨some ⟨w.heap.size,0,none⟩,0,rfl,Nat.le_refl _,Nat.zero_le _,fun h=>absurd h (by omega)⟩,.inl hq⟩)
    exact⟨_,w',γ',by rw[Sem.run_bind,run];rfl,h4⟩
   ·obtain⟨r,f1,f2,f3⟩:=Great.fill_dense hpos (parts.toList.map fun p=>ρ p.2) 0 ((Array.range (len * i.size)).map (z.cells[· % z.cells.size]!)) vsz (by simp[hsz];rw[show parts.size=len by rw[← hlen,p2];simp];exact Nat.le_refl _)
    have hlp:parts.size=len:=by rw[← hlen,p2];simp
    have f2':r.size=len * Ap P el:=by rw[f2];simp[hsz]
    let w':=w.alloc (.cells r el)
    have run:(Instr.buildSlice t len (parts.map fun(i,x)=>(i,ρ x))).run P w=.ok (.slice (some ⟨w.heap.size,0,none⟩) len len) w':=by
     refine run_buildSlice w t el len _ r i z hu hi hz (by rw[hsz];omega) ?_ ?_
     ·rw[hsz];exact Nat.mul_ne_zero hl0 (by omega)
     ·rw[← f1,← p1,hsz];simp
    have hlen63:len≤maxLen:=by
     have:len * 1≤len * Ap P el:=Nat.mul_le_mul_left _ hpos
     unfold maxLen;omega
    obtain⟨γ',h4⟩:=Kx H h1 h2 hid hlv hown (w':=w') ((Below.refl _ w).alloc (Nat.le_refl _) _) (.slice (some ⟨w.heap.size,0,none⟩) len len) el (Ap P el) len r.toList
     ⟨by simp[f2'],.inr ⟨w.heap.size,len,r,rfl,Nat.zero_le _,heap_alloc_new w _,Nat.le_refl _,hlen63,f2',by rw[List.take_of_length_le (by simp[f2'])]⟩⟩ (fun g hg=>by simp[Value.ownBlock]at hg;omega)
     (.ap (Ap P el) len (As ds) (.tok id el)) (fun γ' le hq hm=>by
      simp only[RepA,Rep,RightOk]
      refine⟨⟨some ⟨w.heap.size,0,none⟩,len,rfl,Nat.le_refl _,hlen63,fun _=>⟨w.heap.size,0,rfl,fun k hk=>?_⟩⟩,.inl hq⟩
      have hk3:k < ds.length:=by omega
      obtain⟨u,q1,q2,q3,q4⟩:=p3 k ds[k] (List.getElem?_eq_getElem hk3)
      refine⟨u,?_,q3,q4,fun j hj=>?_⟩
      ·have:As ds k=ds[k]:=by simp[As,hk3]
       rw[this]
       exact q2.mono le.μ
      ·have hlt:k * Ap P el+j < len * Ap P el:=by
        have:(k+1) * Ap P el≤len * Ap P el:=Nat.mul_le_mul_right _ (by omega)
        rw[Nat.add_mul]at this;omega
       rw[Nat.zero_add,hm w.heap.size _ rfl hlt]
       have:w'.cell? ⟨w.heap.size,k * Ap P el+j,none⟩=r[k * Ap P el+j]?:=by
        have hh:=heap_alloc_new w (.cells r el)
        unfold World.cell?
        simp only[w',hh]
        rfl
       rw[this,f3,if_pos (by simp[hlp];omega)]
       rw[Nat.mul_comm k,Nat.mul_add_div hpos,Nat.div_eq_of_lt hj,Nat.mul_add_mod,Nat.mod_eq_of_lt hj,Nat.add_zero,Nat.sub_zero,q1]
       rfl)
    exact⟨_,w',γ',by rw[Sem.run_bind,run];rfl,h4⟩
  ·cases hk
 ·cases hk
theorem Od (hf:Kd γ.μ w) {sz m size:Nat} {g:Nat→D} {v:Value} (h:Rep γ.μ (.sl sz m g) v) (hs:sz=size∨m=0) (hz:0 < size) :
  ∃ A c news,v=.slice A m c∧Rd w size A m c news∧(∀ u∈news,u.oneCell'=true)∧∀ i,i < m→∃ u,Rep γ.μ (g i) u∧u.cells.size=size∧(∀ x∈u.cells,x.oneCell'=true)∧∀ j,j < size→news[i * size+j]?=u.cells[j]?:=by
 simp only[Rep]at h
 obtain⟨A,c,rfl,h1,h2,h3⟩:=h
 by_cases hm:m=0
 ·subst hm
  exact⟨A,c,[],rfl,Rd.nil_ w size A c h2,(fun u hu=>by cases hu),fun i hi=>absurd hi (by omega)⟩
 ·obtain rfl:sz=size:=hs.resolve_right hm
  obtain⟨b,o,rfl,h4⟩:=h3 (by omega)
  have hcell:∀ k,k < m * sz→∃ v,γ.μ b (o+k)=some v∧v.oneCell'=true:=fun k hk=>by
   obtain⟨u,_,h6,h7,h8⟩:=h4 (k / sz) ((Nat.div_lt_iff_lt_mul hz).2 hk)
   have hlt:k % sz < u.cells.size:=by rw[h6];exact Nat.mod_lt _ hz
   refine⟨u.cells[k % sz],?_,h7 _ (Array.getElem_mem hlt)⟩
   have:=h8 (k % sz) (Nat.mod_lt _ hz)
   rw[Array.getElem?_eq_getElem hlt,Nat.add_assoc,Nat.mul_comm,Nat.div_add_mod]at this
   exact this
  let news:=(List.range (m * sz)).map fun k=>(γ.μ b (o+k)).getD undef
  have hget:∀ k,k < m * sz→news[k]?=γ.μ b (o+k):=fun k hk=>by
   obtain⟨v,hv,_⟩:=hcell k hk
   simp[news,hk,hv]
  have hb:b < w.heap.size:=by
   obtain⟨v,hv,_⟩:=hcell 0 (Nat.mul_pos (by omega) hz)
   exact Gz hf hv
  refine⟨some ⟨b,o,none⟩,c,news,rfl,⟨by simp[news],h1,h2,fun _=>⟨b,o,rfl,hb,fun j u hu=>?_⟩⟩,fun u hu=>?_,fun i hi=>?_⟩
  ·have hj:j < m * sz:=by simpa [news] using (List.getElem?_eq_some_iff.1 hu).1
   rw[hget j hj]at hu
   exact hf _ _ _ hu
  ·obtain⟨k,hk,rfl⟩:=List.mem_iff_getElem.1 hu
   have hk2:k < m * sz:=by simpa [news] using hk
   obtain⟨v,hv,h1⟩:=hcell k hk2
   have:=hget k hk2
   rw[List.getElem?_eq_getElem hk,hv]at this
   injection this with this
   rw[this];exact h1
  ·obtain⟨u,h5,h6,h7,h8⟩:=h4 i hi
   refine⟨u,h5,h6,h7,fun j hj=>?_⟩
   have hlt:i * sz+j < m * sz:=by
    have:(i+1) * sz≤m * sz:=Nat.mul_le_mul_right _ hi
    rw[Nat.add_mul]at this;omega
   rw[hget _ hlt,← Nat.add_assoc]
   exact h8 j hj
theorem cz {μ:Nat→Nat→Option Value} {size m:Nat} {g:Nat→D} {v:Value} {e:TypeId} {xs:List Value} (hown:w.ownsRow 0 e size v m xs)
  (hm:∀ b j,v.ownBlock=some b→j < m * size→μ b j=w.cell? ⟨b,j,none⟩) (hr:∀ i,i < m→∃ u,Rep μ (g i) u∧u.cells.size=size∧(∀ x∈u.cells,x.oneCell'=true)∧∀ j,j < size→xs[i * size+j]?=u.cells[j]?) :
  Rep μ (.sl size m g) v:=by
 simp only[Rep]
 rcases hown.2 with⟨rfl,rfl⟩ | ⟨b,cap,cur,rfl,_,hh,hc,hmx,hs,ht⟩
 ·exact⟨none,0,rfl,Nat.le_refl _,Nat.zero_le _,fun h=>absurd h (by omega)⟩
 ·refine⟨some ⟨b,0,none⟩,cap,rfl,hc,hmx,fun _=>⟨b,0,rfl,fun i hi=>?_⟩⟩
  obtain⟨u,h5,h6,h7,h8⟩:=hr i hi
  refine⟨u,h5,h6,h7,fun j hj=>?_⟩
  have hlt:i * size+j < m * size:=by
   have:(i+1) * size≤m * size:=Nat.mul_le_mul_right _ hi
   rw[Nat.add_mul]at this;omega
  have hlt2:i * size+j < u.cells.size∨True:=.inr trivial
  rw[Nat.zero_add,hm b _ rfl hlt,← h8 j hj]
  have hu:j < u.cells.size:=by rw[h6];exact hj
  have h9:=h8 j hj
  rw[Array.getElem?_eq_getElem hu]at h9
  rw[h9]
  have:=hown.cells (g:=b) rfl _ _ h9
  rwa [Cj,Nat.zero_add]at this
theorem H8 {x:AV} {sz m:Nat} {g:Nat→D} {v:Value} (h:Xq x=some (sz,m,g)) (hr:RepA γ x v):Rep γ.μ (.sl sz m g) v:=by
 unfold Xq at h
 split at h
 ·simp only[Option.some.injEq,Prod.mk.injEq]at h
  obtain⟨rfl,rfl,rfl⟩:=h
  simpa only[RepA] using hr
 ·simp only[Option.some.injEq,Prod.mk.injEq]at h
  obtain⟨rfl,rfl,rfl⟩:=h
  simp only[RepA]at hr
  exact hr.1
 ·cases h
theorem X9:∀ (zs:List Int) (r:ByteArray),zs.foldl (fun r n=>r.push (UInt8.ofNat n.toNat)) r=⟨r.data++(zs.map fun n=>UInt8.ofNat n.toNat).toArray⟩
 | [],r=>by simp
 | n :: l,r=>by
  simp only[List.map_cons,List.foldl_cons]
  rw[X9 l]
  simp[ByteArray.push]
theorem AA9 {ρ:Operand→Value} (hf:Kd γ.μ w) {o:Oper} {s t:TypeId} {x:Operand} (ho:o.op=.convert s t x) {p:AV} (hr:RepA γ p (ρ x)) (hT:Zc P s t=true) (hk:(Ua p).ok=true) (hob:∀ z∈(Ua p).ob,z):Stay P γ w ρ o (Ua p).v:=by
 unfold Stay execOp
 simp only[ho]
 unfold Zc at hT
 split at hT
 ·rename_i e h1 h2
  split at hT
  ·rename_i h3
   unfold Ua at hk hob ⊢
   split at hk
   ·rename_i n f hx
    simp only[hx,Q.when,List.mem_cons,List.not_mem_nil,or_false,forall_eq_or_imp,forall_eq]at hob ⊢
    obtain⟨hn,hu⟩:=hob
    obtain⟨A,c,news,hv,hrd,hone,hel⟩:=Od hf (H8 hx hr) (.inl rfl) (by decide)
    have hl:news.length=n:=by have:=hrd.len;omega
    obtain⟨b,o',rfl,hb,hc⟩:=hrd.at_ (by omega)
    have key:∀ i,i < n→∃ k:Int,f i=.int .u8 k∧news[i]?=some (.int .u8 k):=fun i hi=>by
     obtain⟨u,q1,q2,q3,q4⟩:=hel i hi
     have q5:=List.all_eq_true.1 hu i (List.mem_range.2 hi)
     cases hfi:f i with
     | int k0 z =>
      rw[hfi]at q1 q5
      cases k0<;>first | (simp[isU8]at q5;done) | skip
      simp only[Rep]at q1
      subst q1
      refine⟨z,rfl,?_⟩
      have:=q4 0 (by decide)
      rw[show ((Value.int .u8 z).cells)[0]?=some (.int .u8 z) from rfl]at this
      simpa using this
     | _=>rw[hfi]at q5;simp[isU8]at q5
    let zs:List Int:=(List.range n).map fun i=>match f i with | .int _ k=>k | _=>0
    have hz:news=zs.map (Value.int .u8):=by
     apply List.ext_getElem?
     intro i
     by_cases hi:i < n
     ·obtain⟨k,k1,k2⟩:=key i hi
      rw[k2]
      simp[zs,hi,k1]
     ·rw[List.getElem?_eq_none (by omega),List.getElem?_eq_none (by simp[zs];omega)]
    have hload:=run_loadCells_list (P:=P) w ⟨b,o',none⟩ (zs.map (Value.int .u8)) (fun j v hj=>by
     rw[← hz]at hj
     have:=hc j v hj
     unfold Addr.add
     split
     ·rename_i e;subst e;simpa using this
     ·exact this)
    rw[show (zs.map (Value.int .u8)).length=n by simp[zs]]at hload
    refine⟨.string ⟨(Ey n f).toArray⟩,?_,by simp[RepA,Rep]⟩
    rw[hv]
    simp only[Sem.run_bind,run_convert_bytes_string w s t e (some ⟨b,o',none⟩) n c h1 h3 h2,run_bytesToString w ⟨b,o',none⟩ n c zs hload,X9,Result.andThen_ok]
    have:(zs.map fun n=>UInt8.ofNat n.toNat)=Ey n f:=by
     simp only[zs,Ey,List.map_map]
     refine List.map_congr_left fun i hi=>?_
     obtain⟨k,k1,_⟩:=key i (List.mem_range.1 hi)
     simp[k1,byteD]
    rw[this]
    simp
   ·cases hk
  ·cases hT
 ·cases hT
theorem Hp.lives {live':Nat→Prop} (H:Hp own hp live γ w) (h:∀ t,live' t→live t):Hp own hp live' γ w :=
 ⟨H.fz,H.obj,H.inj,fun t v e sz hl=>H.tok t v e sz (h t hl),fun s t v u hs ht=>H.tinj s t v u (h s hs) (h t ht)⟩
theorem Stp.lives {live' live'':Nat→Prop} {id:Nat} {hp':Nat→Option Ob} {v:AV} {u:Value} (H:Stp own hp live γ w id hp' live' v u γ' w') (h:∀ t,live'' t→live' t):Stp own hp live γ w id hp' live'' v u γ' w' :=
 ⟨H.le,H.hp.lives h,H.base,H.rep,H.other,H.mu⟩
theorem Jp (t ty e:TypeId) (i:TypeInfo) (z:Value) (size bytes:Nat) (ht:P.underlying t=some (.slice e)) (hi:P.info? e=some i) (hz:i.zero=some z)
  (hsize:i.size=size) (hby:i.bytes=bytes) (hzs:z.cells.size=size) (hsz:0 < size) (g n cap:Nat) (xs:List Value) (hown:w.ownsRow 0 e size (.slice (some ⟨g,0,none⟩) n cap) n xs)
  (A:Option Addr) (m c:Nat) (news:List Value) (hr:Rd w size A m c news) (h1:∀ u∈news,u.oneCell'=true) (h63:n+m≤maxLen) (hbytes:(n+m) * bytes≤140737488355328) :
  ∃ v' w',(Builtin.append_ #[t,t] ty #[.slice (some ⟨g,0,none⟩) n cap,.slice A m c]).run P w=.ok v' w'∧w'.ownsRow 0 e size v' (n+m) (xs++news) ∧
   ((v'.ownBlock=some g∧w.grownBy w' (some g))∨(v'.ownBlock=some w.heap.size∧Gv w w')):=by
 have far (a:Addr) (j:Nat):a.spot=none→a.add j=⟨a.block,a.off+j,none⟩:=by
  intro h
  unfold Addr.add
  split
  ·rename_i h0;subst h0;cases a;simp at h;simp[h]
  ·rfl
 rcases A with _ | ad
 ·have hm:m=0:=by
   rcases Nat.eq_zero_or_pos m with h0 | h0
   ·exact h0
   ·obtain⟨_,_,h,_⟩:=hr.at_ h0
    cases h
  subst hm
  have hn:news=[]:=List.eq_nil_of_length_eq_zero (by simpa using hr.len)
  subst hn
  exact⟨_,w,Mw w 0 t ty e i size ht hi _ n xs hown c,by simpa using hown,.inl ⟨rfl,World.grownBy.refl w _⟩⟩
 ·have hcells:∀ j u,news[j]?=some u→w.cell? (ad.add j)=some u:=by
   intro j u hu
   rcases Nat.eq_zero_or_pos m with h0 | h0
   ·subst h0
    have hn:news=[]:=List.eq_nil_of_length_eq_zero (by simpa using hr.len)
    subst hn
    simp at hu
   ·obtain⟨b,o,h,_,hc⟩:=hr.at_ h0
    injection h with h
    subst h
    rw[far _ _ rfl]
    exact hc j u hu
  subst hsize
  subst hby
  have hsmall:n+m≤9223372036854775807:=by simp only[maxLen]at h63;omega
  have hl:news.length=m * i.size:=hr.len
  have hlen:(xs++news).length=(n+m) * i.size:=by rw[List.length_append,hown.1,hl,Nat.add_mul]
  rcases hown.2 with⟨h,_⟩ | ⟨g',cap',cur,h,hbg,hg,hnc,hcm,hcs,htake⟩
  ·cases h
  ·injection h with h1' _ h3'
   injection h1' with h1'
   injection h1' with h1'
   subst h1' h3'
   by_cases hroom:n+m≤cap
   ·have hfit:n * i.size+news.length≤cur.size:=by rw[hl,hcs,← Nat.add_mul];exact Nat.mul_le_mul_right _ hroom
    have hrun:=run_append_room (P:=P) w t ty e i ht hi g n cap cur hg ad m c news hl hcells h1 hroom hfit
    refine⟨_,_,hrun,⟨hlen,.inr ⟨g,cap,_,rfl,hbg,setRow_heap w g cur _ e _ hg,hroom,hcm,?_,?_⟩⟩,.inl ⟨rfl,⟨rfl,rfl,rfl,by simp,fun k _ hk=>setRow_other w g k _ (fun e=>hk (by rw[e]))⟩⟩⟩
    ·simp only[List.size_toArray,List.length_append,List.length_take,List.length_drop,Array.length_toList]
     omega
    ·rw[htake,← hlen]
     exact List.take_left
   ·have holds:∀ j u,xs[j]?=some u→w.cell? ((⟨g,0,none⟩:Addr).add j)=some u:=hown.cells (g:=g) rfl
    have hrun:=run_append_grow (P:=P) w t ty e i z ht hi hz ⟨g,0,none⟩ n cap xs hown.1 holds ad m c news hl hcells (by omega) (by omega) (growslice_fits (by omega) hbytes)
    have hge:=grownCap_ge w (n+m) cap e
    have hcm2:grownCap w (n+m) cap e≤maxLen:=grownCap_le_maxLen w (n+m) cap e h63
    refine⟨_,_,hrun,⟨hlen,.inr ⟨w.heap.size,_,_,rfl,Nat.zero_le _,heap_alloc_new w.drew _,hge,hcm2,?_,?_⟩⟩,.inr ⟨rfl,((Below.refl _ w).drew).alloc (Nat.le_refl _) _⟩⟩
    ·simp only[Array.size_append,List.size_toArray,size_zeroCells,hzs,hown.1,hl,← Nat.add_mul]
     congr 1
     omega
    ·simp only[Array.toList_append,List.append_assoc]
     rw[← List.append_assoc,← hlen]
     exact List.take_left
theorem Rn {row:Option Nat} (h:w.grownBy w' row) (ho:∀ g,row=some g→own g):Base own w w' :=
 ⟨h.os,h.tape,h.output,h.size,fun k hk hn=>h.block k hk (fun e=>hn (ho k e.symm))⟩
theorem sw (H:Hp own hp live γ w) {id:Nat} (h1:γ.ι id=none) (h2:γ.τ id=none) (hlv:¬ live id) {w':World} {v v':Value} {tk b:Nat} {e:TypeId} {sz n m:Nat} {xs news:List Value}
  (hlk:live tk) (hτ:γ.τ tk=some (v,e,sz)) (hb:v.ownBlock=some b) (hb':v'.ownBlock=some b) (hn:∀ n0 xs0,w.ownsRow 0 e sz v n0 xs0→n0=n) (hxs:w.ownsRow 0 e sz v n xs) (ho1:w'.ownsRow 0 e sz v' (n+m) (xs++news)) (ho2:w.grownBy w' (some b))
  (av:AV) (hv:∀ γ':G,LeG γ γ'→γ'.τ id=some (v',e,sz)→(∀ g j,v'.ownBlock=some g→j < (n+m) * sz→γ'.μ g j=w'.cell? ⟨g,j,none⟩)→RepA γ' av v') :
  ∃ γ',Stp own hp live γ w id hp (fun t=>(live t∧some tk≠some t)∨t=id) av v' γ' w':=by
 have hlen:xs.length=n * sz:=hxs.1
 have hxn:(xs++news).length=(n+m) * sz:=ho1.1
 obtain⟨n0,xs0,t1,t2⟩:=H.tok tk v e sz hlk hτ
 obtain rfl:=hn _ _ t1
 obtain⟨t3,t4,t5⟩:=t2 b hb
 have oldc:∀ k,k < n0 * sz→w.cell? ⟨b,k,none⟩=xs[k]?:=fun k hk=>by
  have hk2:k < xs.length:=by omega
  rw[List.getElem?_eq_getElem hk2]
  have:=hxs.cells hb k _ (List.getElem?_eq_getElem hk2)
  rwa [Cj,Nat.zero_add]at this
 have newc:∀ k,k < (n0+m) * sz→w'.cell? ⟨b,k,none⟩=(xs++news)[k]?:=fun k hk=>by
  have hk2:k < (xs++news).length:=by omega
  rw[List.getElem?_eq_getElem hk2]
  have:=ho1.cells hb' k _ (List.getElem?_eq_getElem hk2)
  rwa [Cj,Nat.zero_add]at this
 let γ':G:=⟨fun c o=>if c=b∧o < (n0+m) * sz then w'.cell? ⟨b,o,none⟩else γ.μ c o,γ.ι,fun j=>if j=id then some (v',e,sz)else γ.τ j⟩
 have hi:γ'.τ id=some (v',e,sz):=if_pos rfl
 have hτ':∀ j,j≠id→γ'.τ j=γ.τ j:=fun j hj=>if_neg hj
 have leμ:LeM γ.μ γ'.μ:=fun c o x hx=>by
  show (if c=b∧o < (n0+m) * sz then _ else γ.μ c o)=some x
  split
  ·rename_i hc
   obtain⟨rfl,hc⟩:=hc
   have hk:o < n0 * sz:=by
    rcases Nat.lt_or_ge o (n0 * sz) with h | h
    ·exact h
    ·rw[t4 o h]at hx;cases hx
   rw[newc o hc,List.getElem?_append_left (by omega),← oldc o hk]
   exact H.fz c o x hx
  ·exact hx
 have le:LeG γ γ':=⟨leμ,fun _ _ h=>h,fun i c h=>by
  show (if i=id then _ else γ.τ i)=some c
  rw[if_neg (fun hh=>by rw[hh,h2]at h;cases h)];exact h⟩
 have blk:∀ k,k < w.heap.size→k≠b→w'.heap[k]?=w.heap[k]?:=fun k hk hne=>ho2.block k hk (fun h=>hne (by injection h))
 refine⟨γ',le,⟨fun c o x hx=>?_,fun j o hj hoj=>?_,H.inj,fun t u e' sz' hl hq=>?_,fun s t vs vt hs ht hne hvs hvt=>?_⟩,Rn ho2 (fun g hg=>by injection hg with hg;rw[← hg];exact t3),hv γ' le hi (fun g j h3 h4=>?_),fun j hj=>⟨rfl,hτ' j (by omega)⟩,fun c o _ hno=>if_neg (fun h=>hno (by rw[h.1];exact t3))⟩
 ·by_cases hc:c=b∧o < (n0+m) * sz
  ·have:γ'.μ c o=w'.cell? ⟨b,o,none⟩:=if_pos hc
   rw[hc.1,← this];exact hx
  ·have hx2:γ.μ c o=some x:=by have:γ'.μ c o=γ.μ c o:=if_neg hc;rw[← this];exact hx
   have hcb:c≠b:=fun h=>by
    subst h
    have hk:o < n0 * sz:=by
     rcases Nat.lt_or_ge o (n0 * sz) with h | h
     ·exact h
     ·rw[t4 o h]at hx2;cases hx2
    exact hc ⟨rfl,by rw[Nat.add_mul];omega⟩
   rw[World.cell?_of_block (w:=w) (blk c (Gz H.fz hx2) hcb)]
   exact H.fz c o x hx2
 ·obtain⟨p,e1,e2,e3⟩:=H.obj j o hj hoj
  have hcb:∀ c,p.block=some c→c≠b:=fun c hc h=>t5 j o p hj hoj e1 (by rw[hc,h])
  refine⟨p,e1,e2.kept le fun c hc=>blk c (e2.lt hc) (hcb c hc),fun c hc=>⟨(e3 c hc).1,fun k=>?_⟩⟩
  show (if c=b∧k < (n0+m) * sz then _ else γ.μ c k)=none
  rw[if_neg (fun h=>hcb c hc h.1)];exact(e3 c hc).2 k
 ·rcases hl with⟨hl,hne⟩ | rfl
  ·have htid:t≠id:=fun h=>hlv (h ▸ hl)
   rw[hτ' t htid]at hq
   obtain⟨n1,xs1,q1,q2⟩:=H.tok t u e' sz' hl hq
   have hob:u.ownBlock=none∨u.ownBlock≠some b:=by
    have:=H.tinj t tk (u,e',sz') (v,e,sz) hl hlk (fun h=>hne (by rw[h])) hq hτ
    rwa [hb]at this
   refine⟨n1,xs1,q1.kept ho2 hob,fun g hg=>?_⟩
   obtain⟨r1,r2,r3⟩:=q2 g hg
   have hgb:g≠b:=fun h=>by rcases hob with h' | h'<;>rw[hg]at h'<;>first | cases h' | exact h' (by rw[h])
   refine⟨r1,fun k hk=>?_,r3⟩
   show (if g=b∧k < (n0+m) * sz then _ else γ.μ g k)=none
   rw[if_neg (fun h=>hgb h.1)];exact r2 k hk
  ·rw[hi]at hq
   injection hq with hq
   obtain⟨rfl,hq2⟩:=Prod.mk.inj hq
   obtain⟨rfl,rfl⟩:=Prod.mk.inj hq2
   refine⟨n0+m,xs++news,ho1,fun g hg=>?_⟩
   rw[hb']at hg;injection hg with hg;subst hg
   refine⟨t3,fun k hk=>?_,t5⟩
   show (if b=b∧k < (n0+m) * sz then _ else γ.μ b k)=none
   rw[if_neg (fun h=>by omega)]
   exact t4 k (by rw[Nat.add_mul]at hk;omega)
 ·have key:∀ t vt,(live t∧some tk≠some t)→γ'.τ t=some vt→vt.1.ownBlock=none∨vt.1.ownBlock≠some b:=fun t vt ⟨hl,hne⟩ hq=>by
   have htid:t≠id:=fun h=>hlv (h ▸ hl)
   rw[hτ' t htid]at hq
   have:=H.tinj t tk vt (v,e,sz) hl hlk (fun h=>hne (by rw[h])) hq hτ
   rwa [hb]at this
  rcases hs with hs | rfl<;>rcases ht with ht | rfl
  ·have h3:s≠id:=fun h=>hlv (h ▸ hs.1)
   have h4:t≠id:=fun h=>hlv (h ▸ ht.1)
   rw[hτ' s h3]at hvs
   rw[hτ' t h4]at hvt
   exact H.tinj s t vs vt hs.1 ht.1 hne hvs hvt
  ·have:=key s vs hs hvs
   rw[hi]at hvt;injection hvt with hvt;rw[← hvt]
   rwa [hb']
  ·have:=key t vt ht hvt
   rw[hi]at hvs;injection hvs with hvs;rw[← hvs]
   refine .inr fun h=>?_
   rw[hb']at h
   rcases this with h' | h'<;>rw[← h]at h'<;>first | cases h' | exact h' rfl
  ·exact absurd rfl hne
 ·rw[hb']at h3;injection h3 with h3;subst h3
  exact if_pos ⟨rfl,h4⟩
theorem s9 (H:Hp own hp live γ w) {id:Nat} (h1:γ.ι id=none) (h2:γ.τ id=none) (hid:hp id=none) (hlv:¬ live id) (hown:∀ b,w.heap.size≤b→own b) {o:Oper} {args:Array Operand} {ts:Array TypeId}
  (ho:o.op=.call { callee:=.builtin .append,args:=args,argTypes:=ts }) (e:Operand→AV) (hr:∀ y∈args,RepA γ (e y) (ρ y)) (hk:(Hr P id (args.toList.map e) ts.toList).ok=true)
  (hob:∀ z∈(Hr P id (args.toList.map e) ts.toList).ob,z) (hkill:∀ tk,(Hr P id (args.toList.map e) ts.toList).kill=some tk→live tk):Does P own hp live γ w ρ o id (Hr P id (args.toList.map e) ts.toList):=by
 generalize hq:Hr P id (args.toList.map e) ts.toList=q at *
 have hqk:q.ok=true:=hk
 unfold Hr at hq
 split at hq
 ·rename_i s x t u hargs hts
  obtain⟨a,b,rfl,ha,hb⟩:=Z7 hargs
  have hr1:=hr a (by simp)
  have hr2:=hr b (by simp)
  rw[ha]at hr1
  rw[hb]at hr2
  obtain rfl:ts=#[t,u]:=by cases ts;simp_all
  split at hq
  ·rename_i htu
   subst htu
   rw[← hq]at hk
   obtain⟨el,hel,h3⟩:=Ar hk
   rw[h3]at hk hq
   have hu:=E0 hel
   obtain⟨⟨sz,m,g⟩,hx,h4⟩:=Ar hk
   rw[h4]at hk hq
   simp only at hk hq
   have exec:∀ (v':Value) (w':World),(Builtin.append_ #[t,t] o.type #[ρ a,ρ b]).run P w=.ok v' w'→(execOp ρ o).run P w=.ok (.value v') w':=fun v' w' h=>by
    unfold execOp
    simp only[ho,resolve,invoke,builtin,Sem.run_bind,Sem.run_pure,Result.andThen_ok,List.map_toArray,List.map_cons,List.map_nil]
    rw[h];rfl
   split at hq
   ·rename_i z0 n f r
    cases r with
    | nl =>
     simp only at hq
     split at hq
     ·rename_i hn0
      subst hn0
      simp only[RepA,RightOk]at hr1
      unfold F9 at hq
      split at hq
      ·rename_i i hi
       split at hq
       ·rename_i z hz
        split at hq
        ·rename_i hc
         obtain⟨c1,c2,c3,c4⟩:=hc
         subst hq
         have hby:m * i.bytes≤140737488355328:=hob _ (by simp)
         obtain⟨A,c,news,hv,hrd,hone,hel2⟩:=Od H.fz (H8 hx hr2) (by omega:sz=i.size∨m=0) c2
         have hm63:m≤maxLen:=by
          have:=hrd.cap;have:=hrd.max;omega
         obtain⟨v',w',hrun,ho1,ho2,ho3⟩:=Eg (P:=P) w 0 t o.type el i z i.size i.bytes hu hi hz rfl rfl (by omega) c2 (ρ a) 0 [] (by rw[hr1.2];exact World.ownsRow_nil w 0 el i.size) A m c news hrd hone (by omega) (by rw[Nat.zero_add];exact hby) (Nat.zero_le _)
         rw[hr1.2]at ho2 ho3
         have hx2:Gv w w':=⟨ho2.os,ho2.tape,ho2.output,ho2.size,fun k hk=>ho2.block k hk (by simp[Value.ownBlock])⟩
         simp only[Nat.zero_add,List.nil_append]at ho1
         obtain⟨γ',h6⟩:=Kx H h1 h2 hid hlv hown hx2 v' el i.size m news ho1 (fun g hg=>by
           rw[hg]at ho3
           rcases ho3 with h | h
           ·cases h
           ·injection h with h;omega) (.ap i.size m g (.tok id el)) (fun γ' le hq2 hm=>by
          simp only[RepA,RightOk]
          refine⟨cz ho1 hm fun k hk=>?_,.inl hq2⟩
          obtain⟨u,q1,q2,q3,q4⟩:=hel2 k hk
          exact⟨u,q1.mono le.μ,q2,q3,q4⟩)
         exact Le rfl rfl rfl ⟨v',w',γ',exec v' w' (by rw[hv];exact hrun),h6⟩
        ·subst hq;cases hqk
       ·subst hq;cases hqk
      ·subst hq;cases hqk
     ·subst hq;cases hqk
    | tok tk te =>
     simp only at hq
     simp only[RepA,RightOk]at hr1
     unfold F9 at hq
     split at hq
     ·rename_i i hi
      split at hq
      ·rename_i z hz
       split at hq
       ·rename_i hc
        obtain⟨c1,c2,c3,c4⟩:=hc
        dsimp only at hq
        split at hq
        ·rename_i hte
         obtain⟨rfl,rfl⟩:=hte
         subst hq
         have hlk:live tk:=hkill tk rfl
         have hby:(n+m) * i.bytes≤140737488355328:=hob _ (by simp)
         obtain⟨A,c,news,hv,hrd,hone,hel2⟩:=Od H.fz (H8 hx hr2) (by omega:sz=i.size∨m=0) c2
         have hnm:n+m≤maxLen:=by
          have:(n+m) * 1≤(n+m) * i.bytes:=Nat.mul_le_mul_left _ c3
          unfold maxLen;omega
         obtain⟨hd,hrt⟩:=hr1
         have hd2:=hd
         simp only[Rep]at hd2
         obtain⟨A1,cap1,hva,hcap1,_,hd3⟩:=hd2
         -- what the result reads as
         have result:∀ (w':World) (v':Value) (xs:List Value),w'.ownsRow 0 te i.size v' (n+m) (xs++news)→xs.length=n * i.size →
           (∀ k,k < n→∃ u,Rep γ.μ (f k) u∧u.cells.size=i.size∧(∀ x∈u.cells,x.oneCell'=true)∧∀ j,j < i.size→xs[k * i.size+j]?=u.cells[j]?) →
           ∀ γ':G,LeG γ γ'→γ'.τ id=some (v',te,i.size)→(∀ g j,v'.ownBlock=some g→j < (n+m) * i.size→γ'.μ g j=w'.cell? ⟨g,j,none⟩)→RepA γ' (.ap i.size (n+m) (Bb n f g) (.tok id te)) v' :=
          fun w' v' xs ho1 hxl hold γ' le hq2 hm=>by
           simp only[RepA,RightOk]
           refine⟨cz ho1 hm fun k hk=>?_,.inl hq2⟩
           by_cases hkn:k < n
           ·obtain⟨u,q1,q2,q3,q4⟩:=hold k hkn
            refine⟨u,by simpa only[Bb,hkn,if_true] using q1.mono le.μ,q2,q3,fun j hj=>?_⟩
            have hlt:k * i.size+j < xs.length:=by
             rw[hxl]
             have:(k+1) * i.size≤n * i.size:=Nat.mul_le_mul_right _ hkn
             rw[Nat.add_mul]at this;omega
            rw[List.getElem?_append_left hlt];exact q4 j hj
           ·obtain⟨u,q1,q2,q3,q4⟩:=hel2 (k - n) (by omega)
            refine⟨u,by simpa only[Bb,hkn,if_false] using q1.mono le.μ,q2,q3,fun j hj=>?_⟩
            have e1:k * i.size+j=xs.length+((k - n) * i.size+j):=by
             rw[hxl,← Nat.add_assoc,← Nat.add_mul];congr 2;omega
            rw[e1,List.getElem?_append_right (by omega),Nat.add_sub_cancel_left];exact q4 j hj
         by_cases hnil:ρ a=.slice none 0 0
         ·have hn0:n=0:=by rw[hnil]at hva;injection hva with _ h _;exact h.symm
          subst hn0
          obtain⟨v',w',hrun,ho1,ho2,ho3⟩:=Eg (P:=P) w 0 t o.type te i z i.size i.bytes hu hi hz rfl rfl (by omega) c2 (ρ a) 0 [] (by rw[hnil];exact World.ownsRow_nil w 0 te i.size) A m c news hrd hone (by omega) hby (Nat.zero_le _)
          rw[hnil]at ho2 ho3
          have hx2:Gv w w':=⟨ho2.os,ho2.tape,ho2.output,ho2.size,fun k hk=>ho2.block k hk (by simp[Value.ownBlock])⟩
          obtain⟨γ',h6⟩:=Kx H h1 h2 hid hlv hown hx2 v' te i.size (0+m) ([]++news) ho1 (fun g hg=>by
           rw[hg]at ho3
           rcases ho3 with h | h
           ·cases h
           ·injection h with h;omega) _ (result w' v' [] ho1 (by simp) (fun k hk=>absurd hk (by omega)))
          refine⟨v',w',γ',.inl (exec v' w' (by rw[hv];exact hrun)),(show Stp own hp live γ w id _ _ _ v' γ' w' from h6).lives fun t ht=>?_⟩
          rcases ht with ht | ht
          ·exact .inl ht.1
          ·exact .inr ht
         ·have hτ:γ.τ tk=some (ρ a,te,i.size):=hrt.resolve_right hnil
          obtain⟨n0,xs,ow,_⟩:=H.tok tk _ _ _ hlk hτ
          rcases ow.2 with⟨h,_⟩ | ⟨b0,cap,cur,hvb,_,hhb,hcc,_,hcs,htk⟩
          ·exact absurd h hnil
          ·rw[hva]at hvb
           injection hvb with e1 e2 e3
           subst e1 e2 e3
           rw[hva]at ow
           have hold:∀ k,k < n→∃ u,Rep γ.μ (f k) u∧u.cells.size=i.size∧(∀ x∈u.cells,x.oneCell'=true)∧∀ j,j < i.size→xs[k * i.size+j]?=u.cells[j]?:=fun k hk=>by
            obtain⟨b1,o1,e1,h9⟩:=hd3 (by omega)
            injection e1 with e1
            injection e1 with e1 e2
            subst e1 e2
            obtain⟨u,q1,q2,q3,q4⟩:=h9 k hk
            refine⟨u,q1,q2,q3,fun j hj=>?_⟩
            have hlt:k * i.size+j < xs.length:=by
             rw[ow.1]
             have:(k+1) * i.size≤n * i.size:=Nat.mul_le_mul_right _ hk
             rw[Nat.add_mul]at this;omega
            have hju:j < u.cells.size:=by rw[q2];exact hj
            have c1:=q4 j hj
            rw[Nat.zero_add,Array.getElem?_eq_getElem hju]at c1
            have c2':=H.fz _ _ _ c1
            have c3':=ow.cells (g:=b0) rfl _ _ (List.getElem?_eq_getElem hlt)
            rw[Cj,Nat.zero_add,c2']at c3'
            rw[List.getElem?_eq_getElem hlt,Array.getElem?_eq_getElem hju]
            injection c3' with c3'
            rw[c3']
           obtain⟨v',w',hrun,ho1,ho3⟩:=Jp (P:=P) (w:=w) t o.type te i z i.size i.bytes hu hi hz rfl rfl (by omega) c2 b0 n cap1 xs ow A m c news hrd hone hnm hby
           have run2:=exec v' w' (by rw[hva,hv];exact hrun)
           rw[hva]at hτ
           rcases ho3 with⟨o3,o4⟩ | ⟨o3,o4⟩
           ·obtain⟨γ',h6⟩:=sw H h1 h2 hlv hlk hτ rfl o3 (fun n1 xs1 h=>by
             rcases h.2 with⟨h',_⟩ | ⟨_,_,_,h',_⟩
             ·cases h'
             ·injection h' with _ h' _;exact h'.symm) ow ho1 o4 _ (result w' v' xs ho1 ow.1 hold)
            refine⟨v',w',γ',.inl run2,(show Stp own hp live γ w id _ _ _ v' γ' w' from h6).lives fun t ht=>?_⟩
            rcases ht with ht | ht
            ·exact .inl ht
            ·exact .inr ht.2
           ·obtain⟨γ',h6⟩:=Kx H h1 h2 hid hlv hown o4 v' te i.size (n+m) (xs++news) ho1 (fun g hg=>by rw[o3]at hg;injection hg with hg;omega) _ (result w' v' xs ho1 ow.1 hold)
            refine⟨v',w',γ',.inl run2,(show Stp own hp live γ w id _ _ _ v' γ' w' from h6).lives fun t ht=>?_⟩
            rcases ht with ht | ht
            ·exact .inl ht.1
            ·exact .inr ht
        ·subst hq;cases hqk
       ·subst hq;cases hqk
      ·subst hq;cases hqk
     ·subst hq;cases hqk
   ·subst hq;cases hqk
  ·subst hq;cases hk
 ·subst hq;cases hk
theorem nk (z0:Value) (n k:Nat) (h:k < n):(madeCells #[z0] n)[k]?=some z0:=by
 simp[madeCells,h,Nat.mod_one]
theorem e7 (H:Hp own hp live γ w) {id:Nat} (h1:γ.ι id=none) (h2:γ.τ id=none) (hid:hp id=none) (hlv:¬ live id) (hown:∀ b,w.heap.size≤b→own b) {o:Oper} {t:TypeId} {l c:Operand}
  (ho:o.op=.makeSlice t l c) {p q:AV} (hl:RepA γ p (ρ l)) (hc:RepA γ q (ρ c)) (hk:(Kr P id t p q).quiet.ok=true) (hob:∀ z∈(Kr P id t p q).quiet.ob,z):Does P own hp live γ w ρ o id (Kr P id t p q).quiet:=by
 refine Le rfl rfl rfl ?_
 unfold execOp
 simp only[ho]
 unfold Kr at hk hob ⊢
 obtain⟨el,hel,h3⟩:=Ar hk
 rw[h3]at hk hob ⊢
 obtain⟨n,hn,h4⟩:=Ar hk
 rw[h4]at hk hob ⊢
 obtain⟨m,hm,h5⟩:=Ar hk
 rw[h5]at hk hob ⊢
 obtain⟨z,hz,h6⟩:=Ar hk
 rw[h6]at hk hob ⊢
 obtain⟨i,hi,h7⟩:=Ar hk
 rw[h7]at hk hob ⊢
 have hu:=E0 hel
 obtain⟨i',zv,hi',hzv,rfl⟩:=Hz hz
 obtain rfl:i'=i:=by rw[hi]at hi';injection hi' with hi';exact hi'.symm
 obtain⟨k1,hk1⟩:=G6 hn hl
 obtain⟨k2,hk2⟩:=G6 hm hc
 generalize hq:zu id i' n m (zv.cells.toList.map Dw)=q at *
 unfold zu at hq
 split at hq
 ·rename_i zd hzd
  split at hq
  ·rename_i hc2
   obtain⟨c1,c2⟩:=hc2
   subst hq
   simp only[Q.quiet,List.mem_cons,List.not_mem_nil,or_false,forall_eq_or_imp,forall_eq]at hob ⊢
   obtain⟨o1,rfl,o3,o4⟩:=hob
   obtain⟨nn,rfl⟩:=Int.eq_ofNat_of_zero_le o1
   have hcell:zv.cells.toList.map Dw=[.d zd]:=by have:=Sn hzd;simpa using this
   obtain⟨z0,hz0,hzz⟩:∃ z0,zv.cells=#[z0]∧Dw z0=.d zd:=by
    have hl:=congrArg List.length hcell
    simp only[List.length_map,Array.length_toList,List.length_cons,List.length_nil]at hl
    refine⟨zv.cells[0],by apply Array.ext (by simpa using hl);intro j h1 h2;simp at h2;subst h2;rfl,?_⟩
    have:=congrArg (·[0]?) hcell
    simpa [hl] using this
   have hrep:∀ γ':G,Rep γ'.μ zd z0:=fun γ'=>by have:=K8 (γ:=γ') z0;rw[hzz]at this;simpa only[RepA] using this
   have hrun:=run_make w t el i' zv hu hi hzv k1 k2 (nn:Int) (nn:Int) (by omega) (by omega) (by rw[Int.mul_comm];omega) (by omega)
   rw[c1,Nat.mul_one,Int.toNat_natCast]at hrun
   obtain⟨γ',h8⟩:=Ls H h1 h2 hid hlv hown (.arr 1 nn fun _=>zd) (.cells (madeCells zv.cells nn) el) (fun γ' _=>⟨madeCells zv.cells nn,el,rfl,by rw[size_madeCells];omega,fun k hk=>⟨z0,hrep γ',by
     obtain⟨_,b,_⟩:=(hrep γ').cells_one c2
     rw[b];rfl,by
     obtain⟨a,b,_⟩:=(hrep γ').cells_one c2
     intro x hx;rw[b]at hx;simp at hx;rw[hx];exact a,fun j hj=>by
     obtain⟨_,b,_⟩:=(hrep γ').cells_one c2
     obtain rfl:j=0:=by omega
     rw[b,hz0,Nat.mul_one,Nat.add_zero,nk _ _ _ hk];rfl⟩⟩)
    (.arr id 1 nn) (.slice (some ⟨w.heap.size,0,none⟩) nn nn) (fun γ' e=>by simp only[RepA];exact⟨_,nn,e,rfl,Nat.le_refl _,by unfold maxLen;omega⟩)
   refine⟨_,_,γ',?_,by simpa using h8⟩
   rw[hk1,hk2,Sem.run_bind,hrun];rfl
  ·subst hq;cases hk
 ·split at hq
  ·rename_i f hcell
   split at hq
   ·rename_i c1
    subst hq
    simp only[Q.quiet,List.mem_cons,List.not_mem_nil,or_false,forall_eq_or_imp,forall_eq]at hob ⊢
    obtain⟨o1,rfl,o3,o4⟩:=hob
    obtain⟨nn,rfl⟩:=Int.eq_ofNat_of_zero_le o1
    obtain⟨z0,hz0,hzz⟩:∃ z0,zv.cells=#[z0]∧Dw z0=.ap 0 0 f .nl:=by
     have hl:=congrArg List.length hcell
     simp only[List.length_map,Array.length_toList,List.length_cons,List.length_nil]at hl
     refine⟨zv.cells[0],by apply Array.ext (by simpa using hl);intro j h1 h2;simp at h2;subst h2;rfl,?_⟩
     have:=congrArg (·[0]?) hcell
     simpa [hl] using this
    have hnil:z0=.slice none 0 0:=by have:=K8 (γ:=γ) z0;rw[hzz]at this;simp only[RepA,RightOk]at this;exact this.2
    subst hnil
    have hrun:=run_make w t el i' zv hu hi hzv k1 k2 (nn:Int) (nn:Int) (by omega) (by omega) (by rw[Int.mul_comm];omega) (by omega)
    rw[c1,Nat.mul_one,Int.toNat_natCast]at hrun
    obtain⟨γ',h8⟩:=Ls H h1 h2 hid hlv hown (.vals nn (fun _=>.slice none 0 0) none) (.cells (madeCells zv.cells nn) el) (fun γ' _=>⟨madeCells zv.cells nn,el,rfl,size_madeCells _ _,fun k hk=>⟨_,by rw[hz0];exact nk _ _ _ hk,rfl,rfl⟩⟩)
     (.arr id 1 nn) (.slice (some ⟨w.heap.size,0,none⟩) nn nn) (fun γ' e=>by simp only[RepA];exact⟨_,nn,e,rfl,Nat.le_refl _,by unfold maxLen;omega⟩)
    refine⟨_,_,γ',?_,by simpa using h8⟩
    rw[hk1,hk2,Sem.run_bind,hrun];rfl
   ·subst hq;cases hk
  ·subst hq;cases hk
end Go.Av
namespace Go.Av
open Go.RowKit Go.Base
variable {P:Program} {γ γ':G} {w w':World} {own:Nat→Prop} {hp:Nat→Option Ob} {live:Nat→Prop} {ρ:Operand→Value}
theorem Uf:∀ (us:List Value) (off:Nat) (vs:List Value),off+us.length≤vs.length→(us.zipIdx off).foldl (fun a p=>a.set p.2 p.1) vs=vs.take off++us++vs.drop (off+us.length)
 | [],off,vs,_=>by simp
 | u :: us,off,vs,h=>by
  simp only[List.zipIdx_cons,List.foldl_cons]
  rw[Uf us (off+1) (vs.set off u) (by simp at h ⊢;omega)]
  have:=list_seg_step vs off u us (by simp at h ⊢;omega)
  simpa [Nat.add_assoc] using this
theorem Vf:∀ {a b:List AV} {x y:List Value},RepAL γ a x→RepAL γ b y→RepAL γ (a++b) (x++y)
 | [],_,_,_,h,k=>by simp only[RepAL]at h;subst h;simpa using k
 | c :: a,_,_,_,h,k=>by
  simp only[RepAL]at h
  obtain⟨v,t,rfl,h1,h2⟩:=h
  simp only[List.cons_append,RepAL]
  exact⟨v,_,rfl,h1,Vf h2 k⟩
theorem Q8 (H:Hp own hp live γ w) (id:Nat) {d:Nat} {o o':Ob} {pl:Pl} (hd:hp d=some o) (hok:o.ok=true) (hb:γ.ι d=some pl) (hg:w.grownBy w' pl.block) (hr:ObjAt γ w' o' pl) {v:AV} {u:Value} (hv:RepA γ v u) (q:Q) (h1:q.upd=some (d,o')) (h2:q.new=none) (h3:q.tok=false) (h4:q.kill=none) (hm:q.mo=none:=by rfl) :
  Stp own hp live γ w id (Cy id q hp) (Ev id q live) v u γ w':=by
 obtain⟨pl',e1,e2,e3⟩:=H.obj d o hd hok
 obtain rfl:pl'=pl:=by rw[hb]at e1;injection e1 with e1;exact e1.symm
 have hH:∀ j,Cy id q hp j=if j=d then some o' else hp j:=fun j=>by simp only[Cy,hm,h1,h2,Cb]
 have hL:Ev id q live=live:=by rw[Ef h4 hm,h3,Cd]
 have cases_:∀ j oj,Cy id q hp j=some oj→oj.ok=true→∃ oj',hp j=some oj'∧oj'.ok=true:=fun j oj h ho=>by
  rw[hH]at h
  split at h
  ·rename_i h';exact⟨o,by rw[h'];exact hd,hok⟩
  ·exact⟨oj,h,ho⟩
 refine⟨LeG.refl _,?_,Rn hg (fun g hg'=>(e3 g hg').1),hv,fun _ _=>⟨rfl,rfl⟩,fun _ _ _ _=>rfl⟩
 rw[hL]
 refine⟨fun c k y hy=>?_,fun j oj h ho=>?_,fun i j oi oj p q' hi hj ho1 ho2 hne hp1 hq1=>?_,fun t v e sz hl hq=>?_,H.tinj⟩
 ·have hc:some c≠pl'.block:=fun h=>by rw[(e3 c h.symm).2]at hy;cases hy
  rw[World.cell?_of_block (w:=w) (hg.block c (Gz H.fz hy) hc)]
  exact H.fz c k y hy
 ·rw[hH]at h
  split at h
  ·rename_i hj
   subst hj
   injection h with h
   subst h
   exact⟨pl',hb,hr,e3⟩
  ·rename_i hj
   obtain⟨p,f1,f2,f3⟩:=H.obj j oj h ho
   refine⟨p,f1,f2.kept (LeG.refl _) fun b hpb=>hg.block b (f2.lt hpb) fun h'=>?_,f3⟩
   rcases H.inj j d oj o p pl' h hd ho hok hj f1 hb with k | k
   ·rw[hpb]at k;cases k
   ·exact k (by rw[hpb];exact h')
 ·obtain⟨oi',hi',ho1'⟩:=cases_ i oi hi ho1
  obtain⟨oj',hj',ho2'⟩:=cases_ j oj hj ho2
  exact H.inj i j oi' oj' p q' hi' hj' ho1' ho2' hne hp1 hq1
 ·obtain⟨n,xs,q1,q2⟩:=H.tok t v e sz hl hq
  have hne:v.ownBlock=none∨v.ownBlock≠pl'.block:=by
   cases ho:v.ownBlock with
   | none=>exact .inl rfl
   | some g=>exact .inr fun h=>(q2 g ho).2.2 d o pl' hd hok hb h.symm
  refine⟨n,xs,q1.kept hg hne,fun g hg'=>?_⟩
  obtain⟨r1,r2,r3⟩:=q2 g hg'
  refine⟨r1,r2,fun j oj p hj ho hp=>?_⟩
  obtain⟨oj',hj',ho'⟩:=cases_ j oj hj ho
  exact r3 j oj' p hj' ho' hp
theorem Do (H:Hp own hp live γ w) (id:Nat) {d b:Nat} {o o':Ob} {x':Go.Obj} (hd:hp d=some o) (hok:o.ok=true) (hb:γ.ι d=some (.blk b)) (hg:w.grownBy w' (some b)) (hx:w'.heap[b]?=some x') (hr:RepO γ o' x') {v:AV} {u:Value} (hv:RepA γ v u) (q:Q) (h1:q.upd=some (d,o')) (h2:q.new=none) (h3:q.tok=false) (h4:q.kill=none) (hm:q.mo=none:=by rfl) :
  Stp own hp live γ w id (Cy id q hp) (Ev id q live) v u γ w':=Q8 H id hd hok hb hg ⟨x',hx,hr⟩ hv q h1 h2 h3 h4 hm
theorem Ej (w:World) (g:Nat) (cs:Array Value):w.grownBy (w.setRow g cs) (some g) :=
 ⟨rfl,rfl,rfl,by simp[World.setRow],fun k _ hk=>setRow_other w g k cs (fun h=>hk (by rw[h]))⟩
theorem Fw {t:TypeId} {g off:Nat} {e:TypeId} {cur:Array Value} (hg:w.heap[g]?=some (.cells cur e (0,0))) (v:Value) (hs:v.cells.size=Ap P t) (hz:0 < Ap P t) (hl:off+Ap P t≤cur.size) (h1:∀ x∈v.cells,x.oneCell'=true) :
  (Instr.storeAt t (.pointer (some ⟨g,off,none⟩)) v).run P w=.ok () (w.setRow g (cur.toList.take off++v.cells.toList++cur.toList.drop (off+v.cells.size)).toArray):=by
 obtain⟨i,hi⟩:=F4 (P:=P) (t:=t) (by omega)
 have:=run_storeCells_at P g off e v.cells.toList 0 cur w hg (by simp;omega) (fun x hx=>h1 x (by simpa using hx))
 simp only[Nat.add_zero,Array.length_toList]at this
 simp only[Instr.storeAt,Instr.sureAddr,storeVar,Sem.run_bind,Sem.run_pure,Result.andThen_ok,Fy hi,hs,ne_eq,not_true_eq_false,if_false,this]
theorem N2 (l U:List Value) (a:Nat) (h:a+U.length≤l.length) (q:Nat):(l.take a++U++l.drop (a+U.length))[q]?=if q < a then l[q]? else if q < a+U.length then U[q - a]? else l[q]?:=by
 rw[List.append_assoc]
 split
 ·rename_i h1;rw[List.getElem?_append_left (by simp;omega),List.getElem?_take,if_pos h1]
 ·rename_i h1
  rw[List.getElem?_append_right (by simp;omega)]
  have e1:(l.take a).length=a:=by simp;omega
  rw[e1]
  split
  ·rename_i h2;rw[List.getElem?_append_left (by omega)]
  ·rename_i h2
   rw[List.getElem?_append_right (by omega),List.getElem?_drop]
   congr 1;omega
theorem qf {μ:Nat→Nat→Option Value}:∀ {cs:List D} {vs:List Value} (i:Nat) {x:D} {v:Value},RepL μ cs vs→Rep μ x v→RepL μ (cs.set i x) (vs.set i v)
 | [],_,i,_,_,h,_=>by simp only[RepL]at h;subst h;simp[RepL]
 | c :: cs,_,0,x,v,h,hx=>by
  simp only[RepL]at h;obtain⟨u,t,rfl,h1,h2⟩:=h
  simp only[List.set_cons_zero,RepL];exact⟨v,t,rfl,hx,h2⟩
 | c :: cs,_,i+1,x,v,h,hx=>by
  simp only[RepL]at h;obtain⟨u,t,rfl,h1,h2⟩:=h
  simp only[List.set_cons_succ,RepL];exact⟨u,_,rfl,h1,qf i h2 hx⟩
theorem jl {μ:Nat→Nat→Option Value}:∀ {xs:List D} {us:List Value} (off:Nat) {cs:List D} {vs:List Value},RepL μ xs us→RepL μ cs vs →
  RepL μ (Zm off xs cs) ((us.zipIdx off).foldl (fun a p=>a.set p.2 p.1) vs)
 | [],_,off,cs,vs,h,hc=>by simp only[RepL]at h;subst h;simpa [Zm] using hc
 | x :: xs,_,off,cs,vs,h,hc=>by
  simp only[RepL]at h
  obtain⟨u,t,rfl,h1,h2⟩:=h
  simp only[Zm,List.zipIdx_cons,List.foldl_cons]
  exact jl (off+1) h2 (qf off hc h1)
theorem Ju (l:List Value):(Value.agg l.toArray).cells=l.toArray:=rfl
theorem qg {μ:Nat→Nat→Option Value} {y x:D} {uy ux:Value} {off:Nat} (hy:Rep μ y uy) (hx:Rep μ x ux) (h1:off+ux.cells.size≤uy.cells.size) (h0:0 < ux.cells.size) :
  ∃ u,Rep μ (AA7 y off x) u∧u.cells.size=uy.cells.size∧(∀ q:Value,q∈u.cells→q∈ux.cells∨q∈uy.cells)∧∀ j,j < uy.cells.size→u.cells[j]?=if j < off then uy.cells[j]? else if j < off+ux.cells.size then ux.cells[j - off]? else uy.cells[j]?:=by
 unfold AA7
 split
 ·rename_i cs
  simp only[Rep]at hy
  obtain⟨vs,rfl,hv⟩:=hy
  have hf:=jl off (Ed hx) hv
  simp only[Ju,List.size_toArray]at h1
  rw[Uf _ _ _ (by simpa using h1)]at hf
  refine⟨_,by simp only[Rep];exact⟨_,rfl,hf⟩,?_,fun q hq=>?_,fun j hj=>?_⟩
  ·simp only[Ju,List.size_toArray,List.length_append,List.length_take,List.length_drop,Array.length_toList];omega
  ·simp only[Ju,List.mem_toArray,List.mem_append]at hq
   rcases hq with(hq | hq) | hq
   ·exact .inr (by simpa [Ju] using List.mem_of_mem_take hq)
   ·exact .inl (by simpa using hq)
   ·exact .inr (by simpa [Ju] using List.mem_of_mem_drop hq)
  ·have:=N2 vs ux.cells.toList off (by simpa using h1) j
   simp only[Ju,List.getElem?_toArray]
   simpa using this
 ·rename_i hne
  have hone:uy.cells.size=1:=by
   cases y with
   | agg cs=>exact absurd rfl (hne cs)
   | tup cs=>simp only[Rep]at hy;obtain⟨vs,rfl,_⟩:=hy;rfl
   | bad=>simp only[Rep]at hy
   | bool b=>rw[(hy.cells_one rfl).2.1];rfl
   | int k n=>rw[(hy.cells_one rfl).2.1];rfl
   | str s=>rw[(hy.cells_one rfl).2.1];rfl
   | sl sz n f=>rw[(hy.cells_one rfl).2.1];rfl
   | err b=>rw[(hy.cells_one rfl).2.1];rfl
  refine⟨ux,hx,by omega,fun q hq=>.inl hq,fun j hj=>?_⟩
  obtain rfl:off=0:=by omega
  rw[if_neg (by omega),if_pos (by omega),Nat.sub_zero]
theorem Qv {v:Value} {e:TypeId} {sz n b:Nat} {xs:List Value} (h:w.ownsRow 0 e sz v n xs) (hb:v.ownBlock=some b) :
  ∃ cur,w.heap[b]?=some (.cells cur e (0,0))∧n * sz≤cur.size∧cur.toList.take (n * sz)=xs∧∀ cur':Array Value,cur'.size=cur.size→(w.setRow b cur').ownsRow 0 e sz v n (cur'.toList.take (n * sz)):=by
 rcases h.2 with⟨rfl,_⟩ | ⟨b',cap,cur,rfl,h1,h2,h3,h4,h5,h6⟩
 ·cases hb
 ·obtain rfl:b'=b:=by simpa [Value.ownBlock] using hb
  have hle:n * sz≤cap * sz:=Nat.mul_le_mul_right _ h3
  refine⟨cur,h2,by omega,h6,fun cur' hc=>⟨by simp;omega,.inr ⟨b',cap,cur',rfl,h1,setRow_heap w b' _ _ e _ h2,h3,h4,by omega,rfl⟩⟩⟩
theorem yv (H:Hp own hp live γ w) (id:Nat) {o:Oper} {t:TypeId} {a x:Operand} (ho:o.op=.store t a x) {p y:AV} (hp1:RepA γ p (ρ a)) (hy:RepA γ y (ρ x)) (hk:(Hn P t hp p y).ok=true) (hob:∀ z∈(Hn P t hp p y).ob,z) (hd:o.dst=none∨True) :
  Does P own hp live γ w ρ o id (Hn P t hp p y):=by
 unfold Does execOp
 simp only[ho]
 generalize hq:Hn P t hp p y=q at *
 unfold Hn at hq
 split at hq
 ·rename_i d off
  split at hq
  ·rename_i cs hcs
   split at hq
   ·rename_i hc
    obtain⟨hz,c1,c2,c3⟩:=hc
    subst hq
    simp only[RepA]at hp1
    obtain⟨b,hb,hv⟩:=hp1
    obtain⟨b',x',e1,e2,e3,e4,e5⟩:=H.blk hcs rfl
    obtain rfl:b'=b:=by rw[hb]at e1;injection e1 with e1;injection e1 with e1;exact e1.symm
    obtain⟨vs,el,rfl,f1,f2⟩:=e3
    obtain⟨g1,g2⟩:=Se hy c3
    have hl:y.cells.length=(ρ x).cells.size:=by have:=g1.length;simpa using this
    have hlv:=f1.length
    have hrun:=Fw (P:=P) (t:=t) (off:=off) e2 (ρ x) (by rw[← hl];exact c1) hz (by simp;omega) g2
    refine⟨undef,_,γ,.inr ⟨rfl,by rw[hv,Sem.run_bind,hrun];rfl⟩,?_⟩
    refine Do H id hcs rfl hb (Ej w b' _) (setRow_heap w b' _ _ el _ e2) ?_ (by simp only[RepA]) _ rfl rfl rfl rfl
    refine⟨_,el,rfl,?_,fun z hz=>?_⟩
    ·have:=Sd off g1 f1
     rw[Uf _ _ _ (by simp;omega)]at this
     simpa using this
    ·simp only[List.mem_append]at hz
     rcases hz with(hz | hz) | hz
     ·exact f2 z (List.mem_of_mem_take hz)
     ·exact g2 z (by simpa using hz)
     ·exact f2 z (List.mem_of_mem_drop hz)
   ·subst hq;cases hk
  ·subst hq;cases hk
 ·rename_i d sz i off
  split at hq
  ·rename_i z n f y' hcs
   split at hq
   ·rename_i hc
    obtain⟨rfl,rfl,c2,c3,c4,c5⟩:=hc
    subst hq
    have hin:i < n:=hob _ (by simp)
    simp only[RepA]at hp1 hy
    obtain⟨b,hb,hv⟩:=hp1
    obtain⟨b',x',e1,e2,e3,e4,e5⟩:=H.blk hcs rfl
    obtain rfl:b'=b:=by rw[hb]at e1;injection e1 with e1;injection e1 with e1;exact e1.symm
    obtain⟨vs,el,rfl,f1,f2⟩:=e3
    have g1:=Ed hy
    have hl:y'.cells.length=(ρ x).cells.size:=by have:=g1.length;simpa using this
    have g2:∀ q∈(ρ x).cells,q.oneCell'=true:=by
     have:=Ez (γ:=γ) (RepAL.of_map g1) (by simpa [List.all_map,Function.comp_def,AV.one] using c5)
     intro q hq;exact this q (by simpa using hq)
    have hiz:i * z+z≤n * z:=by have:(i+1) * z≤n * z:=Nat.mul_le_mul_right _ hin;rw[Nat.add_mul]at this;omega
    have hsz:(ρ x).cells.size=z:=by omega
    have hrun:=Fw (P:=P) (t:=t) (off:=i * z) e2 (ρ x) (by omega) (by omega) (by omega) g2
    refine⟨undef,_,γ,.inr ⟨rfl,by rw[hv,Sem.run_bind,Nat.add_zero,hrun];rfl⟩,?_⟩
    refine Do H id hcs rfl hb (Ej w b' _) (setRow_heap w b' _ _ el _ e2) ?_ (by simp only[RepA]) _ rfl rfl rfl rfl
    refine⟨_,el,rfl,by simp;omega,fun k hk=>?_⟩
    by_cases hki:k=i
    ·subst hki
     refine⟨ρ x,by simpa using hy,hsz,g2,fun j hj=>?_⟩
     simp only[List.getElem?_toArray]
     rw[List.append_assoc,List.getElem?_append_right (by simp;omega),List.getElem?_append_left (by simp;omega)]
     simp
     congr 1;omega
    ·obtain⟨u,q1,q2,q3,q4⟩:=f2 k hk
     refine⟨u,by simpa [hki] using q1,q2,q3,fun j hj=>?_⟩
     rw[← q4 j hj]
     simp only[List.getElem?_toArray]
     rcases Nat.lt_or_gt_of_ne hki with h | h
     ·have:(k+1) * z≤i * z:=Nat.mul_le_mul_right _ h
      rw[Nat.add_mul]at this
      rw[List.append_assoc,List.getElem?_append_left (by simp;omega),List.getElem?_take,if_pos (by omega)]
      simp
     ·have:(i+1) * z≤k * z:=Nat.mul_le_mul_right _ h
      rw[Nat.add_mul]at this
      rw[List.getElem?_append_right (by simp;omega),List.getElem?_drop]
      simp
      congr 1;omega
   ·split at hq
    ·rename_i hc
     obtain⟨rfl,c1,c2,c3,c5⟩:=hc
     subst hq
     have hin:i < n:=hob _ (by simp)
     simp only[RepA]at hp1 hy
     obtain⟨b,hb,hv⟩:=hp1
     obtain⟨b',x',e1,e2,e3,e4,e5⟩:=H.blk hcs rfl
     obtain rfl:b'=b:=by rw[hb]at e1;injection e1 with e1;injection e1 with e1;exact e1.symm
     obtain⟨vs,el,rfl,f1,f2⟩:=e3
     have g1:=Ed hy
     have hl:y'.cells.length=(ρ x).cells.size:=by have:=g1.length;simpa using this
     have g2:∀ q∈(ρ x).cells,q.oneCell'=true:=by
      have:=Ez (γ:=γ) (RepAL.of_map g1) (by simpa [List.all_map,Function.comp_def,AV.one] using c5)
      intro q hq;exact this q (by simpa using hq)
     have hiz:i * z+z≤n * z:=by have:(i+1) * z≤n * z:=Nat.mul_le_mul_right _ hin;rw[Nat.add_mul]at this;omega
     have hrun:=Fw (P:=P) (t:=t) (off:=i * z+off) e2 (ρ x) (by omega) c2 (by omega) g2
     refine⟨undef,_,γ,.inr ⟨rfl,by rw[hv,Sem.run_bind,hrun];rfl⟩,?_⟩
     refine Do H id hcs rfl hb (Ej w b' _) (setRow_heap w b' _ _ el _ e2) ?_ (by simp only[RepA]) _ rfl rfl rfl rfl
     have hget:∀ q,q < n * z→(vs.toList.take (i * z+off)++(ρ x).cells.toList++vs.toList.drop (i * z+off+(ρ x).cells.size))[q]?=if q < i * z+off then vs[q]? else if q < i * z+off+(ρ x).cells.size then(ρ x).cells[q - (i * z+off)]? else vs[q]?:=fun q hq=>by
      have:=N2 vs.toList (ρ x).cells.toList (i * z+off) (by simp;omega) q
      simp only[Array.length_toList]at this
      rw[this]
      simp
     refine⟨_,el,rfl,by simp;omega,fun k hk=>?_⟩
     obtain⟨u,q1,q2,q3,q4⟩:=f2 k hk
     have hkz:k * z+z≤n * z:=by have:(k+1) * z≤n * z:=Nat.mul_le_mul_right _ hk;rw[Nat.add_mul]at this;omega
     by_cases hki:k=i
     ·subst hki
      obtain⟨u',r1,r2,r3,r4⟩:=qg (off:=off) q1 hy (by omega) (by omega)
      refine⟨u',by simpa using r1,by omega,fun q hq=>?_,fun j hj=>?_⟩
      ·rcases r3 q hq with h | h
       ·exact g2 q h
       ·exact q3 q h
      ·simp only[List.getElem?_toArray]
       rw[hget _ (by omega),r4 j (by omega)]
       by_cases h1:j < off
       ·rw[if_pos (by omega),if_pos h1];exact q4 j hj
       ·rw[if_neg (by omega),if_neg h1]
        by_cases h2:j < off+(ρ x).cells.size
        ·rw[if_pos (by omega),if_pos h2];congr 1;omega
        ·rw[if_neg (by omega),if_neg h2];exact q4 j hj
     ·refine⟨u,by simpa [hki] using q1,q2,q3,fun j hj=>?_⟩
      simp only[List.getElem?_toArray]
      rw[hget _ (by omega),← q4 j hj]
      rcases Nat.lt_or_gt_of_ne hki with h | h
      ·have:(k+1) * z≤i * z:=Nat.mul_le_mul_right _ h
       rw[Nat.add_mul]at this
       rw[if_pos (by omega)]
      ·have:(i+1) * z≤k * z:=Nat.mul_le_mul_right _ h
       rw[Nat.add_mul]at this
       rw[if_neg (by omega),if_neg (by omega)]
    ·subst hq;cases hk
  ·rename_i n vs j a0 hcs
   split at hq
   ·rename_i hc
    obtain⟨rfl,rfl,c1,c2⟩:=hc
    subst hq
    have hin:i < n:=hob _ (by simp)
    have hij:i=j:=hob _ (by simp)
    simp only[RepA]at hp1
    obtain⟨b,hb,hv⟩:=hp1
    obtain⟨b',x',e1,e2,e3,e4,e5⟩:=H.blk hcs rfl
    obtain rfl:b'=b:=by rw[hb]at e1;injection e1 with e1;injection e1 with e1;exact e1.symm
    obtain⟨us,el,rfl,f1,f2⟩:=e3
    obtain⟨g1,g2,_⟩:=hy.cells_one c2
    have hsz:(ρ x).cells.size=1:=by rw[g2];rfl
    have hrun:=Fw (P:=P) (t:=t) (off:=i) e2 (ρ x) (by omega) (by omega) (by omega) (fun q hq=>by rw[g2]at hq;simp at hq;rw[hq];exact g1)
    refine⟨undef,_,γ,.inr ⟨rfl,by rw[hv,Sem.run_bind,Nat.mul_one,Nat.add_zero,hrun];rfl⟩,?_⟩
    refine Do H id hcs rfl hb (Ej w b' _) (setRow_heap w b' _ _ el _ e2) ?_ (by simp only[RepA]) _ rfl rfl rfl rfl
    refine⟨_,el,rfl,by simp;omega,fun k hk=>?_⟩
    by_cases hki:k=i
    ·subst hki
     refine⟨ρ x,?_,g1,fun h=>absurd hij h,fun _=>hy⟩
     simp only[List.getElem?_toArray]
     rw[List.append_assoc,List.getElem?_append_right (by simp;omega),List.getElem?_append_left (by simp;omega)]
     have e0:k - (List.take k us.toList).length=0:=by simp;omega
     rw[e0,g2];rfl
    ·obtain⟨u,q1,q2,q3⟩:=f2 k hk
     refine⟨u,?_,q2,fun h=>q3.1 h,fun h=>absurd (h.trans hij.symm) hki⟩
     rw[← q1]
     simp only[List.getElem?_toArray]
     rcases Nat.lt_or_gt_of_ne hki with h | h
     ·rw[List.append_assoc,List.getElem?_append_left (by simp;omega),List.getElem?_take,if_pos (by omega)]
      simp
     ·rw[List.getElem?_append_right (by simp;omega),List.getElem?_drop]
      simp
      congr 1;omega
   ·subst hq;cases hk
  ·subst hq;cases hk
 ·rename_i d sz i off
  split at hq
  ·rename_i e' z n f y' hcs hcold
   split at hq
   ·rename_i hc
    obtain⟨rfl,c1,c2,c0,c4,c5⟩:=hc
    have c3:off+y'.cells.length≤z:=by omega
    subst hq
    have hin:i < n:=hob _ (by simp)
    simp only[RepA]at hp1
    have hy:=Mo hcold hy
    obtain⟨uv,te,b,hu,hub,hv⟩:=hp1
    obtain⟨v',xs,e1,z0,e2,e3,e4⟩:=H.vec hcs
    rw[hu]at e1
    injection e1 with e1
    injection e1 with e1 e5 e6
    subst e1 e5
    have g1:=Ed hy
    have hl:y'.cells.length=(ρ x).cells.size:=by have:=g1.length;simpa using this
    have g2:∀ q∈(ρ x).cells,q.oneCell'=true:=by
     have:=Ez (γ:=γ) (RepAL.of_map g1) (by simpa [List.all_map,Function.comp_def,AV.one] using c5)
     intro q hq;exact this q (by simpa using hq)
    have hiz:i * z+z≤n * z:=by have:(i+1) * z≤n * z:=Nat.mul_le_mul_right _ hin;rw[Nat.add_mul]at this;omega
    obtain⟨cur,k1,k2,k3,k4⟩:=Qv e2 hub
    have hrun:=Fw (P:=P) (t:=t) (off:=i * z+off) k1 (ρ x) (by omega) c2 (by omega) g2
    refine⟨undef,_,γ,.inr ⟨rfl,by rw[hv,Sem.run_bind,hrun];rfl⟩,?_⟩
    have hlen:(cur.toList.take (i * z+off)++(ρ x).cells.toList++cur.toList.drop (i * z+off+(ρ x).cells.size)).toArray.size=cur.size:=by
     simp only[List.size_toArray,List.length_append,List.length_take,List.length_drop,Array.length_toList];omega
    refine Q8 H id hcs rfl hu (by show w.grownBy _ uv.ownBlock;rw[hub];exact Ej w b _) ⟨n,_,_,rfl,z0,k4 _ hlen,fun k hk=>?_⟩ (by simp only[RepA]) _ rfl rfl rfl rfl
    have hget:∀ q,q < n * z→((cur.toList.take (i * z+off)++(ρ x).cells.toList++cur.toList.drop (i * z+off+(ρ x).cells.size)).toArray.toList.take (n * z))[q]?=if q < i * z+off then xs[q]? else if q < i * z+off+(ρ x).cells.size then(ρ x).cells[q - (i * z+off)]? else xs[q]?:=fun q hq=>by
     have:=N2 cur.toList (ρ x).cells.toList (i * z+off) (by simp;omega) q
     rw[List.getElem?_take,if_pos hq]
     simp only[Array.length_toList]at this
     rw[this,← k3,List.getElem?_take,if_pos hq]
     simp
    obtain⟨u,q1,q2,q3,q4⟩:=e3 k hk
    have hkz:k * z+z≤n * z:=by have:(k+1) * z≤n * z:=Nat.mul_le_mul_right _ hk;rw[Nat.add_mul]at this;omega
    by_cases hki:k=i
    ·subst hki
     refine⟨ρ x,by simpa using hy,by omega,g2,fun j hj=>?_⟩
     rw[hget _ (by omega),if_neg (by omega),if_pos (by omega)]
     congr 1;omega
    ·refine⟨u,by simpa [hki] using q1,q2,q3,fun j hj=>?_⟩
     rw[hget _ (by omega),← q4 j hj]
     rcases Nat.lt_or_gt_of_ne hki with h | h
     ·have:(k+1) * z≤i * z:=Nat.mul_le_mul_right _ h
      rw[Nat.add_mul]at this
      rw[if_pos (by omega)]
     ·have:(i+1) * z≤k * z:=Nat.mul_le_mul_right _ h
      rw[Nat.add_mul]at this
      rw[if_neg (by omega),if_neg (by omega)]
   ·split at hq
    ·rename_i hc
     obtain⟨rfl,c1,c2,c3,c5⟩:=hc
     subst hq
     have hin:i < n:=hob _ (by simp)
     simp only[RepA]at hp1
     have hy:=Mo hcold hy
     obtain⟨uv,te,b,hu,hub,hv⟩:=hp1
     obtain⟨v',xs,e1,z0,e2,e3,e4⟩:=H.vec hcs
     rw[hu]at e1
     injection e1 with e1
     injection e1 with e1 e5 e6
     subst e1 e5
     have g1:=Ed hy
     have hl:y'.cells.length=(ρ x).cells.size:=by have:=g1.length;simpa using this
     have g2:∀ q∈(ρ x).cells,q.oneCell'=true:=by
      have:=Ez (γ:=γ) (RepAL.of_map g1) (by simpa [List.all_map,Function.comp_def,AV.one] using c5)
      intro q hq;exact this q (by simpa using hq)
     have hiz:i * z+z≤n * z:=by have:(i+1) * z≤n * z:=Nat.mul_le_mul_right _ hin;rw[Nat.add_mul]at this;omega
     obtain⟨cur,k1,k2,k3,k4⟩:=Qv e2 hub
     have hrun:=Fw (P:=P) (t:=t) (off:=i * z+off) k1 (ρ x) (by omega) c2 (by omega) g2
     refine⟨undef,_,γ,.inr ⟨rfl,by rw[hv,Sem.run_bind,hrun];rfl⟩,?_⟩
     have hlen:(cur.toList.take (i * z+off)++(ρ x).cells.toList++cur.toList.drop (i * z+off+(ρ x).cells.size)).toArray.size=cur.size:=by
      simp only[List.size_toArray,List.length_append,List.length_take,List.length_drop,Array.length_toList];omega
     refine Q8 H id hcs rfl hu (by show w.grownBy _ uv.ownBlock;rw[hub];exact Ej w b _) ⟨n,_,_,rfl,z0,k4 _ hlen,fun k hk=>?_⟩ (by simp only[RepA]) _ rfl rfl rfl rfl
     have hget:∀ q,q < n * z→((cur.toList.take (i * z+off)++(ρ x).cells.toList++cur.toList.drop (i * z+off+(ρ x).cells.size)).toArray.toList.take (n * z))[q]?=if q < i * z+off then xs[q]? else if q < i * z+off+(ρ x).cells.size then(ρ x).cells[q - (i * z+off)]? else xs[q]?:=fun q hq=>by
      have:=N2 cur.toList (ρ x).cells.toList (i * z+off) (by simp;omega) q
      rw[List.getElem?_take,if_pos hq]
      simp only[Array.length_toList]at this
      rw[this,← k3,List.getElem?_take,if_pos hq]
      simp
     obtain⟨u,q1,q2,q3,q4⟩:=e3 k hk
     have hkz:k * z+z≤n * z:=by have:(k+1) * z≤n * z:=Nat.mul_le_mul_right _ hk;rw[Nat.add_mul]at this;omega
     by_cases hki:k=i
     ·subst hki
      obtain⟨u',r1,r2,r3,r4⟩:=qg (off:=off) q1 hy (by omega) (by omega)
      refine⟨u',by simpa using r1,by omega,fun q hq=>?_,fun j hj=>?_⟩
      ·rcases r3 q hq with h | h
       ·exact g2 q h
       ·exact q3 q h
      ·rw[hget _ (by omega),r4 j (by omega)]
       by_cases h1:j < off
       ·rw[if_pos (by omega),if_pos h1];exact q4 j hj
       ·rw[if_neg (by omega),if_neg h1]
        by_cases h2:j < off+(ρ x).cells.size
        ·rw[if_pos (by omega),if_pos h2];congr 1;omega
        ·rw[if_neg (by omega),if_neg h2];exact q4 j hj
     ·refine⟨u,by simpa [hki] using q1,q2,q3,fun j hj=>?_⟩
      rw[hget _ (by omega),← q4 j hj]
      rcases Nat.lt_or_gt_of_ne hki with h | h
      ·have:(k+1) * z≤i * z:=Nat.mul_le_mul_right _ h
       rw[Nat.add_mul]at this
       rw[if_pos (by omega)]
      ·have:(i+1) * z≤k * z:=Nat.mul_le_mul_right _ h
       rw[Nat.add_mul]at this
       rw[if_neg (by omega),if_neg (by omega)]
    ·subst hq;cases hk
  ·subst hq;cases hk
 ·subst hq;cases hk
theorem does_copy (H:Hp own hp live γ w) (id:Nat) {o:Oper} {args:Array Operand} {ts:Array TypeId} (ho:o.op=.call { callee:=.builtin .copy,args:=args,argTypes:=ts }) (e:Operand→AV) (hr:∀ y∈args,RepA γ (e y) (ρ y)) (hk:(Kh P hp (args.toList.map e) ts.toList).ok=true) (hob:∀ z∈(Kh P hp (args.toList.map e) ts.toList).ob,z) :
  Does P own hp live γ w ρ o id (Kh P hp (args.toList.map e) ts.toList):=by
 unfold Does
 generalize hq:Kh P hp (args.toList.map e) ts.toList=q at *
 have hqk:=hk
 unfold Kh at hq
 split at hq
 ·rename_i s x t t2 hargs hts
  obtain⟨a,b,rfl,ha,hb⟩:=Z7 hargs
  have hr1:=hr a (by simp)
  have hr2:=hr b (by simp)
  rw[ha]at hr1
  rw[hb]at hr2
  obtain rfl:ts=#[t,t2]:=by cases ts;simp_all
  rw[← hq]at hk
  obtain⟨el,hel,h3⟩:=Ar hk
  rw[h3]at hk hq
  have hu:=E0 hel
  obtain⟨⟨z,m,g⟩,hx,h4⟩:=Ar hk
  rw[h4]at hk hq
  dsimp only at hk hq
  have exec:∀ (v':Value) (w':World),(Builtin.copy_ #[t,t2] o.type #[ρ a,ρ b]).run P w=.ok v' w'→(execOp ρ o).run P w=.ok (.value v') w':=fun v' w' h=>by
   unfold execOp
   simp only[ho,resolve,invoke,builtin,Sem.run_bind,Sem.run_pure,Result.andThen_ok,List.map_toArray,List.map_cons,List.map_nil]
   rw[h];rfl
  split at hq
  ·rename_i d sz n
   split at hq
   ·rename_i s' k f hcs
    split at hq
    ·rename_i hc
     obtain⟨rfl,hz,c2,rfl⟩:=hc
     subst hq
     obtain rfl:k=n:=hob _ (by simp)
     simp only[RepA]at hr1
     obtain⟨b0,c0,hb0,hv,hn1,hn2⟩:=hr1
     obtain⟨b',x',e1,e2,e3,e4,e5⟩:=H.blk hcs rfl
     obtain rfl:b'=b0:=by rw[hb0]at e1;injection e1 with e1;injection e1 with e1;exact e1.symm
     obtain⟨vs,te,rfl,f1,f2⟩:=e3
     obtain⟨A,c,news,hvx,hrd,hone,hel2⟩:=Od (size:=1) H.fz (H8 hx hr2) (by omega) (by omega)
     obtain⟨i,hi⟩:=F4 (P:=P) (t:=el) (by omega)
     have hsz:(P.info? el).map (·.size)=some 1:=by rw[hi];simp;simpa [Ap,hi] using c2
     have hlen:news.length=m:=by simpa using hrd.len
     by_cases hmin:Nat.min m k=0
     ·have hrun:=run_copy_none (P:=P) w t t2 o.type el (some ⟨b',0,none⟩) A k c0 m c hu hsz hmin
      refine⟨_,w,γ,.inl (exec _ _ (by rw[hv,hvx];exact hrun)),?_⟩
      refine Do H id hcs rfl hb0 (World.grownBy.refl w _) e2 ?_ (by simp only[RepA,Rep,goInt];rw[show min m k=0 from hmin];rfl) _ rfl rfl rfl rfl
      refine⟨vs,te,rfl,f1,fun j hj=>?_⟩
      have:m=0:=by simp only[Nat.min_def]at hmin;split at hmin<;>omega
      subst this
      simpa using f2 j hj
     ·have hm:0 < m:=by simp only[Nat.min_def]at hmin;split at hmin<;>omega
      obtain⟨bs,os,rfl,hbs,hcell⟩:=hrd.at_ hm
      let cs:=news.take (Nat.min m k)
      have hcl:cs.length=Nat.min m k:=by simp only[cs,List.length_take,hlen];exact Nat.min_eq_left (Nat.min_le_left _ _)
      have hk':Nat.min m k≤k:=Nat.min_le_right _ _
      have hrun:=run_copy_row (P:=P) w t t2 o.type el b' 0 k c0 ⟨bs,os,none⟩ m c vs te cs hu hsz e2 hcl (fun j v hj=>by
       rw[Cj]
       refine hcell j v ?_
       simp only[cs,List.getElem?_take]at hj
       split at hj
       ·exact hj
       ·cases hj) (by omega) (fun v hv=>hone v (List.mem_of_mem_take hv))
      refine⟨_,_,γ,.inl (exec _ _ (by rw[hv,hvx];exact hrun)),?_⟩
      refine Do H id hcs rfl hb0 (Ej w b' _) (setRow_heap w b' _ _ te _ e2) ?_ (by simp only[RepA,Rep,goInt];rw[hcl]) _ rfl rfl rfl rfl
      refine⟨_,te,rfl,by simp;omega,fun j hj=>?_⟩
      by_cases hjm:j < m
      ·obtain⟨u,q1,q2,q3,q4⟩:=hel2 j hjm
       refine⟨u,by simpa [hjm] using q1,q2,q3,fun l hl=>?_⟩
       rw[← q4 l hl]
       obtain rfl:l=0:=by omega
       have hlt:j < Nat.min m k:=Nat.lt_min.2 ⟨hjm,hj⟩
       simp[cs,List.getElem?_append,hcl,hlt,List.getElem?_take]
      ·obtain⟨u,q1,q2,q3,q4⟩:=f2 j hj
       refine⟨u,by simpa [hjm] using q1,q2,q3,fun l hl=>?_⟩
       rw[← q4 l hl]
       obtain rfl:l=0:=by omega
       have hlt:¬ j < cs.length:=by rw[hcl];simp only[Nat.min_def];split<;>omega
       simp[List.getElem?_append,hlt]
       congr 1;omega
    ·subst hq;cases hqk
   ·subst hq;cases hqk
  ·subst hq;cases hqk
 ·subst hq;cases hqk
def Dz (P:Program) (id:Nat) (args:List AV) (ts:List TypeId):Q :=
 match args,ts with
 | [s,x],[t,u] =>
  if t=u then
   B0 (Kj P t) fun el=>B0 (Xq x) fun(sz,m,g)=>match s with
    | .ap z n f r=>(match r with
     | .nl=>if n=0 then F9 P el sz m fun b z=>{ ob:=[0 < m,m * b≤140737488355328],v:=.arr id z m,new:=some (.arr z m g) } else .no
     | .tok tk te=>if n=0 then F9 P el sz m fun b y=>if te=el∧z=y then { ob:=[0 < m,m * b≤140737488355328],v:=.arr id y m,new:=some (.arr y m g),kill:=some tk } else .no else .no)
    | _=>.no
  else .no
 | _,_=>.no
theorem ju (H:Hp own hp live γ w) {id:Nat} (h1:γ.ι id=none) (h2:γ.τ id=none) (hid:hp id=none) {live':Nat→Prop} (hl:∀ t,live' t→live t∧t≠id) (old:Option Nat) (p:Pl) (o:Ob) {v:AV} {u:Value}
  (hobj:∀ γ',LeG γ γ'→ObjAt γ' w' o p) (hgr:w.grownBy w' p.block) (a1:∀ g,p.block=some g→own g) (a2:∀ g,p.block=some g→∀ k,γ.μ g k=none)
  (a3:∀ g j oj q,p.block=some g→hp j=some oj→oj.ok=true→some j≠old→γ.ι j=some q→q.block≠some g) (a4:∀ g t u,p.block=some g→live' t→γ.τ t=some u→u.1.ownBlock=none∨u.1.ownBlock≠some g)
  (hv:∀ γ':G,γ'.ι id=some p→RepA γ' v u) :
  ∃ γ',Stp own hp live γ w id (fun j=>if some j=old then some .gone else Cb id (some o) hp j) live' v u γ' w':=by
 let γ':G:=⟨γ.μ,fun j=>if j=id then some p else γ.ι j,γ.τ⟩
 have hι:∀ j,j≠id→γ'.ι j=γ.ι j:=fun j hj=>if_neg hj
 have hi:γ'.ι id=some p:=if_pos rfl
 have le:LeG γ γ':=⟨fun _ _ _ h=>h,fun i b h=>by rw[hι i (fun e=>by rw[e,h1]at h;cases h)];exact h,fun _ _ h=>h⟩
 have hA:∀ j oj,(if some j=old then some .gone else Cb id (some o) hp j)=some oj→oj.ok=true→some j≠old∧((j=id∧oj=o)∨(j≠id∧hp j=some oj)):=fun j oj h ho=>by
  split at h
  ·injection h with h;subst h;cases ho
  ·rename_i hne
   refine⟨hne,?_⟩
   simp only[Cb]at h
   split at h
   ·rename_i e;injection h with h;exact .inl ⟨e,h.symm⟩
   ·rename_i e;exact .inr ⟨e,h⟩
 have far:∀ {c k:Nat} {y:Value},γ.μ c k=some y→some c≠p.block:=fun h e=>by rw[a2 _ e.symm]at h;cases h
 refine⟨γ',le,⟨fun c k y hy=>?_,fun j oj hj ho=>?_,fun i j oi oj pi pj hi' hj ho1 ho2 hne hpi hpj=>?_,fun t u e' z' ht hq=>?_,fun s t vs vt hs ht=>H.tinj s t vs vt (hl s hs).1 (hl t ht).1⟩,Rn hgr a1,hv γ' hi,fun j hj=>⟨hι j (by omega),rfl⟩,fun _ _ _ _=>rfl⟩
 ·rw[World.cell?_of_block (w:=w) (hgr.block c (Gz H.fz hy) (far hy))]
  exact H.fz c k y hy
 ·obtain⟨hno,h⟩:=hA j oj hj ho
  rcases h with⟨rfl,rfl⟩ | ⟨hne,hj⟩
  ·exact⟨p,hi,hobj γ' le,fun b hb=>⟨a1 b hb,a2 b hb⟩⟩
  ·obtain⟨q,f1,f2,f3⟩:=H.obj j oj hj ho
   exact⟨q,by rw[hι j hne];exact f1,f2.kept le fun b hb=>hgr.block b (f2.lt hb) fun e=>a3 b j oj q e.symm hj ho hno f1 hb,f3⟩
 ·obtain⟨no1,c1⟩:=hA i oi hi' ho1
  obtain⟨no2,c2⟩:=hA j oj hj ho2
  rcases c1 with⟨rfl,rfl⟩ | ⟨n1,k1⟩<;>rcases c2 with⟨rfl,rfl⟩ | ⟨n2,k2⟩
  ·exact absurd rfl hne
  ·rw[hi]at hpi
   injection hpi with hpi
   subst hpi
   rw[hι j n2]at hpj
   cases hb:p.block with
   | none=>exact .inl rfl
   | some g=>exact .inr fun e=>a3 g j oj pj hb k2 ho2 no2 hpj e.symm
  ·rw[hi]at hpj
   injection hpj with hpj
   subst hpj
   rw[hι i n1]at hpi
   cases hb:pi.block with
   | none=>exact .inl rfl
   | some g=>exact .inr fun e=>a3 g i oi pi e.symm k1 ho1 no1 hpi hb
  ·rw[hι i n1]at hpi
   rw[hι j n2]at hpj
   exact H.inj i j oi oj pi pj k1 k2 ho1 ho2 hne hpi hpj
 ·obtain⟨ht1,ht2⟩:=hl t ht
  obtain⟨n,ys,q1,q2⟩:=H.tok t u e' z' ht1 hq
  have hob:u.ownBlock=none∨u.ownBlock≠p.block:=by
   cases hb:u.ownBlock with
   | none=>exact .inl rfl
   | some g =>
    refine .inr fun e=>?_
    rcases a4 g t _ e.symm ht hq with h | h
    ·rw[hb]at h;cases h
    ·exact h hb
  refine⟨n,ys,q1.kept hgr hob,fun b hb=>?_⟩
  obtain⟨r1,r2,r3⟩:=q2 b hb
  refine⟨r1,r2,fun j oj pj hj ho hpj=>?_⟩
  obtain⟨no,c⟩:=hA j oj hj ho
  rcases c with⟨rfl,rfl⟩ | ⟨n2,k2⟩
  ·rw[hi]at hpj
   injection hpj with hpj
   subst hpj
   intro e
   rcases hob with h' | h'
   ·rw[hb]at h';cases h'
   ·exact h' (by rw[hb,e])
  ·rw[hι j n2]at hpj;exact r3 j oj pj k2 ho hpj
theorem we (H:Hp own hp live γ w) {id:Nat} (h1:γ.ι id=none) (h2:γ.τ id=none) (hid:hp id=none) {live':Nat→Prop} (hl:∀ t,live' t→live t∧t≠id) {v:Value} {e:TypeId} {sz m g:Nat} {xs:List Value} {F:Nat→D}
  (ow:w'.ownsRow 0 e sz v m xs) (hm:0 < m) (hF:∀ k,k < m→∃ u,Rep γ.μ (F k) u∧u.cells.size=sz∧(∀ x∈u.cells,x.oneCell'=true)∧∀ j,j < sz→xs[k * sz+j]?=u.cells[j]?)
  (hg:v.ownBlock=some g) (hgr:w.grownBy w' (some g)) (a1:own g) (a2:∀ k,γ.μ g k=none) (a3:∀ j o q,hp j=some o→o.ok=true→γ.ι j=some q→q.block≠some g) (a4:∀ t u,live' t→γ.τ t=some u→u.1.ownBlock=none∨u.1.ownBlock≠some g) :
  ∃ γ',Stp own hp live γ w id (Cb id (some (.arr sz m F)) hp) live' (.arr id sz m) v γ' w':=by
 rcases ow.2 with⟨_,h0⟩ | ⟨g',cap,cur,rfl,_,hh,c1,c2,c3,c4⟩
 ·omega
 obtain rfl:g'=g:=by simpa [Value.ownBlock] using hg
 have key:∀ {b:Nat},(Pl.blk g').block=some b→b=g':=fun h=>by simp only[Pl.block,Option.some.injEq]at h;exact h.symm
 have:=ju H h1 h2 hid hl none (.blk g') (.arr sz m F) (v:=.arr id sz m) (u:=.slice (some ⟨g',0,none⟩) m cap) (w':=w') (fun γ' le=>⟨_,hh,cur,e,rfl,by rw[c3];exact Nat.mul_le_mul_right _ c1,fun i him=>by
   obtain⟨u,q1,q2,q3,q4⟩:=hF i him
   refine⟨u,Rep.mono le.μ _ _ q1,q2,q3,fun j hj=>?_⟩
   rw[← q4 j hj]
   have hlt:i * sz+j < m * sz:=by
    have:(i+1) * sz≤m * sz:=Nat.mul_le_mul_right _ him
    rw[Nat.add_mul]at this;omega
   rw[← c4,List.getElem?_take,if_pos hlt]
   simp⟩) hgr (fun b hb=>by rw[key hb];exact a1) (fun b hb=>by rw[key hb];exact a2) (fun b j oj q hb hj ho _ hq=>by rw[key hb];exact a3 j oj q hj ho hq) (fun b t u hb ht hq=>by rw[key hb];exact a4 t u ht hq)
   (fun γ' hi=>by simp only[RepA];exact⟨g',cap,hi,rfl,c1,c2⟩)
 simpa using this
theorem Sl (H:Hp own hp live γ w) {id:Nat} (h1:γ.ι id=none) (h2:γ.τ id=none) (hid:hp id=none) (hown:∀ b,w.heap.size≤b→own b) {live':Nat→Prop} (hl:∀ t,live' t→live t∧t≠id) {v:Value} {e:TypeId} {sz m:Nat} {xs:List Value} {F:Nat→D}
  (ow:w'.ownsRow 0 e sz v m xs) (hm:0 < m) (hF:∀ k,k < m→∃ u,Rep γ.μ (F k) u∧u.cells.size=sz∧(∀ x∈u.cells,x.oneCell'=true)∧∀ j,j < sz→xs[k * sz+j]?=u.cells[j]?)
  (hx:Gv w w') (hg:v.ownBlock=some w.heap.size):∃ γ',Stp own hp live γ w id (Cb id (some (.arr sz m F)) hp) live' (.arr id sz m) v γ' w':=by
 refine we H h1 h2 hid hl ow hm hF hg ⟨hx.os,hx.tape,hx.output,hx.size,fun k hk _=>hx.block k hk⟩ (hown _ (Nat.le_refl _)) (fun k=>?_) (fun j o q hj ho hq e=>?_) (fun t u ht hq=>?_)
 ·cases hmu:γ.μ w.heap.size k with
  | none=>rfl
  | some y=>exact absurd (Gz H.fz hmu) (by omega)
 ·obtain⟨q',f1,f2,_⟩:=H.obj j o hj ho
  rw[hq]at f1;injection f1 with f1;subst f1
  exact absurd (f2.lt e) (by omega)
 ·obtain⟨n,ys,q1,_⟩:=H.tok t u.1 u.2.1 u.2.2 (hl t ht).1 hq
  cases hb:u.1.ownBlock with
  | none=>exact .inl rfl
  | some b=>exact .inr fun e=>by injection e with e;have:=(q1.lt b hb).2;omega
theorem dz (H:Hp own hp live γ w) {id:Nat} (h1:γ.ι id=none) (h2:γ.τ id=none) (hid:hp id=none) (hlv:¬ live id) (hown:∀ b,w.heap.size≤b→own b) {o:Oper} {args:Array Operand} {ts:Array TypeId}
  (ho:o.op=.call { callee:=.builtin .append,args:=args,argTypes:=ts }) (e:Operand→AV) (hr:∀ y∈args,RepA γ (e y) (ρ y)) (hk:(Dz P id (args.toList.map e) ts.toList).ok=true)
  (hob:∀ z∈(Dz P id (args.toList.map e) ts.toList).ob,z) (hkill:∀ tk,(Dz P id (args.toList.map e) ts.toList).kill=some tk→live tk):Does P own hp live γ w ρ o id (Dz P id (args.toList.map e) ts.toList):=by
 generalize hq:Dz P id (args.toList.map e) ts.toList=q at *
 have hqk:q.ok=true:=hk
 unfold Dz at hq
 split at hq
 ·rename_i s x t u hargs hts
  obtain⟨a,b,rfl,ha,hb⟩:=Z7 hargs
  have hr1:=hr a (by simp)
  have hr2:=hr b (by simp)
  rw[ha]at hr1
  rw[hb]at hr2
  obtain rfl:ts=#[t,u]:=by cases ts;simp_all
  split at hq
  ·rename_i htu
   subst htu
   rw[← hq]at hk
   obtain⟨el,hel,h3⟩:=Ar hk
   rw[h3]at hk hq
   have hu:=E0 hel
   obtain⟨⟨sz,m,g⟩,hx,h4⟩:=Ar hk
   rw[h4]at hk hq
   simp only at hk hq
   have exec:∀ (v':Value) (w':World),(Builtin.append_ #[t,t] o.type #[ρ a,ρ b]).run P w=.ok v' w'→(execOp ρ o).run P w=.ok (.value v') w':=fun v' w' h=>by
    unfold execOp
    simp only[ho,resolve,invoke,builtin,Sem.run_bind,Sem.run_pure,Result.andThen_ok,List.map_toArray,List.map_cons,List.map_nil]
    rw[h];rfl
   split at hq
   ·rename_i z0 n f r
    cases r with
    | nl =>
     simp only at hq
     split at hq
     ·rename_i hn0
      subst hn0
      simp only[RepA,RightOk]at hr1
      unfold F9 at hq
      split at hq
      ·rename_i i hi
       split at hq
       ·rename_i z hz
        split at hq
        ·rename_i hc
         obtain⟨c1,c2,c3,c4⟩:=hc
         subst hq
         have hm0:0 < m:=hob _ (by simp)
         have hby:m * i.bytes≤140737488355328:=hob _ (by simp)
         obtain⟨A,c,news,hv,hrd,hone,hel2⟩:=Od H.fz (H8 hx hr2) (by omega:sz=i.size∨m=0) c2
         have hm63:m≤maxLen:=by
          have:=hrd.cap;have:=hrd.max;omega
         obtain⟨v',w',hrun,ho1,ho2,ho3⟩:=Eg (P:=P) w 0 t o.type el i z i.size i.bytes hu hi hz rfl rfl (by omega) c2 (ρ a) 0 [] (by rw[hr1.2];exact World.ownsRow_nil w 0 el i.size) A m c news hrd hone (by omega) (by rw[Nat.zero_add];exact hby) (Nat.zero_le _)
         rw[hr1.2]at ho2 ho3
         have hx2:Gv w w':=⟨ho2.os,ho2.tape,ho2.output,ho2.size,fun k hk=>ho2.block k hk (by simp[Value.ownBlock])⟩
         simp only[Nat.zero_add,List.nil_append]at ho1
         have hob':v'.ownBlock=some w.heap.size:=by
          rcases ho3 with h | h
          ·rcases ho1.2 with⟨_,h0⟩ | ⟨g',cap,cur,rfl,_⟩
           ·omega
           ·simp[Value.ownBlock]at h
          ·exact h
         obtain⟨γ',h6⟩:=Sl (live':=live) H h1 h2 hid hown (fun t ht=>⟨ht,fun e=>hlv (e ▸ ht)⟩) ho1 hm0 (F:=g) hel2 hx2 hob'
         refine⟨v',w',γ',.inl (exec v' w' (by rw[hv];exact hrun)),?_⟩
         rw[Fj rfl,Ef rfl]
         show Stp own hp live γ w id _ (H7 id false live) _ v' γ' w'
         rw[Cd]
         exact h6
        ·subst hq;cases hqk
       ·subst hq;cases hqk
      ·subst hq;cases hqk
     ·subst hq;cases hqk
    | tok tk te =>
     simp only at hq
     split at hq
     ·rename_i hn0
      subst hn0
      simp only[RepA,RightOk]at hr1
      unfold F9 at hq
      split at hq
      ·rename_i i hi
       split at hq
       ·rename_i z hz
        split at hq
        ·rename_i hc
         obtain⟨c1,c2,c3,c4⟩:=hc
         dsimp only at hq
         split at hq
         ·rename_i hte
          obtain⟨rfl,rfl⟩:=hte
          subst hq
          have hlk:live tk:=hkill tk rfl
          have hm0:0 < m:=hob _ (by simp)
          have hby:m * i.bytes≤140737488355328:=hob _ (by simp)
          obtain⟨A,c,news,hv,hrd,hone,hel2⟩:=Od H.fz (H8 hx hr2) (by omega:sz=i.size∨m=0) c2
          have hm63:m≤maxLen:=by
           have:=hrd.cap;have:=hrd.max;omega
          obtain⟨hd,hrt⟩:=hr1
          have hlive:∀ t,(live t∧some tk≠some t)→live t∧t≠id:=fun t ht=>⟨ht.1,fun e=>hlv (e ▸ ht.1)⟩
          have done:∀ (v':Value) (w':World) (γ':G),(execOp ρ o).run P w=.ok (.value v') w'→Stp own hp live γ w id (Cb id (some (.arr i.size m g)) hp) (fun t=>live t∧some tk≠some t) (.arr id i.size m) v' γ' w' →
            Does P own hp live γ w ρ o id { ob:=[0 < m,m * i.bytes≤140737488355328],v:=.arr id i.size m,new:=some (.arr i.size m g),kill:=some tk }:=fun v' w' γ' k1 k2 =>
           ⟨v',w',γ',.inl k1,(show Stp own hp live γ w id _ _ _ v' γ' w' from(by rw[Fj rfl];exact k2)).lives fun t ht=>by
            rcases ht with ht | ht
            ·exact ht
            ·cases ht.1⟩
          by_cases hnil:ρ a=.slice none 0 0
          ·obtain⟨v',w',hrun,ho1,ho2,ho3⟩:=Eg (P:=P) w 0 t o.type te i z i.size i.bytes hu hi hz rfl rfl (by omega) c2 (ρ a) 0 [] (by rw[hnil];exact World.ownsRow_nil w 0 te i.size) A m c news hrd hone (by omega) (by rw[Nat.zero_add];exact hby) (Nat.zero_le _)
           rw[hnil]at ho2 ho3
           have hx2:Gv w w':=⟨ho2.os,ho2.tape,ho2.output,ho2.size,fun k hk=>ho2.block k hk (by simp[Value.ownBlock])⟩
           simp only[Nat.zero_add,List.nil_append]at ho1
           have hob':v'.ownBlock=some w.heap.size:=by
            rcases ho3 with h | h
            ·rcases ho1.2 with⟨_,h0⟩ | ⟨g',cap,cur,rfl,_⟩
             ·omega
             ·simp[Value.ownBlock]at h
            ·exact h
           obtain⟨γ',h6⟩:=Sl H h1 h2 hid hown hlive ho1 hm0 (F:=g) hel2 hx2 hob'
           exact done v' w' γ' (exec v' w' (by rw[hv];exact hrun)) h6
          ·have hτ:γ.τ tk=some (ρ a,te,i.size):=hrt.resolve_right hnil
           obtain⟨n0,xs,ow,ow2⟩:=H.tok tk _ _ _ hlk hτ
           simp only[Rep]at hd
           obtain⟨A1,cap1,hva,_,_,_⟩:=hd
           rcases ow.2 with⟨h,_⟩ | ⟨b0,cap,cur,hvb,_,hhb,hcc,_,hcs,htk⟩
           ·exact absurd h hnil
           ·rw[hva]at hvb
            injection hvb with e1 e2 e3
            subst e1 e2 e3
            rw[hva]at ow ow2
            obtain rfl:xs=[]:=List.eq_nil_of_length_eq_zero (by rw[ow.1];omega)
            obtain⟨v',w',hrun,ho1,ho3⟩:=Jp (P:=P) (w:=w) t o.type te i z i.size i.bytes hu hi hz rfl rfl (by omega) c2 b0 0 cap1 [] ow A m c news hrd hone (by omega) (by rw[Nat.zero_add];exact hby)
            have run2:=exec v' w' (by rw[hva,hv];exact hrun)
            simp only[Nat.zero_add,List.nil_append]at ho1
            rw[hva]at hτ
            rcases ho3 with⟨o3,o4⟩ | ⟨o3,o4⟩
            ·obtain⟨r1,r2,r3⟩:=ow2 b0 rfl
             obtain⟨γ',h6⟩:=we H h1 h2 hid hlive ho1 hm0 (F:=g) hel2 o3 o4 r1 (fun k=>r2 k (by omega)) r3 (fun t u ht hq=>by
              have:=H.tinj t tk u _ ht.1 hlk (fun h=>ht.2 (by rw[h])) hq hτ
              exact this)
             exact done v' w' γ' run2 h6
            ·obtain⟨γ',h6⟩:=Sl H h1 h2 hid hown hlive ho1 hm0 (F:=g) hel2 o4 o3
             exact done v' w' γ' run2 h6
         ·subst hq;cases hqk
        ·subst hq;cases hqk
       ·subst hq;cases hqk
      ·subst hq;cases hqk
     ·subst hq;cases hqk
   ·subst hq;cases hqk
  ·subst hq;cases hk
 ·subst hq;cases hk
end Go.Av
namespace Go.Av
open Go.RowKit Go.Base
variable {P:Program} {γ γ':G} {w w':World} {own:Nat→Prop} {hp:Nat→Option Ob} {live:Nat→Prop} {ρ:Operand→Value}
theorem Uy {t k e:TypeId} {b:Bool} (h:S4 P t=some (k,e,b)):P.underlying t=some (.map k e)∧((b=false∧P.underlying k=some .string∧P.underlying e=some (.int .i64)∧∃ i,P.info? e=some i∧i.zero=some (.int .i64 0)) ∨
  (b=true∧P.underlying k=some (.int .i64)∧P.underlying e=some .bool∧∃ i,P.info? e=some i∧i.zero=some (.bool false))):=by
 unfold S4 at h
 split at h
 ·rename_i k' e' hu
  split at h
  ·rename_i hk he
   split at h
   ·rename_i i hi
    split at h
    ·rename_i z hz
     split at h
     ·rename_i h0
      subst h0
      simp only[Option.some.injEq,Prod.mk.injEq]at h
      obtain⟨rfl,rfl,rfl⟩:=h
      exact⟨hu,.inl ⟨rfl,hk,he,i,hi,hz⟩⟩
     ·cases h
    ·cases h
   ·cases h
  ·rename_i hk he
   split at h
   ·rename_i i hi
    split at h
    ·rename_i z hz
     split at h
     ·rename_i h0
      subst h0
      simp only[Option.some.injEq,Prod.mk.injEq]at h
      obtain⟨rfl,rfl,rfl⟩:=h
      exact⟨hu,.inr ⟨rfl,hk,he,i,hi,hz⟩⟩
     ·cases h
    ·cases h
   ·cases h
  ·cases h
 ·cases h
theorem Mn {e:TypeId} (he:P.underlying e=some .bool) {v:Value} {z:DataW Unit×List MemPlace} (h:plainElem P e v=some z):∃ a,v=.bool a∧z=(.lit (.bool a),[]):=by
 unfold plainElem at h
 rw[he]at h
 cases v<;>simp at h
 exact⟨_,rfl,h.symm⟩
theorem encK_inj:∀ {a b:Int},J1 a=J1 b→a=b
 | .ofNat n,.ofNat m,h=>by have:=congrArg List.length h;simp only[J1,List.length_replicate]at this;rw[this]
 | .negSucc n,.negSucc m,h=>by have:=congrArg List.length h;simp only[J1,List.length_cons,List.length_replicate]at this;rw[Nat.succ.inj this]
 | .ofNat n,.negSucc m,h=>by cases n<;>simp[J1,List.replicate_succ]at h
 | .negSucc n,.ofNat m,h=>by cases m<;>simp[J1,List.replicate_succ]at h
def Views (P:Program) (k:TypeId) (f:List UInt8→Option Int) (D:DataW Unit):Prop :=
 (P.underlying k=some .string→∀ key:List UInt8,key.length≤maxLen→Maps.has D (.string key)=(f key).isSome∧D.atKey (.string key) (.lit (.int .i64 0))=.lit (.int .i64 ((f key).getD 0))) ∧
 (P.underlying k=some (.int .i64)→∀ z:Int,Maps.has D (.int .i64 z)=(f (J1 z)).isSome∧D.atKey (.int .i64 z) (.lit (.bool false))=.lit (.bool ((f (J1 z)).getD 0 != 0)))
theorem MapIs.at {k e:TypeId} {n:Nat} {f:List UInt8→Option Int} {o:Go.Obj} (h:MapIs P k e n f o) {b:Nat} (hb:w.heap[b]?=some o) :
  ∃ D,w.ownsMap P k (plainElem (H:=Unit) P e) b n D∧Views P k f D:=by
 obtain⟨es,clock,rfl,F,h1,h2⟩:=h
 exact⟨_,⟨es,clock,hb,F,h1,rfl⟩,h2⟩
theorem MapIs.of {k e:TypeId} {n b:Nat} {f:List UInt8→Option Int} {D:DataW Unit} (h:w.ownsMap P k (plainElem P e) b n D) (hf:Views P k f D) :
  ∃ o,w.heap[b]?=some o∧MapIs P k e n f o:=by
 obtain⟨es,clock,hb,F,h1,rfl⟩:=h
 exact⟨_,hb,es,clock,rfl,F,h1,hf⟩
theorem m8 (H:Hp own hp live γ w) {id:Nat} (h1:γ.ι id=none) (h2:γ.τ id=none) (hid:hp id=none) (hlv:¬ live id) (hown:∀ b,w.heap.size≤b→own b) {o:Oper} {t:TypeId} (ho:o.op=.makeMap t none) (hk:(S3 P id t).quiet.ok=true) :
  Does P own hp live γ w ρ o id (S3 P id t).quiet:=by
 obtain⟨⟨k,e,b⟩,hm,h3⟩:=Ar hk
 unfold S3 at hk ⊢
 rw[h3]at hk ⊢
 obtain⟨hu,_⟩:=Uy hm
 have hmade:(w.alloc (.map #[] 0)).ownsMap P k (plainElem (H:=Unit) P e) w.heap.size 0 (.map []):=World.ownsMap_made w P k _
 obtain⟨x,hx,his⟩:=MapIs.of (f:=fun _=>none) hmade ⟨fun _ key _=>⟨rfl,rfl⟩,fun _ z=>⟨rfl,rfl⟩⟩
 have hx':(w.alloc (.map #[] 0)).heap[w.heap.size]?=some (.map #[] 0):=heap_alloc_new w _
 rw[hx']at hx
 injection hx with hx
 subst hx
 obtain⟨γ',h6⟩:=Ls H h1 h2 hid hlv hown (.map P k e 0 fun _=>none) (.map #[] 0) (fun _ _=>his) (.mp id) (.map (some w.heap.size)) (fun γ' hi=>by simp only[RepA];exact⟨_,hi,rfl⟩)
 refine Le rfl rfl rfl ⟨_,_,γ',?_,h6⟩
 unfold execOp
 simp only[ho]
 simp[run_makeMap]
theorem Pa {b:Bool} {x:AV} {s:List UInt8} {kp:Prop} (h:ze b x=some (s,kp)):(b=false∧x=.d (.str s)∧kp=(s.length≤maxLen))∨∃ z,b=true∧x=.d (.int .i64 z)∧s=J1 z∧kp=((Lit.int .i64 z).wf=true):=by
 unfold ze at h
 split at h
 ·simp only[Option.some.injEq,Prod.mk.injEq]at h;obtain⟨rfl,rfl⟩:=h;exact .inl ⟨rfl,rfl,rfl⟩
 ·rename_i z;simp only[Option.some.injEq,Prod.mk.injEq]at h;obtain⟨rfl,rfl⟩:=h;exact .inr ⟨z,rfl,rfl,rfl,rfl⟩
 ·cases h
theorem kc {b:Bool} {y:AV} {v:Int} {vp:List Prop} (h:valA b y=some (v,vp)):(b=false∧y=.d (.int .i64 v)∧vp=[(Lit.int .i64 v).wf=true])∨∃ c:Bool,b=true∧y=.d (.bool c)∧v=(if c=true then 1 else 0)∧vp=[]:=by
 unfold valA at h
 split at h
 ·simp only[Option.some.injEq,Prod.mk.injEq]at h;obtain⟨rfl,rfl⟩:=h;exact .inl ⟨rfl,rfl,rfl⟩
 ·rename_i c;simp only[Option.some.injEq,Prod.mk.injEq]at h;obtain⟨rfl,rfl⟩:=h;exact .inr ⟨c,rfl,rfl,rfl,rfl⟩
 ·cases h
theorem sv (H:Hp own hp live γ w) {o:Oper} {t:TypeId} {m x:Operand} {ok:Bool} (ho:o.op=.lookup t m x ok) {p q:AV} (hm:RepA γ p (ρ m)) (hx:RepA γ q (ρ x)) (hk:(Jz P t hp p q ok).ok=true) (hob:∀ z∈(Jz P t hp p q ok).ob,z) :
  Stay P γ w ρ o (Jz P t hp p q ok).v:=by
 obtain⟨⟨k,e,b⟩,hT,h3⟩:=Ar hk
 unfold Jz at hk hob ⊢
 rw[h3]at hk hob ⊢
 dsimp only at hk hob ⊢
 obtain⟨⟨s,kp⟩,hK,h4⟩:=Ar hk
 rw[h4]at hk hob ⊢
 dsimp only at hk hob ⊢
 obtain⟨hu,hkind⟩:=Uy hT
 split at hk
 ·rename_i id
  split at hk
  ·rename_i P' k' e' n f hid
   split at hk
   ·rename_i hc
    obtain⟨rfl,rfl⟩:=hc
    simp only[hid,and_self,if_true,Q.when,List.mem_cons,List.not_mem_nil,or_false,forall_eq_or_imp,forall_eq]at hob ⊢
    obtain⟨rfl,hlen⟩:=hob
    simp only[RepA]at hm
    obtain⟨b',e1,e2⟩:=hm
    obtain⟨b'',o',g1,g2,g3,_⟩:=H.blk hid rfl
    simp only[RepO]at g3
    rw[e1]at g1
    injection g1 with g1
    injection g1 with g1
    subst g1
    obtain⟨D,hD,hf⟩:=MapIs.at g3 g2
    rcases hkind with⟨rfl,hk1,he,i,hi,hz⟩ | ⟨rfl,hk1,he,i,hi,hz⟩
    ·rcases Pa hK with⟨_,rfl,rfl⟩ | ⟨z,hb,_⟩
     ·simp only[RepA,Rep]at hx
      obtain⟨f1,f2⟩:=hf.1 hk1 s hlen
      have hzr:(zeroValue e').run P' w=.ok (.int .i64 0) w:=Og hi hz
      have hkey:keyOf P' k' (.string ⟨⟨s⟩⟩)=some (.string s):=Go.WideMaps.keyOf_string_mk hk1 (show (⟨⟨s⟩⟩:ByteArray).size≤maxLen from hlen)
      cases ok with
      | true =>
       obtain⟨v,ps,hrun,hv⟩:=hD.look_ok (Go.Maps.string_keyed hk1) hu hzr (plainElem_int he (by decide)) hkey
       obtain⟨c,rfl,hc,_⟩:=plainElem_int_inv he hv
       rw[f2]at hc
       injection hc with hc _
       injection hc with hc
       injection hc with _ hc
       subst hc
       rw[f1]at hrun
       refine⟨_,?_,by simp only[au,RepA,Rep];exact⟨[_,_],rfl,by simp only[RepL,Rep];exact⟨_,_,rfl,rfl,_,_,rfl,rfl,rfl⟩⟩⟩
       unfold execOp
       simp only[ho,e2,hx]
       rw[Sem.run_bind,hrun]
       rfl
      | false =>
       obtain⟨v,ps,hrun,hv⟩:=hD.lookup (Go.Maps.string_keyed hk1) hu hzr (plainElem_int he (by decide)) hkey
       obtain⟨c,rfl,hc,_⟩:=plainElem_int_inv he hv
       rw[f2]at hc
       injection hc with hc _
       injection hc with hc
       injection hc with _ hc
       subst hc
       refine⟨_,?_,by (simp only[au,RepA,Rep];exact rfl)⟩
       unfold execOp
       simp only[ho,e2,hx]
       rw[Sem.run_bind,hrun]
       rfl
     ·cases hb
    ·rcases Pa hK with⟨hb,_⟩ | ⟨z,_,rfl,rfl,rfl⟩
     ·cases hb
     ·simp only[RepA,Rep]at hx
      obtain⟨f1,f2⟩:=hf.2 hk1 z
      have hzr:(zeroValue e').run P' w=.ok (.bool false) w:=Og hi hz
      have hkey:keyOf P' k' (.int .i64 z)=some (.int .i64 z):=Go.Maps.keyOf_int_mk hk1 hlen
      cases ok with
      | true =>
       obtain⟨v,ps,hrun,hv⟩:=hD.look_ok (Go.Maps.int_keyed hk1) hu hzr (plainElem_bool he false) hkey
       obtain⟨c,rfl,hc⟩:=Mn he hv
       rw[f2]at hc
       injection hc with hc _
       injection hc with hc
       injection hc with hc
       subst hc
       rw[f1]at hrun
       refine⟨_,?_,by simp only[au,RepA,Rep];exact⟨[_,_],rfl,by simp only[RepL,Rep];exact⟨_,_,rfl,rfl,_,_,rfl,rfl,rfl⟩⟩⟩
       unfold execOp
       simp only[ho,e2,hx]
       rw[Sem.run_bind,hrun]
       rfl
      | false =>
       obtain⟨v,ps,hrun,hv⟩:=hD.lookup (Go.Maps.int_keyed hk1) hu hzr (plainElem_bool he false) hkey
       obtain⟨c,rfl,hc⟩:=Mn he hv
       rw[f2]at hc
       injection hc with hc _
       injection hc with hc
       injection hc with hc
       subst hc
       refine⟨_,?_,by (simp only[au,RepA,Rep];exact rfl)⟩
       unfold execOp
       simp only[ho,e2,hx]
       rw[Sem.run_bind,hrun]
       rfl
   ·cases hk
  ·cases hk
 ·cases hk
theorem Views.put {k:TypeId} {f:List UInt8→Option Int} {D:DataW Unit} (hf:Views P k f D) (hm:Maps.IsMap D) {s:List UInt8} {v:Int} (hk:P.underlying k=some .string) (hkl:WideAt.IsKeyLit (.string s)) :
  Views P k (fun q=>if q=s then some v else f q) (D.put (.string s) (.lit (.int .i64 v))):=⟨fun hk1 key hkl'=>by
  by_cases hks:key=s
  ·subst hks
   rw[Maps.has_put_same hm hkl,Maps.atKey_put_same hm hkl]
   simp
  ·have hne:(Lit.string key)≠.string s:=fun h=>hks (by injection h)
   rw[Maps.has_put_other hne,Maps.atKey_put_other hne]
   simpa [hks] using hf.1 hk1 key hkl',fun hk1=>by rw[hk]at hk1;cases hk1⟩
theorem Views.putB {k:TypeId} {f:List UInt8→Option Int} {D:DataW Unit} (hf:Views P k f D) (hm:Maps.IsMap D) {z:Int} {c:Bool} (hk:P.underlying k=some (.int .i64)) (hkl:WideAt.IsKeyLit (.int .i64 z)) :
  Views P k (fun q=>if q=J1 z then some (if c=true then 1 else 0)else f q) (D.put (.int .i64 z) (.lit (.bool c))):=⟨fun hk1=>by (rw[hk]at hk1;cases hk1),fun hk1 y=>by
  by_cases hks:y=z
  ·subst hks
   rw[Maps.has_put_same hm hkl,Maps.atKey_put_same hm hkl]
   cases c<;>simp
  ·have hne:(Lit.int .i64 y)≠.int .i64 z:=fun h=>hks (by injection h)
   have hne2:J1 y≠J1 z:=fun h=>hks (encK_inj h)
   rw[Maps.has_put_other hne,Maps.atKey_put_other hne]
   simpa [hne2] using hf.2 hk1 y⟩
theorem Qb (H:Hp own hp live γ w) (id:Nat) {o:Oper} {t:TypeId} {m x y:Operand} (ho:o.op=.mapUpdate t m x y∨o.op=.insert t m x y) {p q r:AV} (hm:RepA γ p (ρ m)) (hx:RepA γ q (ρ x)) (hy:RepA γ r (ρ y)) (hk:(Cf P t hp p q r).ok=true) (hob:∀ z∈(Cf P t hp p q r).ob,z) :
  Does P own hp live γ w ρ o id (Cf P t hp p q r):=by
 obtain⟨⟨k,e,b⟩,hT,h3⟩:=Ar hk
 unfold Cf at hk hob ⊢
 rw[h3]at hk hob ⊢
 dsimp only at hk hob ⊢
 obtain⟨⟨s,kp⟩,hK,h4⟩:=Ar hk
 rw[h4]at hk hob ⊢
 dsimp only at hk hob ⊢
 obtain⟨⟨v,vp⟩,hV,h5⟩:=Ar hk
 rw[h5]at hk hob ⊢
 dsimp only at hk hob ⊢
 obtain⟨hu,hkind⟩:=Uy hT
 split at hk
 ·rename_i mid
  split at hk
  ·rename_i P' k' e' n f hid
   split at hk
   ·rename_i hc
    obtain⟨rfl,rfl⟩:=hc
    simp only[hid,and_self,if_true,List.mem_cons,forall_eq_or_imp]at hob ⊢
    obtain⟨rfl,hlen,hn,hwf⟩:=hob
    simp only[RepA]at hm
    obtain⟨b',e1,e2⟩:=hm
    obtain⟨b'',o',g1,g2,g3,_⟩:=H.blk hid rfl
    simp only[RepO]at g3
    rw[e1]at g1
    injection g1 with g1
    injection g1 with g1
    subst g1
    obtain⟨D,hD,hf⟩:=MapIs.at g3 g2
    rcases hkind with⟨rfl,hk1,he,_⟩ | ⟨rfl,hk1,he,_⟩
    ·rcases Pa hK with⟨_,rfl,rfl⟩ | ⟨z,hb,_⟩
     ·rcases kc hV with⟨_,rfl,rfl⟩ | ⟨z,hb,_⟩
      ·simp only[RepA,Rep]at hx hy
       have hkey:keyOf P' k' (.string ⟨⟨s⟩⟩)=some (.string s):=Go.WideMaps.keyOf_string_mk hk1 (show (⟨⟨s⟩⟩:ByteArray).size≤maxLen from hlen)
       have hkl:WideAt.IsKeyLit (.string s):=(Go.Maps.string_keyed hk1).key hkey
       have hwf':(Lit.int .i64 v).wf=true:=hwf _ (List.mem_singleton.2 rfl)
       obtain⟨w',hrun,hD',hgr⟩:=hD.update (Go.Maps.string_keyed hk1) hu hn hkey (plainElem_int he hwf')
       obtain⟨x',hx',his⟩:=MapIs.of (f:=fun q=>if q=s then some v else f q) hD' (hf.put hD.isMap hk1 hkl)
       refine⟨undef,w',γ,.inr ⟨rfl,?_⟩,Do H id hid rfl e1 hgr hx' (by simp only[RepO];exact his) (by simp only[RepA]) _ rfl rfl rfl rfl⟩
       unfold execOp
       rcases ho with ho | ho<;>simp only[ho,e2,hx,hy]<;>rw[Sem.run_bind,hrun]<;>rfl
      ·cases hb
     ·cases hb
    ·rcases Pa hK with⟨hb,_⟩ | ⟨z,_,rfl,rfl,rfl⟩
     ·cases hb
     ·rcases kc hV with⟨hb,_⟩ | ⟨c,_,rfl,rfl,rfl⟩
      ·cases hb
      ·simp only[RepA,Rep]at hx hy
       have hkey:keyOf P' k' (.int .i64 z)=some (.int .i64 z):=Go.Maps.keyOf_int_mk hk1 hlen
       have hkl:WideAt.IsKeyLit (.int .i64 z):=(Go.Maps.int_keyed hk1).key hkey
       obtain⟨w',hrun,hD',hgr⟩:=hD.update (Go.Maps.int_keyed hk1) hu hn hkey (plainElem_bool he c)
       obtain⟨x',hx',his⟩:=MapIs.of (f:=fun q=>if q=J1 z then some (if c=true then 1 else 0)else f q) hD' (hf.putB hD.isMap hk1 hkl)
       refine⟨undef,w',γ,.inr ⟨rfl,?_⟩,Do H id hid rfl e1 hgr hx' (by simp only[RepO];exact his) (by simp only[RepA]) _ rfl rfl rfl rfl⟩
       unfold execOp
       rcases ho with ho | ho<;>simp only[ho,e2,hx,hy]<;>rw[Sem.run_bind,hrun]<;>rfl
   ·cases hk
  ·cases hk
 ·cases hk
def AAE (P:Program) (u:TypeId):Bool:=match P.underlying u with
 | some .string=>true
 | _=>false
def ks (P:Program) (t:TypeId):Bool:=match P.info? t with
 | some i=>i.size==1&&i.bytes==1&&(match i.zero with
  | some (.int .u8 z)=>z==0
  | _=>false)
 | none=>false
def Ka (hp:Nat→Option Ob) (id:Nat) (el:TypeId) (s:AV) (b:List UInt8):Q:=match s with
 | .ap _ n _ r=>(match r with
  | .nl=>if n=0 then { ob:=[b.length≤140737488355328],v:=.vec id 1 b.length,new:=some (.vec el 1 b.length (Ei b)) } else .no
  | .tok _ _=>.no)
 | .vec d _ _=>(match hp d with
  | some (.vec e z n f)=>if e=el∧z=1 then { ob:=[n+b.length≤140737488355328],v:=.vec id 1 (n+b.length),new:=some (.vec el 1 (n+b.length) (Bb n f (Ei b))),upd:=some (d,.gone) } else .no
  | _=>.no)
 | _=>.no
def Vy (hp:Nat→Option Ob):AV→Option (Nat×Nat×(Nat→D))
 | .vec d _ _=>match hp d with
  | some (.vec _ z n f)=>some (z,n,f)
  | _=>none
 | x=>Xq x
def Oi (P:Program) (hp:Nat→Option Ob) (id:Nat) (args:List AV) (ts:List TypeId):Q :=
 match args,ts with
 | [s,x],[t,u] =>
  if t=u then
   B0 (Kj P t) fun el=>B0 (Vy hp x) fun(sz,m,g)=>match s with
    | .ap _ n _ r=>(match r with
     | .nl=>if n=0 then F9 P el sz m fun b z=>{ ob:=[m * b≤140737488355328],v:=.vec id z m,new:=some (.vec el z m g) } else .no
     | .tok _ _=>.no)
    | .vec d _ _=>(match hp d with
     | some (.vec e z n f)=>F9 P el sz m fun b y=>if e=el∧z=y then { ob:=[(n+m) * b≤140737488355328],v:=.vec id y (n+m),new:=some (.vec el y (n+m) (Bb n f g)),upd:=some (d,.gone) } else .no
     | _=>.no)
    | _=>.no
  else(match x with
   | .d (.str b)=>B0 (Kj P t) fun el=>if AAE P u=true∧ks P el=true then Ka hp id el s b else .no
   | _=>.no)
 | _,_=>.no
theorem K4 {v:Value} {e:TypeId} {sz n:Nat} {xs:List Value} (h:w.ownsRow 0 e sz v n xs):∃ A c,v=.slice A n c∧n≤c∧c≤maxLen∧(0 < n→∃ b,A=some ⟨b,0,none⟩):=by
 rcases h.2 with⟨rfl,rfl⟩ | ⟨b,cap,cur,rfl,h1,h2,h3,h4,h5,h6⟩
 ·exact⟨none,0,rfl,Nat.le_refl _,Nat.zero_le _,fun h=>absurd h (by omega)⟩
 ·exact⟨_,cap,rfl,h3,h4,fun _=>⟨b,rfl⟩⟩
theorem src_rd (H:Hp own hp live γ w) {x:AV} {v:Value} {sz m size:Nat} {g:Nat→D} (hx:Vy hp x=some (sz,m,g)) (hr:RepA γ x v) (hs:sz=size∨m=0) (hz:0 < size) :
  ∃ A c news,v=.slice A m c∧Rd w size A m c news∧(∀ u∈news,u.oneCell'=true)∧∀ i,i < m→∃ u,Rep γ.μ (g i) u∧u.cells.size=size∧(∀ x∈u.cells,x.oneCell'=true)∧∀ j,j < size→news[i * size+j]?=u.cells[j]?:=by
 unfold Vy at hx
 split at hx
 ·rename_i d zd nd
  split at hx
  ·rename_i e z n f hd
   simp only[Option.some.injEq,Prod.mk.injEq]at hx
   obtain⟨rfl,rfl,rfl⟩:=hx
   simp only[RepA]at hr
   obtain⟨e',A1,cap1,g1,g2,_⟩:=hr
   obtain⟨v0,xs,k1,z0,ow,hE,kb⟩:=H.vec hd
   rw[g1]at k1
   injection k1 with k1
   injection k1 with k1 k1' _
   subst k1
   obtain⟨A,c,q1,q2,q3,q4⟩:=K4 ow
   by_cases hn:n=0
   ·subst hn
    exact⟨A,c,[],q1,Rd.nil_ w size A c q3,(fun u hu=>by cases hu),fun i hi=>absurd hi (by omega)⟩
   ·obtain rfl:z=size:=hs.resolve_right hn
    obtain⟨b,hb⟩:=q4 (by omega)
    subst hb
    have holds:∀ j u,xs[j]?=some u→w.cell? ((⟨b,0,none⟩:Addr).add j)=some u:=ow.cells (g:=b) (by rw[q1];rfl)
    refine⟨_,c,xs,q1,⟨ow.1,q2,q3,fun _=>⟨b,0,rfl,?_,fun j u hj=>by
     have:=holds j u hj
     simp only[Addr.add]at this
     rw[Nat.zero_add]
     split at this
     ·rename_i h0;subst h0;exact this
     ·simpa using this⟩⟩,fun u hu=>?_,hE⟩
    ·have hpos:0 < xs.length:=by rw[ow.1];exact Nat.mul_pos (by omega) hz
     exact dv (holds 0 _ (List.getElem?_eq_getElem hpos))
    ·obtain⟨k,hk,rfl⟩:=List.getElem_of_mem hu
     rw[ow.1]at hk
     obtain⟨y,_,y2,y3,y4⟩:=hE (k / z) ((Nat.div_lt_iff_lt_mul hz).2 hk)
     have:=y4 (k % z) (Nat.mod_lt _ hz)
     rw[Nat.mul_comm,Nat.div_add_mod]at this
     have hlt:k % z < y.cells.size:=by rw[y2];exact Nat.mod_lt _ hz
     rw[Array.getElem?_eq_getElem hlt,List.getElem?_eq_getElem (by rw[ow.1];exact hk)]at this
     injection this with this
     rw[this]
     exact y3 _ (Array.getElem_mem hlt)
  ·cases hx
 ·exact Od H.fz (H8 hx hr) hs hz
theorem Ni (H:Hp own hp live γ w) {id:Nat} (h1:γ.ι id=none) (h2:γ.τ id=none) (hid:hp id=none) (hlv:¬ live id) (old:Option Nat) {v:Value} {e:TypeId} {sz n:Nat} {xs:List Value} {F:Nat→D} (hz:0 < sz)
  (ow:w'.ownsRow 0 e sz v n xs) (hF:Elems γ.μ sz n F xs) (hgr:w.grownBy w' v.ownBlock) (a1:∀ g,v.ownBlock=some g→own g) (a2:∀ g,v.ownBlock=some g→∀ k,γ.μ g k=none)
  (a3:∀ g j oj q,v.ownBlock=some g→hp j=some oj→oj.ok=true→some j≠old→γ.ι j=some q→q.block≠some g) (a4:∀ g t u,v.ownBlock=some g→live t→γ.τ t=some u→u.1.ownBlock=none∨u.1.ownBlock≠some g) :
  ∃ γ',Stp own hp live γ w id (fun j=>if some j=old then some .gone else Cb id (some (.vec e sz n F)) hp j) live (.vec id sz n) v γ' w':=by
 obtain⟨A,c,k1,k2,k3,k4⟩:=K4 ow
 exact ju H h1 h2 hid (fun t ht=>⟨ht,fun e=>hlv (e ▸ ht)⟩) old (.vec v e sz) (.vec e sz n F) (fun γ' le=>⟨n,F,xs,rfl,hz,ow,hF.mono le.μ⟩) hgr a1 a2 a3 a4
  (fun γ' hi=>by simp only[RepA];exact⟨e,A,c,hi,k1,k2,k3,k4⟩)
theorem Hc (h:Gv w w') (r:Option Nat):w.grownBy w' r:=⟨h.os,h.tape,h.output,h.size,fun k hk _=>h.block k hk⟩
theorem S5 (H:Hp own hp live γ w):(∀ k,γ.μ w.heap.size k=none)∧(∀ j oj q,hp j=some oj→oj.ok=true→γ.ι j=some q→q.block≠some w.heap.size)∧∀ t u,live t→γ.τ t=some u→u.1.ownBlock=none∨u.1.ownBlock≠some w.heap.size:=by
 refine⟨fun k=>?_,fun j oj q hj ho hq e=>?_,fun t u ht hq=>?_⟩
 ·cases hmu:γ.μ w.heap.size k with
  | none=>rfl
  | some y=>exact absurd (Gz H.fz hmu) (by omega)
 ·obtain⟨q',f1,f2,_⟩:=H.obj j oj hj ho
  rw[hq]at f1;injection f1 with f1;subst f1
  exact absurd (f2.lt e) (by omega)
 ·obtain⟨n,ys,q1,_⟩:=H.tok t u.1 u.2.1 u.2.2 ht hq
  cases hb:u.1.ownBlock with
  | none=>exact .inl rfl
  | some b=>exact .inr fun e=>by injection e with e;have:=(q1.lt b hb).2;omega
theorem Qy (t u ty e:TypeId) (i:TypeInfo) (ht:P.underlying t=some (.slice e)) (hu:P.underlying u=some .string) (hi:P.info? e=some i) (hz:i.zero=some (.int .u8 0)) (hsize:i.size=1) (hby:i.bytes=1)
  (v:Value) (n:Nat) (xs:List Value) (hown:w.ownsRow 0 e 1 v n xs) (s:ByteArray) (hbytes:n+s.size≤140737488355328) :
  ∃ v' w',(Builtin.append_ #[t,u] ty #[v,.string s]).run P w=.ok v' w'∧w'.ownsRow 0 e 1 v' (n+s.size) (xs++Lib.strCells s) ∧
   ((v'.ownBlock=v.ownBlock∧w.grownBy w' v.ownBlock)∨(v'.ownBlock=some w.heap.size∧Gv w w')):=by
 have h63:n+s.size≤maxLen:=by unfold maxLen;omega
 have hxl:xs.length=n:=by simpa using hown.1
 have hlen:(xs++Lib.strCells s).length=(n+s.size) * 1:=by rw[List.length_append,hxl,Lib.strCells_length,Nat.mul_one]
 have grown:∀ (old:Nat),old < n+s.size →
   (w.drew.alloc (.cells (xs.toArray++(Lib.strCells s).toArray++Builtin.zeroCells (Value.int .u8 0).cells (grownCap w (n+s.size) old e - (n+s.size))) e)).ownsRow 0 e 1
    (.slice (some ⟨w.heap.size,0,none⟩) (n+s.size) (grownCap w (n+s.size) old e)) (n+s.size) (xs++Lib.strCells s) ∧
   Gv w (w.drew.alloc (.cells (xs.toArray++(Lib.strCells s).toArray++Builtin.zeroCells (Value.int .u8 0).cells (grownCap w (n+s.size) old e - (n+s.size))) e)):=by
  intro old ho
  have hge:=grownCap_ge w (n+s.size) old e
  have hcm:grownCap w (n+s.size) old e≤maxLen:=grownCap_le_maxLen w (n+s.size) old e h63
  refine⟨⟨hlen,.inr ⟨w.heap.size,_,_,rfl,Nat.zero_le _,heap_alloc_new w.drew _,hge,hcm,?_,?_⟩⟩,((Below.refl _ w).drew).alloc (Nat.le_refl _) _⟩
  ·have hz1:(Value.int IntKind.u8 0).cells.size=1:=rfl
   simp only[Array.size_append,List.size_toArray,size_zeroCells,hz1,hxl,Lib.strCells_length]
   omega
  ·simp only[Array.toList_append,List.append_assoc]
   rw[← List.append_assoc,← hlen]
   exact List.take_left
 rcases hown.2 with⟨rfl,rfl⟩ | ⟨g,cap,cur,rfl,hbg,hg,hnc,hcm,hcs,htake⟩
 ·have hx:xs=[]:=List.eq_nil_of_length_eq_zero hxl
  subst hx
  by_cases hm:s.size=0
  ·have hn:Lib.strCells s=[]:=List.eq_nil_of_length_eq_zero (by rw[Lib.strCells_length];exact hm)
   refine⟨.slice none 0 0,w,?_,by rw[hm,hn];exact World.ownsRow_nil w 0 e 1,.inl ⟨rfl,World.grownBy.refl w _⟩⟩
   have hf:=Lib.run_firstCells_string (P:=P) w 1 s
   rw[hm]at hf
   simp[Builtin.append_,run_underlying ht,run_underlying hu,sizeOf,typeInfo,hi,hsize,Builtin.lenOf,hm,hf]
  ·have hr:=run_append_nil_string (P:=P) w t u ty e i (.int .u8 0) ht hu hi hz s (by omega) (by omega) (by rw[hby];omega)
   have hgr:=grown 0 (by omega)
   simp only[Nat.zero_add,List.nil_append,Array.empty_append]at hgr ⊢
   have e1:(s.data.map fun b=>Value.int .u8 b.toNat)=(Lib.strCells s).toArray:=by
    apply Array.ext'
    simp[Lib.strCells]
   rw[e1]at hr
   exact⟨_,_,hr,hgr.1,.inr ⟨rfl,hgr.2⟩⟩
 ·by_cases hroom:n+s.size≤cap
  ·have hcs':cur.size=cap:=by simpa using hcs
   have hr:=Lib.run_append_room_string (P:=P) w t u ty e i ht hu hi hsize g n cap cur hg s hroom (by omega)
   refine⟨_,_,hr,⟨hlen,.inr ⟨g,cap,_,rfl,hbg,setRow_heap w g cur _ e _ hg,hroom,hcm,?_,?_⟩⟩,.inl ⟨rfl,⟨rfl,rfl,rfl,by simp,fun k _ hk=>setRow_other w g k _ (fun e=>hk (by simp[Value.ownBlock,e]))⟩⟩⟩
   ·simp only[List.size_toArray,List.length_append,List.length_take,List.length_drop,Array.length_toList,Lib.strCells_length]
    omega
   ·have ht':cur.toList.take n=xs:=by simpa using htake
    rw[ht',← hlen]
    exact List.take_left
  ·have holds:∀ j u,xs[j]?=some u→w.cell? ((⟨g,0,none⟩:Addr).add j)=some u:=hown.cells (g:=g) rfl
   have hr:=Lib.run_append_grow_string (P:=P) w t u ty e i (.int .u8 0) ht hu hi hz ⟨g,0,none⟩ n cap xs (by rw[hsize];simpa using hxl) holds s (by omega) (by omega) (by rw[hby];exact growslice_fits (by omega) (by omega))
   have hgr:=grown cap (by omega)
   exact⟨_,_,hr,hgr.1,.inr ⟨rfl,hgr.2⟩⟩
theorem gy (μ:Nat→Nat→Option Value) (b:List UInt8):Elems μ 1 b.length (Ei b) (Lib.strCells ⟨⟨b⟩⟩):=fun k hk=>by
 refine⟨.int .u8 (b[k].toNat:Int),by simp[Ei,hk,Rep],rfl,fun x hx=>?_,fun j hj=>?_⟩
 ·simp only[Value.cells,Array.mem_singleton,List.mem_toArray,List.mem_singleton]at hx
  subst hx;rfl
 ·obtain rfl:j=0:=by omega
  simp[Lib.strCells,Value.cells,hk]
theorem elems_app {μ:Nat→Nat→Option Value} {sz n m:Nat} {f g:Nat→D} {xs news:List Value} (hl:xs.length=n * sz) (hE:Elems μ sz n f xs) (hel2:Elems μ sz m g news):Elems μ sz (n+m) (Bb n f g) (xs++news):=fun k hk=>by
 by_cases hkn:k < n
 ·obtain⟨u,q1,q2,q3,q4⟩:=hE k hkn
  refine⟨u,by simpa only[Bb,hkn,if_true] using q1,q2,q3,fun j hj=>?_⟩
  have hlt:k * sz+j < xs.length:=by
   rw[hl]
   have:(k+1) * sz≤n * sz:=Nat.mul_le_mul_right _ hkn
   rw[Nat.add_mul]at this;omega
  rw[List.getElem?_append_left hlt];exact q4 j hj
 ·obtain⟨u,q1,q2,q3,q4⟩:=hel2 (k - n) (by omega)
  refine⟨u,by simpa only[Bb,hkn,if_false] using q1,q2,q3,fun j hj=>?_⟩
  have e1:k * sz+j=xs.length+((k - n) * sz+j):=by
   rw[hl,← Nat.add_assoc,← Nat.add_mul];congr 2;omega
  rw[e1,List.getElem?_append_right (by omega),Nat.add_sub_cancel_left];exact q4 j hj
theorem yj {t:TypeId} (h:ks P t=true):∃ i,P.info? t=some i∧i.zero=some (.int .u8 0)∧i.size=1∧i.bytes=1:=by
 unfold ks at h
 split at h
 ·rename_i i hi
  simp only[Bool.and_eq_true,beq_iff_eq]at h
  obtain⟨⟨a,b⟩,c⟩:=h
  split at c
  ·rename_i z hz
   rw[beq_iff_eq]at c
   subst c
   exact⟨i,hi,hz,a,b⟩
  ·cases c
 ·cases h
theorem strT_some {t:TypeId} (h:AAE P t=true):P.underlying t=some .string:=by
 unfold AAE at h
 split at h
 ·assumption
 ·cases h
theorem se (H:Hp own hp live γ w) {id:Nat} (h1:γ.ι id=none) (h2:γ.τ id=none) (hid:hp id=none) (hlv:¬ live id) (hown:∀ b,w.heap.size≤b→own b) {o:Oper} {a b:Operand} {t u el:TypeId}
  (ho:o.op=.call { callee:=.builtin .append,args:=#[a,b],argTypes:=#[t,u] }) (hu:P.underlying t=some (.slice el)) (hs:AAE P u=true) (hb:ks P el=true) {s:AV} {bs:List UInt8} (hr1:RepA γ s (ρ a)) (hr2:ρ b=.string ⟨⟨bs⟩⟩)
  (hqk:(Ka hp id el s bs).ok=true) (hob:∀ z∈(Ka hp id el s bs).ob,z):Does P own hp live γ w ρ o id (Ka hp id el s bs):=by
 generalize hq:Ka hp id el s bs=q at *
 obtain⟨i,hi,hz,hsz,hby⟩:=yj hb
 have hus:=strT_some hs
 have exec:∀ (v':Value) (w':World),(Builtin.append_ #[t,u] o.type #[ρ a,ρ b]).run P w=.ok v' w'→(execOp ρ o).run P w=.ok (.value v') w':=fun v' w' h=>by
  unfold execOp
  simp only[ho,resolve,invoke,builtin,Sem.run_bind,Sem.run_pure,Result.andThen_ok,List.map_toArray,List.map_cons,List.map_nil]
  rw[h];rfl
 obtain⟨nf1,nf2,nf3⟩:=S5 H
 have hlb:(⟨⟨bs⟩⟩:ByteArray).size=bs.length:=rfl
 unfold Ka at hq
 split at hq
 ·rename_i z0 n f r
  cases r with
  | nl =>
   simp only at hq
   split at hq
   ·rename_i hn0
    subst hn0
    subst hq
    simp only[RepA,RightOk]at hr1
    have hbl:bs.length≤140737488355328:=hob _ (by simp)
    obtain⟨v',w',hrun,ho1,ho3⟩:=Qy (P:=P) (w:=w) t u o.type el i hu hus hi hz hsz hby (ρ a) 0 [] (by rw[hr1.2];exact World.ownsRow_nil w 0 el 1) ⟨⟨bs⟩⟩ (by rw[hlb];omega)
    rw[hr1.2]at ho3
    have hx2:Gv w w':=by
     rcases ho3 with⟨_,h⟩ | ⟨_,h⟩
     ·exact⟨h.os,h.tape,h.output,h.size,fun k hk=>h.block k hk (by simp[Value.ownBlock])⟩
     ·exact h
    simp only[hlb,Nat.zero_add,List.nil_append]at ho1
    have hg:∀ g,v'.ownBlock=some g→g=w.heap.size:=fun g hg=>by
     rw[hg]at ho3
     rcases ho3 with⟨h,_⟩ | ⟨h,_⟩
     ·cases h
     ·injection h
    obtain⟨γ',h6⟩:=Ni H h1 h2 hid hlv none (by omega) ho1 (gy γ.μ bs) (Hc hx2 _) (fun g h=>by rw[hg g h];exact hown _ (Nat.le_refl _)) (fun g h=>by rw[hg g h];exact nf1)
     (fun g j oj q h hj ho _ hq=>by rw[hg g h];exact nf2 j oj q hj ho hq) (fun g t u h ht hq=>by rw[hg g h];exact nf3 t u ht hq)
    refine⟨v',w',γ',.inl (exec v' w' (by rw[hr2];exact hrun)),?_⟩
    rw[Fj rfl,Ef rfl]
    show Stp own hp live γ w id _ (H7 id false live) _ v' γ' w'
    rw[Cd]
    simpa using h6
   ·subst hq;cases hqk
  | tok tk te=>subst hq;cases hqk
 ·rename_i d zd nd
  split at hq
  ·rename_i te z0 n f hd
   split at hq
   ·rename_i hte
    obtain⟨rfl,rfl⟩:=hte
    subst hq
    have hbl:n+bs.length≤140737488355328:=hob _ (by simp)
    simp only[RepA]at hr1
    obtain⟨e',A1,cap1,g1,g2,_⟩:=hr1
    obtain⟨v0,xs,k1,_,ow,hE,kb⟩:=H.vec hd
    rw[g1]at k1
    injection k1 with k1
    injection k1 with k1 k1' _
    subst k1
    obtain⟨v',w',hrun,ho1,hcase⟩:=Qy (P:=P) (w:=w) t u o.type te i hu hus hi hz hsz hby (ρ a) n xs ow ⟨⟨bs⟩⟩ hbl
    rw[hlb]at ho1
    have hgr:w.grownBy w' v'.ownBlock:=by
     rcases hcase with⟨h,k⟩ | ⟨h,k⟩
     ·rw[h];exact k
     ·exact Hc k _
    have hgs:∀ g,v'.ownBlock=some g→(ρ a).ownBlock=some g∨g=w.heap.size:=fun g hg=>by
     rcases hcase with⟨h,_⟩ | ⟨h,_⟩
     ·exact .inl (by rw[← h];exact hg)
     ·exact .inr (by rw[hg]at h;injection h)
    obtain⟨γ',h6⟩:=Ni H h1 h2 hid hlv (some d) (by omega) ho1 (elems_app ow.1 hE (gy γ.μ bs)) hgr
     (fun g h=>by rcases hgs g h with h | h;exact(kb g h).1;rw[h];exact hown _ (Nat.le_refl _))
     (fun g h=>by rcases hgs g h with h | h;exact(kb g h).2;rw[h];exact nf1)
     (fun g j oj q h hj hoj hne hq=>by
      rcases hgs g h with h | h
      ·intro e
       rcases H.inj j d oj _ q _ hj hd hoj rfl (fun e=>hne (by rw[e])) hq g1 with h' | h'
       ·rw[e]at h';cases h'
       ·exact h' (by rw[e];exact h.symm)
      ·rw[h];exact nf2 j oj q hj hoj hq)
     (fun g t u h ht hq=>by
      rcases hgs g h with h | h
      ·obtain⟨n1,ys,r1,r2⟩:=H.tok t u.1 u.2.1 u.2.2 ht hq
       cases hb:u.1.ownBlock with
       | none=>exact .inl rfl
       | some g' =>
        exact .inr fun e=>by
         injection e with e
         subst e
         exact(r2 g' hb).2.2 d _ _ hd rfl g1 h
      ·rw[h];exact nf3 t u ht hq)
    refine⟨v',w',γ',.inl (exec v' w' (by rw[hr2];exact hrun)),?_⟩
    have e1:Cy id { ob:=[n+bs.length≤140737488355328],v:=AV.vec id 1 (n+bs.length),new:=some (Ob.vec te 1 (n+bs.length) (Bb n f (Ei bs))),upd:=some (d,Ob.gone) } hp=fun j=>if some j=some d then some .gone else Cb id (some (.vec te 1 (n+bs.length) (Bb n f (Ei bs)))) hp j:=by
     funext j;simp only[Cy,Option.some.injEq]
    rw[e1,Ef rfl]
    show Stp own hp live γ w id _ (H7 id false live) _ v' γ' w'
    rw[Cd]
    exact h6
   ·subst hq;cases hqk
  ·subst hq;cases hqk
 ·subst hq;cases hqk
theorem does_vec (H:Hp own hp live γ w) {id:Nat} (h1:γ.ι id=none) (h2:γ.τ id=none) (hid:hp id=none) (hlv:¬ live id) (hown:∀ b,w.heap.size≤b→own b) {o:Oper} {args:Array Operand} {ts:Array TypeId}
  (ho:o.op=.call { callee:=.builtin .append,args:=args,argTypes:=ts }) (e:Operand→AV) (hr:∀ y∈args,RepA γ (e y) (ρ y)) (hk:(Oi P hp id (args.toList.map e) ts.toList).ok=true)
  (hob:∀ z∈(Oi P hp id (args.toList.map e) ts.toList).ob,z):Does P own hp live γ w ρ o id (Oi P hp id (args.toList.map e) ts.toList):=by
 generalize hq:Oi P hp id (args.toList.map e) ts.toList=q at *
 have hqk:q.ok=true:=hk
 unfold Oi at hq
 split at hq
 ·rename_i s x t u hargs hts
  obtain⟨a,b,rfl,ha,hb⟩:=Z7 hargs
  have hr1:=hr a (by simp)
  have hr2:=hr b (by simp)
  rw[ha]at hr1
  rw[hb]at hr2
  obtain rfl:ts=#[t,u]:=by cases ts;simp_all
  split at hq
  ·rename_i htu
   subst htu
   rw[← hq]at hk
   obtain⟨el,hel,h3⟩:=Ar hk
   rw[h3]at hk hq
   have hu:=E0 hel
   obtain⟨⟨sz,m,g⟩,hx,h4⟩:=Ar hk
   rw[h4]at hk hq
   simp only at hk hq
   have exec:∀ (v':Value) (w':World),(Builtin.append_ #[t,t] o.type #[ρ a,ρ b]).run P w=.ok v' w'→(execOp ρ o).run P w=.ok (.value v') w':=fun v' w' h=>by
    unfold execOp
    simp only[ho,resolve,invoke,builtin,Sem.run_bind,Sem.run_pure,Result.andThen_ok,List.map_toArray,List.map_cons,List.map_nil]
    rw[h];rfl
   obtain⟨nf1,nf2,nf3⟩:=S5 H
   split at hq
   ·rename_i z0 n f r
    cases r with
    | nl =>
     simp only at hq
     split at hq
     ·rename_i hn0
      subst hn0
      simp only[RepA,RightOk]at hr1
      unfold F9 at hq
      split at hq
      ·rename_i i hi
       split at hq
       ·rename_i z hz
        split at hq
        ·rename_i hc
         obtain⟨c1,c2,c3,c4⟩:=hc
         subst hq
         have hby:m * i.bytes≤140737488355328:=hob _ (by simp)
         obtain⟨A,c,news,hv,hrd,hone,hel2⟩:=src_rd H hx hr2 (by omega:sz=i.size∨m=0) c2
         have hm63:m≤maxLen:=by
          have:=hrd.cap;have:=hrd.max;omega
         obtain⟨v',w',hrun,ho1,ho2,ho3⟩:=Eg (P:=P) w 0 t o.type el i z i.size i.bytes hu hi hz rfl rfl (by omega) c2 (ρ a) 0 [] (by rw[hr1.2];exact World.ownsRow_nil w 0 el i.size) A m c news hrd hone (by omega) (by rw[Nat.zero_add];exact hby) (Nat.zero_le _)
         rw[hr1.2]at ho2 ho3
         have hx2:Gv w w':=⟨ho2.os,ho2.tape,ho2.output,ho2.size,fun k hk=>ho2.block k hk (by simp[Value.ownBlock])⟩
         simp only[Nat.zero_add,List.nil_append]at ho1
         have hg:∀ g,v'.ownBlock=some g→g=w.heap.size:=fun g hg=>by
          rw[hg]at ho3
          rcases ho3 with h | h
          ·cases h
          ·injection h
         obtain⟨γ',h6⟩:=Ni H h1 h2 hid hlv none c2 ho1 hel2 (Hc hx2 _) (fun g h=>by rw[hg g h];exact hown _ (Nat.le_refl _)) (fun g h=>by rw[hg g h];exact nf1)
          (fun g j oj q h hj ho _ hq=>by rw[hg g h];exact nf2 j oj q hj ho hq) (fun g t u h ht hq=>by rw[hg g h];exact nf3 t u ht hq)
         refine⟨v',w',γ',.inl (exec v' w' (by rw[hv];exact hrun)),?_⟩
         rw[Fj rfl,Ef rfl]
         show Stp own hp live γ w id _ (H7 id false live) _ v' γ' w'
         rw[Cd]
         simpa using h6
        ·subst hq;cases hqk
       ·subst hq;cases hqk
      ·subst hq;cases hqk
     ·subst hq;cases hqk
    | tok tk te=>subst hq;cases hqk
   ·rename_i d zd nd
    split at hq
    ·rename_i te z0 n f hd
     unfold F9 at hq
     split at hq
     ·rename_i i hi
      split at hq
      ·rename_i z hz
       split at hq
       ·rename_i hc
        obtain⟨c1,c2,c3,c4⟩:=hc
        dsimp only at hq
        split at hq
        ·rename_i hte
         obtain⟨rfl,rfl⟩:=hte
         subst hq
         have hby:(n+m) * i.bytes≤140737488355328:=hob _ (by simp)
         simp only[RepA]at hr1
         obtain⟨e',A1,cap1,g1,g2,_⟩:=hr1
         obtain⟨v0,xs,k1,_,ow,hE,kb⟩:=H.vec hd
         rw[g1]at k1
         injection k1 with k1
         injection k1 with k1 k1' _
         subst k1
         obtain⟨A,c,news,hv,hrd,hone,hel2⟩:=src_rd H hx hr2 (by omega:sz=i.size∨m=0) c2
         have hnm:n+m≤maxLen:=by
          have:(n+m) * 1≤(n+m) * i.bytes:=Nat.mul_le_mul_left _ c3
          unfold maxLen;omega
         have elems:Elems γ.μ i.size (n+m) (Bb n f g) (xs++news):=fun k hk=>by
          by_cases hkn:k < n
          ·obtain⟨u,q1,q2,q3,q4⟩:=hE k hkn
           refine⟨u,by simpa only[Bb,hkn,if_true] using q1,q2,q3,fun j hj=>?_⟩
           have hlt:k * i.size+j < xs.length:=by
            rw[ow.1]
            have:(k+1) * i.size≤n * i.size:=Nat.mul_le_mul_right _ hkn
            rw[Nat.add_mul]at this;omega
           rw[List.getElem?_append_left hlt];exact q4 j hj
          ·obtain⟨u,q1,q2,q3,q4⟩:=hel2 (k - n) (by omega)
           refine⟨u,by simpa only[Bb,hkn,if_false] using q1,q2,q3,fun j hj=>?_⟩
           have e1:k * i.size+j=xs.length+((k - n) * i.size+j):=by
            rw[ow.1,← Nat.add_assoc,← Nat.add_mul];congr 2;omega
           rw[e1,List.getElem?_append_right (by omega),Nat.add_sub_cancel_left];exact q4 j hj
         have done:∀ (v':Value) (w':World),(Builtin.append_ #[t,t] o.type #[ρ a,ρ b]).run P w=.ok v' w'→w'.ownsRow 0 te i.size v' (n+m) (xs++news)→w.grownBy w' v'.ownBlock →
           (v'.ownBlock=(ρ a).ownBlock∨v'.ownBlock=some w.heap.size) →
           Does P own hp live γ w ρ o id { ob:=[(n+m) * i.bytes≤140737488355328],v:=.vec id i.size (n+m),new:=some (.vec te i.size (n+m) (Bb n f g)),upd:=some (d,.gone) }:=fun v' w' hrun ho1 hgr hcase=>by
          have hgs:∀ g,v'.ownBlock=some g→(ρ a).ownBlock=some g∨g=w.heap.size:=fun g hg=>by
           rcases hcase with h | h
           ·exact .inl (by rw[← h];exact hg)
           ·exact .inr (by rw[hg]at h;injection h)
          obtain⟨γ',h6⟩:=Ni H h1 h2 hid hlv (some d) c2 ho1 elems hgr
           (fun g h=>by rcases hgs g h with h | h;exact(kb g h).1;rw[h];exact hown _ (Nat.le_refl _))
           (fun g h=>by rcases hgs g h with h | h;exact(kb g h).2;rw[h];exact nf1)
           (fun g j oj q h hj hoj hne hq=>by
            rcases hgs g h with h | h
            ·intro e
             rcases H.inj j d oj _ q _ hj hd hoj rfl (fun e=>hne (by rw[e])) hq g1 with h' | h'
             ·rw[e]at h';cases h'
             ·exact h' (by rw[e];exact h.symm)
            ·rw[h];exact nf2 j oj q hj hoj hq)
           (fun g t u h ht hq=>by
            rcases hgs g h with h | h
            ·obtain⟨n1,ys,r1,r2⟩:=H.tok t u.1 u.2.1 u.2.2 ht hq
             cases hb:u.1.ownBlock with
             | none=>exact .inl rfl
             | some g' =>
              exact .inr fun e=>by
               injection e with e
               subst e
               exact(r2 g' hb).2.2 d _ _ hd rfl g1 h
            ·rw[h];exact nf3 t u ht hq)
          refine⟨v',w',γ',.inl (exec v' w' hrun),?_⟩
          have e1:Cy id { ob:=[(n+m) * i.bytes≤140737488355328],v:=AV.vec id i.size (n+m),new:=some (Ob.vec te i.size (n+m) (Bb n f g)),upd:=some (d,Ob.gone) } hp=fun j=>if some j=some d then some .gone else Cb id (some (.vec te i.size (n+m) (Bb n f g))) hp j:=by
           funext j;simp only[Cy,Option.some.injEq]
          rw[e1,Ef rfl]
          show Stp own hp live γ w id _ (H7 id false live) _ v' γ' w'
          rw[Cd]
          exact h6
         rcases ow.2 with⟨hnil,h0⟩ | ⟨b0,cap,cur,hvb,_⟩
         ·subst h0
          have hxs:xs=[]:=List.eq_nil_of_length_eq_zero (by rw[ow.1];omega)
          subst hxs
          obtain⟨v',w',hrun,ho1,ho2,ho3⟩:=Eg (P:=P) w 0 t o.type te i z i.size i.bytes hu hi hz rfl rfl (by omega) c2 (ρ a) 0 [] ow A m c news hrd hone (by omega) hby (Nat.zero_le _)
          have hx2:Gv w w':=⟨ho2.os,ho2.tape,ho2.output,ho2.size,fun k hk=>ho2.block k hk (by rw[hnil];simp[Value.ownBlock])⟩
          exact done v' w' (by rw[hv];exact hrun) ho1 (Hc hx2 _) ho3
         ·rw[hvb]at ow done
          obtain⟨v',w',hrun,ho1,ho3⟩:=Jp (P:=P) (w:=w) t o.type te i z i.size i.bytes hu hi hz rfl rfl (by omega) c2 b0 n cap xs ow A m c news hrd hone hnm hby
          rcases ho3 with⟨o3,o4⟩ | ⟨o3,o4⟩
          ·exact done v' w' (by rw[hv];exact hrun) ho1 (by rw[o3];exact o4) (.inl o3)
          ·exact done v' w' (by rw[hv];exact hrun) ho1 (Hc o4 _) (.inr o3)
        ·subst hq;cases hqk
       ·subst hq;cases hqk
      ·subst hq;cases hqk
     ·subst hq;cases hqk
    ·subst hq;cases hqk
   ·subst hq;cases hqk
  ·split at hq
   ·rename_i bs
    rw[← hq]at hk
    obtain⟨el,hel,h3⟩:=Ar hk
    rw[h3]at hk hq
    split at hq
    ·rename_i hc
     subst hq
     simp only[RepA,Rep]at hr2
     exact se H h1 h2 hid hlv hown ho (E0 hel) hc.1 hc.2 hr1 hr2 hqk hob
    ·subst hq;cases hqk
   ·subst hq;cases hk
 ·subst hq;cases hk
end Go.Av
