/- A part of the proof. -/
import Derived.Test.YtppfnndafbhegaaGreatDoorPart1
import Derived.Orders
import Derived.KernelRfl
import Derived.LoopN
import Derived.Deep.Slices
import Derived.ProofKit
import Derived.OpenShut
import Derived.Test.YtppfnndafbhegaaGreatDoorProg
import Derived.IntWalk
import Derived.WalkKit
import Derived.Lib.Walk
import Derived.Lib.Strings
import Derived.Lib.Bytealg
import Derived.BigCall
import Derived.BigGuard
import Derived.Deep.Draws
import Derived.Laws.Strings3
set_option linter.unusedVariables false
set_option linter.unusedSimpArgs false
namespace Go.Av
open Go.RowKit Go.Base
structure LE where
 g:Option (Nat×Bool)
 G:Bool
 v:AV
def Ce (fr:List (Nat×AV)):List (Nat×LE)→Nat→LE
 | [],t=>⟨none,true,Cg fr t⟩
 | (i,x) :: l,t=>if i=t then x else Ce fr l t
def Cu (E:Nat→LE):Operand→AV
 | .tmp t=>(E t).v
 | .const v=>H3 v
 | .func f=>.fn f []
 | .global _=>.any
def kq (want:Bool):LE→Option Bool
 | ⟨none,_,.d (.bool b)⟩=>some (if want then b else !b)
 | ⟨some _,G,.d (.bool b)⟩=>some (G&&if want then b else !b)
 | _=>none
def Fu (ops:List Oper) (E:Nat→LE) (g:Nat×Bool):Option Bool :=
 match ops[g.1]? with
 | some o=>match o.dst with
  | some t=>kq g.2 (E t)
  | none=>none
 | none=>none
def Gl (E:Nat→LE) (g:Option (Nat×Bool)):Operand→Bool
 | .tmp t=>(E t).g==none || (E t).g==g
 | _=>true
def isDst (ops:List Oper) (j:Nat) (c:Operand):Bool :=
 match ops[j]?,c with
 | some o,.tmp t=>o.dst==some t
 | _,_=>false
def R9 (ops:List Oper) (E:Nat→LE) (g:Option (Nat×Bool)) (c:Operand) (want:Bool) (x:Operand):Bool :=
 Gl E g x || match x with
 | .tmp t=>(match (E t).g with | some (j,w)=>w==want&&isDst ops j c | none=>false)
 | _=>false
def Ep (ops:List Oper) (E:Nat→LE) (o:Oper):Bool :=
 match o.op with
 | .pick c a b=>Gl E o.guard c&&(R9 ops E o.guard c true a&&R9 ops E o.guard c false b)
 | op=>op.operands.toList.all (Gl E o.guard)
def Ov:List Prop→Prop→Prop
 | [],R=>R
 | p :: l,R=>p∧Ov l R
def tj (G:Bool):List Prop→Prop→Prop
 | [],R=>R
 | p :: l,R=>(G=true→p)∧tj G l R
def aa (id:Nat) (q:Q) (hp:List (Nat×Ob)):List (Nat×Ob) :=
 match q.mo with
 | some t=>t.ups++hp
 | none =>
 let base:=match q.new with | some o=>(id,o) :: hp | none=>hp
 match q.upd with | some (d,o)=>(d,o) :: base | none=>base
def Ya (q:Q) (live:List Nat):List Nat:=match q.kill with | some k=>live.filter (· != k) | none=>live
def Wg (id:Nat) (q:Q) (live:List Nat):List Nat:=match q.mo with
 | some t=>t.toks++live.filter (fun s=>!t.lv.contains s)
 | none=>if q.tok then id :: Ya q live else Ya q live
def Jq (hp:Nat→Option Ob):AV→Option D
 | .arr id sz _=>match hp id with
  | some (.arr s k f)=>if s=sz then some (.sl sz k f)else none
  | _=>none
 | .vec id sz _=>match hp id with
  | some (.vec _ s k f)=>if s=sz then some (.sl sz k f)else none
  | _=>none
 | x=>Pf x
def Kn (hp:Nat→Option Ob):List AV→Option (List D)
 | []=>some []
 | x :: l=>match Jq hp x with
  | some d=>(Kn hp l).map (d :: ·)
  | none=>none
def Jo (hp:Nat→Option Ob):AV→Option D
 | .agg l=>(Kn hp l).map .agg
 | x=>Jq hp x
def Es (hp:Nat→Option Ob):List AV→List Prop
 | []=>[]
 | .arr id _ n :: l=>match hp id with
  | some (.arr _ k _)=>(n=k) :: Es hp l
  | _=>Es hp l
 | _ :: l=>Es hp l
def Hc (hp:Nat→Option Ob):List AV→List Prop
 | []=>[]
 | .agg c :: l=>Es hp c++Hc hp l
 | .arr id sz n :: l=>Es hp [.arr id sz n]++Hc hp l
 | _ :: l=>Hc hp l
def isRow:AV→Bool
 | .arr ..=>true
 | .vec ..=>true
 | _=>false
def ff:AV→Bool
 | .agg l=>l.any isRow
 | x=>isRow x
def L6 (hp:Nat→Option Ob):List AV→Option (List D)
 | []=>some []
 | x :: l=>match Jo hp x with
  | some d=>(L6 hp l).map (d :: ·)
  | none=>none
mutual
def flat:D→Bool
 | .bool _=>true
 | .int ..=>true
 | .str _=>true
 | .agg l=>Yi l
 | .tup l=>Yi l
 | _=>false
def Yi:List D→Bool
 | []=>true
 | x :: l=>flat x&&Yi l
end
def Nv (e:Operand→AV) (hp:Nat→Option Ob):Op→Option (FuncId×List D×Bool×List Prop)
 | .call { callee:=.value (.func f),args,.. }=>(L6 hp (args.toList.map e)).map fun ds=>(f,ds,(args.toList.map e).any ff,Hc hp (args.toList.map e))
 | _=>none
def zx:Op→Bool
 | .call { callee:=.value _,.. }=>true
 | _=>false
def Q.cold (q:Q):Q:=match q.v with
 | .ap sz n f (.tok ..)=>if q.kill.isNone then { q with v:=.d (.sl sz n f),tok:=false } else q
 | _=>q
def Yb:List (Nat×OT)→Nat→Option OT
 | [],_=>none
 | (i,v) :: l,t=>if i=t then some v else Yb l t
structure Cs where
 d:List (Nat×D)
 o:List (Nat×OT)
 /-- appends that make an own row -/
 a:List Nat
def Mt (P:Program) (id:Nat) (e:Operand→AV):Op→Q
 | .call { callee:=.builtin .append,args,argTypes }=>Fg P id (args.toList.map e) argTypes.toList
 | _=>.no
def J4 (P:Program) (hp:Nat→Option Ob) (id:Nat) (e:Operand→AV):Op→Q
 | .call { callee:=.builtin .append,args,argTypes }=>Oh P hp id (args.toList.map e) argTypes.toList
 | _=>.no
def Qg (e:Operand→AV):Op→Option (FuncId×List AV)
 | .call { callee:=.value (.func f),args,.. }=>some (f,args.toList.map e)
 | .call { callee:=.value (.tmp t),args,.. }=>match e (.tmp t) with
  | .fn f c=>some (f,args.toList.map e++c)
  | _=>none
 | _=>none
def cq (hp:Nat→Option Ob) (l:List (Nat×Ob)):Nat→Option Ob:=fun j=>match Ae l j with | some o=>some o | none=>hp j
def wq (live:Nat→Prop) (lv toks:List Nat):Nat→Prop:=fun s=>(live s∧¬ s∈lv)∨s∈toks
def V0 (hp:Nat→Option Ob):List (Nat×Option Ob)→Prop
 | []=>True
 | (i,o) :: l=>hp i=o∧V0 hp l
def Bp (P:Program) (f:FuncId) (xs:List AV) (hl:List (Nat×Option Ob)) (id:Nat) (t:OT):Prop :=
 Lo P f∧∀ (own:Nat→Prop) (hp:Nat→Option Ob) (live:Nat→Prop) (γ:G) (w:World) (vs:List Value),Hp own hp live γ w→V0 hp hl→(∀ s∈t.lv,live s)→(∀ b,w.heap.size≤b→own b) →
  (∀ j,id≤j→j < id+16→γ.ι j=none∧γ.τ j=none∧hp j=none∧¬ live j)→RepAL γ xs vs →
  Calls P f vs.toArray w fun e w'=>∃ v γ',e=.returned v∧Stp own hp live γ w id (cq hp t.ups) (wq live t.lv t.toks) t.r v γ' w'
def U2 (hp:Nat→Option Ob) (id:Nat) (t:OT):Bool :=
 (t.ids.all fun i=>(hp i).isSome)&&((t.ups.all fun p=>t.ids.contains p.1 || (decide (id≤p.1)&&decide (p.1 < id+16)))&&t.toks.all fun s=>decide (id≤s)&&decide (s < id+16))
def D9 (P:Program) (cs:Cs) (o:Oper) (e:Operand→AV) (hp:Nat→Option Ob) (id:Nat):Q :=
 if zx o.op then
  match Yb cs.o id with
  | some t=>(match Qg e o.op with
   | some (f,xs)=>{ ok:=U2 hp id t,ob:=[Bp P f xs (t.ids.map fun i=>(i,hp i)) id t],v:=t.r,mo:=some t }
   | none=>.no)
  | none =>
  match Nv e hp o.op,o.dst with
  | some (f,ds,b,ob),some t=>if b&&!flat (Uu cs.d t)then .no else .when (ob++[Aa P f ds (Uu cs.d t)]) (.d (Uu cs.d t))
  | _,_=>.no
 else if cs.a.contains id then Mt P id e o.op
 else if cs.a.contains (id+1)then J4 P hp id e o.op
 else if o.guard.isSome then(E5 P o.op e hp id).cold else E5 P o.op e hp id
theorem gw {P:Program} {el:TypeId} {sz m:Nat} {k:Nat→Nat→Q} (h:∀ a b,(k a b).mo=none∧(k a b).upd=none):(G7 P el sz m k).mo=none∧(G7 P el sz m k).upd=none:=by
 unfold G7
 split
 ·split
  ·split
   ·exact h _ _
   ·exact⟨rfl,rfl⟩
  ·exact⟨rfl,rfl⟩
 ·exact⟨rfl,rfl⟩
theorem jo {α:Type} {x:Option α} {f:α→Q} (h:∀ a,(f a).mo=none∧(f a).upd=none):(Cm x f).mo=none∧(Cm x f).upd=none:=by
 cases x with
 | none=>exact⟨rfl,rfl⟩
 | some a=>exact h a
theorem ml (P:Program) (id:Nat) (e:Operand→AV) (o:Op):(Mt P id e o).mo=none∧(Mt P id e o).upd=none:=by
 unfold Mt
 split
 ·unfold Fg
  split
  ·split
   ·refine jo fun el=>jo fun p=>?_
    obtain⟨z,m,g⟩:=p
    dsimp only
    split
    ·split
     ·split
      ·exact gw fun _ _=>⟨rfl,rfl⟩
      ·exact⟨rfl,rfl⟩
     ·split
      ·refine gw fun _ _=>?_
       split<;>exact⟨rfl,rfl⟩
      ·exact⟨rfl,rfl⟩
    ·exact⟨rfl,rfl⟩
   ·exact⟨rfl,rfl⟩
  ·exact⟨rfl,rfl⟩
 ·exact⟨rfl,rfl⟩
theorem ge {P:Program} {el:TypeId} {sz m:Nat} {k:Nat→Nat→Q} {p:Q→Prop} (h:∀ a b,p (k a b)) (h0:p .no):p (G7 P el sz m k):=by
 unfold G7
 split
 ·split
  ·split
   ·exact h _ _
   ·exact h0
  ·exact h0
 ·exact h0
theorem Wj {α:Type} {x:Option α} {f:α→Q} {p:Q→Prop} (h:∀ a,p (f a)) (h0:p .no):p (Cm x f):=by
 cases x with
 | none=>exact h0
 | some a=>exact h a
theorem Ub (P:Program) (hp:Nat→Option Ob) (id:Nat) (e:Operand→AV) (o:Op):(J4 P hp id e o).mo=none∧(J4 P hp id e o).kill=none∧(J4 P hp id e o).tok=false∧∀ d ob,(J4 P hp id e o).upd=some (d,ob)→∃ o',hp d=some o':=by
 have h0:(Q.no).mo=none∧(Q.no).kill=none∧(Q.no).tok=false∧∀ d ob,(Q.no).upd=some (d,ob)→∃ o',hp d=some o':=⟨rfl,rfl,rfl,fun _ _ h=>by cases h⟩
 unfold J4
 split
 ·unfold Oh
  split
  ·split
   ·refine Wj (p:=fun q=>q.mo=none∧q.kill=none∧q.tok=false∧∀ d ob,q.upd=some (d,ob)→∃ o',hp d=some o') (fun el=>Wj (p:=fun q=>q.mo=none∧q.kill=none∧q.tok=false∧∀ d ob,q.upd=some (d,ob)→∃ o',hp d=some o') (fun p=>?_) h0) h0
    obtain⟨z,m,g⟩:=p
    dsimp only
    split
    ·split
     ·split
      ·exact ge (p:=fun q=>q.mo=none∧q.kill=none∧q.tok=false∧∀ d ob,q.upd=some (d,ob)→∃ o',hp d=some o') (fun _ _=>⟨rfl,rfl,rfl,fun _ _ h=>by cases h⟩) h0
      ·exact h0
     ·exact h0
    ·split
     ·rename_i hd
      refine ge (p:=fun q=>q.mo=none∧q.kill=none∧q.tok=false∧∀ d ob,q.upd=some (d,ob)→∃ o',hp d=some o') (fun _ _=>?_) h0
      split
      ·refine⟨rfl,rfl,rfl,fun d ob h=>?_⟩
       simp only[Option.some.injEq,Prod.mk.injEq]at h
       exact⟨_,by rw[← h.1];exact hd⟩
      ·exact h0
     ·exact h0
    ·exact h0
   ·split
    ·refine Wj (p:=fun q=>q.mo=none∧q.kill=none∧q.tok=false∧∀ d ob,q.upd=some (d,ob)→∃ o',hp d=some o') (fun el=>?_) h0
     split
     ·unfold Kj
      split
      ·split
       ·split
        ·exact⟨rfl,rfl,rfl,fun _ _ h=>by cases h⟩
        ·exact h0
       ·exact h0
      ·split
       ·rename_i hd
        split
        ·refine⟨rfl,rfl,rfl,fun d ob h=>?_⟩
         simp only[Option.some.injEq,Prod.mk.injEq]at h
         exact⟨_,by rw[← h.1];exact hd⟩
        ·exact h0
       ·exact h0
      ·exact h0
     ·exact h0
    ·exact h0
  ·exact h0
 ·exact h0
theorem sf (P:Program) (id:Nat) (e:Operand→AV) (o:Op):(Mt P id e o).mo=none:=(ml P id e o).1
theorem Q.cold_mo (q:Q):q.cold.mo=q.mo:=by
 unfold Q.cold
 split
 ·split<;>rfl
 ·rfl
theorem Li {α:Type} {x:Option α} {f:α→Q} (h:∀ a,(f a).mo=none):(Cm x f).mo=none:=by
 cases x with
 | none=>rfl
 | some a=>exact h a
theorem pd {P:Program} {el:TypeId} {sz m:Nat} {k:Nat→Nat→Q} (h:∀ a b,(k a b).mo=none):(G7 P el sz m k).mo=none:=by
 unfold G7
 split
 ·split
  ·split
   ·exact h _ _
   ·rfl
  ·rfl
 ·rfl
theorem ze (P:Program) (o:Op) (e:Operand→AV) (hp:Nat→Option Ob) (id:Nat):(E5 P o e hp id).mo=none:=by
 unfold E5
 split<;>try rfl
 ·split<;>rfl
 ·unfold Hy
  split
  ·split
   ·split<;>rfl
   ·rfl
  ·split
   ·split<;>rfl
   ·rfl
  ·split
   ·split
    ·rfl
    ·split<;>rfl
   ·rfl
  ·rfl
 ·unfold F9
  refine Li fun p=>?_
  obtain⟨k,e,b⟩:=p
  refine Li fun p=>?_
  obtain⟨s,kp⟩:=p
  refine Li fun p=>?_
  obtain⟨v,vp⟩:=p
  dsimp only
  split
  ·split
   ·split<;>rfl
   ·rfl
  ·rfl
 ·unfold Kr
  split
  ·refine Li fun el=>Li fun p=>?_
   obtain⟨z,m,g⟩:=p
   dsimp only
   split
   ·split
    ·split<;>rfl
    ·rfl
   ·rfl
  ·rfl
 ·unfold J8
  split
  ·split
   ·refine Li fun el=>Li fun p=>?_
    obtain⟨z,m,g⟩:=p
    dsimp only
    split
    ·split
     ·split
      ·exact pd fun _ _=>rfl
      ·rfl
     ·refine pd fun _ _=>?_
      split<;>rfl
    ·rfl
   ·rfl
  ·rfl
theorem jk {hp:Nat→Option Ob} {id:Nat} {t:OT} (h:U2 hp id t=true):(∀ i∈t.ids,∃ o,hp i=some o)∧(∀ p∈t.ups,p.1∈t.ids∨(id≤p.1∧p.1 < id+16))∧∀ s∈t.toks,id≤s∧s < id+16:=by
 unfold U2 at h
 simp only[Bool.and_eq_true,List.all_eq_true,Bool.or_eq_true,List.contains_eq_mem,decide_eq_true_eq]at h
 exact⟨fun i hi=>Option.isSome_iff_exists.1 (h.1 i hi),h.2.1,h.2.2⟩
theorem U4:∀ {l:List (Nat×Ob)} {t:Nat} {o:Ob},Ae l t=some o→(t,o)∈l
 | [],_,_,h=>by cases h
 | (i,v) :: l,t,o,h=>by
  simp only[Ae]at h
  split at h
  ·rename_i e;injection h with h;subst e h;simp
  ·exact List.mem_cons_of_mem _ (U4 h)
theorem ku {hp:Nat→Option Ob} {id j:Nat} {t:OT} (h:U2 hp id t=true) (hj:hp j=none) (hne:j < id∨id+16≤j):cq hp t.ups j=none:=by
 obtain⟨h1,h2,_⟩:=jk h
 unfold cq
 cases hl:Ae t.ups j with
 | none=>exact hj
 | some o =>
  rcases h2 _ (U4 hl) with h | h
  ·obtain⟨o',ho⟩:=h1 _ h
   rw[hj]at ho;cases ho
  ·simp only at h;omega
theorem nc {live:Nat→Prop} {hp:Nat→Option Ob} {id j:Nat} {t:OT} (h:U2 hp id t=true) (hj:¬ live j) (hne:j < id∨id+16≤j):¬ wq live t.lv t.toks j:=by
 obtain⟨_,_,h3⟩:=jk h
 rintro(⟨h,_⟩ | h)
 ·exact hj h
 ·have:=h3 _ h;omega
theorem aw {P:Program} {cs:Cs} {o:Oper} {e:Operand→AV} {hp:Nat→Option Ob} {id:Nat} {t:OT} (hok:(D9 P cs o e hp id).ok=true) (h:(D9 P cs o e hp id).mo=some t):U2 hp id t=true:=by
 unfold D9 at hok h
 split at hok
 ·rename_i hc
  simp only[hc,if_true]at h
  split at hok
  ·rename_i t' ht
   simp only[ht]at h
   split at hok
   ·rename_i f xs hcal
    simp only[hcal,Option.some.injEq]at h
    subst h;exact hok
   ·cases hok
  ·rename_i ht
   simp only[ht]at h
   split at h
   ·split at h<;>cases h
   ·cases h
 ·rename_i hc
  rw[if_neg hc]at h
  split at h
  ·rw[sf]at h;cases h
  split at h
  ·rw[(Ub P hp id e o.op).1]at h;cases h
  have hq:(E5 P o.op e hp id).mo=some t:=by
   cases hg:o.guard.isSome
   ·rw[hg]at h;exact h
   ·rw[hg]at h
    simp only[if_true]at h
    rwa [Q.cold_mo]at h
  rw[ze]at hq;cases hq
theorem mc {P:Program} {cs:Cs} {o:Oper} {e:Operand→AV} {hp:Nat→Option Ob} {id tk:Nat} {t:OT} (h:(D9 P cs o e hp id).mo=some t):(D9 P cs o e hp id).kill≠some tk:=by
 unfold D9 at h ⊢
 split at h
 ·rename_i hc
  rw[if_pos hc]
  split at h
  ·rename_i t' ht
   split at h
   ·intro h;cases h
   ·cases h
  ·split at h
   ·split at h<;>cases h
   ·cases h
 ·rename_i hc
  rw[if_neg hc]
  split at h
  ·rw[sf]at h;cases h
  split at h
  ·rw[(Ub P hp id e o.op).1]at h;cases h
  have hq:(E5 P o.op e hp id).mo=some t:=by
   cases hg:o.guard.isSome
   ·rw[hg]at h;exact h
   ·rw[hg]at h
    simp only[if_true]at h
    rwa [Q.cold_mo]at h
  rw[ze]at hq;cases hq
theorem Q.cold_ok (q:Q):q.cold.ok=q.ok:=by
 unfold Q.cold
 split
 ·split<;>rfl
 ·rfl
theorem Q.cold_ob (q:Q):q.cold.ob=q.ob:=by
 unfold Q.cold
 split
 ·split<;>rfl
 ·rfl
theorem Q.cold_kill (q:Q):q.cold.kill=q.kill:=by
 unfold Q.cold
 split
 ·split<;>rfl
 ·rfl
theorem Q.cold_upd (q:Q):q.cold.upd=q.upd:=by
 unfold Q.cold
 split
 ·split<;>rfl
 ·rfl
def Mk (q:Q) (live:List Nat):Bool:=(match q.mo with | some t=>t.lv.all live.contains | none=>true)&&match q.kill with | some k=>live.contains k | none=>true
def Q.plain (q:Q):Bool:=q.new.isNone&&!q.tok&&q.upd.isNone&&q.kill.isNone&&q.mo.isNone
structure LS where
 lf:List (Nat×LE)
 hp:List (Nat×Ob)
 live:List Nat
def jj (o:Oper) (x:LE) (lf:List (Nat×LE)):List (Nat×LE):=match o.dst with | some t=>(t,x) :: lf | none=>lf
def LS.step (s:LS) (o:Oper) (id:Nat) (q:Q) (g:Option (Nat×Bool)) (G:Bool):LS:=⟨jj o ⟨g,G,q.v⟩ s.lf,aa id q s.hp,Wg id q s.live⟩
def LS.skip (s:LS) (o:Oper):LS:=⟨jj o ⟨none,true,.any⟩ s.lf,s.hp,s.live⟩
def Ky (P:Program) (cs:Cs) (ops:List Oper) (fr:List (Nat×AV)) (nx:Nat):Nat→List Oper→LS→(LS→Prop)→Prop
 | _,[],s,K=>K s
 | i,o :: l,s,K =>
  if(Ep ops (Ce fr s.lf) o&&((D9 P cs o (Cu (Ce fr s.lf)) (Ae s.hp) (nx+16 * i)).ok&&Mk (D9 P cs o (Cu (Ce fr s.lf)) (Ae s.hp) (nx+16 * i)) s.live))=false then
   (match o.guard with
   | none=>False
   | some g=>if g.1 < i then
    match Fu ops (Ce fr s.lf) g with
    | none=>False
    | some G=>(G=true→False)∧(G=false→Ky P cs ops fr nx (i+1) l (s.skip o) K)
    else False)else
  if Ep ops (Ce fr s.lf) o=false then False else
  if(D9 P cs o (Cu (Ce fr s.lf)) (Ae s.hp) (nx+16 * i)).ok=false then False else
  if Mk (D9 P cs o (Cu (Ce fr s.lf)) (Ae s.hp) (nx+16 * i)) s.live=false then False else
  match o.guard with
  | none=>Ov (D9 P cs o (Cu (Ce fr s.lf)) (Ae s.hp) (nx+16 * i)).ob
    (Ky P cs ops fr nx (i+1) l (s.step o (nx+16 * i) (D9 P cs o (Cu (Ce fr s.lf)) (Ae s.hp) (nx+16 * i)) none true) K)
  | some g=>if g.1 < i then
   match Fu ops (Ce fr s.lf) g with
   | none=>False
   | some G =>
    if(D9 P cs o (Cu (Ce fr s.lf)) (Ae s.hp) (nx+16 * i)).plain=true then
     tj G (D9 P cs o (Cu (Ce fr s.lf)) (Ae s.hp) (nx+16 * i)).ob
      (Ky P cs ops fr nx (i+1) l (s.step o (nx+16 * i) (D9 P cs o (Cu (Ce fr s.lf)) (Ae s.hp) (nx+16 * i)) (some g) G) K)
    else
     (G=true→Ov (D9 P cs o (Cu (Ce fr s.lf)) (Ae s.hp) (nx+16 * i)).ob
      (Ky P cs ops fr nx (i+1) l (s.step o (nx+16 * i) (D9 P cs o (Cu (Ce fr s.lf)) (Ae s.hp) (nx+16 * i)) none true) K)) ∧
     (G=false→Ky P cs ops fr nx (i+1) l (s.skip o) K)
   else False
structure G0 where
 g:G
 df:List Deferred
variable {P:Program} {γ γ':G} {w w' w0:World} {own:Nat→Prop} {hp:Nat→Option Ob} {live:Nat→Prop} {ops:List Oper} {N:Nat} {μ0:G0}
def EOk (ops:List Oper) (γ:G) (tmps:Array Value) (x:LE) (t:Nat):Prop :=
 match x.g with
 | none=>RepA γ x.v (tmps.getD t undef)
 | some (j,want)=>(yielded ops.toArray tmps j=some want∧x.G=true∧RepA γ x.v (tmps.getD t undef))∨(yielded ops.toArray tmps j≠some want∧x.G=false∧tmps.getD t undef=undef)
structure Keep (own:Nat→Prop) (w0:World) (g0:G0) (γ:G):Prop where
 mu:∀ b o,b < w0.heap.size→¬ own b→γ.μ b o=g0.g.μ b o
 le:LeM g0.g.μ γ.μ
 pin:∀ i b,i < 16→g0.g.ι i=some b→γ.ι i=some b
theorem Keep.refl (own:Nat→Prop) (w0:World) (γ:G) (df:List Deferred):Keep own w0 ⟨γ,df⟩ γ:=⟨fun _ _ _ _=>rfl,LeM.refl _,fun _ _ _ h=>h⟩
theorem Keep.step {g0:G0} (h:Keep own w0 g0 γ) (le:LeG γ γ') (hmu:∀ b o,b < w0.heap.size→¬ own b→γ'.μ b o=γ.μ b o):Keep own w0 g0 γ' :=
 ⟨fun b o hb hn=>(hmu b o hb hn).trans (h.mu b o hb hn),fun b o v e=>le.μ b o v (h.le b o v e),fun i b hi e=>le.ι i b (h.pin i b hi e)⟩
structure RL (own:Nat→Prop) (μ0:G0) (w0:World) (N:Nat) (ops:List Oper) (done:Nat→Prop) (E:Nat→LE) (hp:Nat→Option Ob) (live:Nat→Prop) (γ:G) (a:Act) (w:World):Prop where
 defers:a.defers=μ0.df
 size:a.tmps.size=N
 fr:∀ t,EOk ops γ a.tmps (E t) t
 gd:∀ t j want,(E t).g=some (j,want)→done j
 hp:Hp own hp live γ w
 base:Base own w0 w
 big:∀ b,w0.heap.size≤b→own b
 mu:Keep own w0 μ0 γ
def M4 (l:List Oper):List Tmp:=l.filterMap (·.dst)
def M2 (ops:List Oper) (N:Nat):Bool:=decide ((M4 ops).Nodup)&&(M4 ops).all (· < N)
theorem Og {a:Act} {d t:Nat} {v:Value} (h:d < a.tmps.size):(a.put (some d) v).tmps.getD t undef=if d=t then v else a.tmps.getD t undef:=by
 simp only[Act.put,Array.getD_eq_getD_getElem?]
 rw[Array.getElem?_setIfInBounds]
 split
 ·rename_i e;subst e;simp[h]
 ·rfl
theorem o8 {a:Act} {d:Option Nat} {v:Value} {j:Nat} (h:∀ o,ops[j]?=some o→∀ t,o.dst=some t→d≠some t):yielded ops.toArray (a.put d v).tmps j=yielded ops.toArray a.tmps j:=by
 unfold yielded
 rw[List.getElem?_toArray]
 cases ho:ops[j]? with
 | none=>rfl
 | some o =>
  simp only[Option.bind_some]
  cases ht:o.dst with
  | none=>rfl
  | some t =>
   simp only[Option.bind_some]
   have:=h o ho t ht
   cases d with
   | none=>rfl
   | some d =>
    have hne:d≠t:=fun e=>this (by rw[e])
    simp only[Act.put]
    rw[Array.getElem?_setIfInBounds_ne hne]
theorem W6:∀ {l:List Oper},(M4 l).Nodup→∀ {i j:Nat} {o p:Oper} {t:Nat},l[i]?=some o→l[j]?=some p→o.dst=some t→p.dst=some t→i=j
 | [],_,i,_,_,_,_,h,_,_,_=>by simp at h
 | x :: l,hn,i,j,o,p,t,h1,h2,d1,d2=>by
  have hn2:(M4 l).Nodup:=by
   unfold M4 at *
   rw[List.filterMap_cons]at hn
   split at hn
   ·exact hn
   ·exact(List.nodup_cons.1 hn).2
  have hx:x.dst=some t→t ∉ M4 l:=by
   intro e
   unfold M4 at *
   rw[List.filterMap_cons,e]at hn
   exact(List.nodup_cons.1 hn).1
  have hm:∀ (k:Nat) (q:Oper),l[k]?=some q→q.dst=some t→t∈M4 l:=fun k q hk e=>by
   unfold M4
   exact List.mem_filterMap.2 ⟨q,List.mem_of_getElem? hk,e⟩
  rcases i with _ | i<;>rcases j with _ | j
  ·rfl
  ·simp at h1 h2;subst h1;exact absurd (hm j p h2 d2) (hx d1)
  ·simp at h1 h2;subst h2;exact absurd (hm i o h1 d1) (hx d2)
  ·have:=W6 hn2 (i:=i) (j:=j) (by simpa using h1) (by simpa using h2) d1 d2
   omega
theorem Z1 (h:M2 ops N=true):(M4 ops).Nodup∧∀ {i:Nat} {o:Oper} {t:Nat},ops[i]?=some o→o.dst=some t→t < N:=by
 unfold M2 at h
 simp only[Bool.and_eq_true,decide_eq_true_eq,List.all_eq_true]at h
 exact⟨h.1,fun ho hd=>h.2 _ (List.mem_filterMap.2 ⟨_,List.mem_of_getElem? ho,hd⟩)⟩
theorem Hp.live_le {live':Nat→Prop} (h:Hp own hp live γ w) (hl:∀ t,live' t→live t):Hp own hp live' γ w:=⟨h.fz,h.obj,h.inj,fun t v e sz ht=>h.tok t v e sz (hl t ht),fun s t v u hs ht=>h.tinj s t v u (hl s hs) (hl t ht)⟩
theorem Does.cold {ρ:Operand→Value} {o:Oper} {id:Nat} {q:Q} (h:Does P own hp live γ w ρ o id q):Does P own hp live γ w ρ o id q.cold:=by
 unfold Q.cold
 split
 ·rename_i sz n f t e hv
  split
  ·rename_i hk
   obtain⟨u,w',γ',h1,h2⟩:=h
   refine⟨u,w',γ',h1,⟨h2.le,?_,h2.base,?_,h2.other,h2.mu⟩⟩
   ·refine Hp.live_le h2.hp fun t ht=>?_
    unfold G9 at ht ⊢
    cases hm:q.mo with
    | some m=>simp only[hm]at ht ⊢;exact ht
    | none =>
     simp only[hm]at ht ⊢
     rcases ht with ht | ht
     ·exact .inl ht
     ·exact absurd ht.1 (by simp)
   ·have:=h2.rep
    rw[hv]at this
    simp only[RepA]at this ⊢
    exact this.1
  ·exact h
 ·exact h
mutual
theorem Rep.flat {μ ν:Nat→Nat→Option Value}:∀ (d:D) (v:Value),flat d=true→Rep μ d v→Rep ν d v
 | .bool b,v,_,hr=>by simpa only[Rep] using hr
 | .int k n,v,_,hr=>by simpa only[Rep] using hr
 | .str s,v,_,hr=>by simpa only[Rep] using hr
 | .bad,v,_,hr=>by simp only[Rep]at hr
 | .sl sz n f,v,h,hr=>by cases h
 | .agg cs,v,h,hr=>by
  simp only[Rep]at hr ⊢
  obtain⟨vs,e,hr⟩:=hr
  exact⟨vs,e,RepL.flat cs vs h hr⟩
 | .tup cs,v,h,hr=>by
  simp only[Rep]at hr ⊢
  obtain⟨vs,e,hr⟩:=hr
  exact⟨vs,e,RepL.flat cs vs h hr⟩
theorem RepL.flat {μ ν:Nat→Nat→Option Value}:∀ (d:List D) (v:List Value),Yi d=true→RepL μ d v→RepL ν d v
 | [],_,_,hr=>by simpa only[RepL] using hr
 | d :: l,v,h,hr=>by
  simp only[RepL]at hr ⊢
  simp only[Yi,Bool.and_eq_true]at h
  obtain⟨x,t,e,h1,h2⟩:=hr
  exact⟨x,t,e,Rep.flat d x h.1 h1,RepL.flat l t h.2 h2⟩
end
theorem cw {hp:Nat→Option Ob} {x:AV} {d:D} {v:Value} (h:Jq hp x=some d) (ha:isRow x=false) (hr:RepA γ x v):Rep γ.μ d v:=by
 cases x with
 | arr id sz n=>cases ha
 | vec id sz n=>cases ha
 | _=>simp only[Jq]at h;exact M9 h hr
theorem Xs {hp:Nat→Option Ob}:∀ {l:List AV} {ds:List D} {vs:List Value},Kn hp l=some ds→l.any isRow=false→RepAL γ l vs→RepL γ.μ ds vs
 | [],_,_,h,_,hr=>by simp only[Kn,Option.some.injEq]at h;subst h;simpa only[RepAL,RepL] using hr
 | x :: l,ds,vs,h,ha,hr=>by
  simp only[Kn]at h
  split at h
  ·rename_i d hd
   simp only[Option.map_eq_some_iff]at h
   obtain⟨r,h1,rfl⟩:=h
   simp only[List.any_cons,Bool.or_eq_false_iff]at ha
   simp only[RepAL]at hr
   obtain⟨v,t,rfl,h2,h3⟩:=hr
   simp only[RepL]
   exact⟨v,t,rfl,cw hd ha.1 h2,Xs h1 ha.2 h3⟩
  ·cases h
theorem ww {hp:Nat→Option Ob} {x:AV} {d:D} {v:Value} (h:Jo hp x=some d) (ha:ff x=false) (hr:RepA γ x v):Rep γ.μ d v:=by
 cases x with
 | agg l =>
  simp only[Jo,Option.map_eq_some_iff]at h
  obtain⟨ds,h1,rfl⟩:=h
  simp only[RepA]at hr
  obtain⟨vs,e,h2⟩:=hr
  simp only[Rep]
  exact⟨vs,e,Xs h1 ha h2⟩
 | _=>simp only[Jo]at h;exact cw h ha hr
theorem Vp {hp:Nat→Option Ob}:∀ {l:List AV} {ds:List D} {vs:List Value},L6 hp l=some ds→l.any ff=false→RepAL γ l vs→RepL γ.μ ds vs
 | [],_,_,h,_,hr=>by simp only[L6,Option.some.injEq]at h;subst h;simpa only[RepAL,RepL] using hr
 | x :: l,ds,vs,h,ha,hr=>by
  simp only[L6]at h
  split at h
  ·rename_i d hd
   simp only[Option.map_eq_some_iff]at h
   obtain⟨r,h1,rfl⟩:=h
   simp only[List.any_cons,Bool.or_eq_false_iff]at ha
   simp only[RepAL]at hr
   obtain⟨v,t,rfl,h2,h3⟩:=hr
   simp only[RepL]
   exact⟨v,t,rfl,ww hd ha.1 h2,Vp h1 ha.2 h3⟩
  ·cases h
def Ob.isRow:Ob→Bool
 | .arr ..=>true
 | .vec ..=>true
 | _=>false
open Classical in
noncomputable def N6 (hp:Nat→Option Ob) (γ:G) (w:World) (b o:Nat):Option Value:=if ∃ id ob p,hp id=some ob∧ob.isRow=true∧γ.ι id=some p∧p.block=some b then w.cell? ⟨b,o,none⟩else γ.μ b o
theorem Uk (H:Hp own hp live γ w):LeM γ.μ (N6 hp γ w):=fun b o v h=>by
 unfold N6
 split
 ·rename_i hx
  obtain⟨id,ob,p,h1,h2,h3,h4⟩:=hx
  obtain⟨p',e1,_,e5⟩:=H.obj id _ h1 (by cases ob<;>first | rfl | cases h2)
  rw[h3]at e1
  injection e1 with e1
  subst e1
  rw[(e5 b h4).2 o]at h;cases h
 ·exact h
theorem lent_fz (H:Hp own hp live γ w):Lb (N6 hp γ w) w:=fun b o v h=>by
 unfold N6 at h
 split at h
 ·exact h
 ·exact H.fz b o v h
theorem Uc (H:Hp own hp live γ w) {x:AV} {d:D} {v:Value} (hd:Jq hp x=some d) (hob:∀ p∈Es hp [x],p) (h2:RepA γ x v):Rep (N6 hp γ w) d v:=by
 cases x with
 | arr id sz n =>
  simp only[Jq]at hd
  split at hd
  ·rename_i s k f ho
   split at hd
   ·rename_i hsk
    subst hsk
    obtain rfl:n=k:=hob _ (by simp only[Es,ho];exact List.mem_cons_self)
    simp only[Option.some.injEq]at hd
    subst hd
    simp only[RepA]at h2
    obtain⟨b,c,e1,e2,e3,e4⟩:=h2
    obtain⟨b',x,f1,f2,f3,_,_⟩:=H.blk ho rfl
    rw[e1]at f1
    injection f1 with f1
    injection f1 with f1
    subst f1
    obtain⟨ws,ty,rfl,g1,g2⟩:=f3
    simp only[Rep]
    refine⟨_,c,e2,e3,e4,fun hn=>⟨b,0,rfl,fun i hi=>?_⟩⟩
    obtain⟨u,k1,k2,k3,k4⟩:=g2 i hi
    refine⟨u,Rep.mono (Uk H) _ _ k1,k2,k3,fun j hj=>?_⟩
    unfold N6
    rw[if_pos ⟨id,_,_,ho,rfl,e1,rfl⟩,← k4 j hj,Nat.zero_add]
    simp[World.cell?,f2]
   ·cases hd
  ·cases hd
 | vec id sz n =>
  simp only[Jq]at hd
  split at hd
  ·rename_i e s k f ho
   split at hd
   ·rename_i hsk
    subst hsk
    simp only[Option.some.injEq]at hd
    subst hd
    simp only[RepA]at h2
    obtain⟨e',A,c,e1,e2,e3,e4,_⟩:=h2
    obtain⟨v',xs,f1,f0,f2,f3,_⟩:=H.vec ho
    rw[e1]at f1
    injection f1 with f1
    injection f1 with f1 f4 _
    subst f1
    simp only[Rep]
    rcases f2.2 with⟨h1,h0⟩ | ⟨b,cap,cur,h1,_⟩
    ·subst h0
     exact⟨none,0,h1,Nat.le_refl _,Nat.zero_le _,fun h=>absurd h (by omega)⟩
    ·obtain⟨A',c',g1,g2,g3,_⟩:=U5 f2
     refine⟨A',c',g1,g2,g3,fun hn=>⟨b,0,?_,fun i hi=>?_⟩⟩
     ·rw[h1]at g1;injection g1 with g1 _ _;exact g1.symm
     ·obtain⟨u,k1,k2,k3,k4⟩:=f3 i hi
      refine⟨u,Rep.mono (Uk H) _ _ k1,k2,k3,fun j hj=>?_⟩
      have hbl:v.ownBlock=some b:=by rw[h1];rfl
      unfold N6
      rw[if_pos ⟨id,_,_,ho,rfl,e1,hbl⟩,Nat.zero_add]
      have hu:j < u.cells.size:=by rw[k2];exact hj
      have h9:=k4 j hj
      rw[Array.getElem?_eq_getElem hu]at h9 ⊢
      have:=f2.cells (g:=b) hbl _ _ h9
      rwa [Dx,Nat.zero_add]at this
   ·cases hd
  ·cases hd
 | _=>simp only[Jq]at hd;exact Rep.mono (Uk H) _ _ (M9 hd h2)
theorem g9 {hp:Nat→Option Ob} {x:AV} {l:List AV} (h:∀ p∈Es hp (x :: l),p):(∀ p∈Es hp [x],p)∧∀ p∈Es hp l,p:=by
 cases x with
 | arr id sz n =>
  simp only[Es]at h ⊢
  split at h
  ·exact⟨fun p hp=>h p (by rcases List.mem_singleton.1 hp with rfl;simp),fun p hp=>h p (List.mem_cons_of_mem _ hp)⟩
  ·exact⟨(fun p hp=>by cases hp),h⟩
 | _=>exact⟨(fun p hp=>by cases hp),h⟩
theorem Xl (H:Hp own hp live γ w):∀ {l:List AV} {ds:List D} {vs:List Value},Kn hp l=some ds→(∀ p∈Es hp l,p)→RepAL γ l vs→RepL (N6 hp γ w) ds vs
 | [],_,_,h,_,hr=>by simp only[Kn,Option.some.injEq]at h;subst h;simpa only[RepAL,RepL] using hr
 | x :: l,ds,vs,h,hob,hr=>by
  simp only[Kn]at h
  split at h
  ·rename_i d hd
   simp only[Option.map_eq_some_iff]at h
   obtain⟨r,h1,rfl⟩:=h
   simp only[RepAL]at hr
   obtain⟨v,t,rfl,h2,h3⟩:=hr
   simp only[RepL]
   obtain⟨o1,o2⟩:=g9 hob
   exact⟨v,t,rfl,Uc H hd o1 h2,Xl H h1 o2 h3⟩
  ·cases h
theorem No (H:Hp own hp live γ w):∀ {l:List AV} {ds:List D} {vs:List Value},L6 hp l=some ds→(∀ p∈Hc hp l,p)→RepAL γ l vs→RepL (N6 hp γ w) ds vs
 | [],_,_,h,_,hr=>by simp only[L6,Option.some.injEq]at h;subst h;simpa only[RepAL,RepL] using hr
 | x :: l,ds,vs,h,hob,hr=>by
  simp only[L6]at h
  split at h
  ·rename_i d hd
   simp only[Option.map_eq_some_iff]at h
   obtain⟨r,h1,rfl⟩:=h
   simp only[RepAL]at hr
   obtain⟨v,t,rfl,h2,h3⟩:=hr
   simp only[RepL]
   cases x with
   | agg c =>
    simp only[Hc]at hob
    refine⟨v,t,rfl,?_,No H h1 (fun p hp=>hob p (List.mem_append_right _ hp)) h3⟩
    simp only[Jo,Option.map_eq_some_iff]at hd
    obtain⟨ds',k1,rfl⟩:=hd
    simp only[RepA]at h2
    obtain⟨us,e,h4⟩:=h2
    simp only[Rep]
    exact⟨us,e,Xl H k1 (fun p hp=>hob p (List.mem_append_left _ hp)) h4⟩
   | arr id sz n =>
    simp only[Hc]at hob
    simp only[Jo]at hd
    exact⟨v,t,rfl,Uc H hd (fun p hp=>hob p (List.mem_append_left _ hp)) h2,No H h1 (fun p hp=>hob p (List.mem_append_right _ hp)) h3⟩
   | _=>simp only[Jo]at hd;exact⟨v,t,rfl,Uc H hd (fun p hp=>by cases hp) h2,No H h1 hob h3⟩
  ·cases h
theorem P7 {e:Operand→AV} {ρ:Operand→Value}:∀ {l:List Operand},(∀ y∈l,RepA γ (e y) (ρ y))→RepAL γ (l.map e) (l.map ρ)
 | [],_=>by simp[RepAL]
 | x :: l,h=>by simp only[List.map_cons,RepAL];exact⟨_,_,rfl,h x (by simp),P7 fun y hy=>h y (by simp[hy])⟩
theorem Nj {a:Act} {done:Nat→Prop} {E:Nat→LE} (R:RL own μ0 w0 N ops done E hp live γ a w) {o:Oper} (hw:∀ g,o.guard=some g→yielded ops.toArray a.tmps g.1=some g.2) {x:Operand} (h:Gl E o.guard x=true):RepA γ (Cu E x) (a.eval x):=by
 cases x with
 | const v=>exact Pj v
 | global g=>simp only[Cu,RepA]
 | func f=>simp only[Cu,RepA,Act.eval];exact⟨[],rfl,by simp only[RepAL]⟩
 | tmp t =>
  have hf:=R.fr t
  simp only[Gl,Bool.or_eq_true,beq_iff_eq]at h
  unfold EOk at hf
  simp only[Cu,Act.eval]
  rcases h with h | h
  ·rw[h]at hf;exact hf
  ·cases hg:o.guard with
   | none=>rw[h,hg]at hf;exact hf
   | some g =>
    rw[h,hg]at hf
    rcases hf with hf | hf
    ·exact hf.2.2
    ·exact absurd (hw g hg) hf.1
theorem stp_pure (H:Hp own hp live γ w) (id:Nat) (h1:γ.ι id=none) (h2:γ.τ id=none) (hid:hp id=none) (hlv:¬ live id) (hx:Gh w w') {ν:Nat→Nat→Option Value} (hν:∀ b o,b < w.heap.size→ν b o=γ.μ b o) (hf:Lb ν w') {r:D} {u:Value} (hr:Rep ν r u) :
  Stp own hp live γ w id hp live (.d r) u ⟨ν,γ.ι,γ.τ⟩ w':=by
 have le:LeG γ ⟨ν,γ.ι,γ.τ⟩:=fq H.fz hν h1 h2 (fun _ _=>rfl) (fun _ _=>rfl)
 have:=H.grow (γ':=⟨ν,γ.ι,γ.τ⟩) hx hν hf h1 h2 (fun _ _=>rfl) (fun _ _=>rfl) hid hlv none false (fun o h=>by cases h) (fun h=>by cases h)
 rw[P8,Ex]at this
 exact⟨le,this,Base.of_ext hx,by simpa only[RepA] using hr,fun _ _=>⟨rfl,rfl⟩,fun b o hb _=>hν b o hb⟩
theorem step_obj {a:Act} {done:Nat→Prop} {E:Nat→LE} (R:RL own μ0 w0 N ops done E hp live γ a w) {o:Oper} {f:FuncId} {xs:List AV} {R':Value→G→World→Prop}
  (hrd:Ep ops E o=true) (hc:Qg (Cu E) o.op=some (f,xs)) (hcall:∀ vs:List Value,RepAL γ xs vs→Calls P f vs.toArray w fun e w'=>∃ v γ',e=.returned v∧R' v γ' w') (hcb:Lo P f)
  (hw:∀ g,o.guard=some g→yielded ops.toArray a.tmps g.1=some g.2) {K:Act→World→Prop} {QQ:Exit→Act→World→Prop}
  (hK:∀ u w' γ',R' u γ' w'→K (a.put o.dst u) w'):o.wp P a w K QQ:=by
 obtain⟨fn,hf1,hf2,hf3⟩:=hcb
 have hinv:∀ args:Array Value,(callFunc f args).run P w=.ok (.enter f args) w:=fun args=>by
  simp only[callFunc,program,Sem.run_bind]
  simp[Sem.run,hf1,hf3,Option.isNone_iff_eq_none]
  intro h;rw[h]at hf2;cases hf2
 unfold Qg at hc
 split at hc
 ·rename_i f' args ts hop
  simp only[Option.some.injEq,Prod.mk.injEq]at hc
  obtain⟨rfl,rfl⟩:=hc
  have hops:∀ y∈args.toList,Gl E o.guard y=true:=by
   unfold Ep at hrd
   rw[hop]at hrd
   intro y hy
   exact List.all_eq_true.1 hrd y (by simp[Op.operands,Call.operands];exact .inr (by simpa using hy))
  have hreps:RepAL γ (args.toList.map (Cu E)) (args.toList.map a.eval):=P7 fun y hy=>Nj R hw (hops y hy)
  have hrun:=hcall _ hreps
  unfold Oper.wp execOp
  simp only[hop]
  have hres:((resolve a.eval { callee:=.value (.func f'),args:=args,argTypes:=ts } o.type).run P w)=.ok { target:=.fn (.func f') #[],args:=args.map a.eval } w:=by
   simp[resolve,Act.eval,Deferred.ofValue]
  have hi:(invoke (.fn (.func f') #[]) (args.map a.eval)).run P w=.ok (.enter f' (args.map a.eval)) w:=by
   have:=hinv (args.map a.eval)
   simpa only[invoke,Array.append_empty] using this
  rw[Sem.run_bind,hres,Result.andThen_ok,hi]
  simp only[Oper.upon]
  have hm:(args.toList.map a.eval).toArray=args.map a.eval:=by rw[← Array.toList_inj];simp
  rw[hm]at hrun
  refine hrun.mono ?_
  rintro e w' ⟨u,γ',rfl,h1⟩
  exact hK u w' γ' h1
 ·rename_i tt args ts hop
  split at hc
  ·rename_i g c hg
   simp only[Option.some.injEq,Prod.mk.injEq]at hc
   obtain⟨rfl,rfl⟩:=hc
   have hops:∀ y,y∈args.toList∨y=.tmp tt→Gl E o.guard y=true:=by
    unfold Ep at hrd
    rw[hop]at hrd
    intro y hy
    refine List.all_eq_true.1 hrd y ?_
    simp[Op.operands,Call.operands]
    rcases hy with hy | rfl
    ·exact .inr (by simpa using hy)
    ·exact .inl rfl
   have hreps:RepAL γ (args.toList.map (Cu E)) (args.toList.map a.eval):=P7 fun y hy=>Nj R hw (hops y (.inl hy))
   have hfn:=Nj R hw (hops _ (.inr rfl))
   rw[hg]at hfn
   simp only[RepA]at hfn
   obtain⟨cvs,hv,hcap⟩:=hfn
   have hrun:=hcall _ (U0 hreps hcap)
   unfold Oper.wp execOp
   simp only[hop]
   have hres:((resolve a.eval { callee:=.value (.tmp tt),args:=args,argTypes:=ts } o.type).run P w)=.ok { target:=.fn (.func g) cvs.toArray,args:=args.map a.eval } w:=by
    simp only[resolve]
    rw[hv]
    simp[Deferred.ofValue]
   have hi:(invoke (.fn (.func g) cvs.toArray) (args.map a.eval)).run P w=.ok (.enter g (args.map a.eval++cvs.toArray)) w:=by
    have:=hinv (args.map a.eval++cvs.toArray)
    simpa only[invoke] using this
   rw[Sem.run_bind,hres,Result.andThen_ok,hi]
   simp only[Oper.upon]
   have hm:(args.toList.map a.eval++cvs).toArray=args.map a.eval++cvs.toArray:=by rw[← Array.toList_inj];simp
   rw[hm]at hrun
   refine hrun.mono ?_
   rintro e w' ⟨u,γ',rfl,h1⟩
   exact hK u w' γ' h1
  ·cases hc
 ·cases hc
theorem ru {a:Act} {done:Nat→Prop} {E:Nat→LE} (R:RL own μ0 w0 N ops done E hp live γ a w) {cs:Cs} {o:Oper} {id:Nat} (hrd:Ep ops E o=true)
  (hok:(D9 P cs o (Cu E) hp id).ok=true) (hob:∀ p∈(D9 P cs o (Cu E) hp id).ob,p) (hkill:∀ tk,(D9 P cs o (Cu E) hp id).kill=some tk→live tk) (hmo:∀ t,(D9 P cs o (Cu E) hp id).mo=some t→∀ s∈t.lv,live s)
  (hfr:∀ j,id≤j→j < id+16→γ.ι j=none∧γ.τ j=none∧hp j=none∧¬ live j) (hw:∀ g,o.guard=some g→yielded ops.toArray a.tmps g.1=some g.2) {K:Act→World→Prop} {QQ:Exit→Act→World→Prop}
  (hK:∀ u w' γ',Stp own hp live γ w id (Fa id (D9 P cs o (Cu E) hp id) hp) (G9 id (D9 P cs o (Cu E) hp id) live) (D9 P cs o (Cu E) hp id).v u γ' w'→K (a.put o.dst u) w'):o.wp P a w K QQ:=by
 have hown:∀ b,w.heap.size≤b→own b:=fun b hb=>R.big b (Nat.le_trans R.base.size hb)
 obtain⟨h1,h2,hid,hlv⟩:=hfr id (Nat.le_refl _) (by omega)
 unfold D9 at hok hob hkill hK hmo
 split at hok
 ·rename_i hc
  simp only[hc,if_true]at hob hkill hK hmo
  split at hok
  ·rename_i t ht
   simp only[ht]at hob hkill hK hmo
   split at hok
   ·rename_i f xs hcal
    simp only[hcal]at hob hkill hK hmo
    obtain⟨⟨fn,hf1,hf2,hf3⟩,hcall⟩:=hob _ (List.mem_singleton.2 rfl)
    have hth:∀ l:List Nat,V0 hp (l.map fun i=>(i,hp i)):=fun l=>by
     induction l with
     | nil=>trivial
     | cons i l ih=>exact⟨rfl,ih⟩
    exact step_obj R hrd hcal (fun vs hr=>(hcall own hp live γ w vs R.hp (hth _) (hmo t rfl) hown hfr hr)) ⟨fn,hf1,hf2,hf3⟩ hw fun u w' γ' hs=>hK u w' γ' hs
   ·cases hok
  rename_i hot
  simp only[hot]at hob hkill hK hmo
  split at hok
  ·rename_i f ds lb lo t hpc hd
   simp only[hpc,hd]at hob hkill hK
   split at hok
   ·cases hok
   rename_i hfl
   simp only[if_neg hfl]at hob hkill hK
   have hp1:Aa P f ds (Uu cs.d t):=hob _ (by simp[Q.when])
   unfold Nv at hpc
   split at hpc
   ·rename_i f' args ts ho
    rw[Option.map_eq_some_iff]at hpc
    obtain⟨ds',ha,he⟩:=hpc
    simp only[Prod.mk.injEq]at he
    obtain⟨rfl,rfl,rfl,rfl⟩:=he
    have hops:∀ y∈args.toList,Gl E o.guard y=true:=by
     unfold Ep at hrd
     rw[ho]at hrd
     intro y hy
     have:=List.all_eq_true.1 hrd y (by simp[Op.operands,Call.operands];exact .inr (by simpa using hy))
     exact this
    have hreps:RepAL γ (args.toList.map (Cu E)) (args.toList.map a.eval):=P7 fun y hy=>Nj R hw (hops y hy)
    obtain⟨⟨fn,hf1,hf2,hf3⟩,hcall⟩:=hp1
    have hrun:Calls P f' (args.toList.map a.eval).toArray w fun e w'=>∃ v ν,e=.returned v∧Gh w w'∧(∀ b o,b < w.heap.size→ν b o=γ.μ b o)∧Lb ν w'∧Rep ν (Uu cs.d t) v:=by
     cases hb:(args.toList.map (Cu E)).any ff with
     | false=>exact hcall γ.μ w _ R.hp.fz (Vp ha hb hreps)
     | true =>
      rw[hb]at hfl
      simp only[Bool.true_and,Bool.not_eq_true',Bool.not_eq_false]at hfl
      refine(hcall _ w _ (lent_fz R.hp) (No R.hp ha (fun p hp=>hob p (by simp only[Q.when];exact List.mem_append_left _ hp)) hreps)).mono ?_
      rintro e w' ⟨v,ν,h1,h2,h3,h4,h5⟩
      refine⟨v,fun b o=>if b < w.heap.size then γ.μ b o else ν b o,h1,h2,fun b o hlt=>if_pos hlt,fun b o x hx=>?_,Rep.flat _ _ hfl h5⟩
      by_cases hlt:b < w.heap.size
      ·simp only[hlt,if_true]at hx
       exact h4 b o x (by rw[h3 b o hlt];exact Uk R.hp b o x hx)
      ·simp only[hlt,if_false]at hx
       exact h4 b o x hx
    unfold Oper.wp execOp
    simp only[ho]
    have hres:((resolve a.eval { callee:=.value (.func f'),args:=args,argTypes:=ts } o.type).run P w)=.ok { target:=.fn (.func f') #[],args:=args.map a.eval } w:=by
     simp[resolve,Act.eval,Deferred.ofValue]
    have hinv:(invoke (.fn (.func f') #[]) (args.map a.eval)).run P w=.ok (.enter f' (args.map a.eval)) w:=by
     simp only[invoke,callFunc,program,Sem.run_bind,Array.append_empty]
     simp[Sem.run,hf1,hf3,Option.isNone_iff_eq_none]
     intro h;rw[h]at hf2;cases hf2
    rw[Sem.run_bind,hres,Result.andThen_ok,hinv]
    simp only[Oper.upon]
    have hm:(args.toList.map a.eval).toArray=args.map a.eval:=by rw[← Array.toList_inj];simp
    rw[hm]at hrun
    refine hrun.mono ?_
    rintro e w' ⟨u,ν,rfl,hx,hν,hfz,hr⟩
    show K (a.put o.dst u) w'
    rw[hd]
    exact hK u w' _ (by
     have:=stp_pure R.hp id h1 h2 hid hlv hx hν hfz hr
     rw[Kb rfl,H8 rfl]
     show Stp own hp live γ w id (Er id none hp) (Jz id false live) _ u _ w'
     rw[P8,Ex]
     exact this)
   ·cases hpc
  ·cases hok
 ·rename_i hc
  by_cases hrow:cs.a.contains id=true
  ·rw[if_pos hrow]at hok
   simp only[hc,hrow,if_true,Bool.false_eq_true,if_false]at hob hkill hK
   have hdoes:Does P own hp live γ w a.eval o id (Mt P id (Cu E) o.op):=by
    have cases_:(∃ args ts,o.op=.call { callee:=.builtin .append,args:=args,argTypes:=ts })∨Mt P id (Cu E) o.op=.no:=by
     unfold Mt
     split
     ·rename_i args ts ho;exact .inl ⟨args,ts,ho⟩
     ·exact .inr rfl
    rcases cases_ with⟨args,ts,ho⟩ | hno
    ·have he:Mt P id (Cu E) o.op=Fg P id (args.toList.map (Cu E)) ts.toList:=by rw[ho];rfl
     rw[he]at hok hob hkill ⊢
     have hops:∀ y∈args,RepA γ (Cu E y) (a.eval y):=fun y hy=>by
      unfold Ep at hrd
      rw[ho]at hrd
      exact Nj R hw (List.all_eq_true.1 hrd y (by simp[Op.operands,Call.operands];simpa using hy))
     exact bt R.hp h1 h2 hid hlv hown ho (Cu E) hops hok hob hkill
    ·rw[hno]at hok;cases hok
   obtain⟨u,w',γ',hran,hs⟩:=hdoes
   unfold Oper.wp
   rcases hran with hran | ⟨rfl,hran⟩
   ·rw[hran];exact hK u w' γ' hs
   ·rw[hran];exact hK undef w' γ' hs
  rw[if_neg hrow]at hok
  simp only[hc,if_neg hrow]at hob hkill hK
  by_cases hvec:cs.a.contains (id+1)=true
  ·rw[if_pos hvec]at hok
   simp only[hvec,if_true,Bool.false_eq_true,if_false]at hob hkill hK
   have hdoes:Does P own hp live γ w a.eval o id (J4 P hp id (Cu E) o.op):=by
    have cases_:(∃ args ts,o.op=.call { callee:=.builtin .append,args:=args,argTypes:=ts })∨J4 P hp id (Cu E) o.op=.no:=by
     unfold J4
     split
     ·rename_i args ts ho;exact .inl ⟨args,ts,ho⟩
     ·exact .inr rfl
    rcases cases_ with⟨args,ts,ho⟩ | hno
    ·have he:J4 P hp id (Cu E) o.op=Oh P hp id (args.toList.map (Cu E)) ts.toList:=by rw[ho];rfl
     rw[he]at hok hob ⊢
     have hops:∀ y∈args,RepA γ (Cu E y) (a.eval y):=fun y hy=>by
      unfold Ep at hrd
      rw[ho]at hrd
      exact Nj R hw (List.all_eq_true.1 hrd y (by simp[Op.operands,Call.operands];simpa using hy))
     exact does_vec R.hp h1 h2 hid hlv hown ho (Cu E) hops hok hob
    ·rw[hno]at hok;cases hok
   obtain⟨u,w',γ',hran,hs⟩:=hdoes
   unfold Oper.wp
   rcases hran with hran | ⟨rfl,hran⟩
   ·rw[hran];exact hK u w' γ' hs
   ·rw[hran];exact hK undef w' γ' hs
  rw[if_neg hvec]at hok
  simp only[if_neg hvec]at hob hkill hK
  have hok2:(E5 P o.op (Cu E) hp id).ok=true:=by
   split at hok
   ·rwa [Q.cold_ok]at hok
   ·exact hok
  have hob2:∀ p∈(E5 P o.op (Cu E) hp id).ob,p:=by
   cases hg:o.guard.isSome with
   | true=>rw[hg]at hob;simpa [Q.cold_ob] using hob
   | false=>rw[hg]at hob;simpa using hob
  have hkill2:∀ tk,(E5 P o.op (Cu E) hp id).kill=some tk→live tk:=by
   cases hg:o.guard.isSome with
   | true=>rw[hg]at hkill;simpa [Q.cold_kill] using hkill
   | false=>rw[hg]at hkill;simpa using hkill
  have hdoes:=qop_does (P:=P) (ρ:=a.eval) R.hp h1 h2 hid hlv hown (Cu E) (o:=o) (fun hnp x hx=>by
    unfold Ep at hrd
    split at hrd
    ·rename_i c a b ho;exact absurd ho (hnp c a b)
    ·exact Nj R hw (List.all_eq_true.1 hrd x (by simpa using hx)))
   (fun c b1 b2 ho=>by
    unfold Ep at hrd
    rw[ho]at hrd
    simp only[Bool.and_eq_true]at hrd
    obtain⟨r1,r2,r3⟩:=hrd
    have hc1:=Nj R hw r1
    have arm:∀ (x:Operand) (want:Bool),R9 ops E o.guard c want x=true→∀ y,Cu E c=.d (.bool y)→y=want→RepA γ (Cu E x) (a.eval x):=by
     intro x want hx y hy hyw
     simp only[R9,Bool.or_eq_true]at hx
     rcases hx with hx | hx
     ·exact Nj R hw hx
     ·cases x with
      | tmp t =>
       simp only at hx
       cases hg:(E t).g with
       | none=>simp only[hg]at hx;cases hx
       | some g =>
        obtain⟨j,wj⟩:=g
        simp only[hg,Bool.and_eq_true,beq_iff_eq]at hx
        obtain⟨rfl,hx⟩:=hx
        have hf:=R.fr t
        unfold EOk at hf
        rw[hg]at hf
        rcases hf with hf | hf
        ·exact hf.2.2
        ·exfalso
         apply hf.1
         unfold isDst at hx
         split at hx
         ·rename_i oj tc hoj
          simp only[beq_iff_eq]at hx
          rw[hy]at hc1
          simp only[RepA,Rep,Act.eval]at hc1
          unfold yielded
          rw[List.getElem?_toArray,hoj,Option.bind_some,hx,Option.bind_some]
          have:a.tmps[tc]?=some (.bool y):=by
           rw[Array.getD_eq_getD_getElem?]at hc1
           cases hh:a.tmps[tc]? with
           | none=>rw[hh]at hc1;cases hc1
           | some z=>rw[hh]at hc1;simpa using hc1
          rw[this,hyw]
         ·cases hx
      | _=>cases hx
    exact⟨hc1,arm b1 true r2,arm b2 false r3⟩)
   (fun _=>rfl) hok2 hob2 hkill2
  obtain⟨u,w',γ',hran,hs⟩:Does P own hp live γ w a.eval o id (if o.guard.isSome=true then(E5 P o.op (Cu E) hp id).cold else E5 P o.op (Cu E) hp id):=by
   split
   ·exact hdoes.cold
   ·exact hdoes
  unfold Oper.wp
  rcases hran with hran | ⟨rfl,hran⟩
  ·rw[hran];exact hK u w' γ' hs
  ·rw[hran];exact hK undef w' γ' hs
end Go.Av
namespace Go.Av
open Go.RowKit Go.Base
variable {P:Program} {γ γ':G} {w w' w0:World} {own:Nat→Prop} {hp:Nat→Option Ob} {live:Nat→Prop} {ops:List Oper} {N:Nat} {μ0:G0}
theorem Re (fr:List (Nat×AV)) (o:Oper) (x:LE) (lf:List (Nat×LE)) (t:Nat):Ce fr (jj o x lf) t=if o.dst=some t then x else Ce fr lf t:=by
 unfold jj
 cases o.dst with
 | none=>simp
 | some d=>simp[Ce]
theorem Nl (i:Nat) (o:Ob) (l:List (Nat×Ob)) (j:Nat):Ae ((i,o) :: l) j=if j=i then some o else Ae l j:=by
 simp only[Ae]
 by_cases h:i=j
 ·rw[if_pos h,if_pos h.symm]
 ·rw[if_neg h,if_neg (Ne.symm h)]
theorem P1:∀ (l l':List (Nat×Ob)) (j:Nat),Ae (l++l') j=match Ae l j with | some o=>some o | none=>Ae l' j
 | [],_,_=>rfl
 | (i,v) :: l,l',j=>by
  simp only[List.cons_append,Ae]
  split
  ·rfl
  ·exact P1 l l' j
theorem N1 (id:Nat) (q:Q) (hp:List (Nat×Ob)):Ae (aa id q hp)=Fa id q (Ae hp):=by
 funext j
 unfold aa Fa Er
 cases q.mo with
 | some t =>
  show Ae (t.ups++hp) j=_
  exact P1 t.ups hp j
 | none =>
 cases q.new with
 | none=>cases q.upd with
  | none=>rfl
  | some x=>exact Nl x.1 x.2 hp j
 | some y=>cases q.upd with
  | none=>exact Nl id y hp j
  | some x =>
   show Ae ((x.1,x.2) :: (id,y) :: hp) j=if j=x.1 then some x.2 else if j=id then some y else Ae hp j
   rw[Nl,Nl]
theorem Rr (id:Nat) (q:Q) (live:List Nat):(fun t=>t∈Wg id q live)=G9 id q (fun t=>t∈live):=by
 funext t
 unfold Wg G9
 cases hm:q.mo with
 | some m =>
  simp only[List.mem_append,List.mem_filter,eq_iff_iff]
  constructor
  ·rintro(h | ⟨h1,h2⟩)
   ·exact .inr h
   ·exact .inl ⟨h1,by simpa using h2⟩
  ·rintro(⟨h1,h2⟩ | h)
   ·exact .inr ⟨h1,by simpa using h2⟩
   ·exact .inl h
 | none =>
 simp only
 have key:(t∈Ya q live)=(t∈live∧q.kill≠some t):=by
  unfold Ya
  cases q.kill with
  | none=>simp
  | some k =>
   simp only[List.mem_filter,bne_iff_ne,ne_eq,Option.some.injEq,eq_iff_iff]
   exact⟨fun⟨a,b⟩=>⟨a,fun h=>b h.symm⟩,fun⟨a,b⟩=>⟨a,fun h=>b h.symm⟩⟩
 cases q.tok with
 | true =>
  simp only[if_true,List.mem_cons,true_and,eq_iff_iff]
  rw[key]
  exact⟨fun h=>h.elim .inr .inl,fun h=>h.elim .inr .inl⟩
 | false =>
  simp only[Bool.false_eq_true,if_false,false_and,or_false]
  exact key
theorem lives_of {hp:Nat→Option Ob} {id:Nat} {q:Q} {live:List Nat} {id':Nat} (h:id' ∉ live) (hne:id' < id∨id+16≤id') (hmo:∀ t,q.mo=some t→U2 hp id t=true):id' ∉ Wg id q live:=by
 intro hm
 have:(fun t=>t∈Wg id q live) id':=hm
 rw[Rr]at this
 have hne':id'≠id:=by omega
 unfold G9 at this
 cases hq:q.mo with
 | some t =>
  simp only[hq]at this
  exact nc (live:=fun s=>s∈live) (hmo t hq) h hne this
 | none =>
 simp only[hq]at this
 rcases this with⟨h2,_⟩ | ⟨_,h2⟩
 ·exact h h2
 ·exact hne' h2
theorem cj {tmps:Array Value} {t:Nat} {b:Bool} (h:tmps.getD t undef=.bool b):tmps[t]?=some (.bool b):=by
 rw[Array.getD_eq_getD_getElem?]at h
 cases hh:tmps[t]? with
 | none=>rw[hh]at h;cases h
 | some z=>rw[hh]at h;simpa using h
theorem u9 {tmps:Array Value} {t:Nat} (h:tmps.getD t undef=undef) (b:Bool):tmps[t]?≠some (.bool b):=fun e=>by
 rw[Array.getD_eq_getD_getElem?,e]at h;cases h
theorem ub {tmps:Array Value} {j:Nat} {o:Oper} {t:Nat} (ho:ops[j]?=some o) (ht:o.dst=some t):(∀ b,tmps[t]?=some (.bool b)→yielded ops.toArray tmps j=some b)∧((∀ b,tmps[t]?≠some (.bool b))→yielded ops.toArray tmps j=none):=by
 unfold yielded
 have e:ops.toArray[j]?=some o:=by simpa using ho
 rw[e,Option.bind_some,ht,Option.bind_some]
 refine⟨fun b hb=>by rw[hb],fun hb=>?_⟩
 split
 ·rename_i b h;exact absurd h (hb b)
 ·rfl
theorem nh (want b G:Bool):(some b=some want→(if want then b else !b)=true)∧(some b≠some want→(if want then b else !b)=false):=by
 cases want<;>cases b<;>simp
theorem Qy {a:Act} {done:Nat→Prop} {E:Nat→LE} (R:RL own μ0 w0 N ops done E hp live γ a w) {g:Nat×Bool} {G:Bool} (h:Fu ops E g=some G) :
  (yielded ops.toArray a.tmps g.1=some g.2→G=true)∧(yielded ops.toArray a.tmps g.1≠some g.2→G=false):=by
 unfold Fu at h
 split at h
 ·rename_i o ho
  split at h
  ·rename_i t ht
   have hf:=R.fr t
   have hy:=ub (ops:=ops) (tmps:=a.tmps) ho ht
   unfold kq at h
   unfold EOk at hf
   split at h
   ·rename_i b hE
    injection h with h
    rw[hE]at hf
    simp only[RepA,Rep]at hf
    rw[hy.1 _ (cj hf),← h]
    exact nh g.2 b true
   ·rename_i gj G' b hE
    injection h with h
    rw[hE]at hf
    obtain⟨j,wj⟩:=gj
    simp only[RepA,Rep]at hf
    rcases hf with⟨_,hG,hv⟩ | ⟨_,hG,hv⟩
    ·rw[hy.1 _ (cj hv),← h,hG]
     exact nh g.2 b true
    ·rw[hy.2 (u9 hv),← h,hG]
     exact⟨(fun e=>by cases e),fun _=>rfl⟩
   ·cases h
  ·cases h
 ·cases h
def R5 (o:Oper) (x:LE) (E:Nat→LE):Nat→LE:=fun t=>if o.dst=some t then x else E t
theorem kd {a:Act} {o:Oper} {v:Value} (hd:∀ t,o.dst=some t→t < a.tmps.size) (t:Nat):(a.put o.dst v).tmps.getD t undef=if o.dst=some t then v else a.tmps.getD t undef:=by
 cases h:o.dst with
 | none=>simp[Act.put]
 | some d=>rw[Og (hd d h)];simp
theorem EOk.mono {γ γ':G} (le:LeG γ γ') {tmps:Array Value} {x:LE} {t:Nat} (h:EOk ops γ tmps x t):EOk ops γ' tmps x t:=by
 unfold EOk at *
 split
 ·rename_i hg;rw[hg]at h;exact h.mono le
 ·rename_i j want hg;rw[hg]at h;exact h.imp (fun⟨a,b,c⟩=>⟨a,b,c.mono le⟩) id
theorem RL.put {a:Act} {done:Nat→Prop} {E:Nat→LE} (R:RL own μ0 w0 N ops done E hp live γ a w) (hr:M2 ops N=true) {i:Nat} {o:Oper} (hi:ops[i]?=some o) (hd:¬ done i) {x:LE} {u:Value} {hp':Nat→Option Ob} {live':Nat→Prop}
  (le:LeG γ γ') (hH:Hp own hp' live' γ' w') (hb:Base own w w') (hmu:∀ b o,b < w.heap.size→¬ own b→γ'.μ b o=γ.μ b o)
  (hx:match x.g with
   | none=>RepA γ' x.v u
   | some (j,want)=>done j∧((yielded ops.toArray a.tmps j=some want∧x.G=true∧RepA γ' x.v u)∨(yielded ops.toArray a.tmps j≠some want∧x.G=false∧u=undef))) :
  RL own μ0 w0 N ops (fun k=>done k∨k=i) (R5 o x E) hp' live' γ' (a.put o.dst u) w':=by
 obtain⟨hn,hN⟩:=Z1 hr
 have hdt:∀ t,o.dst=some t→t < a.tmps.size:=fun t h=>by rw[R.size];exact hN hi h
 have hy:∀ j,done j→yielded ops.toArray (a.put o.dst u).tmps j=yielded ops.toArray a.tmps j:=fun j hj=>o8 fun oj hoj t ht e=>hd (by
  have:=W6 hn hoj hi ht e
  exact this ▸ hj)
 have hbig:∀ b,w.heap.size≤b→own b:=fun b hb'=>R.big b (Nat.le_trans R.base.size hb')
 refine⟨by cases h:o.dst<;>simp[Act.put,h,R.defers],by cases h:o.dst<;>simp[Act.put,h,R.size],fun t=>?_,fun t j want h=>?_,hH,R.base.trans hbig hb,R.big,R.mu.step le fun b o hb' hn=>hmu b o (Nat.lt_of_lt_of_le hb' R.base.size) hn⟩
 ·unfold R5
  by_cases ht:o.dst=some t
  ·rw[if_pos ht]
   unfold EOk
   rw[kd hdt,if_pos ht]
   split
   ·rename_i hg;rw[hg]at hx;exact hx
   ·rename_i j want hg
    rw[hg]at hx
    rw[hy j hx.1]
    exact hx.2
  ·rw[if_neg ht]
   have:=(R.fr t).mono le
   unfold EOk at *
   rw[kd hdt,if_neg ht]
   split
   ·rename_i hg;rw[hg]at this;exact this
   ·rename_i j want hg
    rw[hg]at this
    rw[hy j (R.gd t j want hg)]
    exact this
 ·unfold R5 at h
  split at h
  ·rw[h]at hx;exact .inl hx.1
  ·exact .inl (R.gd t j want h)
structure Fq (nx:Nat) (hp:Nat→Option Ob) (live:Nat→Prop) (γ:G):Prop where
 ok:∀ id,nx≤id→γ.ι id=none∧γ.τ id=none∧hp id=none∧¬ live id
theorem Rj:∀ {l:List Prop} {R:Prop},Ov l R→(∀ p∈l,p)∧R
 | [],_,h=>⟨(fun p hp=>by cases hp),h⟩
 | p :: l,R,h=>by
  obtain⟨h1,h2⟩:=h
  obtain⟨h3,h4⟩:=Rj h2
  exact⟨(fun q hq=>by rcases List.mem_cons.1 hq with rfl | hq;exact h1;exact h3 q hq),h4⟩
theorem Sx {G:Bool}:∀ {l:List Prop} {R:Prop},tj G l R→(G=true→∀ p∈l,p)∧R
 | [],_,h=>⟨(fun _ p hp=>by cases hp),h⟩
 | p :: l,R,h=>by
  obtain⟨h1,h2⟩:=h
  obtain⟨h3,h4⟩:=Sx h2
  exact⟨(fun hG q hq=>by rcases List.mem_cons.1 hq with rfl | hq;exact h1 hG;exact h3 hG q hq),h4⟩
theorem Vf {q:Q} {live:List Nat} (h:Mk q live=true):∀ tk,q.kill=some tk→tk∈live:=fun tk hk=>by
 unfold Mk at h
 rw[Bool.and_eq_true,hk]at h
 simpa using h.2
theorem dv {q:Q} {live:List Nat} (h:Mk q live=true):∀ t,q.mo=some t→∀ s∈t.lv,s∈live:=fun t ht s hs=>by
 unfold Mk at h
 rw[Bool.and_eq_true,ht]at h
 have:=h.1
 simp only[List.all_eq_true,List.contains_eq_mem,decide_eq_true_eq]at this
 exact this s hs
theorem vd {nx i:Nat} {s:LS} (o:Oper) (q:Q) (g:Option (Nat×Bool)) (G':Bool) {v:AV} {u:Value} (hf:Fq (nx+16 * i) (Ae s.hp) (·∈s.live) γ)
  (hu:∀ d ob,q.upd=some (d,ob)→∃ o',Ae s.hp d=some o') (hmo:∀ t,q.mo=some t→U2 (Ae s.hp) (nx+16 * i) t=true) (hs:Stp own (Ae s.hp) (·∈s.live) γ w (nx+16 * i) (Fa (nx+16 * i) q (Ae s.hp)) (G9 (nx+16 * i) q (·∈s.live)) v u γ' w') :
  Fq (nx+16 * (i+1)) (Ae (s.step o (nx+16 * i) q g G').hp) (·∈(s.step o (nx+16 * i) q g G').live) γ':=⟨fun id hid=>by
 obtain⟨h1,h2,h3,h4⟩:=hf.ok id (by omega)
 have hne:id≠nx+16 * i:=by omega
 obtain⟨h5,h6⟩:=hs.other id (by omega)
 refine⟨by rw[h5,h1],by rw[h6,h2],?_,lives_of h4 (by omega) hmo⟩
 show Ae (aa (nx+16 * i) q s.hp) id=none
 rw[N1]
 unfold Fa Er
 cases hq:q.mo with
 | some t=>exact ku (hmo t hq) h3 (by omega)
 | none =>
 simp only
 split
 ·rename_i d ob hupd
  obtain⟨o',ho'⟩:=hu d ob hupd
  rw[if_neg (fun h=>by rw[h,ho']at h3;cases h3)]
  split
  ·rw[if_neg hne];exact h3
  ·exact h3
 ·split
  ·rw[if_neg hne];exact h3
  ·exact h3⟩
theorem K5 {α:Type} {x:Option α} {f:α→Q} {r:Nat×Ob} (h:(Cm x f).upd=some r):∃ a,x=some a∧(f a).upd=some r:=by
 cases x with
 | none=>cases h
 | some a=>exact⟨a,rfl,h⟩
theorem cl {P:Program} {cs:Cs} {o:Oper} {e:Operand→AV} {hp:Nat→Option Ob} {id d:Nat} {ob:Ob} (h:(D9 P cs o e hp id).upd=some (d,ob)):∃ o',hp d=some o':=by
 unfold D9 at h
 split at h
 ·split at h
  ·split at h<;>cases h
  ·split at h
   ·split at h<;>cases h
   ·cases h
 ·split at h
  ·rw[(ml P id e o.op).2]at h;cases h
  split at h
  ·exact(Ub P hp id e o.op).2.2.2 d ob h
  have h:(E5 P o.op e hp id).upd=some (d,ob):=by
   split at h
   ·rwa [Q.cold_upd]at h
   ·exact h
  unfold E5 at h
  split at h<;>try (cases h;done)
  ·split at h<;>cases h
  ·rename_i t a x
   unfold Hy at h
   split at h
   ·split at h
    ·rename_i d' off cs' hcs
     split at h
     ·simp only[Option.some.injEq,Prod.mk.injEq]at h
      exact⟨_,by rw[← h.1];exact hcs⟩
     ·cases h
    ·cases h
   ·split at h
    ·rename_i d' sz i off z n f y hcs _
     split at h
     ·simp only[Option.some.injEq,Prod.mk.injEq]at h
      exact⟨_,by rw[← h.1];exact hcs⟩
     ·cases h
    ·cases h
   ·split at h
    ·rename_i d' sz i off e' z n f y hcs _
     split at h
     ·simp only[Option.some.injEq,Prod.mk.injEq]at h
      exact⟨_,by rw[← h.1];exact hcs⟩
     ·split at h
      ·simp only[Option.some.injEq,Prod.mk.injEq]at h
       exact⟨_,by rw[← h.1];exact hcs⟩
      ·cases h
    ·cases h
   ·cases h
  ·unfold F9 at h
   obtain⟨⟨k,e,b⟩,_,h⟩:=K5 h
   obtain⟨⟨s,kp⟩,_,h⟩:=K5 h
   obtain⟨⟨v,vp⟩,_,h⟩:=K5 h
   dsimp only at h
   split at h
   ·split at h
    ·rename_i hm
     split at h
     ·simp only[Option.some.injEq,Prod.mk.injEq]at h
      exact⟨_,by rw[← h.1];exact hm⟩
     ·cases h
    ·cases h
   ·cases h
  ·unfold Kr at h
   split at h
   ·obtain⟨el,_,h⟩:=K5 h
    obtain⟨⟨z,m,g⟩,_,h⟩:=K5 h
    dsimp only at h
    split at h
    ·split at h
     ·rename_i d' sz n s' k f hcs
      split at h
      ·simp only[Option.some.injEq,Prod.mk.injEq]at h
       exact⟨_,by rw[← h.1];exact hcs⟩
      ·cases h
     ·cases h
    ·cases h
   ·cases h
  ·unfold J8 at h
   split at h
   ·split at h
    ·obtain⟨el,_,h⟩:=K5 h
     obtain⟨⟨z,m,g⟩,_,h⟩:=K5 h
     dsimp only at h
     split at h
     ·split at h
      ·split at h
       ·unfold G7 at h
        split at h
        ·split at h
         ·split at h<;>cases h
         ·cases h
        ·cases h
       ·cases h
      ·unfold G7 at h
       split at h
       ·split at h
        ·split at h
         ·dsimp only at h
          split at h<;>cases h
         ·cases h
        ·cases h
       ·cases h
     ·cases h
    ·cases h
   ·cases h
theorem Lw {QQ:Exit→Act→World→Prop} {o:Oper} {l:List Oper} {a:Act} (h1:Region.wanted o (yielded ops.toArray a.tmps)=true→o.wp P a w (wpList P ops.toArray QQ l) QQ)
  (h2:Region.wanted o (yielded ops.toArray a.tmps)=false→wpList P ops.toArray QQ l (a.put o.dst undef) w):wpList P ops.toArray QQ (o :: l) a w:=by
 unfold wpList
 split
 ·rename_i h;exact .inl (h1 h)
 ·rename_i h;exact h2 (by simpa using h)
theorem Vg {o:Oper} {y:Nat→Option Bool} (h:o.guard=none):Region.wanted o y=true:=by simp[Region.wanted,h]
theorem Fi {o:Oper} {y:Nat→Option Bool} {g:Nat×Bool} (h:o.guard=some g):(Region.wanted o y=true↔y g.1=some g.2):=by simp[Region.wanted,h]
theorem Zs (hr:M2 ops N=true) {cs:Cs} {fr:List (Nat×AV)} {nx:Nat} {K:LS→Prop} {QQ:Exit→Act→World→Prop}
  (hQ:∀ (s:LS) (γ:G) (a:Act) (w:World),K s→RL own μ0 w0 N ops (· < ops.length) (Ce fr s.lf) (Ae s.hp) (·∈s.live) γ a w→Fq (nx+16 * ops.length) (Ae s.hp) (·∈s.live) γ→QQ .normal a w) :
  ∀ (l:List Oper) (i:Nat) (s:LS) (γ:G) (a:Act) (w:World),i+l.length=ops.length→(∀ k,l[k]?=ops[i+k]?)→RL own μ0 w0 N ops (· < i) (Ce fr s.lf) (Ae s.hp) (·∈s.live) γ a w →
   Fq (nx+16 * i) (Ae s.hp) (·∈s.live) γ→Ky P cs ops fr nx i l s K→wpList P ops.toArray QQ l a w
 | [],i,s,γ,a,w,hl,_,R,F,h=>by
  simp only[List.length_nil,Nat.add_zero]at hl
  subst hl
  exact hQ s γ a w h R F
 | o :: l,i,s,γ,a,w,hl,hops,R,F,h=>by
  have hi:ops[i]?=some o:=by have:=hops 0;simpa using this.symm
  have hnd:¬ (i < i):=Nat.lt_irrefl i
  have hops':∀ k,l[k]?=ops[i+1+k]?:=fun k=>by have:=hops (k+1);rw[show i+1+k=i+(k+1) by omega];simpa using this
  have hl':i+1+l.length=ops.length:=by simp at hl;omega
  have hdone:(fun k=>k < i∨k=i)=(fun k=>k < i+1):=by funext k;simp only[eq_iff_iff];omega
  obtain⟨f1,f2,f3,f4⟩:=F.ok (nx+16 * i) (Nat.le_refl _)
  unfold Ky at h
  -- it does not run
  have skip:∀ (x:LE) (s':LS),s'.lf=jj o x s.lf→s'.hp=s.hp→s'.live=s.live→(match x.g with
    | none=>x.v=.any
    | some (j,want)=>j < i∧yielded ops.toArray a.tmps j≠some want∧x.G=false)→Ky P cs ops fr nx (i+1) l s' K→wpList P ops.toArray QQ l (a.put o.dst undef) w:=fun x s' h1 h2 h3 hx hrest=>by
   have R':=R.put (i:=i) (x:=x) (u:=undef) hr hi hnd (LeG.refl γ) R.hp (Base.refl own w) (fun _ _ _ _=>rfl) (by
    cases hg:x.g with
    | none=>rw[hg]at hx;simp only at hx;rw[hx];simp only[RepA]
    | some jw=>obtain⟨j,want⟩:=jw;rw[hg]at hx;exact⟨hx.1,.inr ⟨hx.2.1,hx.2.2,rfl⟩⟩)
   rw[hdone]at R'
   refine Zs hr hQ l (i+1) s' γ _ w hl' hops' ?_ ?_ hrest
   ·have e1:Ce fr s'.lf=R5 o x (Ce fr s.lf):=by
     funext t;rw[h1];exact Re fr o _ s.lf t
    rw[e1,h2,h3]
    exact R'
   ·rw[h2,h3]
    exact⟨fun id hid=>F.ok id (by omega)⟩
  split at h
  ·cases hg:o.guard with
   | none=>rw[hg]at h;exact h.elim
   | some g =>
    rw[hg]at h
    simp only at h
    split at h
    ·rename_i hgi
     split at h
     ·exact h.elim
     ·rename_i G' hG
      obtain⟨gs1,gs2⟩:=Qy R hG
      refine Lw (fun hw=>(h.1 (gs1 ((Fi hg).1 hw))).elim) (fun hn=>?_)
      have hy:yielded ops.toArray a.tmps g.1≠some g.2:=fun e=>by
       rw[(Fi hg).2 e]at hn;cases hn
      exact skip ⟨none,true,.any⟩ (s.skip o) rfl rfl rfl rfl (h.2 (gs2 hy))
    ·exact h.elim
  split at h
  ·exact h.elim
  rename_i hrd
  split at h
  ·exact h.elim
  rename_i hok
  split at h
  ·exact h.elim
  rename_i hkl
  generalize hq:D9 P cs o (Cu (Ce fr s.lf)) (Ae s.hp) (nx+16 * i)=q at *
  have hrd':Ep ops (Ce fr s.lf) o=true:=by simpa using hrd
  have hok':q.ok=true:=by simpa using hok
  have hkl':∀ tk,q.kill=some tk→tk∈s.live:=Vf (by simpa using hkl)
  -- it runs,and the rest follows
  have run:∀ (g:Option (Nat×Bool)) (G':Bool),(∀ p∈q.ob,p)→(∀ g',o.guard=some g'→yielded ops.toArray a.tmps g'.1=some g'.2)→(∀ j want,g=some (j,want)→j < i∧yielded ops.toArray a.tmps j=some want∧G'=true) →
    Ky P cs ops fr nx (i+1) l (s.step o (nx+16 * i) q g G') K→o.wp P a w (wpList P ops.toArray QQ l) QQ:=fun g G' hob hw hg hrest=>by
   refine ru R hrd' (cs:=cs) (id:=nx+16 * i) (by rw[hq];exact hok') (by rw[hq];exact hob) (by rw[hq];exact hkl') (by rw[hq];exact dv (by simpa using hkl)) (fun j hj _=>F.ok j hj) hw ?_
   rw[hq]
   intro u w' γ' hs
   have R':=R.put (i:=i) (x:=⟨g,G',q.v⟩) hr hi hnd hs.le hs.hp hs.base hs.mu (by
    cases g with
    | none=>exact hs.rep
    | some jw=>obtain⟨j,want⟩:=jw;obtain⟨g1,g2,g3⟩:=hg j want rfl;exact⟨g1,.inl ⟨g2,g3,hs.rep⟩⟩)
   rw[hdone]at R'
   have F':=vd o q g G' F (fun d ob hd=>cl (by rw[hq];exact hd)) (fun t ht=>aw (by rw[hq];exact hok') (by rw[hq];exact ht)) hs
   refine Zs hr hQ l (i+1) _ γ' _ w' hl' hops' ?_ F' hrest
   have e1:Ce fr (s.step o (nx+16 * i) q g G').lf=R5 o ⟨g,G',q.v⟩ (Ce fr s.lf):=by
    funext t;exact Re fr o _ s.lf t
   have e2:Ae (s.step o (nx+16 * i) q g G').hp=Fa (nx+16 * i) q (Ae s.hp):=N1 _ _ _
   have e3:(fun t=>t∈(s.step o (nx+16 * i) q g G').live)=G9 (nx+16 * i) q (fun t=>t∈s.live):=Rr _ _ _
   rw[e1,e2,e3]
   exact R'
  cases hg:o.guard with
  | none =>
   rw[hg]at h
   simp only at h
   obtain⟨hob,hrest⟩:=Rj h
   refine Lw (fun _=>run none true hob (fun g' hg'=>by rw[hg]at hg';cases hg') (fun j want hj=>by cases hj) hrest) (fun hn=>?_)
   rw[Vg hg]at hn;cases hn
  | some g =>
   rw[hg]at h
   simp only at h
   split at h
   ·rename_i hgi
    split at h
    ·exact h.elim
    ·rename_i G' hG
     obtain⟨gs1,gs2⟩:=Qy R hG
     split at h
     ·obtain⟨hob,hrest⟩:=Sx h
      refine Lw (fun hw=>?_) (fun hn=>?_)
      ·have hy:=(Fi hg).1 hw
       have hGt:=gs1 hy
       refine run (some g) G' (hob hGt) (fun g' hg'=>by rw[hg]at hg';injection hg' with hg';rw[← hg'];exact hy) (fun j want hj=>?_) hrest
       injection hj with hj
       rw[hj]at hgi hy
       exact⟨hgi,hy,hGt⟩
      ·have hy:yielded ops.toArray a.tmps g.1≠some g.2:=fun e=>by
        rw[(Fi hg).2 e]at hn;cases hn
       rename_i hplain
       unfold Q.plain at hplain
       simp only[Bool.and_eq_true,Option.isNone_iff_eq_none,Bool.not_eq_true']at hplain
       obtain⟨⟨⟨⟨p1,p2⟩,p3⟩,p4⟩,p5⟩:=hplain
       refine skip ⟨some g,G',q.v⟩ _ rfl ?_ ?_ ⟨hgi,hy,gs2 hy⟩ hrest
       ·show aa _ q s.hp=s.hp
        simp only[aa,p1,p3,p5]
       ·show Wg _ q s.live=s.live
        simp only[Wg,Ya,p2,p4,p5,Bool.false_eq_true,if_false]
     ·obtain⟨ht,hf⟩:=h
      refine Lw (fun hw=>?_) (fun hn=>?_)
      ·have hy:=(Fi hg).1 hw
       obtain⟨hob,hrest⟩:=Rj (ht (gs1 hy))
       exact run none true hob (fun g' hg'=>by rw[hg]at hg';injection hg' with hg';rw[← hg'];exact hy) (fun j want hj=>by cases hj) hrest
      ·have hy:yielded ops.toArray a.tmps g.1≠some g.2:=fun e=>by
        rw[(Fi hg).2 e]at hn;cases hn
       exact skip ⟨none,true,.any⟩ (s.skip o) rfl rfl rfl rfl (hf (gs2 hy))
   ·exact h.elim
end Go.Av
namespace Go.Av
open Go.RowKit Go.Base
variable {P:Program} {γ γ':G} {w w' w0:World} {own:Nat→Prop} {hp:Nat→Option Ob} {live:Nat→Prop} {ops:List Oper} {N:Nat} {μ0:G0}
structure Rec where
 o:Oper
 id:Nat
 q:Q
 g:Option (Nat×Bool)
 gv:Bool
 rd:List Nat
def Lu:AV→List Nat
 | .arr d _ _=>[d]
 | .vec d _ _=>[d]
 | _=>[]
def D1:AV→List Nat
 | .ptr d _=>[d]
 | .pa d _ _ _=>[d]
 | .arr d _ _=>[d]
 | .mp d=>[d]
 | .vec d _ _=>[d]
 | .pv d _ _ _=>[d]
 | .agg l=>l.flatMap Lu
 | _=>[]
def Ld (o:Op) (e:Operand→AV):List Nat :=
 match o with
 | .load _ a=>D1 (e a)
 | .store _ a _=>D1 (e a)
 | .lookup _ m _ _=>D1 (e m)
 | .mapUpdate _ m _ _=>D1 (e m)
 | .call { callee:=.builtin .copy,args,.. }=>(args.toList.map e).flatMap D1
 | .call { callee:=.builtin .append,args,.. }=>(args.toList.map e).flatMap D1
 | .call { callee:=.value _,args,.. }=>(args.toList.map e).flatMap D1
 | _=>[]
def Gu (cs:Cs) (o:Op) (id:Nat) (e:Operand→AV):List Nat:=Ld o e++(if zx o then(match Yb cs.o id with | some t=>t.ids | none=>[])else[])
def Rec.wr (r:Rec):List Nat:=match r.q.mo with
 | some t=>t.ups.map (·.1)++(t.lv++t.toks)
 | none =>
 (match r.q.upd with | some (d,_)=>[d] | none=>[])++((match r.q.kill with | some k=>[k] | none=>[])++(if r.q.new.isSome || r.q.tok then[r.id]else[]))
def Wc (P:Program) (cs:Cs) (ops:List Oper) (fr:List (Nat×AV)) (nx:Nat):Nat→List Oper→LS→Option (List Rec×LS)
 | _,[],s=>some ([],s)
 | i,o :: l,s =>
  if Ep ops (Ce fr s.lf) o&&((D9 P cs o (Cu (Ce fr s.lf)) (Ae s.hp) (nx+16 * i)).ok&&Mk (D9 P cs o (Cu (Ce fr s.lf)) (Ae s.hp) (nx+16 * i)) s.live)then
   match o.guard with
   | none=>(Wc P cs ops fr nx (i+1) l (s.step o (nx+16 * i) (D9 P cs o (Cu (Ce fr s.lf)) (Ae s.hp) (nx+16 * i)) none true)).map
     fun r=>(⟨o,nx+16 * i,D9 P cs o (Cu (Ce fr s.lf)) (Ae s.hp) (nx+16 * i),none,true,Gu cs o.op (nx+16 * i) (Cu (Ce fr s.lf))⟩ :: r.1,r.2)
   | some g =>
    if decide (g.1 < i)&&(D9 P cs o (Cu (Ce fr s.lf)) (Ae s.hp) (nx+16 * i)).plain then
     match Fu ops (Ce fr s.lf) g with
     | some G=>(Wc P cs ops fr nx (i+1) l (s.step o (nx+16 * i) (D9 P cs o (Cu (Ce fr s.lf)) (Ae s.hp) (nx+16 * i)) (some g) G)).map
       fun r=>(⟨o,nx+16 * i,D9 P cs o (Cu (Ce fr s.lf)) (Ae s.hp) (nx+16 * i),some g,G,Gu cs o.op (nx+16 * i) (Cu (Ce fr s.lf))⟩ :: r.1,r.2)
     | none=>none
    else none
  else none
def U8:List Rec→Prop→Prop
 | [],R=>R
 | r :: l,R=>match r.g with
  | none=>Ov r.q.ob (U8 l R)
  | some _=>tj r.gv r.q.ob (U8 l R)
def Jw (acc:List Nat) (m:Nat) (e:Edge):Nat:=if Region.binds .any e then m ||| (2 ^ e.on ||| acc.getD e.on 0)else m
def Ez:List Oper→List Nat→List Nat
 | [],acc=>acc
 | o :: l,acc=>Ez l (acc++[o.after.toList.foldl (Jw acc) 0])
def Ha (ops:List Oper) (o:Oper):List Tmp:=Oper.looksAt ops.toArray o
def M6 (a b:List Nat):Bool:=a.any b.contains
def apart (ops:List Oper) (x y:Rec):Bool :=
 (match x.o.dst with | some d=>!(Ha ops y.o).contains d | none=>true)&&((match y.o.dst with | some d=>!(Ha ops x.o).contains d | none=>true) &&
 (!M6 x.wr y.wr&&(!M6 x.wr y.rd&&!M6 x.rd y.wr)))
def Zd (ops:List Oper) (rs:List Rec):Bool :=
 let ms:=Ez ops []
 (List.range ops.length).all fun j=>(List.range j).all fun i=>(ms.getD j 0).testBit i || match rs[i]?,rs[j]? with
  | some x,some y=>apart ops x y
  | _,_=>false
def Yx (ops:List Oper):Bool:=(List.range ops.length).all fun i=>match ops[i]? with
 | some o=>o.after.toList.all fun e=>!Region.binds .any e || decide (e.on < i)
 | none=>true
def l8 (P:Program) (cs:Cs) (ops:List Oper) (fr:List (Nat×AV)) (nx:Nat) (s:LS) (K:LS→Prop):Prop :=
 match Wc P cs ops fr nx 0 ops s with
 | some (rs,s')=>if Yx ops&&Zd ops rs then U8 rs (K s')else False
 | none=>False
structure FZ where
 E:Nat→LE
 hp:Nat→Option Ob
 live:Nat→Prop
def Rec.ap (r:Rec) (F:FZ):FZ:=⟨R5 r.o ⟨r.g,r.gv,r.q.v⟩ F.E,Fa r.id r.q F.hp,G9 r.id r.q F.live⟩
def K6 (fr:List (Nat×AV)) (s:LS):FZ:=⟨Ce fr s.lf,Ae s.hp,fun t=>t∈s.live⟩
theorem zj (fr:List (Nat×AV)) (s:LS) (r:Rec):K6 fr (s.step r.o r.id r.q r.g r.gv)=r.ap (K6 fr s):=by
 unfold K6 Rec.ap LS.step
 simp only[FZ.mk.injEq]
 refine⟨?_,N1 _ _ _,Rr _ _ _⟩
 funext t;exact Re fr r.o _ s.lf t
def Ci (p:Nat→Bool):Nat→List Rec→FZ→FZ
 | _,[],F=>F
 | i,r :: l,F=>Ci p (i+1) l (if p i then r.ap F else F)
theorem Zy (id:Nat) (q:Q) (h h':Nat→Option Ob) (x:Nat) (e:h x=h' x):Fa id q h x=Fa id q h' x:=by
 unfold Fa Er
 cases q.mo with
 | some t=>simp only;split<;>first | rfl | exact e
 | none =>
 simp only
 cases q.upd with
 | none=>cases q.new with
  | none=>exact e
  | some o=>simp only;split<;>first | rfl | exact e
 | some y=>cases q.new with
  | none=>simp only;split<;>first | rfl | exact e
  | some o=>simp only;split<;>first | rfl | (split<;>first | rfl | exact e)
theorem Lg (r:Rec) (h:Nat→Option Ob) (x:Nat) (hx:x ∉ r.wr):Fa r.id r.q h x=h x:=by
 unfold Rec.wr at hx
 unfold Fa Er
 cases hm:r.q.mo with
 | some t =>
  simp only[hm,List.mem_append,not_or,List.mem_map,not_exists,not_and]at hx ⊢
  cases hl:Ae t.ups x with
  | none=>rfl
  | some o=>exact absurd rfl (hx.1 _ (U4 hl))
 | none =>
 simp only[hm,List.mem_append,not_or]at hx
 simp only
 obtain⟨h1,h2,h3⟩:=hx
 cases hu:r.q.upd with
 | none =>
  simp only
  cases hn:r.q.new with
  | none=>rfl
  | some o =>
   simp only
   rw[if_neg]
   intro e
   apply h3
   simp[hn,e]
 | some y =>
  simp only
  rw[hu]at h1
  rw[if_neg (fun e=>h1 (by rw[e];simp))]
  cases hn:r.q.new with
  | none=>rfl
  | some o =>
   simp only
   rw[if_neg]
   intro e
   apply h3
   simp[hn,e]
theorem Ln (r:Rec) (L:Nat→Prop) (x:Nat) (hx:x ∉ r.wr):G9 r.id r.q L x=L x:=by
 unfold Rec.wr at hx
 unfold G9
 cases hm:r.q.mo with
 | some t =>
  simp only[hm,List.mem_append,not_or]at hx ⊢
  exact propext ⟨fun h=>h.elim (fun h=>h.1) (fun h=>absurd h hx.2.2),fun h=>.inl ⟨h,hx.2.1⟩⟩
 | none =>
 simp only[hm,List.mem_append,not_or]at hx
 simp only
 obtain⟨h1,h2,h3⟩:=hx
 apply propext
 constructor
 ·rintro(⟨h,_⟩ | ⟨h,e⟩)
  ·exact h
  ·exact absurd (by simp[h,e]) h3
 ·intro h
  refine .inl ⟨h,fun e=>?_⟩
  rw[e]at h2
  simp at h2
theorem bg (id:Nat) (q:Q) (L L':Nat→Prop) (x:Nat) (e:L x=L' x):G9 id q L x=G9 id q L' x:=by
 unfold G9;rw[e]
theorem o6 {a b:List Nat} (h:M6 a b=false):∀ x∈a,x ∉ b:=by
 unfold M6 at h
 intro x hx hb
 rw[List.any_eq_false]at h
 exact h x hx (by simpa using hb)
theorem ap_comm {x y:Rec} (F:FZ) (hd:∀ t,x.o.dst=some t→y.o.dst≠some t) (hw:M6 x.wr y.wr=false):x.ap (y.ap F)=y.ap (x.ap F):=by
 have m:=o6 hw
 unfold Rec.ap
 simp only[FZ.mk.injEq]
 refine⟨?_,?_,?_⟩
 ·funext t
  unfold R5
  by_cases h1:x.o.dst=some t
  ·rw[if_pos h1,if_neg (hd t h1),if_pos h1]
  ·rw[if_neg h1]
   by_cases h2:y.o.dst=some t
   ·rw[if_pos h2,if_pos h2]
   ·rw[if_neg h2,if_neg h2,if_neg h1]
 ·funext t
  by_cases h1:t∈x.wr
  ·rw[Lg y _ t (m t h1)]
   exact Zy _ _ _ _ t (Lg y _ t (m t h1))
  ·rw[Lg x _ t h1]
   exact(Zy _ _ _ _ t (Lg x _ t h1)).symm
 ·funext t
  by_cases h1:t∈x.wr
  ·rw[Ln y _ t (m t h1)]
   exact bg _ _ _ _ t (Ln y _ t (m t h1))
  ·rw[Ln x _ t h1]
   exact(bg _ _ _ _ t (Ln x _ t h1)).symm
theorem ek:∀ (rs:List Rec) (k:Nat) (p:Nat→Bool) (i:Nat) (r:Rec) (F:FZ),k≤i→rs[i - k]?=some r→p i=false →
  (∀ j y,k≤j→rs[j - k]?=some y→i < j→p j=true→∀ F,y.ap (r.ap F)=r.ap (y.ap F)) →
  Ci (fun n=>p n || n==i) k rs F=r.ap (Ci p k rs F)
 | [],k,p,i,r,F,_,h,_,_=>by simp at h
 | x :: l,k,p,i,r,F,hk,h,hp,hc=>by
  simp only[Ci]
  by_cases hki:k=i
  ·subst hki
   simp only[Nat.sub_self,List.getElem?_cons_zero,Option.some.injEq]at h
   subst h
   simp only[hp,Bool.false_or,beq_self_eq_true,if_true,Bool.false_eq_true,if_false]
   -- the rest does not see it
   have rest:∀ (l':List Rec) (k':Nat) (F:FZ),k < k'→(∀ j y,k'≤j→l'[j - k']?=some y→p j=true→∀ F,y.ap (x.ap F)=x.ap (y.ap F)) →
     Ci (fun n=>p n || n==k) k' l' (x.ap F)=x.ap (Ci p k' l' F):=by
    intro l'
    induction l' with
    | nil=>intro k' F _ _;rfl
    | cons y l' ih =>
     intro k' F hlt hc'
     simp only[Ci]
     have hne:(k'==k)=false:=by simp;omega
     simp only[hne,Bool.or_false]
     cases hpk:p k'
     ·simp only[Bool.false_eq_true,if_false]
      exact ih (k'+1) F (by omega) (fun j z hj hz hpj=>hc' j z (by omega) (by rw[show j - k'=(j - (k'+1))+1 by omega,List.getElem?_cons_succ];exact hz) hpj)
     ·simp only[if_true]
      rw[hc' k' y (Nat.le_refl _) (by simp) hpk F]
      exact ih (k'+1) (y.ap F) (by omega) (fun j z hj hz hpj=>hc' j z (by omega) (by rw[show j - k'=(j - (k'+1))+1 by omega,List.getElem?_cons_succ];exact hz) hpj)
   exact rest l (k+1) F (by omega) (fun j y hj hy hpj=>hc j y (by omega) (by rw[show j - k=(j - (k+1))+1 by omega,List.getElem?_cons_succ];exact hy) (by omega) hpj)
  ·have hne:(k==i)=false:=by simpa using hki
   simp only[hne,Bool.or_false]
   exact ek l (k+1) p i r _ (by omega) (by rw[show i - k=(i - (k+1))+1 by omega,List.getElem?_cons_succ]at h;exact h) hp
    (fun j y hj hy hij hpj=>hc j y (by omega) (by rw[show j - k=(j - (k+1))+1 by omega,List.getElem?_cons_succ];exact hy) hij hpj)
theorem Ni (sel:FZ→FZ→Prop) (h1:∀ (r:Rec) (F F':FZ),sel F F'→sel (r.ap F) (r.ap F')):∀ (rs:List Rec) (k:Nat) (p p':Nat→Bool) (F F':FZ),sel F F' →
  (∀ j y,k≤j→rs[j - k]?=some y→p j≠p' j→(∀ F F',sel F F'→sel (y.ap F) F')∧(∀ F F',sel F F'→sel F (y.ap F')))→sel (Ci p k rs F) (Ci p' k rs F')
 | [],_,_,_,_,_,h,_=>h
 | x :: l,k,p,p',F,F',h,hc=>by
  simp only[Ci]
  refine Ni sel h1 l (k+1) p p' _ _ ?_ (fun j y hj hy hne=>hc j y (by omega) (by rw[show j - k=(j - (k+1))+1 by omega,List.getElem?_cons_succ];exact hy) hne)
  cases hp:p k<;>cases hp':p' k<;>simp only[Bool.false_eq_true,if_false,if_true]
  ·exact h
  ·exact(hc k x (Nat.le_refl _) (by simp) (by rw[hp,hp'];simp)).2 F F' h
  ·exact(hc k x (Nat.le_refl _) (by simp) (by rw[hp,hp'];simp)).1 F F' h
  ·exact h1 x F F' h
end Go.Av
namespace Go.Base
open Go.RowKit
def Xp (l:List Oper):Bool:=(List.range l.length).all fun i=>((l[i]?).map fun o=>o.after.toList.all fun e=>!Region.binds .any e || decide (e.on < i)).getD true
theorem dh {p q:Nat→Bool}:∀ (l:List Nat),(∀ x∈l,q x=true→p x=true)→(∃ x∈l,p x=true∧q x=false)→l.countP q < l.countP p
 | [],_,⟨x,h,_⟩=>by cases h
 | y :: l,h,⟨x,hx,hp,hq⟩=>by
  have hle:l.countP q≤l.countP p:=List.countP_mono_left fun z hz=>h z (by simp[hz])
  rw[List.countP_cons,List.countP_cons]
  rcases List.mem_cons.1 hx with rfl | hx
  ·rw[hp,hq];simp;omega
  ·have:=dh l (fun z hz=>h z (by simp[hz])) ⟨x,hx,hp,hq⟩
   have hy:=h y (by simp)
   cases hqy:q y
   ·simp;omega
   ·rw[hy hqy];simp;omega
theorem Pd {l:List Oper} {listed:Array Bool} {k:Nat} {o:Oper} (hs:listed.size=l.length) (hk:l[k]?=some o) :
  k∈Region.ready .any l.toArray listed↔listed.getD k false=false∧∀ e∈o.after,Region.binds .any e=true→listed.getD e.on false=true:=by
 have hlt:k < l.length:=(List.getElem?_eq_some_iff.1 hk).1
 unfold Region.ready
 rw[List.mem_filter,List.mem_range,List.getElem?_toArray,hk]
 simp only[List.size_toArray,hlt,true_and,Option.map_some,Option.getD_some,Bool.and_eq_true,Bool.not_eq_true']
 have h1:listed.getD k true=listed.getD k false:=by simp[Array.getD,hs,hlt]
 rw[h1,Array.all_eq_true']
 constructor
 ·rintro⟨a,b⟩
  refine⟨a,fun e he hb=>?_⟩
  have:=b e he
  rw[hb]at this
  simpa using this
 ·rintro⟨a,b⟩
  refine⟨a,fun e he=>?_⟩
  cases hb:Region.binds .any e
  ·simp
  ·simp[b e he hb]
theorem al {l:List Oper} (h:Xp l=true) {k:Nat} {o:Oper} (hk:l[k]?=some o):∀ e∈o.after,Region.binds .any e=true→e.on < k:=by
 have hlt:k < l.length:=(List.getElem?_eq_some_iff.1 hk).1
 unfold Xp at h
 rw[List.all_eq_true]at h
 have:=h k (List.mem_range.2 hlt)
 rw[hk]at this
 simp only[Option.map_some,Option.getD_some,List.all_eq_true,Bool.or_eq_true,Bool.not_eq_true',decide_eq_true_eq]at this
 intro e he hb
 rcases this e (Array.mem_toList_iff.2 he) with h2 | h2
 ·rw[hb]at h2;cases h2
 ·exact h2
theorem un {l:List Oper} {listed:Array Bool} (hb:Xp l=true) (hs:listed.size=l.length) (hr:Region.ready .any l.toArray listed=[]) :
  ∀ n k,k≤n→k < l.length→listed.getD k false=true:=by
 intro n
 induction n with
 | zero =>
  intro k hk hl
  obtain rfl:k=0:=by omega
  cases h:listed.getD 0 false
  ·have ho:l[0]?=some l[0]:=List.getElem?_eq_getElem hl
   have:=(Pd hs ho).2 ⟨h,fun e he hbb=>absurd (al hb ho e he hbb) (by omega)⟩
   rw[hr]at this
   cases this
  ·rfl
 | succ n ih =>
  intro k hk hl
  cases h:listed.getD k false
  ·have ho:l[k]?=some l[k]:=List.getElem?_eq_getElem hl
   have:=(Pd hs ho).2 ⟨h,fun e he hbb=>ih e.on (by have:=al hb ho e he hbb;omega) (by have:=al hb ho e he hbb;omega)⟩
   rw[hr]at this
   cases this
  ·rfl
theorem Om (listed:Array Bool) (i k:Nat) (b:Bool):(listed.setIfInBounds i true).getD k b=if i=k∧k < listed.size then true else listed.getD k b:=by
 simp only[Array.getD_eq_getD_getElem?]
 rw[Array.getElem?_setIfInBounds]
 by_cases h:i=k
 ·subst h
  by_cases h2:i < listed.size
  ·simp[h2]
  ·simp[h2]
 ·simp[h]
end Go.Base
namespace Go.Av
open Go.RowKit Go.Base
variable {P:Program} {γ γ':G} {w w' w0:World} {own:Nat→Prop} {hp:Nat→Option Ob} {live:Nat→Prop} {ops:List Oper} {N:Nat} {μ0:G0}
theorem O1 {places:Nat→Option (Nat×Nat)} {e e':Operand→AV}:∀ (l:List (Nat×Operand)) (cs:List AV),(∀ p∈l,e p.2=e' p.2)→Kq places e l cs=Kq places e' l cs
 | [],_,_=>rfl
 | (i,x) :: l,cs,h=>by
  simp only[Kq]
  rw[h (i,x) (by simp)]
  split
  ·split
   ·exact O1 l _ fun p hp=>h p (by simp[hp])
   ·rfl
  ·rfl
theorem Sg {e e':Operand→AV} {sz:Nat}:∀ (l:List (Nat×Operand)) (i:Nat),(∀ p∈l,e p.2=e' p.2)→Ks e sz i l=Ks e' sz i l
 | [],_,_=>rfl
 | (j,x) :: l,i,h=>by
  simp only[Ks]
  rw[h (j,x) (by simp),Sg l (i+1) fun p hp=>h p (by simp[hp])]
theorem U9 {e e':Operand→AV} {x:Option Operand} (h:∀ y,x=some y→e y=e' y):Gj e x=Gj e' x:=by
 cases x with
 | none=>rfl
 | some y=>simp only[Gj,h y rfl]
theorem Ei {e e':Operand→AV} {l:List Operand} (h:∀ y∈l,e y=e' y):l.map e=l.map e':=List.map_congr_left h
theorem p8 {t:TypeId} {h h':Nat→Option Ob} {p:AV} (hh:∀ x∈D1 p,h x=h' x):Nb P t h p=Nb P t h' p:=by
 unfold Nb
 split
 ·rw[hh _ (by simp[D1])]
 ·rfl
 ·rw[hh _ (by simp[D1])]
 ·rw[hh _ (by simp[D1])]
 ·rfl
theorem jy {t:TypeId} {h h':Nat→Option Ob} {p x:AV} (hh:∀ y∈D1 p,h y=h' y):Hy P t h p x=Hy P t h' p x:=by
 unfold Hy
 split
 ·rw[hh _ (by simp[D1])]
 ·rw[hh _ (by simp[D1])]
 ·rw[hh _ (by simp[D1])]
 ·rfl
theorem eo {t:TypeId} {h h':Nat→Option Ob} {m x:AV} {b:Bool} (hh:∀ y∈D1 m,h y=h' y):Kl P t h m x b=Kl P t h' m x b:=by
 unfold Kl
 congr 1
 funext p
 obtain⟨k,e,b⟩:=p
 simp only
 congr 1
 funext p
 obtain⟨s,kp⟩:=p
 simp only
 split
 ·rw[hh _ (by simp[D1])]
 ·rfl
theorem Vy {t:TypeId} {h h':Nat→Option Ob} {m x z:AV} (hh:∀ y∈D1 m,h y=h' y):F9 P t h m x z=F9 P t h' m x z:=by
 unfold F9
 congr 1
 funext p
 obtain⟨k,e,b⟩:=p
 simp only
 congr 1
 funext p
 obtain⟨s,kp⟩:=p
 simp only
 congr 1
 funext p
 obtain⟨v,vp⟩:=p
 simp only
 split
 ·rw[hh _ (by simp[D1])]
 ·rfl
theorem o9 {h h':Nat→Option Ob} {args:List AV} {ts:List TypeId} (hh:∀ y∈args.flatMap D1,h y=h' y):Kr P h args ts=Kr P h' args ts:=by
 unfold Kr
 split
 ·congr 1
  funext el
  congr 1
  funext p
  obtain⟨z,m,g⟩:=p
  simp only
  split
  ·rw[hh _ (by simp[D1])]
  ·rfl
 ·rfl
theorem zz {o:Op} {e e':Operand→AV} {h h':Nat→Option Ob} {id:Nat} (he:∀ x∈o.operands,e x=e' x) (hh:∀ x∈Ld o e,h x=h' x):E5 P o e h id=E5 P o e' h' id:=by
 cases o with
 | move x=>simp only[E5];rw[he x (by simp[Op.operands])]
 | assign x=>simp only[E5];rw[he x (by simp[Op.operands])]
 | pick c a b=>simp only[E5];rw[he c (by simp[Op.operands]),he a (by simp[Op.operands]),he b (by simp[Op.operands])]
 | alloc t=>rfl
 | box t x=>simp only[E5];rw[he x (by simp[Op.operands])]
 | build t parts =>
  simp only[E5,S7]
  have hp:∀ p∈parts.toList,e p.2=e' p.2:=fun p hp=>he p.2 (by simp[Op.operands];exact⟨p.1,by simpa using hp⟩)
  congr 2
  funext z
  split
  ·split
   ·rw[O1 _ _ hp]
   ·rfl
  ·split
   ·rw[O1 _ _ hp]
   ·rfl
  ·rfl
 | buildSlice t len parts =>
  simp only[E5,Jh]
  have hp:∀ p∈parts.toList,e p.2=e' p.2:=fun p hp=>he p.2 (by simp[Op.operands];exact⟨p.1,by simpa using hp⟩)
  split
  ·rw[Sg _ _ hp]
  ·rfl
 | load t a =>
  simp only[E5]
  have hh':∀ x∈D1 (e a),h x=h' x:=fun x hx=>hh x hx
  rw[p8 hh',he a (by simp[Op.operands])]
 | fieldAddr t x i=>simp only[E5];rw[he x (by simp[Op.operands])]
 | field t x i=>simp only[E5];rw[he x (by simp[Op.operands])]
 | indexAddr t x i=>simp only[E5];rw[he x (by simp[Op.operands]),he i (by simp[Op.operands])]
 | index t x i=>simp only[E5];rw[he x (by simp[Op.operands]),he i (by simp[Op.operands])]
 | slice t x lo hi mx =>
  cases mx with
  | none=>simp only[E5];rw[he x (by simp[Op.operands]),U9 (x:=lo) fun y hy=>he y (by simp[Op.operands,hy]),U9 (x:=hi) fun y hy=>he y (by simp[Op.operands,hy])]
  | some m=>rfl
 | extract x i=>simp only[E5];rw[he x (by simp[Op.operands])]
 | binOp op t x y t2=>simp only[E5];rw[he x (by simp[Op.operands]),he y (by simp[Op.operands])]
 | unOp op t x=>simp only[E5];rw[he x (by simp[Op.operands])]
 | convert s t x=>simp only[E5];rw[he x (by simp[Op.operands])]
 | makeFunc fn first cap =>
  simp only[E5]
  rw[Ei (l:=first.toList) fun y hy=>he y (by simp[Op.operands];exact .inl (by simpa using hy)),Ei (l:=cap.toList) fun y hy=>he y (by simp[Op.operands];exact .inr (by simpa using hy))]
 | nilCheck x=>simp only[E5];rw[he x (by simp[Op.operands])]
 | makeSlice t l c=>simp only[E5];rw[he l (by simp[Op.operands]),he c (by simp[Op.operands])]
 | makeMap t r=>cases r<;>rfl
 | lookup t m x b =>
  simp only[E5]
  have hh':∀ y∈D1 (e m),h y=h' y:=fun y hy=>hh y hy
  rw[eo hh',he m (by simp[Op.operands]),he x (by simp[Op.operands])]
 | mapUpdate t m x y =>
  simp only[E5]
  have hh':∀ y∈D1 (e m),h y=h' y:=fun y hy=>hh y hy
  rw[Vy hh',he m (by simp[Op.operands]),he x (by simp[Op.operands]),he y (by simp[Op.operands])]
 | store t a x =>
  simp only[E5]
  have hh':∀ y∈D1 (e a),h y=h' y:=fun y hy=>hh y hy
  rw[jy hh',he a (by simp[Op.operands]),he x (by simp[Op.operands])]
 | call c =>
  obtain⟨callee,args,ts⟩:=c
  cases callee with
  | builtin b =>
   have ha:args.toList.map e=args.toList.map e':=Ei fun y hy=>he y (by simp[Op.operands,Call.operands];simpa using hy)
   cases b<;>simp only[E5]<;>try rfl
   all_goals try rw[ha]
   have hh':∀ y∈(args.toList.map e').flatMap D1,h y=h' y:=fun y hy=>hh y (by simp only[Ld];rw[ha];exact hy)
   rw[o9 hh']
  | _=>rfl
 | _=>rfl
theorem cv {o:Oper} {t:Nat} (h:Operand.tmp t∈o.op.operands):t∈Ha ops o:=by
 unfold Ha Oper.looksAt
 rw[List.mem_append]
 refine .inl (List.mem_filterMap.2 ⟨.tmp t,by simpa using h,rfl⟩)
theorem zo {E E':Nat→LE} {o:Oper} (h:∀ t∈Ha ops o,E t=E' t):∀ x∈o.op.operands,Cu E x=Cu E' x:=fun x hx=>by
 cases x with
 | tmp t=>simp only[Cu];rw[h t (cv hx)]
 | _=>rfl
theorem uu {h h':Nat→Option Ob} {id:Nat} {args:List AV} {ts:List TypeId} (hh:∀ y∈args.flatMap D1,h y=h' y):Oh P h id args ts=Oh P h' id args ts:=by
 unfold Oh
 split
 ·rename_i s x t u
  split
  ·congr 1;funext el;congr 1;funext p
   obtain⟨z,m,g⟩:=p
   dsimp only
   cases s with
   | vec d a b=>dsimp only;rw[hh d (by simp[D1])]
   | _=>rfl
  ·split
   ·congr 1;funext el
    split
    ·unfold Kj
     cases s with
     | vec d a b=>dsimp only;rw[hh d (by simp[D1])]
     | _=>rfl
    ·rfl
   ·rfl
 ·rfl
theorem Q1 {h h':Nat→Option Ob} {x:AV} (hh:∀ y∈Lu x,h y=h' y):Jq h x=Jq h' x:=by
 cases x with
 | arr id sz n=>simp only[Jq];rw[hh id (by simp[Lu])]
 | vec id sz n=>simp only[Jq];rw[hh id (by simp[Lu])]
 | _=>rfl
theorem Vn {h h':Nat→Option Ob}:∀ {l:List AV},(∀ y∈l.flatMap Lu,h y=h' y)→Kn h l=Kn h' l
 | [],_=>rfl
 | x :: l,hh=>by
  simp only[Kn]
  rw[Q1 fun y hy=>hh y (by simp only[List.flatMap_cons,List.mem_append];exact .inl hy),Vn fun y hy=>hh y (by simp only[List.flatMap_cons,List.mem_append];exact .inr hy)]
theorem p7 {h h':Nat→Option Ob} {x:AV} (hh:∀ y∈D1 x,h y=h' y):Jo h x=Jo h' x:=by
 cases x with
 | arr id sz n=>simp only[Jo];exact Q1 fun y hy=>hh y (by simpa [D1,Lu] using hy)
 | vec id sz n=>simp only[Jo];exact Q1 fun y hy=>hh y (by simpa [D1,Lu] using hy)
 | agg l=>simp only[Jo];rw[Vn fun y hy=>hh y (by simpa only[D1] using hy)]
 | _=>rfl
theorem Mu {h h':Nat→Option Ob}:∀ {l:List AV},(∀ y∈l.flatMap Lu,h y=h' y)→Es h l=Es h' l
 | [],_=>rfl
 | x :: l,hh=>by
  have ih:=Mu (l:=l) fun y hy=>hh y (by simp only[List.flatMap_cons,List.mem_append];exact .inr hy)
  cases x with
  | arr id sz n=>simp only[Es];rw[hh id (by simp[Lu]),ih]
  | _=>exact ih
theorem S9 {h h':Nat→Option Ob}:∀ {l:List AV},(∀ y∈l.flatMap D1,h y=h' y)→Hc h l=Hc h' l
 | [],_=>rfl
 | x :: l,hh=>by
  have ih:=S9 (l:=l) fun y hy=>hh y (by simp only[List.flatMap_cons,List.mem_append];exact .inr hy)
  cases x with
  | arr id sz n=>simp only[Hc];rw[Mu (l:=[.arr id sz n]) fun y hy=>hh y (by simp[Lu]at hy;simp[D1,hy]),ih]
  | agg c=>simp only[Hc];rw[Mu (l:=c) fun y hy=>hh y (by simp only[List.flatMap_cons,List.mem_append,D1];exact .inl hy),ih]
  | _=>exact ih
theorem V9 {h h':Nat→Option Ob}:∀ {l:List AV},(∀ y∈l.flatMap D1,h y=h' y)→L6 h l=L6 h' l
 | [],_=>rfl
 | x :: l,hh=>by
  simp only[L6]
  rw[p7 fun y hy=>hh y (by simp only[List.flatMap_cons,List.mem_append];exact .inl hy),V9 fun y hy=>hh y (by simp only[List.flatMap_cons,List.mem_append];exact .inr hy)]
theorem w8 {cs:Cs} {o:Oper} {e e':Operand→AV} {h h':Nat→Option Ob} {id:Nat} (he:∀ x∈o.op.operands,e x=e' x) (hh:∀ x∈Gu cs o.op id e,h x=h' x):D9 P cs o e h id=D9 P cs o e' h' id:=by
 unfold D9
 have hh0:∀ x∈Ld o.op e,h x=h' x:=fun x hx=>hh x (List.mem_append_left _ hx)
 split
 ·rename_i hc
  cases ht:Yb cs.o id with
  | some t =>
   have hh1:∀ x∈t.ids,h x=h' x:=fun x hx=>hh x (List.mem_append_right _ (by rw[if_pos hc,ht];exact hx))
   have hcal:Qg e o.op=Qg e' o.op:=by
    unfold Qg
    split
    ·rename_i f args ts ho
     rw[ho]at he
     have hm:args.toList.map e=args.toList.map e':=Ei fun y hy=>he y (by simp[Op.operands,Call.operands];exact .inr (by simpa using hy))
     rw[hm]
    ·rename_i tt args ts ho
     rw[ho]at he
     have hm:args.toList.map e=args.toList.map e':=Ei fun y hy=>he y (by simp[Op.operands,Call.operands];exact .inr (by simpa using hy))
     rw[hm,he (.tmp tt) (by simp[Op.operands,Call.operands])]
    ·rfl
   have hok:U2 h id t=U2 h' id t:=by
    unfold U2
    congr 1
    rw[Bool.eq_iff_iff,List.all_eq_true,List.all_eq_true]
    exact⟨fun k x hx=>by rw[← hh1 x hx];exact k x hx,fun k x hx=>by rw[hh1 x hx];exact k x hx⟩
   have hids:(t.ids.map fun i=>(i,h i))=t.ids.map fun i=>(i,h' i):=List.map_congr_left fun x hx=>by rw[hh1 x hx]
   simp only[hcal,hok,hids]
  | none =>
  simp only
  have:Nv e h o.op=Nv e' h' o.op:=by
   unfold Nv
   split
   ·rename_i f args ts ho
    rw[ho]at he hh0
    have hm:args.toList.map e=args.toList.map e':=Ei fun y hy=>he y (by simp[Op.operands,Call.operands];exact .inr (by simpa using hy))
    rw[V9 (h:=h) (h':=h') (fun y hy=>hh0 y hy),S9 (h:=h) (h':=h') (fun y hy=>hh0 y hy),hm]
   ·rfl
  rw[this]
 ·have hrow:Mt P id e o.op=Mt P id e' o.op:=by
   unfold Mt
   split
   ·rename_i args ts ho
    rw[ho]at he
    rw[Ei (e:=e) (e':=e') (l:=args.toList) fun y hy=>he y (by simp[Op.operands,Call.operands];simpa using hy)]
   ·rfl
  have hvec:J4 P h id e o.op=J4 P h' id e' o.op:=by
   unfold J4
   split
   ·rename_i args ts ho
    rw[ho]at he hh0
    have hm:args.toList.map e=args.toList.map e':=Ei fun y hy=>he y (by simp[Op.operands,Call.operands];simpa using hy)
    rw[← hm]
    exact uu fun y hy=>hh0 y hy
   ·rfl
  rw[zz he hh0,hrow,hvec]
theorem ey {o:Op} {e e':Operand→AV} (he:∀ x∈o.operands,e x=e' x):Ld o e=Ld o e':=by
 unfold Ld
 split
 ·rw[he _ (by simp[Op.operands])]
 ·rename_i t a x;rw[he a (by simp[Op.operands])]
 ·rename_i t m x b;rw[he m (by simp[Op.operands])]
 ·rename_i t m x y;rw[he m (by simp[Op.operands])]
 ·rename_i args ts
  rw[Ei fun y hy=>he y (by simp[Op.operands,Call.operands];simpa using hy)]
 ·rename_i args ts
  rw[Ei fun y hy=>he y (by simp[Op.operands,Call.operands];simpa using hy)]
 ·rename_i c args ts
  rw[Ei fun y hy=>he y (by simp[Op.operands,Call.operands];exact .inr (by simpa using hy))]
 ·rfl
theorem ca {cs:Cs} {o:Op} {id:Nat} {e e':Operand→AV} (he:∀ x∈o.operands,e x=e' x):Gu cs o id e=Gu cs o id e':=by
 unfold Gu;rw[ey he]
theorem Jp {E E':Nat→LE} {g:Option (Nat×Bool)} {x:Operand} (h:∀ t,x=.tmp t→E t=E' t):Gl E g x=Gl E' g x:=by
 cases x with
 | tmp t=>simp only[Gl];rw[h t rfl]
 | _=>rfl
theorem Vk {E E':Nat→LE} {g:Option (Nat×Bool)} {c:Operand} {b:Bool} {x:Operand} (h:∀ t,x=.tmp t→E t=E' t):R9 ops E g c b x=R9 ops E' g c b x:=by
 unfold R9
 rw[Jp h]
 cases x with
 | tmp t=>simp only;rw[h t rfl]
 | _=>rfl
theorem nt {E E':Nat→LE} {o:Oper} (h:∀ t∈Ha ops o,E t=E' t):Ep ops E o=Ep ops E' o:=by
 have ht:∀ x∈o.op.operands,∀ t,x=.tmp t→E t=E' t:=fun x hx t e=>h t (cv (by rw[← e];exact hx))
 unfold Ep
 split
 ·rename_i c a b ho
  rw[ho]at ht
  rw[Jp (ht c (by simp[Op.operands])),Vk (ht a (by simp[Op.operands])),Vk (ht b (by simp[Op.operands]))]
 ·rw[Bool.eq_iff_iff,List.all_eq_true,List.all_eq_true]
  constructor
  ·intro hh x hx;rw[← Jp (ht x (by simpa using hx))];exact hh x hx
  ·intro hh x hx;rw[Jp (ht x (by simpa using hx))];exact hh x hx
theorem et {E E':Nat→LE} {o:Oper} {g:Nat×Bool} (hg:o.guard=some g) (h:∀ t∈Ha ops o,E t=E' t):Fu ops E g=Fu ops E' g:=by
 unfold Fu
 cases ho:ops[g.1]? with
 | none=>rfl
 | some oj =>
  simp only
  cases ht:oj.dst with
  | none=>rfl
  | some t =>
   simp only
   rw[h t]
   unfold Ha Oper.looksAt
   rw[List.mem_append]
   refine .inr ?_
   rw[hg]
   simp only
   have e:ops.toArray[g.1]?=some oj:=by simpa using ho
   rw[e,Option.bind_some,ht]
   simp
structure Good (P:Program) (cs:Cs) (ops:List Oper) (nx:Nat) (F:FZ) (j:Nat) (r:Rec):Prop where
 op:ops[j]?=some r.o
 id:r.id=nx+16 * j
 q:r.q=D9 P cs r.o (Cu F.E) F.hp r.id
 rdOk:Ep ops F.E r.o=true
 ok:r.q.ok=true
 kill:∀ tk,r.q.kill=some tk→F.live tk
 rd:r.rd=Gu cs r.o.op r.id (Cu F.E)
 mo:∀ t,r.q.mo=some t→∀ s∈t.lv,F.live s
 g0:r.o.guard=none→r.g=none∧r.gv=true
 g1:∀ g,r.o.guard=some g→r.g=some g∧g.1 < j∧r.q.plain=true∧Fu ops F.E g=some r.gv
theorem R3 (p:Nat→Bool):∀ (rs:List Rec) (i:Nat) (F:FZ),(∀ n,i≤n→p n=false)→Ci p i rs F=F
 | [],_,_,_=>rfl
 | r :: l,i,F,h=>by
  simp only[Ci,h i (Nat.le_refl _),Bool.false_eq_true,if_false]
  exact R3 p l (i+1) F fun n hn=>h n (by omega)
theorem Vt {p p':Nat→Bool}:∀ (rs:List Rec) (i:Nat) (F:FZ),(∀ n,i≤n→n < i+rs.length→p n=p' n)→Ci p i rs F=Ci p' i rs F
 | [],_,_,_=>rfl
 | r :: l,i,F,h=>by
  simp only[Ci]
  rw[h i (Nat.le_refl _) (by simp)]
  exact Vt l (i+1) _ fun n hn hl=>h n (by omega) (by simp;omega)
theorem ee {cs:Cs} {fr:List (Nat×AV)} {nx:Nat}:∀ (l:List Oper) (i:Nat) (s s':LS) (rs:List Rec),(∀ k,l[k]?=ops[i+k]?)→Wc P cs ops fr nx i l s=some (rs,s') →
  rs.length=l.length∧(∀ k r,rs[k]?=some r→Good P cs ops nx (Ci (fun n=>decide (n < i+k)) i rs (K6 fr s)) (i+k) r)∧K6 fr s'=Ci (fun _=>true) i rs (K6 fr s)
 | [],i,s,s',rs,_,h=>by
  simp only[Wc,Option.some.injEq,Prod.mk.injEq]at h
  obtain⟨rfl,rfl⟩:=h
  exact⟨rfl,fun k r hk=>by simp at hk,rfl⟩
 | o :: l,i,s,s',rs,hops,h=>by
  have hi:ops[i]?=some o:=by have:=hops 0;simpa using this.symm
  have hops':∀ k,l[k]?=ops[i+1+k]?:=fun k=>by have:=hops (k+1);rw[show i+1+k=i+(k+1) by omega];simpa using this
  -- one operation,then the rest
  have step:∀ (g:Option (Nat×Bool)) (G':Bool) (q:Q),q=D9 P cs o (Cu (Ce fr s.lf)) (Ae s.hp) (nx+16 * i)→Ep ops (Ce fr s.lf) o=true→q.ok=true→Mk q s.live=true →
    (o.guard=none→g=none∧G'=true)→(∀ g',o.guard=some g'→g=some g'∧g'.1 < i∧q.plain=true∧Fu ops (Ce fr s.lf) g'=some G') →
    (Wc P cs ops fr nx (i+1) l (s.step o (nx+16 * i) q g G')).map (fun r=>(⟨o,nx+16 * i,q,g,G',Gu cs o.op (nx+16 * i) (Cu (Ce fr s.lf))⟩ :: r.1,r.2))=some (rs,s') →
    rs.length=(o :: l).length∧(∀ k r,rs[k]?=some r→Good P cs ops nx (Ci (fun n=>decide (n < i+k)) i rs (K6 fr s)) (i+k) r)∧K6 fr s'=Ci (fun _=>true) i rs (K6 fr s):=by
   intro g G' q hq h1 h2 h3 h4 h5 hm
   rw[Option.map_eq_some_iff]at hm
   obtain⟨⟨rs',s2⟩,hr,he⟩:=hm
   simp only[Prod.mk.injEq]at he
   obtain⟨rfl,rfl⟩:=he
   obtain⟨a,b,c⟩:=ee l (i+1) _ _ rs' hops' hr
   let r0:Rec:=⟨o,nx+16 * i,q,g,G',Gu cs o.op (nx+16 * i) (Cu (Ce fr s.lf))⟩
   have hs:K6 fr (s.step o (nx+16 * i) q g G')=r0.ap (K6 fr s):=zj fr s r0
   refine⟨by simp[a],fun k r hk=>?_,by rw[c,hs];rfl⟩
   cases k with
   | zero =>
    simp only[List.getElem?_cons_zero,Option.some.injEq]at hk
    subst hk
    rw[R3 _ _ _ _ (fun n hn=>by simp;omega)]
    exact⟨hi,rfl,hq,h1,h2,Vf h3,rfl,dv h3,h4,h5⟩
   | succ k =>
    simp only[List.getElem?_cons_succ]at hk
    have:=b k r hk
    rw[hs]at this
    have e:i+1+k=i+(k+1):=by omega
    rw[e]at this
    have e2:Ci (fun n=>decide (n < i+(k+1))) i (r0 :: rs') (K6 fr s)=Ci (fun n=>decide (n < i+(k+1))) (i+1) rs' (r0.ap (K6 fr s)):=by
     simp only[Ci]
     rw[if_pos (by simp)]
    rw[e2]
    exact this
  unfold Wc at h
  split at h
  ·rename_i hc
   simp only[Bool.and_eq_true]at hc
   obtain⟨c1,c2,c3⟩:=hc
   split at h
   ·rename_i hg
    exact step none true _ rfl c1 c2 c3 (fun _=>⟨rfl,rfl⟩) (fun g' hg'=>by rw[hg]at hg';cases hg') h
   ·rename_i g hg
    split at h
    ·rename_i hp
     simp only[Bool.and_eq_true,decide_eq_true_eq]at hp
     split at h
     ·rename_i G' hG
      exact step (some g) G' _ rfl c1 c2 c3 (fun hn=>by rw[hg]at hn;cases hn) (fun g' hg'=>by rw[hg]at hg';injection hg' with hg';subst hg';exact⟨rfl,hp.1,hp.2,hG⟩) h
     ·cases h
    ·cases h
  ·cases h
theorem Q5:∀ {rs:List Rec} {R:Prop},U8 rs R→(∀ r∈rs,(r.g=none→∀ p∈r.q.ob,p)∧(r.g≠none→r.gv=true→∀ p∈r.q.ob,p))∧R
 | [],_,h=>⟨(fun r hr=>by cases hr),h⟩
 | r :: l,R,h=>by
  unfold U8 at h
  cases hg:r.g with
  | none =>
   rw[hg]at h
   obtain⟨h1,h2⟩:=Rj h
   obtain⟨h3,h4⟩:=Q5 h2
   refine⟨fun x hx=>?_,h4⟩
   rcases List.mem_cons.1 hx with rfl | hx
   ·exact⟨fun _=>h1,fun hn=>absurd hg hn⟩
   ·exact h3 x hx
  | some g =>
   rw[hg]at h
   obtain⟨h1,h2⟩:=Sx h
   obtain⟨h3,h4⟩:=Q5 h2
   refine⟨fun x hx=>?_,h4⟩
   rcases List.mem_cons.1 hx with rfl | hx
   ·exact⟨(fun hn=>by rw[hg]at hn;cases hn),fun _=>h1⟩
   ·exact h3 x hx
theorem Y6:∀ (l:List Oper) (acc:List Nat),(Ez l acc).length=acc.length+l.length∧(∀ j,j < acc.length→(Ez l acc).getD j 0=acc.getD j 0) ∧
  ∀ k o,l[k]?=some o→(Ez l acc).getD (acc.length+k) 0=o.after.toList.foldl (Jw ((Ez l acc).take (acc.length+k))) 0
 | [],acc=>⟨by simp[Ez],fun _ _=>rfl,fun k o h=>by simp at h⟩
 | o :: l,acc=>by
  obtain⟨h1,h2,h3⟩:=Y6 l (acc++[o.after.toList.foldl (Jw acc) 0])
  simp only[Ez]
  simp only[List.length_append,List.length_cons,List.length_nil]at h1 h2 h3
  refine⟨by simp only[List.length_cons];omega,fun j hj=>?_,fun k x hk=>?_⟩
  ·rw[h2 j (by omega)]
   simp[List.getD,List.getElem?_append_left hj]
  ·cases k with
   | zero =>
    simp only[List.getElem?_cons_zero,Option.some.injEq]at hk
    subst hk
    rw[Nat.add_zero,h2 acc.length (by omega)]
    have e:(Ez l (acc++[o.after.toList.foldl (Jw acc) 0])).take acc.length=acc:=by
     apply List.ext_getElem?
     intro j
     rw[List.getElem?_take]
     split
     ·rename_i hj
      have:=h2 j (by omega)
      simp only[List.getD_eq_getElem?_getD]at this
      have hl:j < (Ez l (acc++[o.after.toList.foldl (Jw acc) 0])).length:=by omega
      rw[List.getElem?_eq_getElem hl,List.getElem?_eq_getElem hj]
      rw[List.getElem?_eq_getElem hl,List.getElem?_append_left hj,List.getElem?_eq_getElem hj]at this
      simpa using this
     ·rename_i hj;rw[List.getElem?_eq_none (by omega)]
    rw[e]
    simp[List.getD]
   | succ k =>
    have:=h3 k x (by simpa using hk)
    rw[show acc.length+1+k=acc.length+(k+1) by omega]at this
    exact this
theorem Si {S:Nat→Prop} {acc:List Nat} (ha:∀ j,j < acc.length→S j→∀ i,(acc.getD j 0).testBit i=true→S i):∀ (l:List Edge) (m:Nat),(∀ e∈l,Region.binds .any e=true→S e.on)→(∀ i,m.testBit i=true→S i)→∀ i,(l.foldl (Jw acc) m).testBit i=true→S i
 | [],m,_,hm,i,h=>hm i h
 | e :: l,m,he,hm,i,h=>by
  refine Si ha l _ (fun x hx=>he x (by simp[hx])) (fun k hk=>?_) i h
  unfold Jw at hk
  split at hk
  ·rename_i hb
   have hS:=he e (by simp) hb
   rw[Nat.testBit_or,Nat.testBit_or,Bool.or_eq_true,Bool.or_eq_true]at hk
   rcases hk with hk | hk | hk
   ·exact hm k hk
   ·rw[Nat.testBit_two_pow]at hk
    have:e.on=k:=by simpa using hk
    exact this ▸ hS
   ·by_cases hl:e.on < acc.length
    ·exact ha e.on hl hS k hk
    ·rw[List.getD_eq_getElem?_getD,List.getElem?_eq_none (by omega)]at hk
     simp at hk
  ·exact hm k hk
theorem Pv {S:Nat→Prop} (hS:∀ j o,ops[j]?=some o→S j→∀ e∈o.after.toList,Region.binds .any e=true→S e.on):∀ j o,ops[j]?=some o→(∀ e∈o.after.toList,Region.binds .any e=true→S e.on) →
  ∀ i,((Ez ops []).getD j 0).testBit i=true→S i:=by
 obtain⟨h1,_,h3⟩:=Y6 ops []
 simp only[List.length_nil,Nat.zero_add]at h1 h3
 have all:∀ n j,j < n→S j→∀ i,((Ez ops []).getD j 0).testBit i=true→S i:=by
  intro n
  induction n with
  | zero=>intro j hj;omega
  | succ n ih =>
   intro j hj hSj i hi
   cases ho:ops[j]? with
   | none =>
    have:ops.length≤j:=List.getElem?_eq_none_iff.1 ho
    rw[List.getD_eq_getElem?_getD,List.getElem?_eq_none (by omega)]at hi
    simp at hi
   | some o =>
    rw[h3 j o ho]at hi
    refine Si (fun k hk hSk i' hi'=>?_) _ _ (hS j o ho hSj) (fun i' h=>by simp at h) i hi
    have hkj:k < j:=by simp at hk;omega
    have:((Ez ops []).take j).getD k 0=(Ez ops []).getD k 0:=by
     simp only[List.getD_eq_getElem?_getD,List.getElem?_take,if_pos hkj]
    rw[this]at hi'
    exact ih k (by omega) hSk i' hi'
 intro j o ho he i hi
 rw[h3 j o ho]at hi
 refine Si (fun k hk hSk i' hi'=>?_) _ _ he (fun i' h=>by simp at h) i hi
 have hkj:k < j:=by simp at hk;omega
 have:((Ez ops []).take j).getD k 0=(Ez ops []).getD k 0:=by
  simp only[List.getD_eq_getElem?_getD,List.getElem?_take,if_pos hkj]
 rw[this]at hi'
 exact all (k+1) k (by omega) hSk i' hi'
theorem X8 {r:Rec} {F:FZ} {t:Nat} (h:r.o.dst≠some t):(r.ap F).E t=F.E t:=if_neg h
def fb (ops:List Oper) (hi:Nat):Bool:=(List.range ops.length).all fun j=>decide (j < hi) || (List.range hi).all fun i=>((Ez ops []).getD j 0).testBit i
def Ux (ops:List Oper) (rs:List Rec) (lo:Nat):Bool :=
 let ms:=Ez ops []
 (List.range rs.length).all fun j=>(List.range j).all fun i=>(ms.getD (lo+j) 0).testBit (lo+i) || match rs[i]?,rs[j]? with
  | some x,some y=>apart ops x y
  | _,_=>false
structure Mid (lo hi:Nat) (γ0:G) (P:Program) (cs:Cs) (own:Nat→Prop) (μ0:G0) (w0:World) (N:Nat) (ops:List Oper) (nx:Nat) (rs:List Rec) (F0:FZ) (listed:Array Bool) (a:Act) (w:World):Prop where
 lsize:listed.size=ops.length
 low:∀ j,j < lo→listed.getD j false=true
 high:∀ j,hi≤j→listed.getD j false=false
 closed:∀ j o,ops[j]?=some o→listed.getD j false=true→∀ e∈o.after.toList,Region.binds .any e=true→listed.getD e.on false=true
 st:∃ γ,LeG γ0 γ∧RL own μ0 w0 N ops (fun k=>listed.getD k false=true) (Ci (fun n=>listed.getD n false) lo rs F0).E (Ci (fun n=>listed.getD n false) lo rs F0).hp (Ci (fun n=>listed.getD n false) lo rs F0).live γ a w ∧
  ∀ id,((∃ j,j < ops.length∧listed.getD j false=false∧nx+16 * j≤id∧id < nx+16 * j+16)∨nx+16 * ops.length≤id)→γ.ι id=none∧γ.τ id=none∧(Ci (fun n=>listed.getD n false) lo rs F0).hp id=none∧¬ (Ci (fun n=>listed.getD n false) lo rs F0).live id
theorem draw_seg {lo hi:Nat} (hlo:lo≤hi) (hhi:hi≤ops.length) {γ0:G} {cs:Cs} {nx:Nat} {rs:List Rec} {F0:FZ} (hreg:M2 ops N=true) (hback:Yx ops=true) (hdraw:Ux ops rs lo=true) (hbar:fb ops hi=true) (hlen:rs.length=hi - lo)
  (hgood:∀ k r,rs[k]?=some r→Good P cs ops nx (Ci (fun n=>decide (n < lo+k)) lo rs F0) (lo+k) r) (hobs:∀ r∈rs,(r.g=none→∀ p∈r.q.ob,p)∧(r.g≠none→r.gv=true→∀ p∈r.q.ob,p)) {QQ:Exit→Act→World→Prop}
  (hQ:∀ (fuel:Nat) (listed:Array Bool) (γ:G) (a:Act) (w:World),listed.size=ops.length→(∀ j,listed.getD j false=decide (j < hi))→(List.range ops.length).countP (fun i=>!listed.getD i true)≤fuel→LeG γ0 γ →
   RL own μ0 w0 N ops (fun k=>k < hi) (Ci (fun _=>true) lo rs F0).E (Ci (fun _=>true) lo rs F0).hp (Ci (fun _=>true) lo rs F0).live γ a w →
   Fq (nx+16 * ops.length) (Ci (fun _=>true) lo rs F0).hp (Ci (fun _=>true) lo rs F0).live γ→wpAny P .any ops.toArray QQ fuel listed a w) :
  ∀ (fuel:Nat) (listed:Array Bool) (a:Act) (w:World),Mid lo hi γ0 P cs own μ0 w0 N ops nx rs F0 listed a w→(List.range ops.length).countP (fun i=>!listed.getD i true)≤fuel→wpAny P .any ops.toArray QQ fuel listed a w:=by
 obtain⟨hnd,hN⟩:=Z1 hreg
 have hb:∀ k (o:Oper),ops[k]?=some o→∀ e∈o.after.toList,Region.binds .any e=true→e.on < k:=fun k o hk e he hbd=>by
  unfold Yx at hback
  rw[List.all_eq_true]at hback
  have:=hback k (List.mem_range.2 (List.getElem?_eq_some_iff.1 hk).1)
  rw[hk]at this
  simp only[List.all_eq_true,Bool.or_eq_true,Bool.not_eq_true',decide_eq_true_eq]at this
  rcases this e he with h | h
  ·rw[hbd]at h;cases h
  ·exact h
 -- two that may come either way
 have pair:∀ (i j:Nat) (x y:Rec),lo≤i→i < j→rs[i - lo]?=some x→rs[j - lo]?=some y→((Ez ops []).getD j 0).testBit i=true∨Av.apart ops x y=true:=fun i j x y hli hij hx hy=>by
  unfold Ux at hdraw
  simp only[List.all_eq_true,List.mem_range,Bool.or_eq_true]at hdraw
  have hj:j - lo < rs.length:=(List.getElem?_eq_some_iff.1 hy).1
  have:=hdraw (j - lo) hj (i - lo) (by omega)
  rw[hx,hy,show lo+(j - lo)=j by omega,show lo+(i - lo)=i by omega]at this
  exact this
 have good:∀ (j:Nat) (r:Rec),lo≤j→rs[j - lo]?=some r→Good P cs ops nx (Ci (fun n=>decide (n < j)) lo rs F0) j r:=fun j r hl hr=>by
  have:=hgood (j - lo) r hr
  rw[show lo+(j - lo)=j by omega]at this
  exact this
 have recAt:∀ (j:Nat) (o:Oper),lo≤j→j < hi→ops[j]?=some o→∃ r:Rec,rs[j - lo]?=some r∧r.o=o:=fun j o hl hh ho=>by
  have hj:j - lo < rs.length:=by rw[hlen];omega
  refine⟨rs[j - lo],List.getElem?_eq_getElem hj,?_⟩
  have:=(good j _ hl (List.getElem?_eq_getElem hj)).op
  rw[ho]at this
  injection this with this
  exact this.symm
 have backB_:Xp ops=true:=by
  unfold Xp
  rw[List.all_eq_true]
  intro i hi
  cases ho:ops[i]? with
  | none=>rfl
  | some o =>
   simp only[Option.map_some,Option.getD_some,List.all_eq_true,Bool.or_eq_true,Bool.not_eq_true',decide_eq_true_eq]
   intro e he
   cases hbd:Region.binds .any e
   ·exact .inl rfl
   ·exact .inr (hb i o ho e he hbd)
 have done:∀ fuel listed a w,Mid lo hi γ0 P cs own μ0 w0 N ops nx rs F0 listed a w→(List.range ops.length).countP (fun i=>!listed.getD i true)≤fuel→(∀ k,k < hi→listed.getD k false=true)→wpAny P .any ops.toArray QQ fuel listed a w:=by
  intro fuel listed a w hm hc hall
  have hl:∀ j,listed.getD j false=decide (j < hi):=fun j=>by
   rcases Nat.lt_or_ge j hi with h | h
   ·rw[hall j h,decide_eq_true h]
   ·rw[hm.high j h,decide_eq_false (by omega)]
  obtain⟨γ,le0,R,Fr⟩:=hm.st
  have e1:Ci (fun n=>listed.getD n false) lo rs F0=Ci (fun _=>true) lo rs F0:=Vt rs lo F0 fun n _ hn=>hall n (by omega)
  rw[e1]at R Fr
  refine hQ fuel listed γ a w hm.lsize hl hc le0 ⟨R.defers,R.size,R.fr,fun t j want h=>?_,R.hp,R.base,R.big,R.mu⟩ ⟨fun id hid=>Fr id (.inr hid)⟩
  have:=R.gd t j want h
  rw[hl]at this
  exact of_decide_eq_true this
 intro fuel
 induction fuel with
 | zero =>
  intro listed a w hm hc
  refine done 0 listed a w hm hc fun k hk=>?_
  apply Classical.byContradiction
  intro hne
  have:0 < (List.range ops.length).countP (fun i=>!listed.getD i true):=List.countP_pos_iff.2 ⟨k,List.mem_range.2 (by omega),by
   have h1:listed.getD k true=listed.getD k false:=by simp[Array.getD,hm.lsize,show k < ops.length by omega]
   rw[h1];simpa using hne⟩
  omega
 | succ fuel ih =>
  intro listed a w hm hc
  by_cases hall:∀ k,k < hi→listed.getD k false=true
  ·exact done _ listed a w hm hc hall
  have notall:∀ i,i∈Region.ready .any ops.toArray listed→lo≤i∧i < hi:=fun i hir=>by
   have hlt:i < ops.length:=by
    unfold Region.ready at hir
    rw[List.mem_filter]at hir
    simpa using hir.1
   obtain⟨hun,hpre⟩:=(Pd hm.lsize (List.getElem?_eq_getElem hlt)).1 hir
   refine⟨?_,?_⟩
   ·rcases Nat.lt_or_ge i lo with h | h
    ·rw[hm.low i h]at hun;cases hun
    ·exact h
   ·rcases Nat.lt_or_ge i hi with h | h
    ·exact h
    ·exfalso
     apply hall
     intro k hk
     have hpre':∀ e∈(ops[i]).after.toList,Region.binds .any e=true→listed.getD e.on false=true:=fun e he hbd=>hpre e (Array.mem_toList_iff.1 he) hbd
     refine Pv (S:=fun j=>listed.getD j false=true) hm.closed i _ (List.getElem?_eq_getElem hlt) hpre' k ?_
     unfold fb at hbar
     simp only[List.all_eq_true,List.mem_range,Bool.or_eq_true,decide_eq_true_eq]at hbar
     rcases hbar i hlt with h2 | h2
     ·omega
     ·exact h2 k hk
  refine⟨fun hr=>absurd (fun k hk=>un backB_ hm.lsize hr k k (Nat.le_refl _) (by omega)) hall,fun i hi'=>?_⟩
  obtain⟨hli,hih⟩:=notall i hi'
  have hlt:i < ops.length:=by omega
  obtain⟨o,ho⟩:∃ o,ops[i]?=some o:=⟨_,List.getElem?_eq_getElem hlt⟩
  obtain⟨hun,hpre⟩:=(Pd hm.lsize ho).1 hi'
  obtain⟨r,hri,hro⟩:=recAt i o hli hih ho
  have hg:=good i r hli hri
  have hpre':∀ e∈o.after.toList,Region.binds .any e=true→listed.getD e.on false=true:=fun e he hbd=>hpre e (Array.mem_toList_iff.1 he) hbd
  -- what comes ahead of it has come;what comes behind it has not
  have ahead:∀ j,((Ez ops []).getD i 0).testBit j=true→listed.getD j false=true:=Pv (S:=fun j=>listed.getD j false=true) hm.closed i o ho hpre'
  have behind:∀ (j:Nat) (oj:Oper),ops[j]?=some oj→((Ez ops []).getD j 0).testBit i=true→listed.getD j false=true→False:=fun j oj hoj hbit hj=>by
   have:=Pv (S:=fun j=>listed.getD j false=true) hm.closed j oj hoj (hm.closed j oj hoj hj) i hbit
   rw[hun]at this;cases this
  let C:=Ci (fun n=>decide (n < i)) lo rs F0
  let FS_:=Ci (fun n=>listed.getD n false) lo rs F0
  have hgC:Good P cs ops nx C i r:=hg
  -- an operation j that touches what i touches is listed just if it comes before i
  have agree:∀ (j:Nat) (y:Rec),lo≤j→rs[j - lo]?=some y→j≠i→(j < i→Av.apart ops y r=false)→(i < j→Av.apart ops r y=false)→decide (j < i)=listed.getD j false:=fun j y hlj hy hne h1 h2=>by
   have hoj:=(good j y hlj hy).op
   rcases Nat.lt_or_gt_of_ne hne with hji | hij
   ·rcases pair j i y r hlj hji hy hri with h | h
    ·rw[ahead j h];simp[hji]
    ·rw[h1 hji]at h;cases h
   ·rcases pair i j r y hli hij hri hy with h | h
    ·have:listed.getD j false=false:=by
      cases hl:listed.getD j false
      ·rfl
      ·exact(behind j _ hoj h hl).elim
     rw[this];simp;omega
    ·rw[h2 hij]at h;cases h
  have hE:∀ t∈Ha ops r.o,FS_.E t=C.E t:=fun t ht=>by
   refine(Ni (fun F F'=>F.E t=F'.E t) (fun r F F' h=>by unfold Rec.ap R5;simp only;split<;>first | rfl | exact h) rs lo (fun n=>decide (n < i)) (fun n=>listed.getD n false) F0 F0 rfl ?_).symm
   intro j y hlj hy' hne
   have hdt:y.o.dst≠some t:=fun hdt=>by
    apply hne
    by_cases hji:j=i
    ·subst hji
     show decide (j < j)=listed.getD j false
     rw[hun];simp
    ·refine agree j y hlj hy' hji (fun _=>?_) (fun _=>?_)
     ·unfold Av.apart
      simp only[hdt]
      have:(Ha ops r.o).contains t=true:=by simpa using ht
      rw[this];rfl
     ·unfold Av.apart
      simp only[hdt]
      have:(Ha ops r.o).contains t=true:=by simpa using ht
      rw[this];simp
   exact⟨fun F F' h=>by rw[X8 hdt];exact h,fun F F' h=>by rw[X8 hdt];exact h⟩
  have touch:∀ (j:Nat) (y:Rec) (x:Nat),lo≤j→rs[j - lo]?=some y→j≠i→x∈y.wr→(x∈r.rd∨x∈r.wr)→decide (j < i)=listed.getD j false:=fun j y x hlj hy hne hx hxr=>by
   have m:∀ (b:List Nat),x∈b→M6 y.wr b=true:=fun b hb=>by
    unfold M6;rw[List.any_eq_true];exact⟨x,hx,by simpa using hb⟩
   have m':∀ (b:List Nat),x∈b→M6 b y.wr=true:=fun b hb=>by
    unfold M6;rw[List.any_eq_true];exact⟨x,hb,by simpa using hx⟩
   refine agree j y hlj hy hne (fun _=>?_) (fun _=>?_)
   ·unfold Av.apart
    rcases hxr with h | h
    ·rw[m _ h];simp
    ·rw[m _ h];simp
   ·unfold Av.apart
    rcases hxr with h | h
    ·rw[m' _ h];simp
    ·rw[m' _ h];simp
  have hH:∀ x∈r.rd,FS_.hp x=C.hp x:=fun x hx=>by
   refine(Ni (fun F F'=>F.hp x=F'.hp x) (fun r F F' h=>Zy _ _ _ _ x h) rs lo (fun n=>decide (n < i)) (fun n=>listed.getD n false) F0 F0 rfl ?_).symm
   intro j y hlj hy' hne
   have hxw:x ∉ y.wr:=fun hxw=>by
    apply hne
    by_cases hji:j=i
    ·subst hji
     show decide (j < j)=listed.getD j false
     rw[hun];simp
    ·exact touch j y x hlj hy' hji hxw (.inl hx)
   exact⟨fun F F' h=>(Lg y F.hp x hxw).trans h,fun F F' h=>h.trans (Lg y F'.hp x hxw).symm⟩
  have hL:∀ x,x∈r.wr→FS_.live x=C.live x:=fun x hx=>by
   refine(Ni (fun F F'=>F.live x=F'.live x) (fun r F F' h=>bg _ _ _ _ x h) rs lo (fun n=>decide (n < i)) (fun n=>listed.getD n false) F0 F0 rfl ?_).symm
   intro j y hlj hy' hne
   have hxw:x ∉ y.wr:=fun hxw=>by
    apply hne
    by_cases hji:j=i
    ·subst hji
     show decide (j < j)=listed.getD j false
     rw[hun];simp
    ·exact touch j y x hlj hy' hji hxw (.inr hx)
   exact⟨fun F F' h=>(Ln y F.live x hxw).trans h,fun F F' h=>h.trans (Ln y F'.live x hxw).symm⟩
  have hev:∀ x∈r.o.op.operands,Cu FS_.E x=Cu C.E x:=zo hE
  have hqS:D9 P cs r.o (Cu FS_.E) FS_.hp r.id=r.q:=by
   rw[hgC.q]
   refine w8 hev fun x hx=>hH x ?_
   rw[hgC.rd,← ca hev];exact hx
  have hkill:∀ tk,r.q.kill=some tk→FS_.live tk:=fun tk hk=>by
   rw[hL tk (by unfold Rec.wr;cases hm_:r.q.mo with | some t=>exact absurd hk (by rw[← hqS];exact mc (by rw[hqS];exact hm_)) | none=>simp[hk])]
   exact hgC.kill tk hk
  obtain⟨γ,le0,R,Fr⟩:=hm.st
  have hfr:∀ j,r.id≤j→j < r.id+16→γ.ι j=none∧γ.τ j=none∧FS_.hp j=none∧¬ FS_.live j:=fun j h1 h2=>Fr j (.inl ⟨i,hlt,hun,by rw[hgC.id]at h1;omega,by rw[hgC.id]at h2;omega⟩)
  -- the state behind it
  have next:∀ (u:Value) (γ':G) (w':World),LeG γ γ'→RL own μ0 w0 N ops (fun k=>listed.getD k false=true∨k=i) (r.ap FS_).E (r.ap FS_).hp (r.ap FS_).live γ' (a.put o.dst u) w' →
    (∀ id,(id < r.id∨r.id+16≤id)→γ'.ι id=γ.ι id∧γ'.τ id=γ.τ id)→wpAny P .any ops.toArray QQ fuel (listed.setIfInBounds i true) (a.put o.dst u) w':=fun u γ' w' hle R' hoth=>by
   have hset:∀ k,(listed.setIfInBounds i true).getD k false=(listed.getD k false || k==i):=fun k=>by
    rw[Om]
    by_cases hki:i=k
    ·subst hki;simp[hm.lsize,hlt]
    ·rw[if_neg (fun h=>hki h.1)]
     have:(k==i)=false:=by simpa using Ne.symm hki
     rw[this,Bool.or_false]
   have hfold:Ci (fun n=>(listed.setIfInBounds i true).getD n false) lo rs F0=r.ap FS_:=by
    have e1:(fun n=>(listed.setIfInBounds i true).getD n false)=(fun n=>listed.getD n false || n==i):=funext hset
    rw[e1]
    refine ek rs lo _ i r F0 hli hri hun fun j y hlj hy' hij hj F=>?_
    have hap:Av.apart ops r y=true:=by
     rcases pair i j r y hli hij hri hy' with h | h
     ·exact(behind j _ (good j y hlj hy').op h hj).elim
     ·exact h
    unfold Av.apart at hap
    simp only[Bool.and_eq_true,Bool.not_eq_true']at hap
    obtain⟨_,_,h3,_,_⟩:=hap
    refine(ap_comm F (fun t ht ht'=>?_) h3).symm
    have:=W6 hnd hgC.op (good j y hlj hy').op ht ht'
    omega
   refine ih _ _ _ ⟨by rw[Array.size_setIfInBounds,hm.lsize],fun j hj=>by rw[hset,hm.low j hj];rfl,fun j hj=>by rw[hset,hm.high j hj];simpa using (by omega:j≠i),fun j oj hoj hl e he hbd=>?_,⟨γ',le0.trans hle,?_,?_⟩⟩ ?_
   ·rw[hset]at hl ⊢
    rw[Bool.or_eq_true]at hl ⊢
    rcases hl with hl | hl
    ·exact .inl (hm.closed j oj hoj hl e he hbd)
    ·have hji:j=i:=by simpa using hl
     subst hji
     rw[ho]at hoj;injection hoj with hoj;subst hoj
     exact .inl (hpre' e he hbd)
   ·rw[hfold]
    have e2:(fun k=>(listed.setIfInBounds i true).getD k false=true)=(fun k=>listed.getD k false=true∨k=i):=by
     funext k;rw[hset,Bool.or_eq_true];simp
    rw[e2];exact R'
   ·rw[hfold]
    intro id hid
    have hid':((∃ j,j < ops.length∧listed.getD j false=false∧nx+16 * j≤id∧id < nx+16 * j+16)∨nx+16 * ops.length≤id)∧(id < r.id∨r.id+16≤id):=by
     rcases hid with⟨j,h1,h2,h3,h3'⟩ | h
     ·rw[hset,Bool.or_eq_false_iff]at h2
      refine⟨.inl ⟨j,h1,h2.1,h3,h3'⟩,?_⟩
      have:j≠i:=by simpa using h2.2
      rw[hgC.id];omega
     ·exact⟨.inr h,by rw[hgC.id];omega⟩
    obtain⟨g1,g2,g3,g4⟩:=Fr id hid'.1
    obtain⟨g5,g6⟩:=hoth id hid'.2
    refine⟨by rw[g5,g1],by rw[g6,g2],?_,?_⟩
    ·show Fa r.id r.q FS_.hp id=none
     have hne':id≠r.id:=by have:=hid'.2;omega
     unfold Fa Er
     cases hm_:r.q.mo with
     | some t=>exact ku (aw (by rw[hqS];exact hgC.ok) (by rw[hqS];exact hm_)) g3 hid'.2
     | none =>
     simp only
     split
     ·rename_i d ob hupd
      obtain⟨o',ho'⟩:=cl (by rw[hqS];exact hupd)
      rw[if_neg (fun h=>by rw[h]at g3;exact absurd (g3.symm.trans ho') (by simp))]
      split
      ·rw[if_neg hne'];exact g3
      ·exact g3
     ·split
      ·rw[if_neg hne'];exact g3
      ·exact g3
    ·show ¬ G9 r.id r.q FS_.live id
     unfold G9
     cases hm_:r.q.mo with
     | some t=>exact nc (aw (by rw[hqS];exact hgC.ok) (by rw[hqS];exact hm_)) g4 hid'.2
     | none =>
     simp only
     rintro(⟨h,_⟩ | ⟨_,h⟩)
     ·exact g4 h
     ·have:=hid'.2;omega
   ·have:=dh (p:=fun i=>!listed.getD i true) (q:=fun k=>!(listed.setIfInBounds i true).getD k true) (List.range ops.length) (fun x _ hx=>by
      simp only[Om]at hx
      split at hx
      ·simp at hx
      ·exact hx) ⟨i,List.mem_range.2 hlt,by
       have h1:listed.getD i true=listed.getD i false:=by simp[Array.getD,hm.lsize,hlt]
       simp[h1,hun],by simp[hm.lsize,hlt]⟩
    omega
  have hnd_:¬ (listed.getD i false=true):=by rw[hun];simp
  have hguard:∀ g,o.guard=some g→listed.getD g.1 false=true:=fun g hgd=>by
   -- the guard's temporary is looked at: it has been written
   obtain⟨_,q2,_,q4⟩:=hgC.g1 g (by rw[hro];exact hgd)
   rcases Nat.lt_or_ge g.1 lo with hgl | hgl
   ·exact hm.low _ hgl
   unfold Fu at q4
   cases hoj:ops[g.1]? with
   | none=>rw[hoj]at q4;cases q4
   | some oj =>
    rw[hoj]at q4
    simp only at q4
    cases hdj:oj.dst with
    | none=>rw[hdj]at q4;cases q4
    | some t =>
     obtain⟨y,hy,hyo⟩:=recAt g.1 oj hgl (by omega) hoj
     have:t∈Ha ops r.o:=by
      unfold Ha Oper.looksAt
      rw[List.mem_append]
      refine .inr ?_
      rw[hro,hgd]
      simp only
      have e:ops.toArray[g.1]?=some oj:=by simpa using hoj
      rw[e,Option.bind_some,hdj]
      simp
     have hag:=agree g.1 y hgl hy (by omega) (fun _=>by
      unfold Av.apart
      have h1:y.o.dst=some t:=by rw[hyo];exact hdj
      simp only[h1]
      have:(Ha ops r.o).contains t=true:=by simpa using this
      rw[this];rfl) (fun h=>by omega)
     rw[← hag];simp[q2]
  unfold wpOp
  have hoA:ops.toArray[i]?=some o:=by simpa using ho
  rw[hoA]
  simp only
  have stepW:∀ (g:Option (Nat×Bool)) (G':Bool),r.g=g→r.gv=G'→(∀ p∈r.q.ob,p)→(∀ g',o.guard=some g'→yielded ops.toArray a.tmps g'.1=some g'.2)→(∀ j want,g=some (j,want)→listed.getD j false=true∧yielded ops.toArray a.tmps j=some want∧G'=true) →
    o.wp P a w (wpAny P .any ops.toArray QQ fuel (listed.setIfInBounds i true)) QQ:=fun g G' hgg hgv hob hw hj=>by
   rw[← hro]at hw ⊢
   refine ru R (cs:=cs) (id:=r.id) (by rw[nt hE];exact hgC.rdOk) (by rw[hqS];exact hgC.ok) (by rw[hqS];exact hob) (by rw[hqS];exact hkill) (by rw[hqS];intro t ht s hs;rw[hL s (by unfold Rec.wr;rw[ht];simp[hs])];exact hgC.mo t ht s hs) hfr hw ?_
   rw[hqS]
   intro u w' γ' hs
   have R':=R.put (i:=i) (x:=⟨r.g,r.gv,r.q.v⟩) hreg hgC.op hnd_ hs.le hs.hp hs.base hs.mu (by
    rw[hgg,hgv]
    cases g with
    | none=>exact hs.rep
    | some jw=>obtain⟨j,want⟩:=jw;obtain⟨q1,q2,q3⟩:=hj j want rfl;exact⟨q1,.inl ⟨q2,q3,hs.rep⟩⟩)
   rw[hro]
   refine next u γ' w' hs.le ?_ (fun id hid=>hs.other id hid)
   rw[← hro]
   exact R'
  cases hgd:o.guard with
  | none =>
   obtain⟨q1,q2⟩:=hgC.g0 (by rw[hro];exact hgd)
   rw[if_pos (Vg hgd)]
   exact .inl (stepW none true q1 q2 ((hobs r (List.mem_of_getElem? hri)).1 q1) (fun g' hg'=>by rw[hgd]at hg';cases hg') (fun j want h=>by cases h))
  | some g =>
   obtain⟨q1,q2,q3,q4⟩:=hgC.g1 g (by rw[hro];exact hgd)
   have hGS:Fu ops FS_.E g=some r.gv:=by rw[et (o:=r.o) (by rw[hro];exact hgd) hE];exact q4
   obtain⟨gs1,gs2⟩:=Qy R hGS
   have hgl:=hguard g hgd
   by_cases hy:yielded ops.toArray a.tmps g.1=some g.2
   ·rw[if_pos ((Fi hgd).2 hy)]
    refine .inl (stepW (some g) r.gv q1 rfl ((hobs r (List.mem_of_getElem? hri)).2 (by rw[q1];simp) (gs1 hy)) (fun g' hg'=>by rw[hgd]at hg';injection hg' with hg';rw[← hg'];exact hy) (fun j want h=>?_))
    injection h with h
    rw[h]at hgl hy
    exact⟨hgl,hy,gs1 (by rw[h];exact hy)⟩
   ·rw[if_neg (fun h=>hy ((Fi hgd).1 h))]
    unfold Q.plain at q3
    simp only[Bool.and_eq_true,Option.isNone_iff_eq_none,Bool.not_eq_true']at q3
    obtain⟨⟨⟨⟨p1,p2⟩,p3⟩,p4⟩,p5⟩:=q3
    have hap:r.ap FS_=⟨R5 r.o ⟨r.g,r.gv,r.q.v⟩ FS_.E,FS_.hp,FS_.live⟩:=by
     unfold Rec.ap
     rw[Kb p3 p5,H8 p4 p5,p1,p2,P8,Ex]
    have R':=R.put (i:=i) (x:=⟨r.g,r.gv,r.q.v⟩) (u:=undef) hreg hgC.op hnd_ (LeG.refl γ) R.hp (Base.refl own w) (fun _ _ _ _=>rfl) (by
     rw[q1]
     exact⟨hgl,.inr ⟨hy,gs2 hy,rfl⟩⟩)
    refine next undef γ w (LeG.refl γ) ?_ (fun id _=>⟨rfl,rfl⟩)
    rw[hap,← hro]
    exact R'
theorem vm {rs:List Rec} (h:Zd ops rs=true) (hl:rs.length=ops.length):Ux ops rs 0=true:=by
 unfold Zd at h
 unfold Ux
 simp only[Nat.zero_add,hl]
 exact h
theorem barOk_all:fb ops ops.length=true:=by
 unfold fb
 simp only[List.all_eq_true,List.mem_range,Bool.or_eq_true,decide_eq_true_eq]
 exact fun j hj=>.inl hj
theorem ym {QQ:Exit→Act→World→Prop} {fuel:Nat} {listed:Array Bool} {a:Act} (hs:listed.size=ops.length) (h:∀ j,listed.getD j false=decide (j < ops.length)) (hq:QQ .normal a w):wpAny P .any ops.toArray QQ fuel listed a w:=by
 have hr:Region.ready .any ops.toArray listed=[]:=by
  apply Classical.byContradiction
  intro hne
  obtain⟨k,hk⟩:=List.exists_mem_of_ne_nil _ hne
  unfold Region.ready at hk
  rw[List.mem_filter]at hk
  simp only[List.size_toArray,Bool.and_eq_true,Bool.not_eq_true',List.mem_range]at hk
  have h1:listed.getD k true=listed.getD k false:=by simp[Array.getD,hs,hk.1]
  rw[h1,h,decide_eq_true hk.1]at hk
  cases hk.2.1
 cases fuel with
 | zero=>exact⟨hr,hq⟩
 | succ n=>exact⟨fun _=>hq,fun i hi=>by rw[hr]at hi;cases hi⟩
theorem draw_any {γ0:G} {cs:Cs} {nx:Nat} {rs:List Rec} {F0:FZ} (hreg:M2 ops N=true) (hback:Yx ops=true) (hdraw:Zd ops rs=true) (hlen:rs.length=ops.length)
  (hgood:∀ k r,rs[k]?=some r→Good P cs ops nx (Ci (fun n=>decide (n < k)) 0 rs F0) k r) (hobs:∀ r∈rs,(r.g=none→∀ p∈r.q.ob,p)∧(r.g≠none→r.gv=true→∀ p∈r.q.ob,p)) {QQ:Exit→Act→World→Prop}
  (hQ:∀ (γ:G) (a:Act) (w:World),LeG γ0 γ→RL own μ0 w0 N ops (fun k=>k < ops.length) (Ci (fun _=>true) 0 rs F0).E (Ci (fun _=>true) 0 rs F0).hp (Ci (fun _=>true) 0 rs F0).live γ a w →
   Fq (nx+16 * ops.length) (Ci (fun _=>true) 0 rs F0).hp (Ci (fun _=>true) 0 rs F0).live γ→QQ .normal a w) :
  ∀ (fuel:Nat) (listed:Array Bool) (a:Act) (w:World),Mid 0 ops.length γ0 P cs own μ0 w0 N ops nx rs F0 listed a w→(List.range ops.length).countP (fun i=>!listed.getD i true)≤fuel→wpAny P .any ops.toArray QQ fuel listed a w :=
 draw_seg (Nat.zero_le _) (Nat.le_refl _) hreg hback (vm hdraw hlen) barOk_all (by rw[hlen,Nat.sub_zero]) (fun k r h=>by rw[Nat.zero_add];exact hgood k r h) hobs fun fuel listed γ a w h1 h2 _ le R F=>ym h1 h2 (hQ γ a w le R F)
end Go.Av
namespace Go.Av
open Go.RowKit Go.Base
structure Gm where
 own:Nat→Prop
 μ0:G0
 w0:World
def RS (V:Gm) (N:Nat) (st:St) (γ:G) (a:Act) (w:World):Prop :=
 RL V.own V.μ0 V.w0 N [] (fun _=>False) (fun t=>⟨none,true,Cg st.fr t⟩) (Ae st.hp) (·∈st.live) γ a w∧Fq st.nx (Ae st.hp) (·∈st.live) γ
def Post (V:Gm) (N:Nat) (K:Exit→St→Prop):Exit→Act→World→Prop:=fun ex a w=>∃ st γ,RS V N st γ a w∧K ex st
def Tri (P:Program) (V:Gm) (N:Nat) (c:Code) (st:St) (K:Exit→St→Prop):Prop:=∀ γ a w,RS V N st γ a w→c.wp P (Post V N K) a w
def Ye:List (Nat×LE)→List (Nat×AV)→List (Nat×AV)
 | [],fr=>fr
 | (t,x) :: l,fr=>(t,match x.g with | none=>x.v | some _=>.any) :: Ye l fr
def br (fr:List (Nat×AV)) (nx n:Nat) (s:LS):St:=⟨Ye s.lf fr,s.hp,s.live,nx+16 * n⟩
def jv (st:St):Operand→AV
 | .tmp t=>Cg st.fr t
 | .const v=>H3 v
 | _=>.any
def andThen (K:Exit→St→Prop) (next:St→Prop):Exit→St→Prop
 | .normal,st=>next st
 | ex,st=>K ex st
def inBlock (id:Nat) (K:Exit→St→Prop):Exit→St→Prop
 | .exit j,st=>if j=id then K .normal st else K (.exit j) st
 | ex,st=>K ex st
def condK (x:AV) (a b:Prop):Prop:=match x with
 | .d (.bool c)=>(c=true→a)∧(c=false→b)
 | _=>False
def Hs:Code→Nat
 | .region id _ _=>id
 | .seq a b=>match a with | .skip=>Hs b | .label _=>Hs b | a=>Hs a
 | .block _ c=>Hs c
 | .loop c=>Hs c
 | .scope c=>Hs c
 | .cond _ a _=>Hs a
 | _=>0
def Uj (ts:List Nat) (st:St):St:={ st with fr:=ts.map fun t=>(t,Cg st.fr t) }
def lookN:List (Nat×List Nat)→Nat→Option (List Nat)
 | [],_=>none
 | (i,v) :: l,t=>if i=t then some v else lookN l t
def cut (lv:List (Nat×List Nat)) (c:Code) (st:St):St:=match lookN lv (Hs c) with | some ts=>Uj ts st | none=>st
structure Tm where
 α:Type
 f:α→List (Nat×D)
 o:α→List (Nat×OT)
 a:List Nat:=[]
def tn:List (Nat×Tm)→Nat→Option Tm
 | [],_=>none
 | (i,v) :: l,t=>if i=t then some v else tn l t
def exT (o:Option Tm) (p:Cs→Prop):Prop:=match o with
 | none=>p ⟨[],[],[]⟩
 | some t=>∃ x:t.α,p ⟨t.f x,t.o x,t.a⟩
theorem jx {o:Option Tm} {p:Cs→Prop} (h:exT o p):∃ cs,p cs:=by
 unfold exT at h
 split at h
 ·exact⟨_,h⟩
 ·obtain⟨x,h⟩:=h;exact⟨_,h⟩
def Lh:Code→Bool
 | .seq a b=>Lh a || Lh b
 | .cond _ a b=>Lh a || Lh b
 | .block _ c=>Lh c
 | .loop _=>true
 | .scope c=>Lh c
 | .rangeFunc ..=>true
 | _=>false
def vc (P:Program) (V:Gm) (N:Nat) (cs:List (Nat×Tm)) (lv:List (Nat×List Nat)):Code→St→(Exit→St→Prop)→Prop
 | .skip,st,K=>K .normal st
 | .label _,st,K=>K .normal st
 | .seq a b,st,K=>if Lh a=true then vc P V N cs lv a st (andThen K fun st'=>Tri P V N b st' K)else vc P V N cs lv a st (andThen K fun st'=>vc P V N cs lv b st' K)
 | .cond c x y,st,K=>condK (jv st c) (vc P V N cs lv x st K) (vc P V N cs lv y st K)
 | .block id c,st,K=>vc P V N cs lv c st (inBlock id K)
 | .exit id,st,K=>K (.exit id) st
 | .ret,st,K=>K .ret st
 | .region id ops false,st,K=>if M2 ops.toList N=true then exT (tn cs id) fun cs=>Ky P cs ops.toList st.fr st.nx 0 ops.toList ⟨[],st.hp,st.live⟩ (fun s=>K .normal (br st.fr st.nx ops.toList.length s))else False
 | .region id ops true,st,K=>if M2 ops.toList N=true then exT (tn cs id) fun cs=>l8 P cs ops.toList st.fr st.nx ⟨[],st.hp,st.live⟩ (fun s=>K .normal (br st.fr st.nx ops.toList.length s))else False
 | .loop c,st,K=>Tri P V N (.loop c) (cut lv c st) K
 | c,st,K=>Tri P V N c st K
variable {P:Program} {V:Gm} {N:Nat} {γ γ':G} {w w':World}
theorem Xw (fr:List (Nat×AV)):∀ (lf:List (Nat×LE)) (t:Nat),Cg (Ye lf fr) t=match (Ce fr lf t).g with | none=>(Ce fr lf t).v | some _=>.any
 | [],t=>rfl
 | (i,x) :: l,t=>by
  simp only[Ye,Cg,Ce]
  split
  ·rfl
  ·exact Xw fr l t
theorem yt {ops:List Oper} {fr:List (Nat×AV)} {s:LS} {nx n:Nat} {a:Act} {done:Nat→Prop} (R:RL V.own V.μ0 V.w0 N ops done (Ce fr s.lf) (Ae s.hp) (·∈s.live) γ a w) (F:Fq (nx+16 * n) (Ae s.hp) (·∈s.live) γ):RS V N (br fr nx n s) γ a w:=by
 refine⟨⟨R.defers,R.size,fun t=>?_,(fun t j want h=>by cases h),R.hp,R.base,R.big,R.mu⟩,F⟩
 show RepA γ (Cg (Ye s.lf fr) t) (a.tmps.getD t undef)
 rw[Xw]
 have:=R.fr t
 unfold EOk at this
 split
 ·rename_i h;rw[h]at this;exact this
 ·simp only[RepA]
theorem Tri.mono {c:Code} {st:St} {K K':Exit→St→Prop} (h:Tri P V N c st K) (hk:∀ ex st',K ex st'→K' ex st'):Tri P V N c st K' :=
 fun γ a w hr=>wp_mono (h γ a w hr) fun _ _ _ ⟨st',γ',h1,h2⟩=>⟨st',γ',h1,hk _ _ h2⟩
theorem Tri.seq {a b:Code} {st:St} {K:Exit→St→Prop} (h:Tri P V N a st (andThen K fun st'=>Tri P V N b st' K)):Tri P V N (.seq a b) st K:=fun γ x w hr=>by
 refine wp_seq (wp_mono (h γ x w hr) ?_)
 rintro ex a' w' ⟨st',γ',h1,h2⟩
 cases ex with
 | normal=>exact h2 γ' a' w' h1
 | _=>exact⟨st',γ',h1,h2⟩
theorem Tri.block {id:Nat} {c:Code} {st:St} {K:Exit→St→Prop} (h:Tri P V N c st (inBlock id K)):Tri P V N (.block id c) st K:=fun γ x w hr=>by
 refine wp_block (wp_mono (h γ x w hr) ?_)
 rintro ex a' w' ⟨st',γ',h1,h2⟩
 cases ex with
 | exit j =>
  simp only[inBlock]at h2
  simp only[Exit.inBlock]
  split
  ·rename_i hj;rw[if_pos hj]at h2;exact⟨st',γ',h1,h2⟩
  ·rename_i hj;rw[if_neg hj]at h2;exact⟨st',γ',h1,h2⟩
 | _=>exact⟨st',γ',h1,h2⟩
theorem Tri.cond {c:Operand} {x y:Code} {st:St} {K:Exit→St→Prop} {b:Bool} (hc:jv st c=.d (.bool b)) (h1:b=true→Tri P V N x st K) (h2:b=false→Tri P V N y st K):Tri P V N (.cond c x y) st K:=fun γ a w hr=>by
 have hv:a.eval c=.bool b:=by
  cases c with
  | tmp t =>
   have:=hr.1.fr t
   simp only[jv]at hc
   simp only[EOk,hc,RepA,Rep]at this
   exact this
  | const v =>
   simp only[jv]at hc
   have:=Pj (γ:=γ) v
   rw[hc]at this
   simp only[RepA,Rep]at this
   exact this
  | _=>cases hc
 exact wp_cond_split hv (fun h=>h1 h γ a w hr) (fun h=>h2 h γ a w hr)
theorem Tri.region {id:Nat} {ops:Array Oper} {st:St} {K:Exit→St→Prop} {cs:Cs} (hr:M2 ops.toList N=true)
  (h:Ky P cs ops.toList st.fr st.nx 0 ops.toList ⟨[],st.hp,st.live⟩ (fun s=>K .normal (br st.fr st.nx ops.toList.length s))):Tri P V N (.region id ops false) st K:=fun γ a w hs=>by
 refine wp_region_list ?_
 have:=Zs (P:=P) (QQ:=Post V N K) hr (fun s γ a w hk R F=>⟨_,γ,yt R F,hk⟩) ops.toList 0 ⟨[],st.hp,st.live⟩ γ a w (by simp) (by simp)
  ⟨hs.1.defers,hs.1.size,fun t=>hs.1.fr t,(fun t j want h=>by cases h),hs.1.hp,hs.1.base,hs.1.big,hs.1.mu⟩ hs.2 h
 simpa using this
theorem Tri.draw (hm:P.follows .mixedOrders=true) {id:Nat} {ops:Array Oper} {st:St} {K:Exit→St→Prop} {cs:Cs} (hr:M2 ops.toList N=true)
  (h:l8 P cs ops.toList st.fr st.nx ⟨[],st.hp,st.live⟩ (fun s=>K .normal (br st.fr st.nx ops.toList.length s))):Tri P V N (.region id ops true) st K:=fun γ a w hs=>by
 refine wp_region_any hm ?_
 unfold l8 at h
 split at h
 ·rename_i rs s' hrun
  split at h
  ·rename_i hok
   simp only[Bool.and_eq_true]at hok
   obtain⟨h1,h2,h3⟩:=ee ops.toList 0 ⟨[],st.hp,st.live⟩ s' rs (by simp) hrun
   obtain⟨o1,o2⟩:=Q5 h
   have R:RL V.own V.μ0 V.w0 N ops.toList (fun _=>False) (fun t=>⟨none,true,Cg st.fr t⟩) (Ae st.hp) (·∈st.live) γ a { w with drawn:=w.drawn+1 } :=
    ⟨hs.1.defers,hs.1.size,fun t=>hs.1.fr t,(fun t j want h=>by cases h),⟨hs.1.hp.fz,hs.1.hp.obj,hs.1.hp.inj,hs.1.hp.tok,hs.1.hp.tinj⟩,⟨hs.1.base.os,hs.1.base.tape,hs.1.base.output,hs.1.base.size,hs.1.base.block⟩,hs.1.big,hs.1.mu⟩
   have no:∀ n,(Array.replicate ops.toList.length false).getD n false=false:=fun n=>by
    rw[Array.getD_eq_getD_getElem?,Array.getElem?_replicate];split<;>rfl
   have e0:Ci (fun n=>(Array.replicate ops.toList.length false).getD n false) 0 rs (K6 st.fr ⟨[],st.hp,st.live⟩)=K6 st.fr ⟨[],st.hp,st.live⟩:=R3 _ _ _ _ fun n _=>no n
   have:=draw_any (γ0:=γ) (P:=P) (cs:=cs) (nx:=st.nx) (QQ:=Post V N K) (own:=V.own) (μ0:=V.μ0) (w0:=V.w0) hr hok.1 hok.2 h1 (fun k r hk=>by have:=h2 k r hk;simpa using this) o1
    (fun γ a w _ R F=>⟨br st.fr st.nx ops.toList.length s',γ,yt (fr:=st.fr) (s:=s') (nx:=st.nx) (n:=ops.toList.length) (by rw[← h3]at R;exact R) (by rw[← h3]at F;exact F),o2⟩)
    ops.toList.length (Array.replicate ops.toList.length false) a { w with drawn:=w.drawn+1 }
    ⟨by simp,fun j hj=>(by omega),fun j _=>no j,fun j o _ hl=>(by rw[no]at hl;cases hl),⟨γ,LeG.refl γ,by
     rw[e0]
     have ed:(fun k=>(Array.replicate ops.toList.length false).getD k false=true)=(fun _=>False):=by funext k;rw[no];simp
     rw[ed];exact R,by
     rw[e0]
     intro id hid
     refine hs.2.ok id ?_
     rcases hid with⟨j,_,_,h⟩ | h<;>omega⟩⟩ (Nat.le_trans (List.countP_le_length) (by simp))
   simpa using this
  ·exact h.elim
 ·exact h.elim
theorem gx {ts:List Nat} {st:St} {a:Act} (h:RS V N st γ a w):RS V N (Uj ts st) γ a w:=by
 refine⟨⟨h.1.defers,h.1.size,fun t=>?_,(fun t j want h=>by cases h),h.1.hp,h.1.base,h.1.big,h.1.mu⟩,h.2⟩
 show RepA γ (Cg (Uj ts st).fr t) (a.tmps.getD t undef)
 have key:∀ l:List Nat,Cg (l.map fun t=>(t,Cg st.fr t)) t=.any∨Cg (l.map fun t=>(t,Cg st.fr t)) t=Cg st.fr t:=by
  intro l
  induction l with
  | nil=>exact .inl rfl
  | cons x l ih =>
   simp only[List.map_cons,Cg]
   split
   ·rename_i e;subst e;exact .inr rfl
   ·exact ih
 rcases key ts with e | e
 ·simp only[Uj];rw[e];simp only[RepA]
 ·simp only[Uj];rw[e];exact h.1.fr t
theorem rs_cut {lv:List (Nat×List Nat)} {c:Code} {st:St} {a:Act} (h:RS V N st γ a w):RS V N (cut lv c st) γ a w:=by
 unfold cut
 split
 ·exact gx h
 ·exact h
theorem Hx (hm:P.follows .mixedOrders=true) {cs:List (Nat×Tm)} {lv:List (Nat×List Nat)}:∀ (c:Code) (st:St) (K:Exit→St→Prop),vc P V N cs lv c st K→Tri P V N c st K
 | .skip,st,K,h=>fun γ a w hr=>wp_skip ⟨st,γ,hr,h⟩
 | .label _,st,K,h=>fun γ a w hr=>wp_label ⟨st,γ,hr,h⟩
 | .exit id,st,K,h=>fun γ a w hr=>wp_exit ⟨st,γ,hr,h⟩
 | .ret,st,K,h=>fun γ a w hr=>wp_ret ⟨st,γ,hr,h⟩
 | .seq a b,st,K,h=>by
  unfold vc at h
  split at h
  ·exact Tri.seq (Hx hm a st _ h)
  ·refine Tri.seq ((Hx hm a st _ h).mono fun ex st' hk=>?_)
   cases ex with
   | normal=>exact Hx hm b st' K hk
   | _=>exact hk
 | .block id c,st,K,h=>Tri.block (Hx hm c st _ h)
 | .cond c x y,st,K,h=>by
  unfold vc condK at h
  split at h
  ·rename_i b hb
   exact Tri.cond hb (fun hb=>Hx hm x st K (h.1 hb)) (fun hb=>Hx hm y st K (h.2 hb))
  ·exact h.elim
 | .region id ops false,st,K,h=>by
  unfold vc at h
  split at h
  ·rename_i hr;obtain⟨cs,h⟩:=jx h;exact Tri.region hr h
  ·exact h.elim
 | .region id ops true,st,K,h=>by
  unfold vc at h
  split at h
  ·rename_i hr;obtain⟨cs,h⟩:=jx h;exact Tri.draw hm hr h
  ·exact h.elim
 | .loop c,st,K,h=>fun γ a w hr=>h γ a w (rs_cut hr)
 | .rangeFunc ..,st,K,h=>h
 | .scope _,st,K,h=>h
 | .goto _,st,K,h=>h
 | .refuse _,st,K,h=>h
end Go.Av
namespace Go.Av
open Go.RowKit Go.Base
variable {P:Program} {V:Gm} {N:Nat} {γ γ':G} {w w':World}
mutual
def Md:D→D→Prop
 | .sl sz n f,.sl sz' m g=>n=m∧∀ i,i < n→sz=sz'∧(f i=g i∨Md (f i) (g i))
 | .agg xs,.agg ys=>Mn xs ys
 | .tup xs,.tup ys=>Mn xs ys
 | .bool a,.bool b=>a=b
 | .int k a,.int k' b=>k=k'∧a=b
 | .str a,.str b=>a=b
 | _,_=>False
def Mn:List D→List D→Prop
 | [],[]=>True
 | x :: xs,y :: ys=>(x=y∨Md x y)∧Mn xs ys
 | _,_=>False
end
mutual
theorem Rep.deq {μ:Nat→Nat→Option Value}:∀ {x y:D} {v:Value},Md x y→Rep μ x v→Rep μ y v
 | .sl sz n f,y,v,h,hr=>by
  cases y with
  | sl sz' m g =>
   simp only[Md]at h
   obtain⟨rfl,h⟩:=h
   simp only[Rep]at hr ⊢
   obtain⟨A,c,e,h1,h2,h3⟩:=hr
   refine⟨A,c,e,h1,h2,fun hn=>?_⟩
   obtain⟨b,o,e2,h4⟩:=h3 hn
   refine⟨b,o,e2,fun i hi=>?_⟩
   obtain⟨rfl,hd⟩:=h i hi
   obtain⟨u,h5,h6⟩:=h4 i hi
   exact⟨u,hd.elim (fun e=>e ▸ h5) (fun hd=>Rep.deq hd h5),h6⟩
  | _=>simp only[Md]at h
 | .agg xs,y,v,h,hr=>by
  cases y with
  | agg ys=>simp only[Md]at h;simp only[Rep]at hr ⊢;obtain⟨vs,e,hr⟩:=hr;exact⟨vs,e,RepL.deq h hr⟩
  | _=>simp only[Md]at h
 | .tup xs,y,v,h,hr=>by
  cases y with
  | tup ys=>simp only[Md]at h;simp only[Rep]at hr ⊢;obtain⟨vs,e,hr⟩:=hr;exact⟨vs,e,RepL.deq h hr⟩
  | _=>simp only[Md]at h
 | .bool a,y,v,h,hr=>by
  cases y with
  | bool b=>simp only[Md]at h;subst h;exact hr
  | _=>simp only[Md]at h
 | .int k a,y,v,h,hr=>by
  cases y with
  | int k' b=>simp only[Md]at h;obtain⟨rfl,rfl⟩:=h;exact hr
  | _=>simp only[Md]at h
 | .str a,y,v,h,hr=>by
  cases y with
  | str b=>simp only[Md]at h;subst h;exact hr
  | _=>simp only[Md]at h
 | .bad,y,v,h,hr=>by simp only[Rep]at hr
theorem RepL.deq {μ:Nat→Nat→Option Value}:∀ {x y:List D} {v:List Value},Mn x y→RepL μ x v→RepL μ y v
 | [],y,v,h,hr=>by
  cases y with
  | nil=>exact hr
  | cons _ _=>simp only[Mn]at h
 | x :: xs,y,v,h,hr=>by
  cases y with
  | nil=>simp only[Mn]at h
  | cons y ys =>
   simp only[Mn]at h
   simp only[RepL]at hr ⊢
   obtain⟨u,t,e,h1,h2⟩:=hr
   exact⟨u,t,e,h.1.elim (fun e=>e ▸ h1) (fun h=>Rep.deq h h1),RepL.deq h.2 h2⟩
end
def De (x y:D):Prop:=x=y∨Md x y
theorem De.rfl {x:D}:De x x:=.inl (Eq.refl _)
theorem Rep.de {μ:Nat→Nat→Option Value} {x y:D} {v:Value} (h:De x y) (hr:Rep μ x v):Rep μ y v:=h.elim (fun e=>e ▸ hr) (fun h=>Rep.deq h hr)
theorem De.sl {sz n sz' m:Nat} {f g:Nat→D} (h:De (.sl sz n f) (.sl sz' m g)):n=m∧∀ i,i < n→sz=sz'∧De (f i) (g i):=by
 rcases h with h | h
 ·injection h with h1 h2 h3;subst h1 h2 h3;exact⟨Eq.refl _,fun _ _=>⟨Eq.refl _,De.rfl⟩⟩
 ·simp only[Md]at h;exact h
theorem uh {X:Type} {c:Code} {Q:Exit→Act→World→Prop} {a:Act} (I:X→Act→World→Prop) (μ:X→Nat) (x0:X) (h₀:I x0 a w)
  (round:∀ x a w,I x a w→c.wp P (Exit.then (fun a' w'=>∃ x',I x' a' w'∧μ x' < μ x) Q) a w):(Code.loop c).wp P Q a w:=by
 intro b k cs
 have key:∀ n x a w,μ x=n→I x a w →
   ∃ e a' w',Q e a' w'∧Arrives P (lone (b.at a (.code c :: .inLoop c :: k)) cs w) b k cs e a' w':=by
  intro n
  induction n using Nat.strongRecOn with
  | _ n ih =>
   intro x a w hn hI
   obtain⟨e,a₁,w₁,hq,harr⟩:=round x a w hI b (.inLoop c :: k) cs
   cases e with
   | normal =>
    obtain⟨x₁,hI₁,hlt⟩:=hq
    obtain⟨e₂,a₂,w₂,hq₂,harr₂⟩:=ih (μ x₁) (hn ▸ hlt) x₁ a₁ w₁ rfl hI₁
    exact⟨e₂,a₂,w₂,hq₂,.of_steps (Steps.trans harr (.one step_inLoop)) harr₂⟩
   | exit id=>exact⟨_,a₁,w₁,hq,.pass (x:=.inLoop c) rfl (fun _ _=>.inl (by simp)) harr⟩
   | goto l=>exact⟨_,a₁,w₁,hq,.pass (x:=.inLoop c) rfl (fun _ _=>.inl (by simp)) harr⟩
   | ret=>exact⟨_,a₁,w₁,hq,.pass (x:=.inLoop c) rfl (fun _ _=>.inl (by simp)) harr⟩
   | panic ch=>exact⟨_,a₁,w₁,hq,.pass (x:=.inLoop c) rfl (fun _ _=>.inl (by simp)) harr⟩
   | outgrown=>exact⟨_,a₁,w₁,hq,.pass (x:=.inLoop c) rfl (fun _ _=>.inl (by simp)) harr⟩
 obtain⟨e,a',w',hq,harr⟩:=key _ x0 a w rfl h₀
 exact⟨e,a',w',hq,.of_steps (.one step_loop) harr⟩
def Weak (st st':St):Prop:=∀ (V:Gm) (N:Nat) (γ:G) (a:Act) (w:World),RS V N st γ a w→∃ γ',RS V N st' γ' a w
theorem Weak.refl (st:St):Weak st st:=fun _ _ γ _ _ h=>⟨γ,h⟩
theorem Weak.trans {a b c:St} (h:Weak a b) (k:Weak b c):Weak a c:=fun V N γ x w hr=>let ⟨γ',h'⟩:=h V N γ x w hr;k V N γ' x w h'
theorem Tri.weak {c:Code} {st st':St} {K:Exit→St→Prop} (hw:Weak st st') (h:Tri P V N c st' K):Tri P V N c st K:=fun γ a w hr =>
 let ⟨γ',h'⟩:=hw V N γ a w hr;h γ' a w h'
theorem Tri.post {c:Code} {st:St} {K K':Exit→St→Prop} (h:Tri P V N c st K) (hk:∀ ex s,K ex s→∃ s',Weak s s'∧K' ex s'):Tri P V N c st K' :=
 fun γ a w hr=>wp_mono (h γ a w hr) fun ex a' w' ⟨s,γ',h1,h2⟩=>by
  obtain⟨s',hw,hk'⟩:=hk ex s h2
  obtain⟨γ'',h3⟩:=hw V N γ' a' w' h1
  exact⟨s',γ'',h3,hk'⟩
theorem Tri.loop {X:Type} {c:Code} {st:St} {K:Exit→St→Prop} (head:X→St) (I:X→Prop) (μ:X→Nat) (x0:X) (h0:Weak st (head x0)) (hi:I x0)
  (round:∀ x,I x→Tri P V N c (head x) (andThen K fun s=>∃ x',I x'∧μ x' < μ x∧Weak s (head x'))):Tri P V N (.loop c) st K:=fun γ a w hr=>by
 obtain⟨γ0,hr0⟩:=h0 V N γ a w hr
 refine uh (I:=fun x a w=>I x∧∃ γ,RS V N (head x) γ a w) μ x0 ⟨hi,γ0,hr0⟩ ?_
 rintro x a w ⟨hx,γ,hr⟩
 refine wp_mono (round x hx γ a w hr) ?_
 rintro ex a' w' ⟨s,γ',h1,h2⟩
 cases ex with
 | normal =>
  obtain⟨x',h3,h4,h5⟩:=h2
  obtain⟨γ'',h6⟩:=h5 V N γ' a' w' h1
  exact⟨x',⟨h3,γ'',h6⟩,h4⟩
 | _=>exact⟨s,γ',h1,h2⟩
def Bv:List (Nat×Nat)→Nat→Option Nat
 | [],_=>none
 | (i,v) :: l,t=>if i=t then some v else Bv l t
mutual
def VIs:AV→D→Prop
 | .d x,r=>De x r
 | .ap sz n f _,r=>De (.sl sz n f) r
 | .tup l,.tup rs=>VIsL l rs
 | .agg l,.agg rs=>VIsL l rs
 | _,_=>False
def VIsL:List AV→List D→Prop
 | [],[]=>True
 | x :: xs,y :: ys=>VIs x y∧VIsL xs ys
 | _,_=>False
end
mutual
theorem VIs.rep:∀ {x:AV} {r:D} {v:Value},VIs x r→RepA γ x v→Rep γ.μ r v
 | .d x,r,v,h,hr=>by simp only[VIs]at h;simp only[RepA]at hr;exact hr.de h
 | .ap sz n f _,r,v,h,hr=>by simp only[VIs]at h;simp only[RepA]at hr;exact hr.1.de h
 | .tup l,r,v,h,hr=>by
  cases r with
  | tup rs=>simp only[VIs]at h;simp only[RepA]at hr;simp only[Rep];obtain⟨vs,e,h2⟩:=hr;exact⟨vs,e,VIsL.rep h h2⟩
  | _=>simp only[VIs]at h
 | .agg l,r,v,h,hr=>by
  cases r with
  | agg rs=>simp only[VIs]at h;simp only[RepA]at hr;simp only[Rep];obtain⟨vs,e,h2⟩:=hr;exact⟨vs,e,VIsL.rep h h2⟩
  | _=>simp only[VIs]at h
 | .ptr ..,r,v,h,_=>by simp only[VIs]at h
 | .ep ..,r,v,h,_=>by simp only[VIs]at h
 | .pa ..,r,v,h,_=>by simp only[VIs]at h
 | .arr ..,r,v,h,_=>by simp only[VIs]at h
 | .mp ..,r,v,h,_=>by simp only[VIs]at h
 | .vec ..,r,v,h,_=>by simp only[VIs]at h
 | .pv ..,r,v,h,_=>by simp only[VIs]at h
 | .fn ..,r,v,h,_=>by simp only[VIs]at h
 | .nilp,r,v,h,_=>by simp only[VIs]at h
 | .nilf,r,v,h,_=>by simp only[VIs]at h
 | .any,r,v,h,_=>by simp only[VIs]at h
theorem VIsL.rep:∀ {x:List AV} {r:List D} {v:List Value},VIsL x r→RepAL γ x v→RepL γ.μ r v
 | [],r,v,h,hr=>by
  cases r with
  | nil=>simpa only[RepAL,RepL] using hr
  | cons _ _=>simp only[VIsL]at h
 | x :: xs,r,v,h,hr=>by
  cases r with
  | nil=>simp only[VIsL]at h
  | cons y ys =>
   simp only[VIsL]at h
   simp only[RepAL]at hr
   simp only[RepL]
   obtain⟨u,t,e,h1,h2⟩:=hr
   exact⟨u,t,e,VIs.rep h.1 h1,VIsL.rep h.2 h2⟩
end
mutual
def Da (rs ts:List (Nat×Nat)):AV→AV→Prop
 | _,.any=>True
 | .d x,.d y=>De x y
 | .ap sz n f _,.d y=>De (.sl sz n f) y
 | .agg l,.d y=>VIs (.agg l) y
 | .ap _ _ _ .nl,.ap _ n' _ _=>n'=0
 | .ap sz n f (.tok a e),.ap sz' n' g (.tok b e')=>sz=sz'∧e=e'∧Bv ts b=some a∧De (.sl sz n f) (.sl sz' n' g)
 | .ptr a off,.ptr b off'=>Bv rs b=some a∧off=off'
 | .ep x off,.ep y off'=>x=y∧off=off'
 | .pa a sz i off,.pa b sz' i' off'=>Bv rs b=some a∧sz=sz'∧i=i'∧off=off'
 | .arr a sz n,.arr b sz' n'=>Bv rs b=some a∧sz=sz'∧n=n'
 | .vec a sz n,.vec b sz' n'=>Bv rs b=some a∧sz=sz'∧n=n'
 | .pv a sz i off,.pv b sz' i' off'=>Bv rs b=some a∧sz=sz'∧i=i'∧off=off'
 | .mp a,.mp b=>Bv rs b=some a
 | .nilp,.nilp=>True
 | .nilf,.nilf=>True
 | .fn f c,.fn g c'=>f=g∧L8 rs ts c c'
 | .agg l,.agg l'=>L8 rs ts l l'
 | .tup l,.tup l'=>L8 rs ts l l'
 | _,_=>False
def L8 (rs ts:List (Nat×Nat)):List AV→List AV→Prop
 | [],[]=>True
 | x :: xs,y :: ys=>Da rs ts x y∧L8 rs ts xs ys
 | _,_=>False
end
def Oble (rs ts:List (Nat×Nat)):Ob→Ob→Prop
 | .cells l,.cells l'=>L8 rs ts l l'
 | .arr sz n f,.arr sz' n' g=>sz=sz'∧De (.sl sz n f) (.sl sz' n' g)
 | .map P k e n f,.map P' k' e' n' f'=>P=P'∧k=k'∧e=e'∧n=n'∧f=f'
 | .vec e sz n f,.vec e' sz' n' g=>e=e'∧sz=sz'∧De (.sl sz n f) (.sl sz' n' g)
 | .bld0 T,.bld0 T'=>T=T'
 | _,.gone=>True
 | _,_=>False
structure sh (rs ts:List (Nat×Nat)) (γ γ':G):Prop where
 μ:γ'.μ=γ.μ
 ι:∀ b a,Bv rs b=some a→γ'.ι b=γ.ι a
 τ:∀ b a,Bv ts b=some a→γ'.τ b=γ.τ a
mutual
theorem RepA.le {rs ts:List (Nat×Nat)} (h:sh rs ts γ γ'):∀ {x y:AV} {v:Value},Da rs ts x y→RepA γ x v→RepA γ' y v
 | x,.any,v,_,_=>by simp only[RepA]
 | x,.d y,v,hl,hr=>by
  cases x with
  | d x=>simp only[Da]at hl;simp only[RepA]at hr ⊢;rw[h.μ];exact hr.de hl
  | ap sz n f r=>simp only[Da]at hl;simp only[RepA]at hr ⊢;rw[h.μ];exact hr.1.de hl
  | agg l=>simp only[Da]at hl;have:=VIs.rep hl hr;simp only[RepA];rw[h.μ];exact this
  | _=>simp only[Da]at hl
 | x,.ap sz' n' g r',v,hl,hr=>by
  cases x with
  | ap sz n f r =>
   cases r with
   | nl =>
    simp only[Da]at hl
    subst hl
    simp only[RepA,RightOk]at hr ⊢
    obtain⟨_,rfl⟩:=hr
    refine⟨by simp only[Rep];exact⟨none,0,rfl,Nat.le_refl _,Nat.zero_le _,fun h=>absurd h (by omega)⟩,?_⟩
    cases r' with
    | nl=>rfl
    | tok t e=>exact .inr rfl
   | tok a e =>
    cases r' with
    | nl=>simp only[Da]at hl
    | tok b e' =>
     simp only[Da]at hl
     obtain⟨rfl,rfl,h1,h2⟩:=hl
     simp only[RepA,RightOk]at hr ⊢
     rw[h.μ,h.τ b a h1]
     exact⟨hr.1.de h2,hr.2⟩
  | _=>simp only[Da]at hl
 | x,.ptr b off',v,hl,hr=>by
  cases x with
  | ptr a off=>simp only[Da]at hl;obtain⟨h1,rfl⟩:=hl;simp only[RepA]at hr ⊢;rw[h.ι b a h1];exact hr
  | _=>simp only[Da]at hl
 | x,.ep y off',v,hl,hr=>by
  cases x with
  | ep x off=>simp only[Da]at hl;obtain⟨rfl,rfl⟩:=hl;simp only[RepA]at hr ⊢;rw[h.μ];exact hr
  | _=>simp only[Da]at hl
 | x,.pa b sz' i' off',v,hl,hr=>by
  cases x with
  | pa a sz i off=>simp only[Da]at hl;obtain⟨h1,rfl,rfl,rfl⟩:=hl;simp only[RepA]at hr ⊢;rw[h.ι b a h1];exact hr
  | _=>simp only[Da]at hl
 | x,.arr b sz' n',v,hl,hr=>by
  cases x with
  | arr a sz n=>simp only[Da]at hl;obtain⟨h1,rfl,rfl⟩:=hl;simp only[RepA]at hr ⊢;rw[h.ι b a h1];exact hr
  | _=>simp only[Da]at hl
 | x,.vec b sz' n',v,hl,hr=>by
  cases x with
  | vec a sz n=>simp only[Da]at hl;obtain⟨h1,rfl,rfl⟩:=hl;simp only[RepA]at hr ⊢;rw[h.ι b a h1];exact hr
  | _=>simp only[Da]at hl
 | x,.pv b sz' i' off',v,hl,hr=>by
  cases x with
  | pv a sz i off=>simp only[Da]at hl;obtain⟨h1,rfl,rfl,rfl⟩:=hl;simp only[RepA]at hr ⊢;rw[h.ι b a h1];exact hr
  | _=>simp only[Da]at hl
 | x,.mp b,v,hl,hr=>by
  cases x with
  | mp a=>simp only[Da]at hl;simp only[RepA]at hr ⊢;rw[h.ι b a hl];exact hr
  | _=>simp only[Da]at hl
 | x,.fn g c',v,hl,hr=>by
  cases x with
  | fn f c=>simp only[Da]at hl;obtain⟨rfl,h2⟩:=hl;simp only[RepA]at hr ⊢;obtain⟨vs,e,h3⟩:=hr;exact⟨vs,e,RepAL.le h h2 h3⟩
  | _=>simp only[Da]at hl
 | x,.nilp,v,hl,hr=>by
  cases x with
  | nilp=>exact hr
  | _=>simp only[Da]at hl
 | x,.nilf,v,hl,hr=>by
  cases x with
  | nilf=>exact hr
  | _=>simp only[Da]at hl
 | x,.agg l',v,hl,hr=>by
  cases x with
  | agg l=>simp only[Da]at hl;simp only[RepA]at hr ⊢;obtain⟨vs,e,h3⟩:=hr;exact⟨vs,e,RepAL.le h hl h3⟩
  | _=>simp only[Da]at hl
 | x,.tup l',v,hl,hr=>by
  cases x with
  | tup l=>simp only[Da]at hl;simp only[RepA]at hr ⊢;obtain⟨vs,e,h3⟩:=hr;exact⟨vs,e,RepAL.le h hl h3⟩
  | _=>simp only[Da]at hl
theorem RepAL.le {rs ts:List (Nat×Nat)} (h:sh rs ts γ γ'):∀ {x y:List AV} {v:List Value},L8 rs ts x y→RepAL γ x v→RepAL γ' y v
 | x,[],v,hl,hr=>by
  cases x with
  | nil=>simpa only[RepAL] using hr
  | cons _ _=>simp only[L8]at hl
 | x,y :: ys,v,hl,hr=>by
  cases x with
  | nil=>simp only[L8]at hl
  | cons x xs =>
   simp only[L8]at hl
   simp only[RepAL]at hr ⊢
   obtain⟨u,t,e,h1,h2⟩:=hr
   exact⟨u,t,e,RepA.le h hl.1 h1,RepAL.le h hl.2 h2⟩
end
theorem Oble.ok {rs ts:List (Nat×Nat)} {x y:Ob} (hl:Oble rs ts x y) (hy:y.ok=true):x.ok=true:=by
 cases x<;>cases y<;>first | rfl | exact hl.elim | cases hy
theorem RepO.le {rs ts:List (Nat×Nat)} (h:sh rs ts γ γ') {x y:Ob} {v:Go.Obj} (hy:y.ok=true) (hl:Oble rs ts x y) (hr:RepO γ x v):RepO γ' y v:=by
 cases x with
 | cells l =>
  cases y with
  | cells l'=>obtain⟨vs,e,h1,h2,h3⟩:=hr;exact⟨vs,e,h1,RepAL.le h hl h2,h3⟩
  | gone=>cases hy
  | _=>exact hl.elim
 | arr sz n f =>
  cases y with
  | arr sz' n' g =>
   obtain⟨rfl,hl⟩:=hl
   obtain⟨rfl,hl2⟩:=hl.sl
   obtain⟨vs,e,h1,h2,h3⟩:=hr
   refine⟨vs,e,h1,h2,fun i hi=>?_⟩
   obtain⟨u,h4,h5⟩:=h3 i hi
   exact⟨u,by rw[h.μ];exact h4.de (hl2 i hi).2,h5⟩
  | gone=>cases hy
  | _=>exact hl.elim
 | map P k e n f =>
  cases y with
  | map P' k' e' n' f' =>
   obtain⟨rfl,rfl,rfl,rfl,rfl⟩:=hl
   exact hr
  | gone=>cases hy
  | _=>exact hl.elim
 | bld0 T =>
  cases y with
  | bld0 T'=>exact(show T=T' from hl) ▸ hr
  | gone=>cases hy
  | _=>exact hl.elim
 | vec e sz n f=>exact hr.elim
 | gone=>exact hr.elim
theorem Elems.de {μ:Nat→Nat→Option Value} {sz n n':Nat} {f g:Nat→D} {xs:List Value} (h:Elems μ sz n f xs) (hd:De (.sl sz n f) (.sl sz n' g)):n=n'∧Elems μ sz n' g xs:=by
 obtain⟨rfl,hl2⟩:=hd.sl
 refine⟨rfl,fun i hi=>?_⟩
 obtain⟨u,h4,h5⟩:=h i hi
 exact⟨u,h4.de (hl2 i hi).2,h5⟩
theorem ObjAt.le {rs ts:List (Nat×Nat)} (h:sh rs ts γ γ') {x y:Ob} {p:Pl} (hy:y.ok=true) (hl:Oble rs ts x y) (hr:ObjAt γ w x p):ObjAt γ' w y p:=by
 cases p with
 | blk b=>obtain⟨o,h1,h2⟩:=hr;exact⟨o,h1,h2.le h hy hl⟩
 | vec v e sz =>
  obtain⟨n,f,xs,rfl,h0,h1,h2⟩:=hr
  cases y with
  | vec e' sz' n' g =>
   obtain⟨rfl,rfl,hl⟩:=hl
   obtain⟨rfl,h3⟩:=h2.de hl
   exact⟨n,g,xs,rfl,h0,h1,by rw[h.μ];exact h3⟩
  | gone=>cases hy
  | _=>exact hl.elim
def E8 {α:Type} (p:α→Prop):List α→Prop
 | []=>True
 | [x]=>p x
 | x :: l=>p x∧E8 p l
theorem Ec {α:Type} {p:α→Prop}:∀ {l:List α},E8 p l→∀ x∈l,p x
 | [],_,x,hx=>by cases hx
 | [y],h,x,hx=>by rcases List.mem_singleton.1 hx with rfl;exact h
 | y :: z :: l,h,x,hx=>by
  obtain⟨h1,h2⟩:=h
  rcases List.mem_cons.1 hx with rfl | hx
  ·exact h1
  ·exact Ec h2 x hx
def H4 (rs ts:List (Nat×Nat)) (hp':List (Nat×Ob)) (live live':List Nat) (nx':Nat):Bool :=
 decide ((rs.map (·.2)).Nodup)&&(rs.all fun p=>decide (p.1 < nx'))&&(hp'.all fun p=>(Bv rs p.1).isSome)&&decide ((ts.map (·.2)).Nodup)&&(ts.all fun p=>decide (p.1 < nx')&&live.contains p.2)&&(live'.all fun t=>decide (t < nx'))
def Mj (rs:List (Nat×Nat)) (nx':Nat):Bool:=decide (16≤nx')&&rs.all fun p=>decide (16≤p.1) || p.1==p.2
def Q7 (rs ts:List (Nat×Nat)) (st st':St):Bool:=H4 rs ts st'.hp st.live st'.live st'.nx&&Mj rs st'.nx
theorem Cy:∀ {l:List (Nat×Nat)} {b a:Nat},Bv l b=some a→(b,a)∈l
 | [],_,_,h=>by cases h
 | (i,v) :: l,b,a,h=>by
  simp only[Bv]at h
  split at h
  ·rename_i e;injection h with h;subst e h;simp
  ·exact List.mem_cons_of_mem _ (Cy h)
theorem Kh {l:List (Nat×Nat)} (h:(l.map (·.2)).Nodup) {b c a:Nat} (h1:Bv l b=some a) (h2:Bv l c=some a):b=c:=by
 have m1:=Cy h1
 have m2:=Cy h2
 clear h1 h2
 induction l with
 | nil=>cases m1
 | cons x l ih =>
  simp only[List.map_cons,List.nodup_cons,List.mem_map]at h
  rcases List.mem_cons.1 m1 with e1 | m1<;>rcases List.mem_cons.1 m2 with e2 | m2
  ·rw[← e1]at e2;exact(Prod.mk.inj e2).1.symm
  ·exact absurd ⟨_,m2,by rw[← e1]⟩ h.1
  ·exact absurd ⟨_,m1,by rw[← e2]⟩ h.1
  ·exact ih h.2 m1 m2
theorem H6:∀ {l:List (Nat×AV)} {t:Nat},Cg l t=.any∨(t,Cg l t)∈l
 | [],_=>.inl rfl
 | (i,v) :: l,t=>by
  simp only[Cg]
  split
  ·rename_i e;subst e;exact .inr (by simp)
  ·rcases H6 (l:=l) (t:=t) with h | h
   ·exact .inl h
   ·exact .inr (List.mem_cons_of_mem _ h)
theorem E3:∀ {l:List (Nat×Ob)} {t:Nat} {o:Ob},Ae l t=some o→(t,o)∈l
 | [],_,_,h=>by cases h
 | (i,v) :: l,t,o,h=>by
  simp only[Ae]at h
  split at h
  ·rename_i e;injection h with h;subst e h;simp
  ·exact List.mem_cons_of_mem _ (E3 h)
def Jf (rs ts:List (Nat×Nat)) (keep:Nat→Option Pl) (γ:G):G:=⟨γ.μ,fun b=>match Bv rs b with | some a=>γ.ι a | none=>keep b,fun b=>(Bv ts b).bind γ.τ⟩
theorem Sf (rs ts:List (Nat×Nat)) (keep:Nat→Option Pl) (γ:G):sh rs ts γ (Jf rs ts keep γ):=⟨rfl,fun b a h=>by simp only[Jf,h],fun b a h=>by simp only[Jf,h,Option.bind_some]⟩
theorem af {own:Nat→Prop} (rs ts:List (Nat×Nat)) (keep:Nat→Option Pl) {hp hp':List (Nat×Ob)} {live live':List Nat} {nx':Nat} (hn:H4 rs ts hp' live live' nx'=true)
  (ho:E8 (fun p:Nat×Ob=>∃ b o,Bv rs p.1=some b∧Ae hp b=some o∧Oble rs ts o p.2) hp') (H:Hp own (Ae hp) (·∈live) γ w) (hk:∀ i,nx'≤i→keep i=none) :
  Hp own (Ae hp') (·∈live') (Jf rs ts keep γ) w∧Fq nx' (Ae hp') (·∈live') (Jf rs ts keep γ):=by
 unfold H4 at hn
 simp only[Bool.and_eq_true,decide_eq_true_eq,List.all_eq_true,List.contains_eq_mem]at hn
 obtain⟨⟨⟨⟨⟨n1,n2⟩,n3⟩,n4⟩,n5⟩,n6⟩:=hn
 have re:=Sf rs ts keep γ
 have obj':∀ id o,Ae hp' id=some o→∃ b o0,Bv rs id=some b∧Ae hp b=some o0∧Oble rs ts o0 o:=fun id o h=>Ec ho _ (E3 h)
 have tok':∀ t v,(Jf rs ts keep γ).τ t=some v→∃ a,Bv ts t=some a∧γ.τ a=some v∧a∈live:=fun t v h=>by
  simp only[Jf]at h
  rw[Option.bind_eq_some_iff]at h
  obtain⟨a,h1,h2⟩:=h
  exact⟨a,h1,h2,(n5 _ (Cy h1)).2⟩
 refine⟨⟨H.fz,fun id o h ho=>?_,fun i j oi oj p q hi hj ho1 ho2 hne hp1 hp2=>?_,fun t v e sz hl hq=>?_,fun s t v u hs ht hne hv hu=>?_⟩,⟨fun id hid=>⟨?_,?_,?_,?_⟩⟩⟩
 ·obtain⟨b,o0,h1,h2,h3⟩:=obj' id o h
  obtain⟨p,e1,e2,e3⟩:=H.obj b o0 h2 (h3.ok ho)
  exact⟨p,by rw[re.ι id b h1];exact e1,e2.le re ho h3,e3⟩
 ·obtain⟨b,o0,h1,h2,h5⟩:=obj' i oi hi
  obtain⟨c,o1,h3,h4,h6⟩:=obj' j oj hj
  rw[re.ι i b h1]at hp1
  rw[re.ι j c h3]at hp2
  exact H.inj b c o0 o1 p q h2 h4 (h5.ok ho1) (h6.ok ho2) (fun e=>hne (Kh n1 h1 (by rw[e];exact h3))) hp1 hp2
 ·obtain⟨c,h1,h2,h3⟩:=tok' t _ hq
  obtain⟨n,xs,q1,q2⟩:=H.tok c v e sz h3 h2
  refine⟨n,xs,q1,fun g hg=>?_⟩
  obtain⟨r1,r2,r3⟩:=q2 g hg
  refine⟨r1,r2,fun id o p h ho hp1=>?_⟩
  obtain⟨b,o0,h4,h5,h6⟩:=obj' id o h
  rw[re.ι id b h4]at hp1
  exact r3 b o0 p h5 (h6.ok ho) hp1
 ·obtain⟨b,h1,h2,h3⟩:=tok' s _ hv
  obtain⟨c,h4,h5,h6⟩:=tok' t _ hu
  exact H.tinj b c v u h3 h6 (fun e=>hne (Kh n4 h1 (by rw[e];exact h4))) h2 h5
 ·cases h:Bv rs id with
  | none=>simp only[Jf,h];exact hk id hid
  | some b=>have:=n2 _ (Cy h);simp only at this;omega
 ·cases h:Bv ts id with
  | none=>simp only[Jf,h,Option.bind_none]
  | some b=>have:=(n5 _ (Cy h)).1;simp only at this;omega
 ·cases h:Ae hp' id with
  | none=>rfl
  | some o =>
   obtain⟨b,o0,h1,_⟩:=obj' id o h
   have:=n2 _ (Cy h1);simp only at this;omega
 ·intro h;have:=n6 _ h;omega
def Ns (γ:G):Nat→Option Pl:=fun i=>if i < 16 then γ.ι i else none
theorem Vw {rs ts:List (Nat×Nat)} {nx':Nat} (h:Mj rs nx'=true) {i:Nat} {b:Pl} (hi:i < 16) (e:γ.ι i=some b):(Jf rs ts (Ns γ) γ).ι i=some b:=by
 unfold Mj at h
 simp only[Bool.and_eq_true,decide_eq_true_eq,List.all_eq_true,Bool.or_eq_true,beq_iff_eq]at h
 simp only[Jf]
 cases hl:Bv rs i with
 | none=>simp only[Ns,if_pos hi,e]
 | some a =>
  have:=h.2 _ (Cy hl)
  simp only at this
  obtain rfl:i=a:=by omega
  exact e
theorem Sw {rs:List (Nat×Nat)} {nx':Nat} (h:Mj rs nx'=true) (i:Nat) (hi:nx'≤i):Ns γ i=none:=by
 unfold Mj at h
 simp only[Bool.and_eq_true,decide_eq_true_eq]at h
 exact if_neg (by omega)
theorem H9 (rs ts:List (Nat×Nat)) {st st':St} (hn:Q7 rs ts st st'=true) (hf:E8 (fun p:Nat×AV=>Da rs ts (Cg st.fr p.1) p.2) st'.fr)
  (ho:E8 (fun p:Nat×Ob=>∃ b o,Bv rs p.1=some b∧Ae st.hp b=some o∧Oble rs ts o p.2) st'.hp):Weak st st':=fun V N γ a w ⟨R,F⟩=>by
 unfold Q7 at hn
 rw[Bool.and_eq_true]at hn
 obtain⟨h1,h2⟩:=af rs ts (Ns γ) hn.1 ho R.hp (Sw hn.2)
 refine⟨_,⟨R.defers,R.size,fun t=>?_,(fun t j want h=>by cases h),h1,R.base,R.big,⟨R.mu.mu,R.mu.le,fun i b hi e=>Vw hn.2 hi (R.mu.pin i b hi e)⟩⟩,h2⟩
 show RepA _ (Cg st'.fr t) (a.tmps.getD t undef)
 rcases H6 (l:=st'.fr) (t:=t) with h | h
 ·rw[h];simp only[RepA]
 ·exact RepA.le (Sf rs ts _ γ) (Ec hf _ h) (R.fr t)
def v6 (P:Program) (st:St):ResultVar→Option AV
 | .tmp t=>some (Cg st.fr t)
 | .cell a t=>if(P.underlying t).isSome=true then(match Cg st.fr a with
  | .ptr id off=>match Ae st.hp id with
   | some (.cells cs)=>Uv P t cs off
   | _=>none
  | _=>none)else none
def Kz (P:Program) (st:St):List ResultVar→Option (List AV)
 | []=>some []
 | r :: l=>match v6 P st r with
  | some v=>(Kz P st l).map (v :: ·)
  | none=>none
def R0 (P:Program) (rs:List ResultVar) (st:St) (r:D):Prop :=
 match Kz P st rs with
 | some [v]=>VIs v r
 | some l=>VIs (.tup l) r
 | none=>False
def RetK (P:Program) (fn:Func) (r:D):Exit→St→Prop
 | .ret,st=>R0 P fn.results.toList st r
 | .normal,st=>R0 P fn.results.toList st r
 | _,_=>False
def Oj (tmps:Array Value):ResultVar→Sem Value
 | .tmp t=>pure (tmps.getD t undef)
 | .cell a t=>do loadVar t (← asAddr (tmps.getD a undef))
theorem run_resA {st:St} {a:Act} (hr:RS V N st γ a w) {r:ResultVar} {v:AV} (h:v6 P st r=some v) :
  ∃ u,(Oj a.tmps r).run P w=.ok u w∧RepA γ v u:=by
 cases r with
 | tmp t=>simp only[v6,Option.some.injEq]at h;subst h;exact⟨_,rfl,hr.1.fr t⟩
 | cell b t =>
  simp only[v6]at h
  split at h
  ·rename_i hs
   obtain⟨d,hd⟩:=Option.isSome_iff_exists.1 hs
   split at h
   ·rename_i id off hb
    split at h
    ·rename_i cs hcs
     have hf:=hr.1.fr b
     simp only[EOk,hb,RepA]at hf
     obtain⟨bl,h1,h2⟩:=hf
     obtain⟨bl',x,e1,e2,e3,_⟩:=hr.1.hp.blk hcs rfl
     obtain rfl:bl'=bl:=by rw[h1]at e1;injection e1 with e1;injection e1 with e1;exact e1.symm
     obtain⟨vs,el,rfl,e4,_⟩:=e3
     obtain⟨u,h3,h4⟩:=Nn h e4
     refine⟨u,?_,h3⟩
     have:=Hn (P:=P) (w:=w) hd (b:=bl') (o:=0) (off:=off) (vs:=vs) (fun j v hj=>by simp[World.cell?,e2,hj]) u h4
     rw[Nat.zero_add]at this
     simp only[Oj,h2,asAddr,Sem.run_bind,Sem.run_pure,Result.andThen_ok]
     simpa [Instr.loadAt,Instr.sureAddr] using this
    ·cases h
   ·cases h
  ·cases h
theorem Ud {st:St} {a:Act} (hr:RS V N st γ a w):∀ {l:List ResultVar} {vs:List AV},Kz P st l=some vs →
  ∃ us:List Value,(l.mapM (Oj a.tmps)).run P w=.ok us w∧RepAL γ vs us
 | [],vs,h=>by
  simp only[Kz,Option.some.injEq]at h
  subst h
  exact⟨[],by simp,by simp only[RepAL]⟩
 | r :: l,vs,h=>by
  simp only[Kz]at h
  split at h
  ·rename_i v hv
   rw[Option.map_eq_some_iff]at h
   obtain⟨vs',h1,rfl⟩:=h
   obtain⟨u,h2,h3⟩:=run_resA hr hv
   obtain⟨us,h4,h5⟩:=Ud hr h1
   refine⟨u :: us,?_,by simp only[RepAL];exact⟨u,us,rfl,h3,h5⟩⟩
   rw[List.mapM_cons,Sem.run_bind,h2,Result.andThen_ok,Sem.run_bind,h4]
   rfl
  ·cases h
theorem oe {fn:Func} {st:St} {a:Act} {r:D} (hr:RS V N st γ a w) (h:R0 P fn.results.toList st r):∃ u,(results fn a.tmps).run P w=.ok u w∧Rep γ.μ r u:=by
 unfold R0 at h
 cases hl:Kz P st fn.results.toList with
 | none=>rw[hl]at h;exact h.elim
 | some vs =>
  obtain⟨us,h1,h2⟩:=Ud hr hl
  have h3:(fn.results.mapM (Oj a.tmps)).run P w=.ok us.toArray w:=by
   rw[Array.mapM_eq_mapM_toList,Sem.run_map,h1]
   rfl
  have h4:(results fn a.tmps).run P w=.ok (if h:us.toArray.size=1 then us.toArray[0]else .tuple us.toArray) w:=by
   have e:results fn a.tmps=(do let vs ← fn.results.mapM (Oj a.tmps);pure (if h:vs.size=1 then vs[0]else .tuple vs)):=by
    unfold results
    congr 1
   rw[e,Sem.run_bind,h3]
   rfl
  rw[hl]at h
  refine⟨_,h4,?_⟩
  match vs,us,h2,h with
  | [v],us,h2,h =>
   simp only[RepAL]at h2
   obtain⟨u,t,rfl,h5,rfl⟩:=h2
   simpa using h.rep h5
  | [],us,h2,h =>
   simp only[RepAL]at h2
   subst h2
   exact VIs.rep (x:=.tup []) h (by simp only[RepA];exact⟨[],rfl,by simp only[RepAL]⟩)
  | v :: v2 :: l,us,h2,h =>
   have hlen:=h2.length
   rw[dif_neg (by simp at hlen ⊢;omega)]
   exact VIs.rep (x:=.tup (v :: v2 :: l)) h (by simp only[RepA];exact⟨us,rfl,h2⟩)
def P0:Nat→List D→List (Nat×AV)
 | _,[]=>[]
 | i,d :: l=>(i,.d d) :: P0 (i+1) l
theorem Y7:∀ (ds:List D) (i t:Nat),Cg (P0 i ds) t=if i≤t then(match ds[t - i]? with | some d=>.d d | none=>.any)else .any
 | [],i,t=>by simp[P0,Cg]
 | d :: l,i,t=>by
  simp only[P0,Cg]
  by_cases h:i=t
  ·subst h;simp
  ·rw[if_neg h,Y7 l (i+1) t]
   by_cases h2:i≤t
   ·rw[if_pos (by omega),if_pos h2]
    have:t - i=(t - (i+1))+1:=by omega
    rw[this,List.getElem?_cons_succ]
   ·rw[if_neg (by omega),if_neg h2]
theorem pure_of {f:FuncId} {fn:Func} {c:Code} {ds:List D} {r:D} (hf:P.funcs[f]?=some fn) (hb:fn.body=some c) (hn:fn.name ≠ "runtime.NumGoroutine") (hlen:ds.length≤fn.ntmps)
  (h:∀ V:Gm,Tri P V fn.ntmps c ⟨P0 0 ds,[],[],16⟩ (RetK P fn r)):Aa P f ds r:=by
 refine⟨⟨fn,hf,by rw[hb];rfl,hn⟩,fun μ w vs hfz hrep=>?_⟩
 refine calls_of_wp hf hb ?_
 let γ:G:=⟨μ,fun _=>none,fun _=>none⟩
 let V:Gm:=⟨fun b=>w.heap.size≤b,⟨γ,[]⟩,w⟩
 have hvl:=hrep.length
 have rs:RS V fn.ntmps ⟨P0 0 ds,[],[],16⟩ γ { tmps:=vs.toArray++Array.replicate (fn.ntmps - vs.toArray.size) undef,defers:=[] } w:=by
  refine⟨⟨rfl,by simp;omega,fun t=>?_,(fun t j want h=>by cases h),⟨hfz,(fun id o h=>by cases h),(fun i j oi oj p q h=>by cases h),(fun t v e sz h=>by cases h),(fun s t v u h=>by cases h)⟩,Base.refl _ _,fun _ h=>h,Keep.refl _ _ _ _⟩,⟨fun id _=>⟨rfl,rfl,rfl,by simp⟩⟩⟩
  show RepA γ (Cg (P0 0 ds) t) _
  rw[Y7,if_pos (Nat.zero_le _),Nat.sub_zero]
  cases hd:ds[t]? with
  | none=>simp only[RepA]
  | some d =>
   obtain⟨v,h1,h2⟩:=hrep.get t d hd
   have hlt:t < vs.length:=(List.getElem?_eq_some_iff.1 h1).1
   have:(vs.toArray++Array.replicate (fn.ntmps - vs.toArray.size) undef).getD t undef=v:=by
    rw[Array.getD_eq_getD_getElem?,Array.getElem?_append_left (by simpa using hlt)]
    simp[h1]
   rw[this]
   simpa only[RepA] using h2
 refine wp_mono (h V γ _ w rs) ?_
 rintro ex a' w' ⟨st',γ',h1,h2⟩
 have fin:R0 P fn.results.toList st' r→a'.defers=[]∧∃ v,(results fn a'.tmps).run P w'=.ok v w'∧∃ v' ν,Ending.returned v=.returned v'∧Gh w w'∧(∀ b o,b < w.heap.size→ν b o=μ b o)∧Lb ν w'∧Rep ν r v':=fun hres=>by
  obtain⟨u,h3,h4⟩:=oe h1 hres
  have hb:=h1.1.base
  refine⟨h1.1.defers,u,h3,u,γ'.μ,rfl,⟨hb.os,hb.tape,hb.output,hb.size,fun k hk=>hb.block k hk (by show ¬ (w.heap.size≤k);omega)⟩,fun b o hlt=>h1.1.mu.mu b o hlt (by show ¬ (w.heap.size≤b);omega),h1.1.hp.fz,h4⟩
 cases ex with
 | ret=>exact fin h2
 | normal=>exact fin h2
 | _=>exact h2.elim
def sub:Code→List Nat→Code
 | c,[]=>c
 | .seq a b,n :: p=>if n=0 then sub a p else sub b p
 | .cond _ a b,n :: p=>if n=0 then sub a p else sub b p
 | .block _ c,_ :: p=>sub c p
 | .loop c,_ :: p=>sub c p
 | .scope c,_ :: p=>sub c p
 | c,_=>c
def body (f:Func):Code:=match f.body with | some c=>c | none=>.skip
end Go.Av
namespace Go.Av
open Go.RowKit Go.Base
variable {P:Program} {V:Gm} {N:Nat} {γ γ':G} {w w':World} {own:Nat→Prop}
abbrev S4:=Nat×Nat×Nat×(Nat→D)
def Eb (fz:List S4):List Nat:=fz.map (·.1)
inductive Fz (fz:List S4):List AV→List AV→Prop where
 | nil:Fz fz [] []
 | same {x:AV} {l m:List AV}:Fz fz l m→Fz fz (x :: l) (x :: m)
 | arr {a sz n k:Nat} {f:Nat→D} {y:D} {l m:List AV}:(a,sz,n,f)∈fz→k≤n→De (.sl sz k f) y→Fz fz l m→Fz fz (.arr a sz k :: l) (.d y :: m)
 | vec {a sz n k:Nat} {f:Nat→D} {y:D} {l m:List AV}:(a,sz,n,f)∈fz→De (.sl sz n f) y→Fz fz l m→Fz fz (.vec a sz k :: l) (.d y :: m)
 | dat {x y:D} {l m:List AV}:De x y→Fz fz l m→Fz fz (.d x :: l) (.d y :: m)
 | ap {sz n:Nat} {f:Nat→D} {r:fj} {y:D} {l m:List AV}:De (.sl sz n f) y→Fz fz l m→Fz fz (.ap sz n f r :: l) (.d y :: m)
 | agg {c c' l m:List AV}:Fz fz c c'→Fz fz l m→Fz fz (.agg c :: l) (.agg c' :: m)
 | aggD {c:List AV} {r:List D} {l m:List AV}:Fz fz c (r.map .d)→Fz fz l m→Fz fz (.agg c :: l) (.d (.agg r) :: m)
 | tup {c c' l m:List AV}:Fz fz c c'→Fz fz l m→Fz fz (.tup c :: l) (.tup c' :: m)
 | tupD {c:List AV} {r:List D} {l m:List AV}:Fz fz c (r.map .d)→Fz fz l m→Fz fz (.tup c :: l) (.d (.tup r) :: m)
 | fn {g:FuncId} {c c' l m:List AV}:Fz fz c c'→Fz fz l m→Fz fz (.fn g c :: l) (.fn g c' :: m)
theorem Pq:∀ {r:List D} {vs:List Value},RepAL γ (r.map .d) vs→RepL γ.μ r vs
 | [],_,h=>by simpa only[List.map_nil,RepAL,RepL] using h
 | x :: r,vs,h=>by
  simp only[List.map_cons,RepAL]at h
  obtain⟨v,t,rfl,h1,h2⟩:=h
  simp only[RepA]at h1
  simp only[RepL]
  exact⟨v,t,rfl,h1,Pq h2⟩
def l6 (γ γ':G) (a sz n:Nat) (f:Nat→D):Prop :=
 (∀ k b c,γ.ι a=some (.blk b)→k≤n→k≤c→c≤maxLen→Rep γ'.μ (.sl sz k f) (.slice (some ⟨b,0,none⟩) k c))∧∀ v e z,γ.ι a=some (.vec v e z)→Rep γ'.μ (.sl sz n f) v
def Qw (o:Option Ob) (sz n:Nat) (f:Nat→D):Prop:=match o with
 | some (.arr s k g)=>s=sz∧k=n∧g=f
 | some (.vec _ s k g)=>s=sz∧k=n∧g=f
 | _=>False
theorem Mb {o:Option Ob} {sz n:Nat} {f:Nat→D} (h:o=some (.arr sz n f)):Qw o sz n f:=by subst h;exact⟨rfl,rfl,rfl⟩
theorem Ua {o:Option Ob} {e:TypeId} {sz n:Nat} {f:Nat→D} (h:o=some (.vec e sz n f)):Qw o sz n f:=by subst h;exact⟨rfl,rfl,rfl⟩
theorem Fz.rep {fz:List S4} (le:LeG γ γ') (hz:∀ a sz n f,(a,sz,n,f)∈fz→l6 γ γ' a sz n f) :
  ∀ {l m:List AV},Fz fz l m→∀ {vs:List Value},RepAL γ l vs→RepAL γ' m vs:=by
 intro l m h
 induction h with
 | nil=>intro vs hr;simpa only[RepAL] using hr
 | same h ih=>intro vs hr;simp only[RepAL]at hr ⊢;obtain⟨v,t,rfl,h1,h2⟩:=hr;exact⟨v,t,rfl,RepA.mono le _ _ h1,ih h2⟩
 | arr hm hk hd h ih =>
  intro vs hr
  simp only[RepAL]at hr ⊢
  obtain⟨v,t,rfl,h1,h2⟩:=hr
  simp only[RepA]at h1 ⊢
  obtain⟨b,c,e1,rfl,e3,e4⟩:=h1
  exact⟨_,t,rfl,((hz _ _ _ _ hm).1 _ b c e1 hk e3 e4).de hd,ih h2⟩
 | vec hm hd h ih =>
  intro vs hr
  simp only[RepAL]at hr ⊢
  obtain⟨v,t,rfl,h1,h2⟩:=hr
  simp only[RepA]at h1 ⊢
  obtain⟨e,A,c,e1,_⟩:=h1
  exact⟨_,t,rfl,((hz _ _ _ _ hm).2 v e _ e1).de hd,ih h2⟩
 | dat hd h ih =>
  intro vs hr
  simp only[RepAL]at hr ⊢
  obtain⟨v,t,rfl,h1,h2⟩:=hr
  simp only[RepA]at h1 ⊢
  exact⟨_,t,rfl,(Rep.mono le.μ _ _ h1).de hd,ih h2⟩
 | ap hd h ih =>
  intro vs hr
  simp only[RepAL]at hr ⊢
  obtain⟨v,t,rfl,h1,h2⟩:=hr
  simp only[RepA]at h1 ⊢
  exact⟨_,t,rfl,(Rep.mono le.μ _ _ h1.1).de hd,ih h2⟩
 | agg hc h ihc ih =>
  intro vs hr
  simp only[RepAL]at hr ⊢
  obtain⟨v,t,rfl,h1,h2⟩:=hr
  simp only[RepA]at h1 ⊢
  obtain⟨us,e,h3⟩:=h1
  exact⟨_,t,rfl,⟨us,e,ihc h3⟩,ih h2⟩
 | aggD hc h ihc ih =>
  intro vs hr
  simp only[RepAL]at hr ⊢
  obtain⟨v,t,rfl,h1,h2⟩:=hr
  simp only[RepA,Rep]at h1 ⊢
  obtain⟨us,e,h3⟩:=h1
  exact⟨_,t,rfl,⟨us,e,Pq (ihc h3)⟩,ih h2⟩
 | tup hc h ihc ih =>
  intro vs hr
  simp only[RepAL]at hr ⊢
  obtain⟨v,t,rfl,h1,h2⟩:=hr
  simp only[RepA]at h1 ⊢
  obtain⟨us,e,h3⟩:=h1
  exact⟨_,t,rfl,⟨us,e,ihc h3⟩,ih h2⟩
 | tupD hc h ihc ih =>
  intro vs hr
  simp only[RepAL]at hr ⊢
  obtain⟨v,t,rfl,h1,h2⟩:=hr
  simp only[RepA,Rep]at h1 ⊢
  obtain⟨us,e,h3⟩:=h1
  exact⟨_,t,rfl,⟨us,e,Pq (ihc h3)⟩,ih h2⟩
 | fn hc h ihc ih =>
  intro vs hr
  simp only[RepAL]at hr ⊢
  obtain⟨v,t,rfl,h1,h2⟩:=hr
  simp only[RepA]at h1 ⊢
  obtain⟨us,e,h3⟩:=h1
  exact⟨_,t,rfl,⟨us,e,ihc h3⟩,ih h2⟩
def Hb (ids:List Nat) (hp:Nat→Option Ob):Nat→Option Ob:=fun j=>if j∈ids then none else hp j
theorem hp_frz1 {hp:Nat→Option Ob} {live:Nat→Prop} (H:Hp own hp live γ w) {id sz n:Nat} {f:Nat→D} (h:Qw (hp id) sz n f) :
  ∃ γ':G,γ'.ι=γ.ι∧γ'.τ=γ.τ∧LeM γ.μ γ'.μ∧(∀ c k,¬ own c→γ'.μ c k=γ.μ c k)∧Hp own (Hb [id] hp) live γ' w∧l6 γ γ' id sz n f:=by
 cases ho:hp id with
 | none=>rw[ho]at h;exact h.elim
 | some o =>
 rw[ho]at h
 have hok:o.ok=true:=by cases o<;>first | rfl | exact h.elim
 obtain⟨p,e1,e2,e3⟩:=H.obj id o ho hok
 let μ':Nat→Nat→Option Value:=fun c k=>if p.block=some c then w.cell? ⟨c,k,none⟩else γ.μ c k
 have le:LeM γ.μ μ':=fun c k v hv=>by
  simp only[μ']
  split
  ·rename_i hc;rw[(e3 c hc).2]at hv;cases hv
  ·exact hv
 have leG:LeG γ ⟨μ',γ.ι,γ.τ⟩:=⟨le,fun _ _ h=>h,fun _ _ h=>h⟩
 have hd:∀ j o,Hb [id] hp j=some o→j≠id∧hp j=some o:=fun j o hj=>by
  simp only[Hb,List.mem_singleton]at hj
  split at hj
  ·cases hj
  ·rename_i hne;exact⟨hne,hj⟩
 refine⟨⟨μ',γ.ι,γ.τ⟩,rfl,rfl,le,fun c k hc=>?_,⟨fun c k v hv=>?_,fun j oj hj hoj=>?_,fun i j oi oj pi pj hi hj h1 h2 hne hpi hpj=>?_,fun t v e z hl hq=>?_,H.tinj⟩,fun k b' c hb hkn hn hc=>?_,fun v e z hb=>?_⟩
 ·simp only[μ']
  rw[if_neg (fun e=>hc (e3 c e).1)]
 ·simp only[μ']at hv
  split at hv
  ·exact hv
  ·exact H.fz c k v hv
 ·obtain⟨hne,hj⟩:=hd j oj hj
  obtain⟨q,g1,g2,g3⟩:=H.obj j oj hj hoj
  refine⟨q,g1,g2.kept leG fun _ _=>rfl,fun b hb=>⟨(g3 b hb).1,fun k=>?_⟩⟩
  simp only[μ']
  rw[if_neg (fun e=>?_)]
  ·exact(g3 b hb).2 k
  ·rcases H.inj j id oj o q p hj ho hoj hok hne g1 e1 with h' | h'
   ·rw[hb]at h';cases h'
   ·exact h' (by rw[hb,e])
 ·exact H.inj i j oi oj pi pj (hd i oi hi).2 (hd j oj hj).2 h1 h2 hne hpi hpj
 ·obtain⟨m,xs,q1,q2⟩:=H.tok t v e z hl hq
  refine⟨m,xs,q1,fun g hg=>?_⟩
  obtain⟨r1,r2,r3⟩:=q2 g hg
  refine⟨r1,fun k hk=>?_,fun j oj pj hj hoj hpj=>r3 j oj pj (hd j oj hj).2 hoj hpj⟩
  simp only[μ']
  rw[if_neg (r3 id o p ho hok e1)];exact r2 k hk
 ·rw[e1]at hb
  injection hb with hb
  subst hb
  obtain⟨x,hx,hr⟩:=e2
  cases o with
  | arr s k' g =>
   obtain⟨rfl,rfl,rfl⟩:=h
   obtain⟨vs,te,rfl,f1,f2⟩:=hr
   simp only[Rep]
   refine⟨_,c,rfl,hn,hc,fun _=>⟨b',0,rfl,fun i hi=>?_⟩⟩
   obtain⟨u,h1,h2,h3,h4⟩:=f2 i (by omega)
   refine⟨u,Rep.mono le _ _ h1,h2,h3,fun j hj=>?_⟩
   simp only[μ',Pl.block,if_true,Nat.zero_add]
   rw[← h4 j hj]
   simp[World.cell?,hx]
  | vec=>exact hr.elim
  | _=>exact h.elim
 ·rw[e1]at hb
  injection hb with hb
  subst hb
  obtain⟨n',f',xs,rfl,h0,ow,hE⟩:=e2
  obtain⟨rfl,rfl,rfl⟩:=h
  obtain⟨A',c',g1,g2,g3,g4⟩:=U5 ow
  simp only[Rep]
  refine⟨A',c',g1,g2,g3,fun hn=>?_⟩
  obtain⟨b,hb⟩:=g4 hn
  refine⟨b,0,hb,fun i hi=>?_⟩
  obtain⟨u,k1,k2,k3,k4⟩:=hE i hi
  refine⟨u,Rep.mono le _ _ k1,k2,k3,fun j hj=>?_⟩
  have hbl:v.ownBlock=some b:=by rw[g1,hb];rfl
  simp only[μ',Pl.block,hbl,if_true,Nat.zero_add]
  have hu:j < u.cells.size:=by rw[k2];exact hj
  have h9:=k4 j hj
  rw[Array.getElem?_eq_getElem hu]at h9 ⊢
  have:=ow.cells (g:=b) hbl _ _ h9
  rwa [Dx,Nat.zero_add]at this
theorem wd:∀ (fz:List S4) {γ:G} {hp:Nat→Option Ob} {live:Nat→Prop},Hp own hp live γ w→(Eb fz).Nodup→(∀ a sz n f,(a,sz,n,f)∈fz→Qw (hp a) sz n f) →
  ∃ γ':G,γ'.ι=γ.ι∧γ'.τ=γ.τ∧LeM γ.μ γ'.μ∧(∀ c k,¬ own c→γ'.μ c k=γ.μ c k)∧Hp own (Hb (Eb fz) hp) live γ' w ∧
   ∀ a sz n f,(a,sz,n,f)∈fz→l6 γ γ' a sz n f
 | [],γ,hp,live,H,_,_=>⟨γ,rfl,rfl,LeM.refl _,fun _ _ _=>rfl,by
   have:Hb (Eb []) hp=hp:=by funext j;simp[Hb,Eb]
   rw[this];exact H,fun _ _ _ _ h=>by cases h⟩
 | (a,sz,n,f) :: fz,γ,hp,live,H,hn,hh=>by
  simp only[Eb,List.map_cons,List.nodup_cons]at hn
  obtain⟨hn1,hn2⟩:=hn
  obtain⟨γ1,i1,t1,l1,k1,H1,r1⟩:=hp_frz1 H (hh a sz n f (by simp))
  obtain⟨γ2,i2,t2,l2,k2,H2,r2⟩:=wd fz H1 hn2 fun a' sz' n' f' hm=>by
   have hne:a'≠a:=fun e=>hn1 (by rw[← e];exact List.mem_map.2 ⟨_,hm,rfl⟩)
   simp only[Hb,List.mem_singleton,if_neg hne]
   exact hh a' sz' n' f' (by simp[hm])
  refine⟨γ2,i2.trans i1,t2.trans t1,fun b o v e=>l2 b o v (l1 b o v e),fun c k hc=>(k2 c k hc).trans (k1 c k hc),?_,?_⟩
  ·have:Hb (Eb ((a,sz,n,f) :: fz)) hp=Hb (Eb fz) (Hb [a] hp):=by
    funext j
    have hc:(j∈Eb ((a,sz,n,f) :: fz))↔(j=a∨j∈Eb fz):=by simp[Eb]
    simp only[Hb,List.mem_singleton]
    by_cases h2:j∈Eb fz
    ·rw[if_pos (hc.2 (.inr h2)),if_pos h2]
    ·rw[if_neg h2]
     by_cases h1:j=a
     ·rw[if_pos (hc.2 (.inl h1)),if_pos h1]
     ·rw[if_neg (fun h=>(hc.1 h).elim h1 h2),if_neg h1]
   rw[this];exact H2
  ·intro a' sz' n' f' hm
   rcases List.mem_cons.1 hm with e | hm
   ·simp only[Prod.mk.injEq]at e
    obtain⟨rfl,rfl,rfl,rfl⟩:=e
    exact⟨fun k b c hb hk h1 h2=>Rep.mono l2 _ _ (r1.1 k b c hb hk h1 h2),fun v e z hb=>Rep.mono l2 _ _ (r1.2 v e z hb)⟩
   ·have:=r2 a' sz' n' f' hm
    exact⟨fun k b c hb=>this.1 k b c (by rw[i1];exact hb),fun v e z hb=>this.2 v e z (by rw[i1];exact hb)⟩
def FzO (fz:List S4) (hp:List (Nat×Ob)) (p:Nat×Ob):Prop:=Ae hp p.1=some p.2∨∃ l l',Ae hp p.1=some (.cells l)∧p.2=.cells l'∧Fz fz l l'
theorem fz_one {fz:List S4} {x y:AV} {v:Value} {P:Prop} (h:∀ {vs:List Value},RepAL γ [x] vs→RepAL γ' [y] vs) (hr:RepA γ x v):RepA γ' y v:=by
 have:=h (vs:=[v]) (by simp only[RepAL];exact⟨v,[],rfl,hr,rfl⟩)
 simp only[RepAL]at this
 obtain⟨u,t,e,h1,_⟩:=this
 injection e with e1 e2
 rw[e1];exact h1
theorem qj {fz:List S4} {hp hp':List (Nat×Ob)} {live:Nat→Prop} (hn:decide ((Eb fz).Nodup)=true) (hk:(hp'.all fun p=>!(Eb fz).contains p.1)=true) (hz:E8 (fun q:S4=>Qw (Ae hp q.1) q.2.1 q.2.2.1 q.2.2.2) fz)
  (ho:E8 (FzO fz hp) hp') (H:Hp own (Ae hp) live γ w) :
  ∃ γ':G,γ'.ι=γ.ι∧γ'.τ=γ.τ∧LeM γ.μ γ'.μ∧(∀ c k,¬ own c→γ'.μ c k=γ.μ c k)∧Hp own (Ae hp') live γ' w∧(∀ {l m:List AV},Fz fz l m→∀ {vs:List Value},RepAL γ l vs→RepAL γ' m vs)∧∀ j o,Ae hp' j=some o→∃ o',Ae hp j=some o':=by
 obtain⟨γ',i1,t1,l1,k1,H1,r1⟩:=wd fz H (of_decide_eq_true hn) fun a sz n f hm=>Ec hz _ hm
 have le:LeG γ γ':=⟨l1,fun i b h=>by rw[i1];exact h,fun i b h=>by rw[t1];exact h⟩
 have rep:=fun {l m:List AV} (h:Fz fz l m) {vs:List Value}=>Fz.rep le r1 h (vs:=vs)
 simp only[List.all_eq_true,Bool.not_eq_true',List.contains_eq_mem,decide_eq_false_iff_not]at hk
 have old:∀ j o,Ae hp' j=some o→∃ o0,Hb (Eb fz) (Ae hp) j=some o0∧Ae hp j=some o0∧(o.ok=true→o0.ok=true)∧∀ p,ObjAt γ w o0 p→ObjAt γ' w o p:=fun j o hj=>by
  have hm:=E3 hj
  have hnot:=hk _ hm
  simp only at hnot
  have hd:∀ z,Ae hp j=some z→Hb (Eb fz) (Ae hp) j=some z:=fun z hz=>by simp only[Hb,if_neg hnot];exact hz
  rcases Ec ho _ hm with h | ⟨l,l',h1,h2,h3⟩
  ·simp only at h
   exact⟨o,hd _ h,h,id,fun p hp=>hp.kept le fun _ _=>rfl⟩
  ·simp only at h1 h2
   refine⟨_,hd _ h1,h1,fun _=>rfl,fun p hp=>?_⟩
   subst h2
   cases p with
   | blk b =>
    obtain⟨y,hy,vs,e,rfl,g1,g2⟩:=hp
    exact⟨_,hy,vs,e,rfl,rep h3 g1,g2⟩
   | vec v e z=>obtain⟨n,f,xs,hc,_⟩:=hp;cases hc
 refine⟨γ',i1,t1,l1,k1,⟨H1.fz,fun j o hj hok=>?_,fun i j oi oj p q hi hj c1 c2 hne hp hq=>?_,fun t v e z hl hq=>?_,H1.tinj⟩,fun h=>rep h,fun j o hj=>let ⟨o0,_,h,_⟩:=old j o hj;⟨o0,h⟩⟩
 ·obtain⟨o0,h1,h2,h0,h3⟩:=old j o hj
  obtain⟨p,g1,g2,g3⟩:=H.obj j o0 h2 (h0 hok)
  obtain⟨p',g1',g2',g3'⟩:=H1.obj j o0 h1 (h0 hok)
  rw[i1,g1]at g1'
  injection g1' with g1'
  subst g1'
  exact⟨p,by rw[i1];exact g1,h3 p g2,g3'⟩
 ·obtain⟨o0,h1,_,h0,_⟩:=old i oi hi
  obtain⟨o1,h2,_,h0',_⟩:=old j oj hj
  exact H1.inj i j o0 o1 p q h1 h2 (h0 c1) (h0' c2) hne hp hq
 ·obtain⟨m,xs,q1,q2⟩:=H1.tok t v e z hl hq
  refine⟨m,xs,q1,fun g hg=>?_⟩
  obtain⟨s1,s2,s3⟩:=q2 g hg
  exact⟨s1,s2,fun j o p hj hok hp=>let ⟨o0,h1,_,h0,_⟩:=old j o hj;s3 j o0 p h1 (h0 hok) hp⟩
theorem Oi (fz:List S4) {st st':St} (hl:st'.live=st.live) (hx:st'.nx=st.nx) (hn:decide ((Eb fz).Nodup)=true) (hk:(st'.hp.all fun p=>!(Eb fz).contains p.1)=true)
  (hz:E8 (fun q:S4=>Qw (Ae st.hp q.1) q.2.1 q.2.2.1 q.2.2.2) fz) (ho:E8 (FzO fz st.hp) st'.hp) (hf:E8 (fun p:Nat×AV=>Fz fz [Cg st.fr p.1] [p.2]) st'.fr):Weak st st':=fun V N γ a w ⟨R,F⟩=>by
 obtain⟨γ',i1,t1,l1,k1,H1,rep,old⟩:=qj hn hk hz ho R.hp
 refine⟨γ',⟨R.defers,R.size,fun t=>?_,(fun t j want h=>by cases h),by rw[hl];exact H1,R.base,R.big,⟨fun b o hb hno=>(k1 b o hno).trans (R.mu.mu b o hb hno),fun b o v e=>l1 b o v (R.mu.le b o v e),fun i b hi e=>by rw[i1];exact R.mu.pin i b hi e⟩⟩,⟨fun id hid=>?_⟩⟩
 ·show RepA _ (Cg st'.fr t) (a.tmps.getD t undef)
  rcases H6 (l:=st'.fr) (t:=t) with h | h
  ·rw[h];simp only[RepA]
  ·exact fz_one (fz:=fz) (P:=True) (fun hr=>rep (Ec hf _ h) hr) (R.fr t)
 ·obtain⟨h1,h2,h3,h4⟩:=F.ok id (by omega)
  refine⟨by rw[i1];exact h1,by rw[t1];exact h2,?_,by rw[hl];exact h4⟩
  cases e:Ae st'.hp id with
  | none=>rfl
  | some o=>obtain⟨o',h⟩:=old id o e;rw[h]at h3;cases h3
inductive Nz (nm:List (Nat×TypeId×Nat×(Nat→D))):List AV→List AV→Prop where
 | nil:Nz nm [] []
 | same {x:AV} {l m:List AV}:Nz nm l m→Nz nm (x :: l) (x :: m)
 | vec {a:Nat} {e:TypeId} {sz z:Nat} {f g:Nat→D} {l m:List AV}:(a,e,sz,g)∈nm→Nz nm l m→Nz nm (.ap z 0 f .nl :: l) (.vec a sz 0 :: m)
 | agg {c c' l m:List AV}:Nz nm c c'→Nz nm l m→Nz nm (.agg c :: l) (.agg c' :: m)
theorem Nz.rep {nm:List (Nat×TypeId×Nat×(Nat→D))} (le:LeG γ γ') (hz:∀ a e sz g,(a,e,sz,g)∈nm→γ'.ι a=some (.vec (.slice none 0 0) e sz)) :
  ∀ {l m:List AV},Nz nm l m→∀ {vs:List Value},RepAL γ l vs→RepAL γ' m vs:=by
 intro l m h
 induction h with
 | nil=>intro vs hr;simpa only[RepAL] using hr
 | same h ih=>intro vs hr;simp only[RepAL]at hr ⊢;obtain⟨v,t,rfl,h1,h2⟩:=hr;exact⟨v,t,rfl,RepA.mono le _ _ h1,ih h2⟩
 | vec hm h ih =>
  intro vs hr
  simp only[RepAL]at hr ⊢
  obtain⟨v,t,rfl,h1,h2⟩:=hr
  simp only[RepA,RightOk]at h1 ⊢
  obtain⟨_,rfl⟩:=h1
  exact⟨_,t,rfl,⟨_,none,0,hz _ _ _ _ hm,rfl,Nat.le_refl _,Nat.zero_le _,fun h=>absurd h (by omega)⟩,ih h2⟩
 | agg hc h ihc ih =>
  intro vs hr
  simp only[RepAL]at hr ⊢
  obtain⟨v,t,rfl,h1,h2⟩:=hr
  simp only[RepA]at h1 ⊢
  obtain⟨us,e,h3⟩:=h1
  exact⟨_,t,rfl,⟨us,e,ihc h3⟩,ih h2⟩
def Zv (nm:List (Nat×TypeId×Nat×(Nat→D))):List (Nat×Ob):=nm.map fun x=>(x.1,.vec x.2.1 x.2.2.1 0 x.2.2.2)
def NzO (nm:List (Nat×TypeId×Nat×(Nat→D))) (hp:List (Nat×Ob)) (p:Nat×Ob):Prop:=Ae hp p.1=some p.2∨∃ l l',Ae hp p.1=some (.cells l)∧p.2=.cells l'∧Nz nm l l'
def Fs:List (Nat×TypeId×Nat×(Nat→D))→Nat→Option (TypeId×Nat×(Nat→D))
 | [],_=>none
 | (i,v) :: l,t=>if i=t then some v else Fs l t
theorem Mo:∀ (nm:List (Nat×TypeId×Nat×(Nat→D))) (j:Nat),Ae (Zv nm) j=(Fs nm j).map fun x=>.vec x.1 x.2.1 0 x.2.2
 | [],_=>rfl
 | (i,e,sz,g) :: l,j=>by
  show (if i=j then some (Ob.vec e sz 0 g)else Ae (Zv l) j)=(if i=j then some (e,sz,g)else Fs l j).map _
  split
  ·rfl
  ·exact Mo l j
theorem dt:∀ {nm:List (Nat×TypeId×Nat×(Nat→D))} {j:Nat} {x:TypeId×Nat×(Nat→D)},Fs nm j=some x→(j,x)∈nm
 | (i,v) :: l,j,x,h=>by
  simp only[Fs]at h
  split at h
  ·rename_i e;injection h with h;subst e h;simp
  ·exact List.mem_cons_of_mem _ (dt h)
theorem jc:∀ {nm:List (Nat×TypeId×Nat×(Nat→D))} {j:Nat} {x:TypeId×Nat×(Nat→D)},(nm.map (·.1)).Nodup→(j,x)∈nm→Fs nm j=some x
 | (i,v) :: l,j,x,hn,h=>by
  simp only[List.map_cons,List.nodup_cons]at hn
  simp only[Fs]
  rcases List.mem_cons.1 h with e | h
  ·injection e with e1 e2;rw[if_pos e1.symm,e2]
  ·split
   ·rename_i e
    exact absurd (List.mem_map.2 ⟨_,h,e.symm⟩) hn.1
   ·exact jc hn.2 h
theorem Rz (nm:List (Nat×TypeId×Nat×(Nat→D))) {st st':St} (hp':List (Nat×Ob)) (hh:st'.hp=Zv nm++hp') (hl:st'.live=st.live) (hx:st.nx≤st'.nx) (h16:decide (16≤st.nx)=true) (hn:decide ((nm.map (·.1)).Nodup)=true) (hk:(nm.all fun p=>decide (st.nx≤p.1)&&(decide (p.1 < st'.nx)&&decide (0 < p.2.2.1)))=true)
  (ho:E8 (NzO nm st.hp) hp') (hf:E8 (fun p:Nat×AV=>Nz nm [Cg st.fr p.1] [p.2]) st'.fr):Weak st st':=fun V N γ a w ⟨R,F⟩=>by
 have hn:=of_decide_eq_true hn
 have h16:=of_decide_eq_true h16
 simp only[List.all_eq_true,Bool.and_eq_true,decide_eq_true_eq]at hk
 let γ':G:=⟨γ.μ,fun j=>match Fs nm j with | some x=>some (.vec (.slice none 0 0) x.1 x.2.1) | none=>γ.ι j,γ.τ⟩
 have hnew:∀ {j x},Fs nm j=some x→st.nx≤j∧j < st'.nx∧0 < x.2.1:=fun h=>by have:=hk _ (dt h);exact this
 have hι:∀ j x,Fs nm j=some x→γ'.ι j=some (.vec (.slice none 0 0) x.1 x.2.1):=fun j x h=>by simp only[γ',h]
 have hιo:∀ j,Fs nm j=none→γ'.ι j=γ.ι j:=fun j h=>by simp only[γ',h]
 have old:∀ j,γ.ι j≠none→Fs nm j=none:=fun j h=>by
  cases hv:Fs nm j with
  | none=>rfl
  | some x=>exact absurd (F.ok j (hnew hv).1).1 h
 have le:LeG γ γ':=⟨LeM.refl _,fun i b h=>by rw[hιo i (old i (by rw[h];simp))];exact h,fun _ _ h=>h⟩
 have rep:=fun {l m:List AV} (h:Nz nm l m) {vs:List Value}=>Nz.rep le (fun a e sz g hm=>hι a (e,sz,g) (jc hn hm)) h (vs:=vs)
 have Ov:∀ j o,Ae st'.hp j=some o→(∃ x,Fs nm j=some x∧o=.vec x.1 x.2.1 0 x.2.2)∨(Fs nm j=none∧∃ o0,Ae st.hp j=some o0∧(o.ok=true→o0.ok=true)∧∀ p,ObjAt γ w o0 p→ObjAt γ' w o p):=fun j o h=>by
  rw[hh,P1,Mo]at h
  cases hv:Fs nm j with
  | some x=>rw[hv]at h;simp only[Option.map_some,Option.some.injEq]at h;exact .inl ⟨x,rfl,h.symm⟩
  | none =>
   rw[hv]at h
   simp only[Option.map_none]at h
   refine .inr ⟨rfl,?_⟩
   rcases Ec ho _ (E3 h) with h' | ⟨l,l',h1,h2,h3⟩
   ·simp only at h'
    exact⟨o,h',id,fun p hp=>hp.kept le fun _ _=>rfl⟩
   ·simp only at h1 h2
    refine⟨_,h1,fun _=>rfl,fun p hp=>?_⟩
    subst h2
    cases p with
    | blk b =>
     obtain⟨y,hy,vs,e,rfl,g1,g2⟩:=hp
     exact⟨_,hy,vs,e,rfl,rep h3 g1,g2⟩
    | vec v e z=>obtain⟨n,f,xs,hc,_⟩:=hp;cases hc
 refine⟨γ',⟨R.defers,R.size,fun t=>?_,(fun t j want h=>by cases h),⟨R.hp.fz,fun j o hj hok=>?_,fun i j oi oj p q hi hj c1 c2 hne hp hq=>?_,fun t v e z hl' hq=>?_,by rw[hl];exact R.hp.tinj⟩,R.base,R.big,⟨R.mu.mu,R.mu.le,fun i b hi e=>?_⟩⟩,⟨fun id hid=>?_⟩⟩
 ·show RepA _ (Cg st'.fr t) (a.tmps.getD t undef)
  rcases H6 (l:=st'.fr) (t:=t) with h | h
  ·rw[h];simp only[RepA]
  ·exact fz_one (fz:=[]) (P:=True) (fun hr=>rep (Ec hf _ h) hr) (R.fr t)
 ·rcases Ov j o hj with⟨x,h1,rfl⟩ | ⟨h1,o0,h2,h0,h3⟩
  ·exact⟨_,hι j x h1,⟨0,_,[],rfl,(hnew h1).2.2,World.ownsRow_nil w 0 x.1 x.2.1,fun i hi=>absurd hi (by omega)⟩,fun b hb=>by cases hb⟩
  ·obtain⟨p,g1,g2,g3⟩:=R.hp.obj j o0 h2 (h0 hok)
   exact⟨p,by rw[hιo j h1];exact g1,h3 p g2,g3⟩
 ·rcases Ov i oi hi with⟨x,h1,rfl⟩ | ⟨h1,o0,h2,h0,h3⟩
  ·rw[hι i x h1]at hp;injection hp with hp;subst hp;exact .inl rfl
  ·rcases Ov j oj hj with⟨x,k1,rfl⟩ | ⟨k1,o1,k2,k0,k3⟩
   ·rw[hι j x k1]at hq;injection hq with hq;subst hq
    cases hb:p.block with
    | none=>exact .inl rfl
    | some b=>exact .inr fun e=>by cases e
   ·rw[hιo i h1]at hp
    rw[hιo j k1]at hq
    exact R.hp.inj i j o0 o1 p q h2 k2 (h0 c1) (k0 c2) hne hp hq
 ·rw[hl]at hl'
  obtain⟨m,xs,q1,q2⟩:=R.hp.tok t v e z hl' hq
  refine⟨m,xs,q1,fun g hg=>?_⟩
  obtain⟨s1,s2,s3⟩:=q2 g hg
  refine⟨s1,s2,fun j o p hj hok hp=>?_⟩
  rcases Ov j o hj with⟨x,h1,rfl⟩ | ⟨h1,o0,h2,h0,h3⟩
  ·rw[hι j x h1]at hp;injection hp with hp;subst hp;exact fun e=>by cases e
  ·rw[hιo j h1]at hp;exact s3 j o0 p h2 (h0 hok) hp
 ·have hlow:=R.mu.pin i b hi e
  rw[hιo i (old i (by rw[hlow];simp))];exact hlow
 ·obtain⟨h1,h2,h3,h4⟩:=F.ok id (by omega)
  have hv:Fs nm id=none:=by
   cases hv:Fs nm id with
   | none=>rfl
   | some x=>have:=(hnew hv).2.1;omega
  refine⟨by rw[hιo id hv];exact h1,h2,?_,by rw[hl];exact h4⟩
  rw[hh,P1,Mo,hv]
  simp only[Option.map_none]
  cases e:Ae hp' id with
  | none=>rfl
  | some o =>
   rcases Ec ho _ (E3 e) with h' | ⟨l,l',h1',_⟩
   ·simp only at h';rw[h']at h3;cases h3
   ·simp only at h1';rw[h1']at h3;cases h3
end Go.Av
namespace Go.Av
open Go.RowKit Go.Base
variable {P:Program} {V:Gm} {N:Nat}
inductive ef where
 | fin (i:Nat)
 | p (q:Prop) (r:ef)
 | g (G:Bool) (q:Prop) (r:ef)
 | split (G:Bool) (a b:ef)
 | no
def ra:ef→(Nat→Prop)→Prop
 | .fin i,R=>R i
 | .p q l,R=>q∧ra l R
 | .g G q l,R=>(G=true→q)∧ra l R
 | .split G a b,R=>(G=true→ra a R)∧(G=false→ra b R)
 | .no,_=>False
def ae:ef→Prop
 | .fin _=>True
 | .p q l=>q∧ae l
 | .g G q l=>(G=true→q)∧ae l
 | .split G a b=>(G=true→ae a)∧(G=false→ae b)
 | .no=>False
def Ca {α:Type}:ef→(Nat→Option α)→Option α
 | .fin i,f=>f i
 | .p _ l,f=>Ca l f
 | .g _ _ l,f=>Ca l f
 | .split G a b,f=>if G=true then Ca a f else Ca b f
 | .no,_=>none
theorem S6 {α:Type} {x:α} {R:Nat→Prop} {f:Nat→Option α} (hf:∀ i,f i=some x→R i):∀ {l:ef},ae l→Ca l f=some x→ra l R
 | .fin i,_,h=>hf i h
 | .p _ _,h,k=>⟨h.1,S6 hf h.2 k⟩
 | .g _ _ _,h,k=>⟨h.1,S6 hf h.2 k⟩
 | .split G a b,h,k=>by
  simp only[Ca]at k
  split at k
  ·rename_i hg;exact⟨fun e=>S6 hf (h.1 e) k,fun e=>by rw[hg]at e;cases e⟩
  ·rename_i hg;exact⟨fun e=>absurd e hg,fun e=>S6 hf (h.2 e) k⟩
 | .no,_,h=>by cases h
abbrev Ev:=Exit→St→Prop
def rq:Exit→Bool
 | .normal=>true
 | _=>false
def isR:Exit→Bool
 | .normal=>true
 | .ret=>true
 | _=>false
def vo (id:Nat):Exit→Exit
 | .exit j=>match Nat.beq j id with | true=>.normal | false=>.exit j
 | ex=>ex
def go (s':St):Ev:=fun ex s=>rq ex=true∧Weak s s'
def fin (P:Program) (fn:Func) (d:D):Ev:=fun ex s=>isR ex=true∧∃ s',Weak s s'∧R0 P fn.results.toList s' d
def lv {R:Type} (id:Nat) (W:R→Ev):R→Ev:=fun r ex s=>W r (vo id ex) s
def wy {Y R:Type} (S:Y→St) (W:R→Ev):Y⊕R→Ev
 | .inl y=>go (S y)
 | .inr r=>fun ex s=>rq ex=false∧W r ex s
inductive Tr {R:Type} (W:R→Ev):Type 1 where
 | ret (ex:Exit) (st:St) (x:R) (h:W x ex st)
 | need (p:Prop) (d:Decidable p) (k:Tr W)
 | needG (G:Bool) (p:Prop) (d:Decidable p) (k:Tr W)
 | exi (α:Type) (m:Option α) (ob:α→ef) (h:∀ x,m=some x→ae (ob x)) (k:α→Nat→Tr W)
 | ite (c:Bool) (a b:Tr W)
 | bad
 | lost (ex:Exit) (st:St)
def Tr.run {R:Type} {W:R→Ev}:Tr W→Option R
 | .ret _ _ x _=>some x
 | .need p d k=>if p then k.run else none
 | .needG G p d k=>if G=true→p then k.run else none
 | .exi _ m ob _ k=>m.bind fun x=>Ca (ob x) fun i=>(k x i).run
 | .ite c a b=>if c=true then a.run else b.run
 | .bad=>none
 | .lost _ _=>none
def Tr.Hold {R:Type} {W:R→Ev} (K:Exit→St→Prop):Tr W→Prop
 | .ret ex st _ _=>K ex st
 | .need p _ k=>p∧k.Hold K
 | .needG G p _ k=>(G=true→p)∧k.Hold K
 | .exi α _ ob _ k=>∃ x:α,ra (ob x) fun i=>(k x i).Hold K
 | .ite c a b=>(c=true→a.Hold K)∧(c=false→b.Hold K)
 | .bad=>False
 | .lost ex st=>K ex st
theorem Tr.hold {R:Type} {W:R→Ev} {K:Exit→St→Prop} {x:R} (hk:∀ ex s,W x ex s→K ex s):∀ {t:Tr W},t.run=some x→t.Hold K
 | .ret ex st y h,hr=>by
  simp only[Tr.run,Option.some.injEq]at hr
  subst hr
  exact hk _ _ h
 | .need p d k,hr=>by
  simp only[Tr.run]at hr
  split at hr
  ·rename_i hp;exact⟨hp,Tr.hold hk hr⟩
  ·cases hr
 | .needG G p d k,hr=>by
  simp only[Tr.run]at hr
  split at hr
  ·rename_i hp;exact⟨hp,Tr.hold hk hr⟩
  ·cases hr
 | .exi α m ob h k,hr=>by
  simp only[Tr.run,Option.bind_eq_some_iff]at hr
  obtain⟨y,h1,h2⟩:=hr
  exact⟨y,S6 (fun i hi=>Tr.hold hk hi) (h y h1) h2⟩
 | .ite c a b,hr=>by
  simp only[Tr.run]at hr
  split at hr
  ·rename_i hc;exact⟨fun _=>Tr.hold hk hr,fun e=>by rw[hc]at e;cases e⟩
  ·rename_i hc;exact⟨fun e=>absurd e hc,fun _=>Tr.hold hk hr⟩
 | .bad,hr=>by simp only[Tr.run]at hr;cases hr
 | .lost _ _,hr=>by simp only[Tr.run]at hr;cases hr
def nd {R:Type} {W:R→Ev} (p:Prop) [d:Decidable p] (k:Tr W):Tr W:=.need p d k
def c3 {R α:Type} {W:R→Ev} {m:Option α} {p:α→Prop} (h:∀ r,m=some r→p r) (k:α→Tr W):Tr W :=
 .exi α (m.bind fun r=>some r) (fun x=>.p (p x) (.fin 0)) (fun x e=>by
  obtain⟨r,h1,h2⟩:=Option.bind_eq_some_iff.1 e
  cases h2
  exact⟨h _ h1,trivial⟩) fun x _=>k x
def Judge {R:Type} (P:Program) (V:Gm) (N:Nat) (c:Code) (st:St) (m:Option R) (W:R→Ev):Prop :=
 ∀ x,m=some x→∀ K:Exit→St→Prop,(∀ ex s,W x ex s→K ex s)→Tri P V N c st K
def Uq (hp:List (Nat×Ob)):List Nat→List (Nat×Ob)
 | []=>[]
 | i :: l=>match Ae hp i with
  | some o=>(i,o) :: Uq hp l
  | none=>Uq hp l
def cutH (ids:List Nat) (st:St):St:={ st with hp:=Uq st.hp ids }
theorem Gx {hp:List (Nat×Ob)}:∀ {l:List Nat} {i:Nat} {o:Ob},Ae (Uq hp l) i=some o→Ae hp i=some o
 | [],_,_,h=>by simp[Uq,Ae]at h
 | j :: l,i,o,h=>by
  simp only[Uq]at h
  split at h
  ·rename_i o' ho
   simp only[Ae]at h
   split at h
   ·rename_i e;injection h with h;subst e h;exact ho
   ·exact Gx h
  ·exact Gx h
theorem rs_cutH {ids:List Nat} {st:St} {γ:G} {a:Act} {w:World} (h:RS V N st γ a w):RS V N (cutH ids st) γ a w:=by
 obtain⟨R,F⟩:=h
 refine⟨⟨R.defers,R.size,R.fr,(fun t j want h=>by cases h),⟨R.hp.fz,fun id o ho=>R.hp.obj id o (Gx ho),fun i j oi oj p q hi hj=>R.hp.inj i j oi oj p q (Gx hi) (Gx hj),?_,R.hp.tinj⟩,R.base,R.big,R.mu⟩,⟨fun id hid=>?_⟩⟩
 ·intro t v e sz hl ht
  obtain⟨n,xs,q1,q2⟩:=R.hp.tok t v e sz hl ht
  refine⟨n,xs,q1,fun g hg=>?_⟩
  obtain⟨r1,r2,r3⟩:=q2 g hg
  exact⟨r1,r2,fun id o p ho=>r3 id o p (Gx ho)⟩
 ·obtain⟨h1,h2,h3,h4⟩:=F.ok id hid
  refine⟨h1,h2,?_,h4⟩
  cases e:Ae (cutH ids st).hp id with
  | none=>rfl
  | some o=>rw[Gx e]at h3;cases h3
def Ga {S X:Type} (b:S→Option (S⊕X)):Nat→S→Option X
 | 0,_=>none
 | n+1,s=>match b s with
  | some (.inl s')=>Ga b n s'
  | some (.inr x)=>some x
  | none=>none
theorem Rm {S X:Type} {b:S→Option (S⊕X)} {x:X}:∀ {n m:Nat} {s:S},Ga b n s=some x→n≤m→Ga b m s=some x
 | 0,_,_,h,_=>by cases h
 | n+1,0,_,_,h=>by omega
 | n+1,m+1,s,h,hm=>by
  simp only[Ga]at h ⊢
  split at h
  ·rename_i s' e;exact Rm h (by omega)
  ·exact h
  ·cases h
open Classical in
noncomputable def Yc {S X:Type} (b:S→Option (S⊕X)) (s:S):Option X :=
 if h:∃ n x,Ga b n s=some x then some (Classical.choose (Classical.choose_spec h))else none
theorem l0 {S X:Type} {b:S→Option (S⊕X)} {s:S} {n:Nat} {x:X} (h:Ga b n s=some x):Yc b s=some x:=by
 have he:∃ n x,Ga b n s=some x:=⟨n,x,h⟩
 unfold Yc
 rw[dif_pos he]
 have h2:=Classical.choose_spec (Classical.choose_spec he)
 have h3:=Rm h2 (Nat.le_max_left _ n)
 have h4:=Rm h (Nat.le_max_right (Classical.choose he) n)
 rw[h3]at h4
 exact h4
noncomputable def Bl {S X:Type} (b:S→Option (S⊕X)) (s:S):Option X :=
 match Ga b 100000 s with
 | some x=>some x
 | none=>Yc b s
theorem qe {S X:Type} (b:S→Option (S⊕X)) (s:S):Bl b s=Yc b s:=by
 unfold Bl
 split
 ·rename_i x h;exact(l0 h).symm
 ·rfl
theorem Wk {S X:Type} {b:S→Option (S⊕X)} {s:S} {n:Nat} {x:X} (h:Ga b n s=some x):Bl b s=some x:=by rw[qe];exact l0 h
theorem N2 {S X:Type} {b:S→Option (S⊕X)} {s:S} {x:X} (h:Bl b s=some x):∃ n,Ga b n s=some x:=by
 rw[qe]at h
 unfold Yc at h
 split at h
 ·rename_i he
  injection h with h
  exact⟨Classical.choose he,by rw[← h];exact Classical.choose_spec (Classical.choose_spec he)⟩
 ·cases h
theorem Cd {S X:Type} (b:S→Option (S⊕X)) (s:S):Bl b s=(b s).bind fun y=>match y with | .inl s'=>Bl b s' | .inr x=>some x:=by
 cases hb:b s with
 | none =>
  cases h:Bl b s with
  | none=>rfl
  | some x =>
   obtain⟨n,hn⟩:=N2 h
   cases n with
   | zero=>cases hn
   | succ n=>simp only[Ga,hb]at hn;cases hn
 | some y =>
  cases y with
  | inr x=>simp only[Option.bind_some];exact Wk (n:=1) (by simp only[Ga,hb])
  | inl s' =>
   simp only[Option.bind_some]
   cases h:Bl b s' with
   | some x =>
    obtain⟨n,hn⟩:=N2 h
    exact Wk (n:=n+1) (by simp only[Ga,hb];exact hn)
   | none =>
    cases h2:Bl b s with
    | none=>rfl
    | some x =>
     obtain⟨n,hn⟩:=N2 h2
     cases n with
     | zero=>cases hn
     | succ n =>
      simp only[Ga,hb]at hn
      rw[Wk hn]at h;cases h
abbrev dI (x:Int):D:=.int .i64 x
abbrev aI (x:Int):AV:=.d (.int .i64 x)
abbrev aB (b:Bool):AV:=.d (.bool b)
abbrev aS (s:List UInt8):AV:=.d (.str s)
abbrev aN:AV:=.ap 0 0 (fun _=>.bad) .nl
def cF {α:Type} [Inhabited α] (e:α→D) (l:List α) (i:Nat):D:=e (l.getD i default)
def A5 {α:Type} [Inhabited α] (sz:Nat) (e:α→D) (l:List α):D:=.sl sz l.length (cF e l)
theorem dr {x:D}:De x x:=De.rfl
theorem Af {α:Type} [Inhabited α] {sz sz':Nat} {e:α→D} {f:Nat→D}:De (.sl sz' 0 f) (A5 sz e ([]:List α)):=.inr ⟨rfl,fun i h=>absurd h (by omega)⟩
theorem Ay {α:Type} [Inhabited α] {sz n m:Nat} {e:α→D} {f g:Nat→D} {l k:List α} (h1:De (.sl sz n f) (A5 sz e l)) (h2:De (.sl sz m g) (A5 sz e k)):De (.sl sz (n+m) (Bf n f g)) (A5 sz e (l++k)):=by
 obtain⟨rfl,h1⟩:=h1.sl
 obtain⟨rfl,h2⟩:=h2.sl
 refine .inr ⟨by rw[List.length_append],fun i hi=>⟨rfl,?_⟩⟩
 show De _ _
 simp only[Bf,cF]
 split
 ·rename_i h
  have:=(h1 i h).2
  simp only[cF,List.getD_eq_getElem?_getD]at this
  rw[List.getD_eq_getElem?_getD,List.getElem?_append_left h];exact this
 ·rename_i h
  have:=(h2 (i - l.length) (by omega)).2
  simp only[cF,List.getD_eq_getElem?_getD]at this
  rw[List.getD_eq_getElem?_getD,List.getElem?_append_right (by omega)];exact this
theorem B5 {α:Type} [Inhabited α] {sz:Nat} {e:α→D} {ds:List D} {l:List α} {n:Nat} (hn:l.length=n) (h:ds=l.map e):De (.sl sz n (Bc ds)) (A5 sz e l):=by
 subst hn h
 refine .inr ⟨rfl,fun i hi=>⟨rfl,.inl ?_⟩⟩
 simp only[Bc,cF,List.getElem?_map,List.getD_eq_getElem?_getD,List.getElem?_eq_getElem hi,Option.map_some,Option.getD_some]
def DeAll:List D→List D→Prop
 | [],[]=>True
 | x :: xs,y :: ys=>De x y∧DeAll xs ys
 | _,_=>False
theorem DeAll.get:∀ {xs ys:List D},DeAll xs ys→∀ (i:Nat) (y:D),ys[i]?=some y→∃ x,xs[i]?=some x∧De x y
 | [],[],_,i,y,h=>by simp at h
 | x :: xs,y :: ys,h,0,z,hz=>by simp at hz;subst hz;exact⟨x,by simp,h.1⟩
 | x :: xs,y :: ys,h,i+1,z,hz=>by simpa using DeAll.get h.2 i z (by simpa using hz)
 | [],_ :: _,h,_,_,_=>h.elim
 | _ :: _,[],h,_,_,_=>h.elim
theorem Eu {α:Type} [Inhabited α] {sz:Nat} {e:α→D} {ds:List D} {l:List α} {n:Nat} (hn:l.length=n) (h:DeAll ds (l.map e)):De (.sl sz n (Bc ds)) (A5 sz e l):=by
 subst hn
 refine .inr ⟨rfl,fun i hi=>⟨rfl,?_⟩⟩
 show De _ _
 obtain⟨x,h1,h2⟩:=h.get i (e l[i]) (by rw[List.getElem?_map,List.getElem?_eq_getElem hi,Option.map_some])
 simp only[Bc,h1,cF,List.getD_eq_getElem?_getD,List.getElem?_eq_getElem hi,Option.getD_some]
 exact h2
def Bu (s:List UInt8) (i:Nat):Int:=match s[i]? with | some b=>(b.toNat:Int) | none=>0
theorem Gg {α:Type} [Inhabited α] {sz n:Nat} {e:α→D} {z:α}:De (.sl sz n fun _=>e z) (A5 sz e (List.replicate n z)) :=
 .inr ⟨by rw[List.length_replicate],fun i hi=>⟨rfl,.inl (by simp only[cF,List.getD_eq_getElem?_getD,List.getElem?_replicate,if_pos hi,Option.getD_some])⟩⟩
theorem Bz {α:Type} [Inhabited α] {sz n:Nat} {e:α→D} {f:Nat→D} {l:List α} (h:De (.sl sz n f) (A5 sz e l)):n=l.length:=h.sl.1
def Gq {α:Type} (l k:List α):List α:=k.take l.length++l.drop k.length
theorem copyL_len {α:Type} (l k:List α):(Gq l k).length=l.length:=by simp only[Gq,List.length_append,List.length_take,List.length_drop];omega
theorem Kg {α:Type} [Inhabited α] {sz sz' z n m:Nat} {e:α→D} {f g:Nat→D} {l k:List α} (h1:De (.sl sz n f) (A5 sz e l)) (h2:De (.sl z m g) (A5 sz' e k)):De (.sl sz n fun i=>if i < m then g i else f i) (A5 sz e (Gq l k)):=by
 obtain⟨rfl,h1⟩:=h1.sl
 obtain⟨rfl,h2⟩:=h2.sl
 refine .inr ⟨(copyL_len l k).symm,fun i hi=>⟨rfl,?_⟩⟩
 show De _ _
 have e2:(Gq l k).getD i default=if i < k.length then k.getD i default else l.getD i default:=by
  simp only[Gq,List.getD_eq_getElem?_getD]
  split
  ·rename_i h;rw[List.getElem?_append_left (by simp;omega),List.getElem?_take,if_pos hi]
  ·rename_i h
   rw[List.getElem?_append_right (by simp;omega),List.getElem?_drop]
   congr 2;simp;omega
 simp only[cF]
 rw[e2]
 split
 ·rename_i h;exact(h2 i h).2
 ·rename_i h;exact(h1 i hi).2
theorem Dw {α:Type} [Inhabited α] {sz n i:Nat} {e:α→D} {f:Nat→D} {l:List α} {x:α} (h:De (.sl sz n f) (A5 sz e l)):De (.sl sz n fun k=>if k=i then e x else f k) (A5 sz e (l.set i x)):=by
 obtain⟨rfl,h⟩:=h.sl
 refine .inr ⟨by rw[List.length_set],fun k hk=>⟨rfl,?_⟩⟩
 show De _ _
 simp only[cF,List.getD_eq_getElem?_getD,List.getElem?_set]
 split
 ·rename_i e;subst e;rw[if_pos rfl,if_pos hk,Option.getD_some];exact De.rfl
 ·rename_i hne
  rw[if_neg (fun e=>hne e.symm)]
  have:=(h k hk).2
  simp only[cF,List.getD_eq_getElem?_getD]at this
  exact this
def At {α:Type} [Inhabited α] (l:List α) (k n:Nat):List α:=(List.range n).map fun i=>l.getD (k+i) default
theorem L4 {α:Type} [Inhabited α] {sz k n:Nat} {e:α→D} {l:List α}:De (.sl sz n fun i=>cF e l (k+i)) (A5 sz e (At l k n)) :=
 .inr ⟨by simp[At],fun i hi=>⟨rfl,.inl (by simp[cF,At,List.getD_eq_getElem?_getD,List.getElem?_range hi])⟩⟩
theorem Ba {α:Type} [Inhabited α] {sz n:Nat} {e:α→D} {l:List α}:De (.sl sz n (cF e l)) (A5 sz e (At l 0 n)) :=
 .inr ⟨by simp[At],fun i hi=>⟨rfl,.inl (by simp[cF,At,List.getD_eq_getElem?_getD,List.getElem?_range hi])⟩⟩
theorem Qj {α:Type} [Inhabited α] {l:List α} {k n:Nat} (h:k+n≤l.length):At l k n=(l.drop k).take n:=by
 apply List.ext_getElem?
 intro i
 simp only[At,List.getElem?_map,List.getElem?_take,List.getElem?_drop]
 by_cases hi:i < n
 ·rw[List.getElem?_range hi,if_pos hi,Option.map_some,List.getD_eq_getElem?_getD,List.getElem?_eq_getElem (by omega),Option.getD_some]
 ·rw[if_neg hi,List.getElem?_eq_none (by simp;omega),Option.map_none]
theorem Hl {α:Type} [Inhabited α] {l:List α} {k n:Nat}:(At l k n).length=n:=by simp[At]
theorem Ej {α:Type} [Inhabited α] {l:List α} {n:Nat} (h:l.length=n):At l 0 n=l:=by
 subst h
 rw[Qj (by omega)];simp
theorem D6 {α:Type} [Inhabited α] {sz n:Nat} {e:α→D} {f:Nat→D} {l:List α} (h:De (.sl sz n f) (A5 sz e l)):De (.sl sz n f) (.sl sz n (cF e l)):=by
 obtain⟨rfl,h2⟩:=h.sl
 exact .inr ⟨rfl,fun i hi=>h2 i hi⟩
theorem de_pre {α:Type} [Inhabited α] {sz n h:Nat} {e:α→D} {f:Nat→D} {l:List α} (hd:De (.sl sz n f) (A5 sz e l)):De (.sl sz (min h n) f) (A5 sz e (l.take h)):=by
 obtain⟨rfl,h2⟩:=hd.sl
 refine .inr ⟨by rw[List.length_take],fun i hi=>⟨rfl,?_⟩⟩
 show De _ _
 have:=(h2 i (by omega)).2
 simp only[cF,List.getD_eq_getElem?_getD]at this ⊢
 rw[List.getElem?_take,if_pos (by omega)]
 exact this
theorem Hq {sz n m:Nat} {f:Nat→D} (h:n=m):De (.sl sz n f) (.sl sz m f):=by subst h;exact De.rfl
theorem Uz {f:Nat} {ds ds':List D} {r:D} (h:Aa P f ds r) (hd:Mn ds' ds):Aa P f ds' r:=⟨h.1,fun μ w vs hz hr=>h.2 μ w vs hz (hr.deq hd)⟩
def c2 {R α:Type} {W:R→Ev} {m:Option α} {f:Nat} {ds:List D} {e:α→D} (h:∀ r,m=some r→Aa P f ds (e r)) (ds':List D) (hd:Mn ds' ds) (k:α→Tr W):Tr W :=
 c3 (p:=fun x=>Aa P f ds' (e x)) (fun r hr=>Uz (h r hr) hd) k
theorem dq {a b:List D} (h:Mn a b):Mn a b:=h
theorem Ak {p:Prop} [Decidable p] {α:Type} {m:Option α} {x:α} (h:(if p then m else none)=some x):p∧m=some x:=by
 split at h
 ·rename_i hp;exact⟨hp,h⟩
 ·cases h
def km:Nat→Code→Code
 | 0,c=>c
 | k+1,.seq _ b=>km k b
 | _,c=>c
def Lc (P:Program) (V:Gm) (N:Nat) (cs:List (Nat×Tm)):Nat→Code→St→(Exit→St→Prop)→(St→Prop)→Prop
 | 0,_,st,_,L=>L st
 | k+1,.seq a b,st,K,L=>vc P V N cs [] a st (andThen K fun st'=>Lc P V N cs k b st' K L)
 | _,_,_,_,_=>False
theorem S8 (hm:P.follows .mixedOrders=true) {cs:List (Nat×Tm)}:∀ (k:Nat) (c:Code) (st:St) (K K':Exit→St→Prop) (L:St→Prop),(∀ ex s,K' ex s→K ex s)→(∀ s,L s→Tri P V N (km k c) s K)→Lc P V N cs k c st K' L→Tri P V N c st K
 | 0,c,st,K,K',L,hK,hL,h=>hL st h
 | k+1,.seq a b,st,K,K',L,hK,hL,h=>by
  unfold Lc at h
  refine Tri.seq ((Hx hm a st _ h).mono fun ex st' hk=>?_)
  cases ex with
  | normal=>exact S8 hm k b st' K K' L hK hL hk
  | _=>exact hK _ _ hk
 | k+1,.skip,st,K,K',L,hK,hL,h=>by unfold Lc at h;exact h.elim
 | k+1,.region ..,st,K,K',L,hK,hL,h=>by unfold Lc at h;exact h.elim
 | k+1,.cond ..,st,K,K',L,hK,hL,h=>by unfold Lc at h;exact h.elim
 | k+1,.loop _,st,K,K',L,hK,hL,h=>by unfold Lc at h;exact h.elim
 | k+1,.block ..,st,K,K',L,hK,hL,h=>by unfold Lc at h;exact h.elim
 | k+1,.exit _,st,K,K',L,hK,hL,h=>by unfold Lc at h;exact h.elim
 | k+1,.ret,st,K,K',L,hK,hL,h=>by unfold Lc at h;exact h.elim
 | k+1,.label _,st,K,K',L,hK,hL,h=>by unfold Lc at h;exact h.elim
 | k+1,.goto _,st,K,K',L,hK,hL,h=>by unfold Lc at h;exact h.elim
 | k+1,.scope _,st,K,K',L,hK,hL,h=>by unfold Lc at h;exact h.elim
 | k+1,.rangeFunc ..,st,K,K',L,hK,hL,h=>by unfold Lc at h;exact h.elim
 | k+1,.refuse _,st,K,K',L,hK,hL,h=>by unfold Lc at h;exact h.elim
def exN:Exit→Nat
 | .normal=>0
 | .ret=>1
 | .exit j=>j+2
 | _=>0
def Lf:List (Nat×List Nat×List Nat)→Exit→St→St
 | [],_,s=>s
 | (n,ts,ids) :: l,ex,s=>match Nat.beq n (exN ex) with
  | true=>cutH ids (Uj ts s)
  | false=>Lf l ex s
theorem Qh {ex:Exit} {st:St} {γ:G} {a:Act} {w:World} (h:RS V N st γ a w):∀ l,RS V N (Lf l ex st) γ a w
 | []=>h
 | (n,ts,ids) :: l=>by
  unfold Lf
  split
  ·exact rs_cutH (gx h)
  ·exact Qh h l
theorem Judge.seg {R:Type} {W:R→Ev} (hm:P.follows .mixedOrders=true) {tms:List (Nat×Tm)} {cx:List (Nat×List Nat×List Nat)} {c:Code} {st:St} {t:Tr W}
  (h:∀ K:Exit→St→Prop,vc P V N tms [] c st (fun ex s=>K ex (Lf cx ex s))=t.Hold K):Judge P V N c st t.run W:=fun x hx K hk γ a w hr=>by
 have h1:vc P V N tms [] c st (fun ex s=>K ex (Lf cx ex s)):=by rw[h K];exact Tr.hold hk hx
 exact wp_mono (Hx hm c st _ h1 γ a w hr) fun _ _ _ ⟨s,γ',h1,h2⟩=>⟨_,γ',Qh h1 cx,h2⟩
structure JD (P:Program) (N:Nat) (c:Code) (st:St) {R:Type} (W:R→Ev) where
 m:Option R
 j:∀ V:Gm,Judge P V N c st m W
def mb:Code→Code
 | .seq a _=>a
 | c=>c
def vb:Code→Bool
 | .seq _ _=>true
 | _=>false
def blkC:Code→Code
 | .block _ c=>c
 | c=>c
def blkI:Code→Nat
 | .block i _=>i
 | _=>0
def isBlk:Code→Bool
 | .block _ _=>true
 | _=>false
def lpC:Code→Code
 | .loop c=>c
 | c=>c
def isLp:Code→Bool
 | .loop _=>true
 | _=>false
def fk:Code→Code
 | .cond _ x _=>x
 | c=>c
def fg:Code→Code
 | .cond _ _ y=>y
 | c=>c
def tu:Code→Operand
 | .cond o _ _=>o
 | _=>.tmp 0
def kl:Code→Bool
 | .cond _ _ _=>true
 | _=>false
def lj {R:Type}:Empty⊕R→Option R
 | .inl y=>y.elim
 | .inr r=>some r
def As {Y R:Type} (f:Y→Option R):Y⊕R→Option R
 | .inl y=>f y
 | .inr r=>some r
theorem px {R:Type} {m:Option (Empty⊕R)} {f:Empty→Option R}:m.bind lj=m.bind (As f):=by
 congr 1;funext z;cases z with | inl y=>cases y | inr r=>rfl
section
variable {R Y:Type} {W:R→Ev} {c:Code} {st:St}
noncomputable def JD.sg (tms:List (Nat×Tm)) (cx:List (Nat×List Nat×List Nat)) (t:Tr W) (hm:P.follows .mixedOrders=true:=by refine id ?_;kernel_rfl)
  (h:∀ (V:Gm) (K:Exit→St→Prop),vc P V N tms [] c st (fun ex s=>K ex (Lf cx ex s))=t.Hold K:=by intro V K;refine id ?_;kernel_rfl):JD P N c st W:=⟨t.run,fun V=>Judge.seg hm (h V)⟩
noncomputable def JD.sq (k:Nat) (tms:List (Nat×Tm)) (cx:List (Nat×List Nat×List Nat)) (S:Y→St) (t:Tr (wy S W)) (B:∀ y,JD P N (km k c) (S y) W) (hm:P.follows .mixedOrders=true:=by refine id ?_;kernel_rfl)
  (h:∀ (V:Gm) (K:Exit→St→Prop) (L:St→Prop),Lc P V N tms k c st (fun ex s=>K ex (Lf cx ex s)) (fun s=>L (Lf cx .normal s))=t.Hold (andThen K L):=by intro V K L;refine id ?_;kernel_rfl):JD P N c st W where
 m:=t.run.bind (As fun y=>(B y).m)
 j:=fun V x hx K hk=>by
  obtain⟨z,hz,hx⟩:=Option.bind_eq_some_iff.1 hx
  cases z with
  | inl y =>
   have h1:Lc P V N tms k c st (fun ex s=>K ex (Lf cx ex s)) (fun s=>Weak (Lf cx .normal s) (S y)):=by
    rw[h V K fun s=>Weak s (S y)]
    refine Tr.hold (fun ex s hs=>?_) hz
    obtain⟨h1,h2⟩:=hs
    cases ex<;>first | exact h2 | cases h1
   have h2:Tri P V N c st (fun ex s=>K ex s∨K ex (Lf cx ex s)):=S8 hm k c st _ _ _ (fun ex s hs=>.inr hs) (fun s hs=>fun γ a w hr=>Tri.weak hs (((B y).j V x hx K hk).mono fun ex s hs=>.inl hs) γ a w (Qh hr cx)) h1
   refine fun γ a w hr=>wp_mono (h2 γ a w hr) ?_
   rintro ex a' w' ⟨s,γ',h1,h2 | h2⟩
   ·exact⟨s,γ',h1,h2⟩
   ·exact⟨_,γ',Qh h1 cx,h2⟩
  | inr r =>
   injection hx with hx
   subst hx
   have h1:Lc P V N tms k c st (fun ex s=>K ex (Lf cx ex s)) (fun _=>False):=by
    rw[h V K fun _=>False]
    refine Tr.hold (fun ex s hs=>?_) hz
    obtain⟨h1,h2⟩:=hs
    cases ex<;>first | exact hk _ _ h2 | cases h1
   have h2:Tri P V N c st (fun ex s=>K ex (Lf cx ex s)):=S8 hm k c st _ _ _ (fun ex s hs=>hs) (fun s hs=>hs.elim) h1
   refine fun γ a w hr=>wp_mono (h2 γ a w hr) ?_
   rintro ex a' w' ⟨s,γ',h1,h2⟩
   exact⟨_,γ',Qh h1 cx,h2⟩
theorem tri_seq (hc:vb c=true) {K:Exit→St→Prop} (h:Tri P V N (mb c) st fun ex s=>match ex with | .normal=>Tri P V N (km 1 c) s K | ex=>K ex s):Tri P V N c st K:=by
 cases c with
 | seq a b=>exact Tri.seq (h.mono fun ex s hs=>by cases ex<;>exact hs)
 | _=>cases hc
noncomputable def JD.sc (S:Y→St) (A:JD P N (mb c) st (wy S W)) (B:∀ y,JD P N (km 1 c) (S y) W) (hc:vb c=true:=by refine id ?_;kernel_rfl):JD P N c st W where
 m:=A.m.bind (As fun y=>(B y).m)
 j:=fun V x hx K hk=>by
  obtain⟨z,hz,hx⟩:=Option.bind_eq_some_iff.1 hx
  refine tri_seq hc (A.j V z hz _ fun ex s hs=>?_)
  cases z with
  | inl y =>
   obtain⟨h1,h2⟩:=hs
   cases ex with
   | normal=>exact Tri.weak h2 ((B y).j V x hx K hk)
   | _=>cases h1
  | inr r =>
   injection hx with hx
   subst hx
   obtain⟨h1,h2⟩:=hs
   cases ex with
   | normal=>cases h1
   | _=>exact hk _ _ h2
def orJ {R:Type} (a b:Option R):Option R:=match a with
 | some x=>some x
 | none=>b
def JD.or (A B:JD P N c st W):JD P N c st W where
 m:=orJ A.m B.m
 j:=fun V x hx=>by
  unfold orJ at hx
  split at hx
  ·rename_i y hy
   injection hx with hx
   subst hx
   exact A.j V y hy
  ·exact B.j V x hx
noncomputable def JD.se (A:JD P N (mb c) st (wy (Y:=Empty) (fun _=>st) W)) (hc:vb c=true:=by refine id ?_;kernel_rfl):JD P N c st W where
 m:=A.m.bind lj
 j:=fun V x hx=>(JD.sc (fun _=>st) A (fun y=>y.elim) hc).j V x (by rw[px]at hx;exact hx)
def JD.bk (A:JD P N (blkC c) st (lv (blkI c) W)) (hc:isBlk c=true:=by refine id ?_;kernel_rfl):JD P N c st W where
 m:=A.m
 j:=fun V x hx K hk=>by
  cases c with
  | block id c =>
   refine Tri.block (A.j V x hx _ fun ex s hs=>?_)
   have h2:K (vo id ex) s:=hk _ _ hs
   cases ex with
   | exit j =>
    simp only[inBlock]
    simp only[vo]at h2
    by_cases e:j=id
    ·rw[if_pos e]
     have:Nat.beq j id=true:=by rw[e];exact Nat.beq_refl _
     rw[this]at h2;exact h2
    ·rw[if_neg e]
     have:Nat.beq j id=false:=by
      cases hb:Nat.beq j id with
      | false=>rfl
      | true=>exact absurd (Nat.eq_of_beq_eq_true hb) e
     rw[this]at h2;exact h2
   | _=>exact h2
  | _=>cases hc
noncomputable def JD.lp (H:Y→St) (y0:Y) (w0:Weak st (H y0)) (B:∀ y,JD P N (lpC c) (H y) (wy H W)) (hc:isLp c=true:=by refine id ?_;kernel_rfl):JD P N c st W where
 m:=Bl (fun y=>(B y).m) y0
 j:=fun V x hx K hk=>by
  cases c with
  | loop c =>
   obtain⟨n,hx⟩:=N2 hx
   refine Tri.loop (X:=Nat×Y) (fun p=>H p.2) (fun p=>Ga (fun y=>(B y).m) p.1 p.2=some x) (fun p=>p.1) (n,y0) w0 hx ?_
   rintro⟨n,s⟩ hs
   cases n with
   | zero=>cases hs
   | succ n =>
    simp only[Ga]at hs
    cases hy:(B s).m with
    | none=>rw[hy]at hs;cases hs
    | some y =>
     rw[hy]at hs
     refine(B s).j V y hy _ fun ex t ht=>?_
     cases y with
     | inl s' =>
      obtain⟨h1,h2⟩:=ht
      cases ex with
      | normal=>exact⟨(n,s'),hs,Nat.lt_succ_self n,h2⟩
      | _=>cases h1
     | inr x' =>
      simp only[Option.some.injEq]at hs
      subst hs
      obtain⟨h1,h2⟩:=ht
      cases ex with
      | normal=>cases h1
      | _=>exact hk _ _ h2
  | _=>cases hc
structure JL (P:Program) (N:Nat) (n:Nat) (c:Code) (st:St) {R:Type} (W:R→Ev) where
 m:Option R
 j:∀ (V:Gm) (x:R),m=some x→∀ K:Exit→St→Prop,(∀ ex s,W x ex s→K ex s)→∀ γ a w,RS V N st γ a w→Code.rounds P c (fun ex a' w'=>∃ s γ',RS V N s γ' a' w'∧K ex s) n a w
noncomputable def JL.r {n:Nat} (S:Y→St) (A:JD P N c st (wy S W)) (B:∀ y,JL P N n c (S y) W):JL P N (n+1) c st W where
 m:=A.m.bind (As fun y=>(B y).m)
 j:=fun V x hx K hk γ a w hr=>by
  obtain⟨z,hz,hx⟩:=Option.bind_eq_some_iff.1 hx
  refine wp_mono (A.j V z hz (fun ex s=>wy S W z ex s) (fun ex s hs=>hs) γ a w hr) ?_
  rintro ex a' w' ⟨s,γ',h1,h2⟩
  cases z with
  | inl y =>
   obtain⟨h3,h4⟩:=h2
   cases ex with
   | normal =>
    obtain⟨γ'',h5⟩:=h4 V N γ' a' w' h1
    exact(B y).j V x hx K hk γ'' a' w' h5
   | _=>cases h3
  | inr r =>
   injection hx with hx
   subst hx
   obtain⟨h3,h4⟩:=h2
   cases ex with
   | normal=>cases h3
   | _=>exact⟨s,γ',h1,hk _ _ h4⟩
noncomputable def JL.z (A:JD P N c st (wy (Y:=Empty) (fun _=>st) W)):JL P N 1 c st W where
 m:=A.m.bind lj
 j:=fun V x hx=>(JL.r (n:=0) (fun _=>st) A fun y=>y.elim).j V x (by rw[px]at hx;exact hx)
noncomputable def JD.lu (n:Nat) (B:JL P N n (lpC c) st W) (hc:isLp c=true:=by refine id ?_;kernel_rfl):JD P N c st W where
 m:=B.m
 j:=fun V x hx K hk γ a w hr=>by
  cases c with
  | loop c=>exact wp_loop_rounds n (B.j V x hx K hk γ a w hr)
  | _=>cases hc
noncomputable def JD.ct (A:JD P N (fk c) st W) (hc:kl c=true:=by refine id ?_;kernel_rfl) (hb:jv st (tu c)=.d (.bool true):=by refine id ?_;kernel_rfl):JD P N c st W where
 m:=A.m
 j:=fun V r hr K hk=>by
  cases c with
  | cond o x y=>exact Tri.cond hb (fun h=>A.j V r hr K hk) (fun h=>by cases h)
  | _=>cases hc
noncomputable def JD.ce (A:JD P N (fg c) st W) (hc:kl c=true:=by refine id ?_;kernel_rfl) (hb:jv st (tu c)=.d (.bool false):=by refine id ?_;kernel_rfl):JD P N c st W where
 m:=A.m
 j:=fun V r hr K hk=>by
  cases c with
  | cond o x y=>exact Tri.cond hb (fun h=>by cases h) (fun h=>A.j V r hr K hk)
  | _=>cases hc
noncomputable def JD.cd (b:Bool) (A:JD P N (fk c) st W) (B:JD P N (fg c) st W) (hc:kl c=true:=by refine id ?_;kernel_rfl) (hb:jv st (tu c)=.d (.bool b):=by refine id ?_;kernel_rfl):JD P N c st W where
 m:=if b=true then A.m else B.m
 j:=fun V r hr K hk=>by
  cases c with
  | cond o x y =>
   refine Tri.cond hb (fun h=>?_) (fun h=>?_)
   ·rw[if_pos h]at hr;exact A.j V r hr K hk
   ·rw[if_neg (by rw[h];decide)]at hr;exact B.j V r hr K hk
  | _=>cases hc
end
abbrev JF (P:Program) (fn:Func) (ds:List D) {R:Type} (en:R→D):=JD P fn.ntmps (body fn) ⟨P0 0 ds,[],[],16⟩ fun x=>fin P fn (en x)
theorem Ar {R:Type} {f:Nat} {fn:Func} {ds:List D} {en:R→D} (d:JF P fn ds en) (hf:P.funcs[f]?=some fn) {x:R} (hx:d.m=some x) (hb:fn.body=some (body fn):=by kernel_rfl) (hn:fn.name ≠ "runtime.NumGoroutine" := by decide)
  (hlen:Nat.ble ds.length fn.ntmps=true:=by rfl):Aa P f ds (en x) :=
 pure_of hf hb hn (Nat.le_of_ble_eq_true hlen) fun V=>Tri.post (d.j V x hx (fun ex s=>isR ex=true∧∃ s',Weak s s'∧R0 P fn.results.toList s' (en x)) fun ex s hs=>hs) fun ex s ⟨he,s',hw,hr⟩=>⟨s',hw,by
  cases ex<;>first | exact hr | cases he⟩
def Bd {α:Type} (t:Nat) (e:α→D):Tm:=⟨α,fun x=>[(t,e x)],fun _=>[],[]⟩
def Tr.nx {Y R:Type} {S:Y→St} {W:R→Ev} (y:Y):Tr (wy S W):=.ret .normal (S y) (.inl y) ⟨rfl,Weak.refl _⟩
theorem JD.sg_m {R:Type} {W:R→Ev} {c:Code} {st:St} {tms:List (Nat×Tm)} {cx:List (Nat×List Nat×List Nat)} {t:Tr W} {hm:P.follows .mixedOrders=true} {h}:(JD.sg (P:=P) (N:=N) (c:=c) (st:=st) tms cx t hm h).m=t.run:=rfl
theorem JD.sq_m {R Y:Type} {W:R→Ev} {c:Code} {st:St} {k:Nat} {tms:List (Nat×Tm)} {cx:List (Nat×List Nat×List Nat)} {S:Y→St} {t:Tr (wy S W)} {B:∀ y,JD P N (km k c) (S y) W} {hm:P.follows .mixedOrders=true} {h}:(JD.sq (P:=P) (N:=N) (c:=c) (st:=st) k tms cx S t B hm h).m=t.run.bind (As fun y=>(B y).m):=rfl
theorem JD.sc_m {R Y:Type} {W:R→Ev} {c:Code} {st:St} {S:Y→St} {A:JD P N (mb c) st (wy S W)} {B:∀ y,JD P N (km 1 c) (S y) W} {hc}:(JD.sc S A B hc).m=A.m.bind (As fun y=>(B y).m):=rfl
theorem JD.bk_m {R:Type} {W:R→Ev} {c:Code} {st:St} {A:JD P N (blkC c) st (lv (blkI c) W)} {hc}:(JD.bk A hc).m=A.m:=rfl
theorem JD.lp_m {R Y:Type} {W:R→Ev} {c:Code} {st:St} {H:Y→St} {y0:Y} {w0:Weak st (H y0)} {B:∀ y,JD P N (lpC c) (H y) (wy H W)} {hc}:(JD.lp H y0 w0 B hc).m=Bl (fun y=>(B y).m) y0:=rfl
theorem JD.cd_m {R:Type} {W:R→Ev} {c:Code} {st:St} {b:Bool} {A:JD P N (fk c) st W} {B:JD P N (fg c) st W} {hc} {hb}:(JD.cd b A B hc hb).m=if b=true then A.m else B.m:=rfl
theorem JD.lu_m {R:Type} {W:R→Ev} {c:Code} {st:St} {n:Nat} {B:JL P N n (lpC c) st W} {hc}:(JD.lu n B hc).m=B.m:=rfl
theorem JD.ct_m {R:Type} {W:R→Ev} {c:Code} {st:St} {A:JD P N (fk c) st W} {hc} {hb}:(JD.ct A hc hb).m=A.m:=rfl
theorem JD.ce_m {R:Type} {W:R→Ev} {c:Code} {st:St} {A:JD P N (fg c) st W} {hc} {hb}:(JD.ce A hc hb).m=A.m:=rfl
theorem JL.r_m {R Y:Type} {W:R→Ev} {c:Code} {st:St} {n:Nat} {S:Y→St} {A:JD P N c st (wy S W)} {B:∀ y,JL P N n c (S y) W}:(JL.r S A B).m=A.m.bind (As fun y=>(B y).m):=rfl
theorem Bi {R:Type} {r:R}:lj (.inr r)=some r:=rfl
theorem JD.se_m {R:Type} {W:R→Ev} {c:Code} {st:St} {A:JD P N (mb c) st (wy (Y:=Empty) (fun _=>st) W)} {hc}:(JD.se A hc).m=A.m.bind lj:=rfl
theorem JL.z_m {R:Type} {W:R→Ev} {c:Code} {st:St} {A:JD P N c st (wy (Y:=Empty) (fun _=>st) W)}:(JL.z A).m=A.m.bind lj:=rfl
theorem Tr.run_nd {R:Type} {W:R→Ev} {p:Prop} [d:Decidable p] {k:Tr W}:(nd p k).run=if p then k.run else none:=rfl
theorem Tr.run_c3 {R α:Type} {W:R→Ev} {m:Option α} {p:α→Prop} {h:∀ r,m=some r→p r} {k:α→Tr W}:(c3 h k).run=m.bind fun x=>(k x).run:=by
 cases m<;>rfl
theorem Tr.run_c2 {R α:Type} {W:R→Ev} {m:Option α} {f:Nat} {ds ds':List D} {e:α→D} {h:∀ r,m=some r→Aa P f ds (e r)} {hd:Mn ds' ds} {k:α→Tr W}:(c2 h ds' hd k).run=m.bind fun x=>(k x).run:=by
 cases m<;>rfl
theorem Tr.run_nx {Y R:Type} {S:Y→St} {W:R→Ev} {y:Y}:(Tr.nx y:Tr (wy S W)).run=some (.inl y):=rfl
theorem Gn {Y R:Type} {f:Y→Option R} {y:Y}:As f (.inl y)=f y:=rfl
theorem Ru {Y R:Type} {f:Y→Option R} {r:R}:As f (.inr r)=some r:=rfl
theorem Ao {α β:Type} {p:Prop} [Decidable p] {a b:Option α} {f:α→Option β}:(if p then a else b).bind f=if p then a.bind f else b.bind f:=by split<;>rfl
end Go.Av
namespace Go.Av
open Go.RowKit Go.Base Go.ChangeShapes Go.WideShapes
variable {P:Program} {H:Type} {enc:TypeId×Value→H} {W:World} {spare:Nat→Bool}
theorem spot_none {w:World} {a:Addr} {v:Value} (h:w.cell? a=some v):a.spot=none:=by
 unfold World.cell? at h
 cases hx:a.spot with
 | none=>rfl
 | some s=>rw[hx]at h;simp at h;split at h<;>cases h
theorem di {a:Addr} (h:a.spot=none) (j:Nat):a.add j=⟨a.block,a.off+j,none⟩:=by
 unfold Addr.add
 split
 ·rename_i e;subst e;cases a;simp at h;simp[h]
 ·rfl
def Wi (W:World) (b o:Nat):Option Value:=W.cell? ⟨b,o,none⟩
theorem fz_all (W:World):Lb (Wi W) W:=fun _ _ _ h=>h
def N8 {α:Type} (P:Program) (W:World) (spare:Nat→Bool) (t:TypeId) (e:α→List D) (ok:α→Prop):Prop :=
 ∀ (H:Type) (enc:TypeId×Value→H) (fuel:Nat) (cs:List Value) (x:DataW H×List MemPlace),DataW.trod enc P W 0 spare true fuel t cs=some x→∃ a,RepL (Wi W) (e a) cs∧ok a
theorem Ka {t:TypeId} {k:IntKind} (ht:P.underlying t=some (.int k)):N8 P W spare t (fun n=>[.int k n]) (fun n=>(Lit.int k n).wf=true):=fun H enc fuel cs x h=>by
 obtain⟨n,rfl,_,hw⟩:=DataW.trod_int ht h
 exact⟨n,by simp[RepL,Rep],hw⟩
theorem Xx {t:TypeId} (ht:P.underlying t=some .bool):N8 P W spare t (fun b=>[.bool b]) (fun _=>True):=fun H enc fuel cs x h=>by
 obtain⟨b,rfl,_⟩:=DataW.trod_bool ht h
 exact⟨b,by simp[RepL,Rep],trivial⟩
theorem Gi {t:TypeId} (ht:P.underlying t=some .string):N8 P W spare t (fun s=>[.str s]) (fun s=>s.length≤maxLen):=fun H enc fuel cs x h=>by
 obtain⟨s,rfl,_,hs⟩:=DataW.trod_string ht h
 obtain⟨⟨l⟩⟩:=s
 exact⟨l,by simp[RepL,Rep],by simpa [ByteArray.size] using hs⟩
theorem repL_one {μ:Nat→Nat→Option Value} {ds:List D} {vs:List Value} (h:RepL μ ds vs) (ho:ds.all D.one=true):∀ x∈vs,x.oneCell'=true:=by
 have:=Hd (γ:=⟨μ,fun _=>none,fun _=>none⟩) (RepAL.of_map (γ:=⟨μ,fun _=>none,fun _=>none⟩) h) (by simpa [List.all_map,Function.comp_def,AV.one] using ho)
 exact this
theorem Ey {α:Type} [Inhabited α] {t el:TypeId} {e:α→List D} {en:α→D} {ok:α→Prop} {sz:Nat} (ht:P.underlying t=some (.slice el)) (hsz:P.cellsOf el=sz) (hp:0 < sz) (hel:N8 P W spare el e ok)
  (hone:∀ a,(e a).all D.one=true) (hlen:∀ a,(e a).length=sz) (hen:∀ a,en a=.agg (e a)∨(e a=[en a]∧sz=1)):N8 P W spare t (fun l=>[A5 sz en l]) (fun l=>l.length≤maxLen∧∀ a∈l,ok a):=fun H enc fuel cs x h=>by
 rcases Go.Deep.open_slice ht h with⟨rfl,_⟩ | ⟨A,len,cap,m,n,D,Pl,rfl,_,hl,hm,hmm,_,hx⟩
 ·refine⟨[],?_,by simp[maxLen],by simp⟩
  simp only[RepL,A5,List.length_nil]
  refine⟨_,[],rfl,?_,rfl⟩
  simp only[Rep]
  exact⟨none,0,rfl,Nat.le_refl _,Nat.zero_le _,fun h=>absurd h (by omega)⟩
 ·have hle:len≤m:=by rw[hmm];split<;>omega
  have key:∀ i,i < len→∃ a:α,ok a∧∃ cs',W.cells? 0 (A.add (i * sz)) sz=some cs'∧RepL (Wi W) (e a) cs':=by
   intro i hi
   obtain⟨cs',h1,h2⟩:=hx i (by omega)
   rw[hsz]at h1
   obtain⟨a,h3,h4⟩:=hel H enc n cs' _ h2
   exact⟨a,h4,cs',h1,h3⟩
  let g:Nat→α:=fun i=>if h:i < len then Classical.choose (key i h)else default
  have hg:∀ i,i < len→ok (g i)∧∃ cs',W.cells? 0 (A.add (i * sz)) sz=some cs'∧RepL (Wi W) (e (g i)) cs':=fun i hi=>by
   have:g i=Classical.choose (key i hi):=dif_pos hi
   rw[this]
   exact Classical.choose_spec (key i hi)
  refine⟨(List.range len).map g,?_,by simp;omega,fun a ha=>?_⟩
  ·simp only[RepL,A5,List.length_map,List.length_range]
   refine⟨_,[],rfl,?_,rfl⟩
   simp only[Rep]
   refine⟨some A,cap,rfl,hl,hm,fun hn=>?_⟩
   obtain⟨cs0,c1,c2⟩:=(hg 0 hn).2
   obtain⟨_,c3,c4⟩:=World.cells?_some c1
   have hA:A.spot=none:=by
    have h5:=c4 0 hp
    rw[List.getElem?_eq_getElem (by omega)]at h5
    rw[Nat.zero_mul]at h5
    simp only[Addr.add,if_true]at h5
    exact spot_none h5
   refine⟨A.block,A.off,by cases A;simp at hA;simp[hA],fun i hi=>?_⟩
   obtain⟨cs',d1,d2⟩:=(hg i hi).2
   obtain⟨_,d3,d4⟩:=World.cells?_some d1
   have hce:cF en ((List.range len).map g) i=en (g i):=by
    simp only[cF,List.getD_eq_getElem?_getD,List.getElem?_map,List.getElem?_range hi,Option.map_some,Option.getD_some]
   have hcell:∀ j,j < sz→Wi W A.block (A.off+i * sz+j)=cs'[j]?:=fun j hj=>by
    rw[← d4 j hj,di hA,di rfl]
    rfl
   rw[hce]
   have h1:=repL_one d2 (hone (g i))
   rcases hen (g i) with he | ⟨he,hs1⟩
   ·refine⟨.agg cs'.toArray,?_,?_,?_,fun j hj=>?_⟩
    ·rw[he];simp only[Rep];exact⟨cs',rfl,d2⟩
    ·simp[Value.cells];exact d3
    ·intro y hy;exact h1 y (by simpa [Value.cells] using hy)
    ·rw[hcell j hj];simp[Value.cells]
   ·rw[he]at d2
    simp only[RepL]at d2
    obtain⟨v,t',rfl,d5,rfl⟩:=d2
    have ho:(en (g i)).one=true:=by have:=hone (g i);rw[he]at this;simpa using this
    obtain⟨_,hc,_⟩:=Rep.cells_one d5 ho
    refine⟨v,d5,by rw[hc,hs1];rfl,fun y hy=>?_,fun j hj=>?_⟩
    ·rw[hc]at hy;simp at hy;rw[hy];exact h1 v (by simp)
    ·rw[hcell j hj,hc];rw[hs1]at hj;obtain rfl:j=0:=by omega
     rfl
  ·simp only[List.mem_map,List.mem_range]at ha
   obtain⟨i,hi,rfl⟩:=ha
   exact(hg i hi).1
theorem E6 {μ:Nat→Nat→Option Value}:∀ {a b:List D} {vs ws:List Value},RepL μ a vs→RepL μ b ws→RepL μ (a++b) (vs++ws)
 | [],_,_,_,h,k=>by simp only[RepL]at h;subst h;exact k
 | d :: l,b,_,ws,h,k=>by
  simp only[RepL]at h
  obtain⟨v,t,rfl,h1,h2⟩:=h
  simp only[List.cons_append,RepL]
  exact⟨v,_,rfl,h1,E6 h2 k⟩
theorem rep_agg {μ:Nat→Nat→Option Value} {ds:List D} {cs:Array Value} (h:RepL μ ds cs.toList):Rep μ (.agg ds) (.agg cs):=by
 simp only[Rep];exact⟨cs.toList,by simp,h⟩
theorem repL_nil {μ:Nat→Nat→Option Value}:RepL μ [] []:=by simp only[RepL]
theorem zg {μ:Nat→Nat→Option Value} {d:D} {l:List D} {v:Value} {vs:List Value} (h:Rep μ d v) (k:RepL μ l vs):RepL μ (d :: l) (v :: vs):=by simp only[RepL];exact⟨v,vs,rfl,h,k⟩
theorem law_call {f:Nat} {ds:List D} (h:Aa P f ds (.bool true)) {args:Array Value} (hr:RepL (Wi W) ds args.toList):Calls P f args W fun e w'=>e=.returned (.bool true)∧Below W.heap.size W w':=by
 have:=h.2 (Wi W) W args.toList (fz_all W) hr
 refine this.mono ?_
 rintro e w' ⟨v,ν,rfl,h1,_,_,h2⟩
 simp only[Rep]at h2
 exact⟨by rw[h2],h1⟩
end Go.Av
namespace Go.Av
open Go.RowKit Go.Base
variable {P:Program} {γ γ':G} {w w':World} {own own':Nat→Prop}
structure OF where
 r:AV
 hp:List (Nat×Ob)
 live:List Nat
def Cq (P:Program) (f:FuncId) (A:List AV) (hp:List (Nat×Ob)) (live:List Nat) (t:OF):Prop :=
 Lo P f∧∀ (own:Nat→Prop) (γ:G) (w:World) (vs:List Value),Hp own (Ae hp) (·∈live) γ w→(∀ b,w.heap.size≤b→own b)→Fq 16 (Ae hp) (·∈live) γ→RepAL γ A vs →
  Calls P f vs.toArray w fun e w'=>∃ v γ',e=.returned v∧LeM γ.μ γ'.μ∧(∀ i b,i < 16→γ.ι i=some b→γ'.ι i=some b)∧Hp own (Ae t.hp) (·∈t.live) γ' w'∧Base own w w'∧RepA γ' t.r v∧∀ b o,b < w.heap.size→¬ own b→γ'.μ b o=γ.μ b o
theorem Hp.own_to {hp : Nat → Option Ob} {live : Nat → Prop} (H : Hp own hp live γ w) (h1 : ∀ id o p b, hp id = some o → o.ok = true → γ.ι id = some p → p.block = some b → own' b) (h2 : ∀ t v g, live t → γ.τ t = some v → v.1.ownBlock = some g → own' g) : Hp own' hp live γ w :=
  ⟨H.fz, fun id o h ho => let ⟨p, e1, e2, e3⟩ := H.obj id o h ho; ⟨p, e1, e2, fun b hb => ⟨h1 id o p b h ho e1 hb, (e3 b hb).2⟩⟩, H.inj,
   fun t v e sz hl hq => let ⟨n, xs, q1, q2⟩ := H.tok t v e sz hl hq; ⟨n, xs, q1, fun g hg => ⟨h2 t _ g hl hq hg, (q2 g hg).2⟩⟩, H.tinj⟩
def W8 (rs ts rs' ts':List (Nat×Nat)) (hp0:List (Nat×Ob)) (live1:List Nat) (id:Nat) (t:OT):Bool :=
 (rs'.all fun p=>(decide (id≤p.1)&&decide (p.1 < id+16)&&decide (16≤p.2)) || (decide (p.1 < id)&&Bv rs p.2==some p.1))&&decide ((rs'.map (·.2)).Nodup) &&
 (ts'.all fun p=>decide (id≤p.1)&&decide (p.1 < id+16)&&live1.contains p.2)&&decide ((ts'.map (·.2)).Nodup) &&
 (t.ups.all fun p=>(Bv rs' p.1).isSome)&&((rs.map (·.2)).all fun c=>(t.ups.map (·.1)).contains c) &&
 (t.toks.all fun q=>(Bv ts' q).isSome)&&((rs.map (·.2)).all fun c=>t.ids.contains c)&&((ts.map (·.2)).all fun c=>t.lv.contains c)&&(t.lv.all fun c=>(ts.map (·.2)).contains c)&&(rs.all fun p=>match Ae hp0 p.1 with | some o=>o.ok | none=>false)
def Uw:List (Nat×Option Ob)→Nat→Option Ob
 | [],_=>none
 | (i,v) :: l,t=>if i=t then v else Uw l t
theorem Pp {hp:Nat→Option Ob}:∀ {l:List (Nat×Option Ob)} {i:Nat} {o:Ob},V0 hp l→Uw l i=some o→hp i=some o
 | (j,p) :: l,i,o,h,hm=>by
  simp only[Uw]at hm
  split at hm
  ·rename_i e;subst e;rw[h.1];exact hm
  ·exact Pp h.2 hm
theorem hp_give {own:Nat→Prop} {hp:Nat→Option Ob} {live:Nat→Prop} (rs ts:List (Nat×Nat)) {hl:List (Nat×Option Ob)} {hp':List (Nat×Ob)} {lv live':List Nat} {nx':Nat} (hn:H4 rs ts hp' lv live' nx'=true)
  (ho:E8 (fun p:Nat×Ob=>∃ b o,Bv rs p.1=some b∧Uw hl b=some o∧Oble rs ts o p.2) hp') (H:Hp own hp live γ w) (hth:V0 hp hl) (hlv:∀ s∈lv,live s) :
  Hp own (Ae hp') (·∈live') (Jf rs ts (fun _=>none) γ) w∧Fq nx' (Ae hp') (·∈live') (Jf rs ts (fun _=>none) γ):=by
 unfold H4 at hn
 simp only[Bool.and_eq_true,decide_eq_true_eq,List.all_eq_true,List.contains_eq_mem]at hn
 obtain⟨⟨⟨⟨⟨n1,n2⟩,n3⟩,n4⟩,n5⟩,n6⟩:=hn
 have re:=Sf rs ts (fun _=>none) γ
 have obj':∀ id o,Ae hp' id=some o→∃ b o0,Bv rs id=some b∧hp b=some o0∧Oble rs ts o0 o:=fun id o h=>let ⟨b,o0,e1,e2,e3⟩:=Ec ho _ (E3 h);⟨b,o0,e1,Pp hth e2,e3⟩
 have tok':∀ t v,(Jf rs ts (fun _=>none) γ).τ t=some v→∃ a,Bv ts t=some a∧γ.τ a=some v∧live a:=fun t v h=>by
  simp only[Jf]at h
  rw[Option.bind_eq_some_iff]at h
  obtain⟨a,h1,h2⟩:=h
  exact⟨a,h1,h2,hlv a (n5 _ (Cy h1)).2⟩
 refine⟨⟨H.fz,fun id o h ho=>?_,fun i j oi oj p q hi hj ho1 ho2 hne hp1 hp2=>?_,fun t v e sz hl hq=>?_,fun s t v u hs ht hne hv hu=>?_⟩,⟨fun id hid=>⟨?_,?_,?_,?_⟩⟩⟩
 ·obtain⟨b,o0,h1,h2,h3⟩:=obj' id o h
  obtain⟨p,e1,e2,e3⟩:=H.obj b o0 h2 (h3.ok ho)
  exact⟨p,by rw[re.ι id b h1];exact e1,e2.le re ho h3,e3⟩
 ·obtain⟨b,o0,h1,h2,h5⟩:=obj' i oi hi
  obtain⟨c,o1,h3,h4,h6⟩:=obj' j oj hj
  rw[re.ι i b h1]at hp1
  rw[re.ι j c h3]at hp2
  exact H.inj b c o0 o1 p q h2 h4 (h5.ok ho1) (h6.ok ho2) (fun e=>hne (Kh n1 h1 (by rw[e];exact h3))) hp1 hp2
 ·obtain⟨c,h1,h2,h3⟩:=tok' t _ hq
  obtain⟨n,xs,q1,q2⟩:=H.tok c v e sz h3 h2
  refine⟨n,xs,q1,fun g hg=>?_⟩
  obtain⟨r1,r2,r3⟩:=q2 g hg
  refine⟨r1,r2,fun id o p h ho hp1=>?_⟩
  obtain⟨b,o0,h4,h5,h6⟩:=obj' id o h
  rw[re.ι id b h4]at hp1
  exact r3 b o0 p h5 (h6.ok ho) hp1
 ·obtain⟨b,h1,h2,h3⟩:=tok' s _ hv
  obtain⟨c,h4,h5,h6⟩:=tok' t _ hu
  exact H.tinj b c v u h3 h6 (fun e=>hne (Kh n4 h1 (by rw[e];exact h4))) h2 h5
 ·cases h:Bv rs id with
  | none=>simp only[Jf,h]
  | some b=>have:=n2 _ (Cy h);simp only at this;omega
 ·cases h:Bv ts id with
  | none=>simp only[Jf,h,Option.bind_none]
  | some b=>have:=(n5 _ (Cy h)).1;simp only at this;omega
 ·cases h:Ae hp' id with
  | none=>rfl
  | some o =>
   obtain⟨b,o0,h1,_⟩:=obj' id o h
   have:=n2 _ (Cy h1);simp only at this;omega
 ·intro h;have:=n6 _ h;omega
theorem Dj {f:FuncId} {A:List AV} {hp0:List (Nat×Ob)} {live0:List Nat} {t0:OF} (h:Cq P f A hp0 live0 t0) (rs ts rs' ts':List (Nat×Nat)) {xs:List AV} {hl:List (Nat×Option Ob)} {id:Nat} {t:OT}
  (n1:H4 rs ts hp0 t.lv live0 16=true) (hx:L8 rs ts xs A) (ho:E8 (fun p:Nat×Ob=>∃ b o,Bv rs p.1=some b∧Uw hl b=some o∧Oble rs ts o p.2) hp0)
  (n2:W8 rs ts rs' ts' hp0 t0.live id t=true) (hr:Da rs' ts' t0.r t.r)
  (ho':E8 (fun p:Nat×Ob=>∃ b o,Bv rs' p.1=some b∧Ae t0.hp b=some o∧Oble rs' ts' o p.2) t.ups):Bp P f xs hl id t:=by
 obtain⟨hcb,hf⟩:=h
 refine⟨hcb,fun own hp live γ w vs H hth hlv big F hrep=>?_⟩
 obtain⟨H0,F0⟩:=hp_give rs ts n1 ho H hth hlv
 have re:=Sf rs ts (fun _=>none) γ
 generalize hγ0:Jf rs ts (fun _=>none) γ=γ0 at H0 F0 re
 have hμ0:γ0.μ=γ.μ:=re.μ
 unfold H4 at n1
 simp only[Bool.and_eq_true,decide_eq_true_eq,List.all_eq_true,List.contains_eq_mem]at n1
 obtain⟨⟨⟨⟨⟨a1,a2⟩,a3⟩,a4⟩,a5⟩,a6⟩:=n1
 unfold W8 at n2
 simp only[Bool.and_eq_true,decide_eq_true_eq,List.all_eq_true,List.contains_eq_mem,Bool.or_eq_true,beq_iff_eq]at n2
 obtain⟨⟨⟨⟨⟨⟨⟨⟨⟨⟨b1,b2⟩,b3⟩,b4⟩,b5⟩,b6⟩,b7⟩,b8⟩,b9⟩,b10⟩,b11⟩:=n2
 have obj0:∀ j o,Ae hp0 j=some o→∃ c oc,Bv rs j=some c∧hp c=some oc∧Oble rs ts oc o:=fun j o h=>let ⟨b,o0,e1,e2,e3⟩:=Ec ho _ (E3 h);⟨b,o0,e1,Pp hth e2,e3⟩
 have inR:∀ {j c:Nat},Bv rs j=some c→c∈rs.map (·.2):=fun h=>List.mem_map.2 ⟨_,Cy h,rfl⟩
 have inT:∀ {j c:Nat},Bv ts j=some c→c∈ts.map (·.2):=fun h=>List.mem_map.2 ⟨_,Cy h,rfl⟩
 have tau0:∀ t v,γ0.τ t=some v→∃ a,Bv ts t=some a∧γ.τ a=some v∧live a:=fun t v e=>by
  subst hγ0
  simp only[Jf]at e
  rw[Option.bind_eq_some_iff]at e
  obtain⟨a,e1,e2⟩:=e
  exact⟨a,e1,e2,hlv a (a5 _ (Cy e1)).2⟩
 let own0:Nat→Prop:=fun b=>w.heap.size≤b∨(∃ j o p,Ae hp0 j=some o∧o.ok=true∧γ0.ι j=some p∧p.block=some b)∨∃ t v,t∈live0∧γ0.τ t=some v∧v.1.ownBlock=some b
 have own0_own:∀ b,own0 b→own b:=by
  rintro b (h1 | ⟨j,o,p,h1,h2,h3,h4⟩ | ⟨t,v,h1,h2,h3⟩)
  ·exact big b h1
  ·obtain⟨c,oc,e1,e2,e3⟩:=obj0 j o h1
   rw[re.ι j c e1]at h3
   obtain⟨p',g1,_,g4⟩:=H.obj c oc e2 (e3.ok h2)
   rw[h3]at g1;injection g1 with g1;subst g1;exact(g4 b h4).1
  ·obtain⟨a,e1,e2,e3⟩:=tau0 t v h2
   obtain⟨n,xs,q1,q2⟩:=H.tok a v.1 v.2.1 v.2.2 e3 e2
   exact(q2 b h3).1
 have H0':Hp own0 (Ae hp0) (·∈live0) γ0 w:=H0.own_to (fun j o p b h1 h2 h3 h4=>.inr (.inl ⟨j,o,p,h1,h2,h3,h4⟩)) fun t v g h1 h2 h3=>.inr (.inr ⟨t,v,h1,h2,h3⟩)
 have Ov:∀ j o p b,hp j=some o→o.ok=true→j ∉ rs.map (·.2)→γ.ι j=some p→p.block=some b→¬ own0 b:=by
  rintro j o p b h1 ho h2 h3 hb (k1 | ⟨i,oi,pi,k1,ki,k2,k3⟩ | ⟨t,v,k1,k2,k3⟩)
  ·obtain⟨p',g1,g2,_⟩:=H.obj j o h1 ho
   rw[h3]at g1;injection g1 with g1;subst g1
   have:=g2.lt hb
   omega
  ·obtain⟨c,oc,e1,e2,e3⟩:=obj0 i oi k1
   rw[re.ι i c e1]at k2
   rcases H.inj j c o oc p pi h1 e2 ho (e3.ok ki) (fun e=>h2 (e ▸ inR e1)) h3 k2 with h | h
   ·rw[hb]at h;cases h
   ·exact h (by rw[hb,k3])
  ·obtain⟨a,e1,e2,e3⟩:=tau0 t v k2
   obtain⟨n,xs,q1,q2⟩:=H.tok a v.1 v.2.1 v.2.2 e3 e2
   exact(q2 b k3).2.2 j o p h1 ho h3 hb
 have toks:∀ t v g,live t→t ∉ ts.map (·.2)→γ.τ t=some v→v.1.ownBlock=some g→¬ own0 g:=by
  rintro t v g h1 h2 h3 h4 (k1 | ⟨i,oi,pi,k1,ki,k2,k3⟩ | ⟨t',v',k1,k2,k3⟩)
  ·obtain⟨n,xs,q1,q2⟩:=H.tok t v.1 v.2.1 v.2.2 h1 h3
   have:=(q1.lt g h4).2
   omega
  ·obtain⟨c,oc,e1,e2,e3⟩:=obj0 i oi k1
   rw[re.ι i c e1]at k2
   obtain⟨n,xs,q1,q2⟩:=H.tok t v.1 v.2.1 v.2.2 h1 h3
   exact(q2 g h4).2.2 c oc pi e2 (e3.ok ki) k2 k3
  ·obtain⟨a,e1,e2,e3⟩:=tau0 t' v' k2
   rcases H.tinj t a v v' h1 e3 (fun e=>h2 (e ▸ inT e1)) h3 e2 with q | q
   ·rw[h4]at q;cases q
   ·rw[h4,k3]at q;exact q rfl
 refine(hf own0 γ0 w vs H0' (fun b hb=>.inl hb) F0 (RepAL.le re hx hrep)).mono ?_
 rintro e w' ⟨v,γ1,rfl,le1,pins,H1,B1,R1,mu1⟩
 rw[hμ0]at le1 mu1
 let γ':G:=⟨γ1.μ,fun j=>match Bv rs' j with | some c=>γ1.ι c | none=>γ.ι j,fun j=>match Bv ts' j with | some c=>γ1.τ c | none=>γ.τ j⟩
 have re':sh rs' ts' γ1 γ':=⟨rfl,fun b a h=>by simp only[γ',h],fun b a h=>by simp only[γ',h]⟩
 have ι_old:∀ j,Bv rs' j=none→γ'.ι j=γ.ι j:=fun j h=>by simp only[γ',h]
 have τ_old:∀ j,Bv ts' j=none→γ'.τ j=γ.τ j:=fun j h=>by simp only[γ',h]
 have rs'_ok:∀ j c,Bv rs' j=some c→(id≤j∧j < id+16∧16≤c)∨(j < id∧Bv rs c=some j):=fun j c h=>by
  rcases b1 _ (Cy h) with⟨⟨q1,q2⟩,q3⟩ | ⟨q1,q2⟩
  ·exact .inl ⟨q1,q2,q3⟩
  ·exact .inr ⟨q1,q2⟩
 have ts'_ok:∀ j c,Bv ts' j=some c→id≤j∧j < id+16∧c∈t0.live:=fun j c h=>by
  obtain⟨⟨q1,q2⟩,q3⟩:=b3 _ (Cy h)
  exact⟨q1,q2,q3⟩
 have le:LeG γ γ':=⟨le1,fun i b hi=>by
  cases hl:Bv rs' i with
  | none=>rw[ι_old i hl];exact hi
  | some c =>
   rcases rs'_ok i c hl with⟨q1,q2,_⟩ | ⟨_,q2⟩
   ·rw[(F i q1 q2).1]at hi;cases hi
   ·rw[re'.ι i c hl]
    exact pins c b (by have:=a2 _ (Cy q2);exact this) (by rw[re.ι c i q2];exact hi),fun i b hi=>by
  cases hl:Bv ts' i with
  | none=>rw[τ_old i hl];exact hi
  | some c =>
   have:=ts'_ok i c hl
   rw[(F i this.1 this.2.1).2.1]at hi;cases hi⟩
 have notin:∀ j,Ae t.ups j=none→j ∉ rs.map (·.2):=fun j h hm=>by
  have:=b6 j hm
  rw[List.mem_map]at this
  obtain⟨p,hp1,hp2⟩:=this
  have:∀ l:List (Nat×Ob),p∈l→Ae l j≠none:=fun l=>by
   induction l with
   | nil=>intro h;cases h
   | cons q l ih =>
    intro hm
    simp only[Ae]
    split
    ·exact fun h=>by cases h
    ·rename_i hne
     rcases List.mem_cons.1 hm with e | hm
     ·rw[e]at hp2;exact absurd hp2 hne
     ·exact ih hm
  exact this _ hp1 h
 have objP:∀ j o,cq hp t.ups j=some o→(Bv rs' j=none∧hp j=some o∧j ∉ rs.map (·.2))∨∃ c oc,Bv rs' j=some c∧Ae t0.hp c=some oc∧Oble rs' ts' oc o:=fun j o h=>by
  unfold cq at h
  split at h
  ·rename_i o' ho1
   injection h with h
   subst h
   obtain⟨c,oc,q1,q2,q3⟩:=Ec ho' _ (E3 ho1)
   exact .inr ⟨c,oc,q1,q2,q3⟩
  ·rename_i hn
   refine .inl ⟨?_,h,notin j hn⟩
   cases hl:Bv rs' j with
   | none=>rfl
   | some c =>
    rcases rs'_ok j c hl with⟨q1,q2,_⟩ | ⟨_,q2⟩
    ·rw[(F j q1 q2).2.2.1]at h;cases h
    ·exact absurd (inR q2) (notin j hn)
 have liveP:∀ q,wq live t.lv t.toks q→(∃ c,Bv ts' q=some c∧c∈t0.live)∨(Bv ts' q=none∧live q∧q ∉ ts.map (·.2)):=fun q hq=>by
  rcases hq with⟨h1,h2⟩ | h
  ·refine .inr ⟨?_,h1,fun hm=>h2 (b9 q hm)⟩
   cases hl:Bv ts' q with
   | none=>rfl
   | some c=>have:=ts'_ok q c hl;exact absurd h1 (F q this.1 this.2.1).2.2.2
  ·have:=b7 q h
   cases hl:Bv ts' q with
   | none=>rw[hl]at this;cases this
   | some c=>exact .inl ⟨c,rfl,(ts'_ok q c hl).2.2⟩
 have keep:∀ b,b < w.heap.size→¬ own0 b→w'.heap[b]?=w.heap[b]?:=fun b h1 h2=>B1.block b h1 h2
 have objN:∀ j o,cq hp t.ups j=some o→o.ok=true→∃ p,γ'.ι j=some p∧ObjAt γ' w' o p∧∀ b,p.block=some b→own b∧∀ k,γ'.μ b k=none:=fun j o h hok=>by
  rcases objP j o h with⟨q1,q2,q3⟩ | ⟨c,oc,q1,q2,q3⟩
  ·obtain⟨p,e1,e2,e3⟩:=H.obj j o q2 hok
   have nb:∀ b,p.block=some b→¬ own0 b:=fun b hb=>Ov j o p b q2 hok q3 e1 hb
   exact⟨p,by rw[ι_old j q1];exact e1,e2.kept le fun b hb=>keep b (e2.lt hb) (nb b hb),fun b hb=>⟨(e3 b hb).1,fun k=>by rw[show γ'.μ b k=γ1.μ b k from rfl,mu1 b k (e2.lt hb) (nb b hb)];exact(e3 b hb).2 k⟩⟩
  ·obtain⟨p,e1,e2,e3⟩:=H1.obj c oc q2 (q3.ok hok)
   exact⟨p,by rw[re'.ι j c q1];exact e1,e2.le re' hok q3,fun b hb=>⟨own0_own b (e3 b hb).1,(e3 b hb).2⟩⟩
 have tokN:∀ q v e sz,wq live t.lv t.toks q→γ'.τ q=some (v,e,sz)→(∃ n xs,w'.ownsRow 0 e sz v n xs∧∀ g,v.ownBlock=some g→own g∧(∀ k,n * sz≤k→γ'.μ g k=none)∧(∀ j o p,cq hp t.ups j=some o→o.ok=true→γ'.ι j=some p→p.block≠some g)∧((Bv ts' q).isSome↔own0 g)):=fun q v e sz hq hv=>by
  rcases liveP q hq with⟨c,q1,q2⟩ | ⟨q1,q2,q3⟩
  ·rw[re'.τ q c q1]at hv
   obtain⟨n,xs,o1,o2⟩:=H1.tok c v e sz q2 hv
   refine⟨n,xs,o1,fun g hg=>?_⟩
   obtain⟨p1,p2,p3⟩:=o2 g hg
   refine⟨own0_own g p1,p2,fun j o p hj hok hp1=>?_,⟨fun _=>p1,fun _=>by rw[q1];rfl⟩⟩
   rcases objP j o hj with⟨r1,r2,r3⟩ | ⟨c',oc,r1,r2,r4⟩
   ·rw[ι_old j r1]at hp1
    exact fun e=>Ov j o p g r2 hok r3 hp1 e p1
   ·rw[re'.ι j c' r1]at hp1;exact p3 c' oc p r2 (r4.ok hok) hp1
  ·rw[τ_old q q1]at hv
   obtain⟨n,xs,o1,o2⟩:=H.tok q v e sz q2 hv
   have ng:∀ g,v.ownBlock=some g→¬ own0 g:=fun g hg=>toks q _ g q2 q3 hv hg
   refine⟨n,xs,jr o1 fun g hg=>keep g (o1.lt g hg).2 (ng g hg),fun g hg=>?_⟩
   obtain⟨p1,p2,p3⟩:=o2 g hg
   refine⟨p1,fun k hk=>by rw[show γ'.μ g k=γ1.μ g k from rfl,mu1 g k (o1.lt g hg).2 (ng g hg)];exact p2 k hk,fun j o p hj hok hp1=>?_,⟨fun h=>by (rw[q1]at h;cases h),fun h=>absurd h (ng g hg)⟩⟩
   rcases objP j o hj with⟨r1,r2,_⟩ | ⟨c',oc,r1,r2,r4⟩
   ·rw[ι_old j r1]at hp1;exact p3 j o p r2 hok hp1
   ·rw[re'.ι j c' r1]at hp1
    obtain⟨p',g1,_,g4⟩:=H1.obj c' oc r2 (r4.ok hok)
    rw[hp1]at g1;injection g1 with g1;subst g1
    exact fun e=>ng g hg (g4 g e).1
 refine⟨v,γ',rfl,⟨le,⟨H1.fz,objN,fun i j oi oj p q hi hj ok1 ok2 hne hpi hpj=>?_,fun q v e sz hq hv=>?_,fun s q v u hs hq hne hv hu=>?_⟩,?_,RepA.le re' hr R1,fun j hj=>⟨?_,?_⟩,fun b o hb hn=>mu1 b o hb fun h=>hn (own0_own b h)⟩⟩
 ·have key:∀ b,p.block=some b→q.block=some b→False:=fun b hb hb'=>by
   rcases objP i oi hi with⟨q1,q2,q3⟩ | ⟨c,oc,q1,q2,q4⟩<;>rcases objP j oj hj with⟨r1,r2,r3⟩ | ⟨c',oc',r1,r2,r4⟩
   ·rw[ι_old i q1]at hpi
    rw[ι_old j r1]at hpj
    rcases H.inj i j oi oj p q q2 r2 ok1 ok2 hne hpi hpj with h | h
    ·rw[hb]at h;cases h
    ·exact h (by rw[hb,hb'])
   ·rw[ι_old i q1]at hpi
    rw[re'.ι j c' r1]at hpj
    obtain⟨p',g1,_,g4⟩:=H1.obj c' oc' r2 (r4.ok ok2)
    rw[hpj]at g1;injection g1 with g1;subst g1
    exact Ov i oi p b q2 ok1 q3 hpi hb (g4 b hb').1
   ·rw[re'.ι i c q1]at hpi
    rw[ι_old j r1]at hpj
    obtain⟨p',g1,_,g4⟩:=H1.obj c oc q2 (q4.ok ok1)
    rw[hpi]at g1;injection g1 with g1;subst g1
    exact Ov j oj q b r2 ok2 r3 hpj hb' (g4 b hb).1
   ·rw[re'.ι i c q1]at hpi
    rw[re'.ι j c' r1]at hpj
    rcases H1.inj c c' oc oc' p q q2 r2 (q4.ok ok1) (r4.ok ok2) (fun e=>hne (Kh b2 q1 (by rw[e];exact r1))) hpi hpj with h | h
    ·rw[hb]at h;cases h
    ·exact h (by rw[hb,hb'])
  cases hb:p.block with
  | none=>exact .inl rfl
  | some b=>exact .inr fun e=>key b hb e.symm
 ·obtain⟨n,xs,o1,o2⟩:=tokN q v e sz hq hv
  exact⟨n,xs,o1,fun g hg=>⟨(o2 g hg).1,(o2 g hg).2.1,(o2 g hg).2.2.1⟩⟩
 ·obtain⟨n,xs,o1,o2⟩:=tokN s v.1 v.2.1 v.2.2 hs hv
  obtain⟨n',xs',o1',o2'⟩:=tokN q u.1 u.2.1 u.2.2 hq hu
  cases hb:v.1.ownBlock with
  | none=>exact .inl rfl
  | some g =>
   refine .inr fun e=>?_
   have k1:=(o2 g hb).2.2.2
   have k2:=(o2' g e.symm).2.2.2
   rcases liveP s hs with⟨c,q1,q2⟩ | ⟨q1,q2,q3⟩<;>rcases liveP q hq with⟨c',r1,r2⟩ | ⟨r1,r2,r3⟩
   ·rw[re'.τ s c q1]at hv
    rw[re'.τ q c' r1]at hu
    rcases H1.tinj c c' v u q2 r2 (fun e'=>hne (Kh b4 q1 (by rw[e'];exact r1))) hv hu with h | h
    ·rw[hb]at h;cases h
    ·rw[hb]at h;exact h e
   ·have:=k2.2 (k1.1 (by rw[q1];rfl));rw[r1]at this;cases this
   ·have:=k1.2 (k2.1 (by rw[r1];rfl));rw[q1]at this;cases this
   ·rw[τ_old s q1]at hv
    rw[τ_old q r1]at hu
    rcases H.tinj s q v u q2 r2 hne hv hu with h | h
    ·rw[hb]at h;cases h
    ·rw[hb]at h;exact h e
 ·exact⟨B1.os,B1.tape,B1.output,B1.size,fun k hk hn=>B1.block k hk fun h=>hn (own0_own k h)⟩
 ·cases hl:Bv rs' j with
  | none=>exact ι_old j hl
  | some c =>
   rcases rs'_ok j c hl with⟨q0,q2,_⟩ | ⟨q1,q2⟩
   ·omega
   ·obtain⟨n1',n2'⟩:=(show c < 16∧True from⟨a2 _ (Cy q2),trivial⟩)
    rw[re'.ι j c hl]
    cases hi:γ.ι j with
    | some b=>exact pins c b n1' (by rw[re.ι c j q2];exact hi)
    | none =>
     -- an object that is given has a block
     have hb:=b11 _ (Cy q2)
     simp only at hb
     cases ho0:Ae hp0 c with
     | none=>rw[ho0]at hb;cases hb
     | some o0 =>
      rw[ho0]at hb
      obtain⟨c2,oc,e1,e2,e3⟩:=obj0 c o0 ho0
      rw[q2]at e1
      injection e1 with e1
      subst e1
      obtain⟨p,g1,_⟩:=H.obj j oc e2 (e3.ok hb)
      rw[hi]at g1;cases g1
 ·cases hl:Bv ts' j with
  | none=>exact τ_old j hl
  | some c=>have:=ts'_ok j c hl;omega
def O7:Nat→List AV→List (Nat×AV)
 | _,[]=>[]
 | i,d :: l=>(i,d) :: O7 (i+1) l
theorem U6:∀ (ds:List AV) (i t:Nat),Cg (O7 i ds) t=if i≤t then(match ds[t - i]? with | some d=>d | none=>.any)else .any
 | [],i,t=>by simp[O7,Cg]
 | d :: l,i,t=>by
  simp only[O7,Cg]
  by_cases h:i=t
  ·subst h;simp
  ·rw[if_neg h,U6 l (i+1) t]
   by_cases h2:i≤t
   ·rw[if_pos (by omega),if_pos h2]
    have:t - i=(t - (i+1))+1:=by omega
    rw[this,List.getElem?_cons_succ]
   ·rw[if_neg (by omega),if_neg h2]
def oneV (us:List Value):Value:=if h:us.toArray.size=1 then us.toArray[0]else .tuple us.toArray
def lw (hp:List (Nat×Ob)) (live:List Nat) (nx:Nat) (l:List AV) (t:OF):Prop:=∀ (own:Nat→Prop) (γ:G) (w:World),Hp own (Ae hp) (·∈live) γ w→Fq nx (Ae hp) (·∈live) γ →
  ∃ γ':G,LeM γ.μ γ'.μ∧(∀ c k,¬ own c→γ'.μ c k=γ.μ c k)∧(∀ i b,i < 16→γ.ι i=some b→γ'.ι i=some b)∧Hp own (Ae t.hp) (·∈t.live) γ' w∧∀ us:List Value,RepAL γ l us→RepA γ' t.r (oneV us)
def Pt (P:Program) (rs:List ResultVar) (st:St) (t:OF):Prop:=∃ l,Kz P st rs=some l∧lw st.hp st.live st.nx l t
def aq:List AV→AV
 | [x]=>x
 | l=>.tup l
theorem bh (rs ts:List (Nat×Nat)) (nx':Nat) {l:List AV} {hp:List (Nat×Ob)} {live:List Nat} {nx:Nat} {t:OF} (hn:H4 rs ts t.hp live t.live nx'=true) (hpi:Mj rs nx'=true) (hv:Da rs ts (aq l) t.r)
  (ho:E8 (fun p:Nat×Ob=>∃ b o,Bv rs p.1=some b∧Ae hp b=some o∧Oble rs ts o p.2) t.hp):lw hp live nx l t:=fun own γ w H F=>by
 obtain⟨h1,h2⟩:=af rs ts (Ns γ) hn ho H (Sw hpi)
 refine⟨Jf rs ts (Ns γ) γ,LeM.refl _,fun _ _ _=>rfl,fun i b hi e=>Vw hpi hi e,h1,fun us hus=>?_⟩
 refine RepA.le (Sf rs ts _ γ) hv ?_
 unfold oneV
 match l,us,hus with
 | [v],us,h2 =>
  simp only[RepAL]at h2
  obtain⟨u,t,rfl,h5,rfl⟩:=h2
  simpa [aq] using h5
 | [],us,h2 =>
  simp only[RepAL]at h2
  subst h2
  simp only[aq,RepA]
  exact⟨[],by simp,by simp only[RepAL]⟩
 | v :: v2 :: l,us,h2 =>
  have hlen:=h2.length
  rw[dif_neg (by simp at hlen ⊢;omega)]
  simp only[aq,RepA]
  exact⟨us,rfl,h2⟩
theorem Jb (rs ts:List (Nat×Nat)) (nx':Nat) {l:List AV} {rv:List ResultVar} {st:St} {t:OF} (hl:Kz P st rv=some l) (hn:H4 rs ts t.hp st.live t.live nx'=true) (hp:Mj rs nx'=true) (hv:Da rs ts (aq l) t.r)
  (ho:E8 (fun p:Nat×Ob=>∃ b o,Bv rs p.1=some b∧Ae st.hp b=some o∧Oble rs ts o p.2) t.hp):Pt P rv st t:=⟨l,hl,bh rs ts nx' hn hp hv ho⟩
theorem yy (gs:List Nat) {hp:List (Nat×Ob)} {live:List Nat} {nx:Nat} {l:List AV} {r:AV} {hp1:List (Nat×Ob)} {live1:List Nat} (h:lw hp live nx l ⟨r,hp1,live1⟩):lw hp live nx l ⟨r,(gs.map fun i=>(i,.gone))++hp1,live1⟩:=fun own γ w H F=>by
 obtain⟨γ',k1,k0,k2,k3,k4⟩:=h own γ w H F
 have key:∀ (gs:List Nat) j o,Ae ((gs.map fun i=>(i,Ob.gone))++hp1) j=some o→o.ok=true→Ae hp1 j=some o:=fun gs=>by
  induction gs with
  | nil=>intro j o h _;exact h
  | cons g gs ih =>
   intro j o h ho
   simp only[List.map_cons,List.cons_append,Ae]at h
   split at h
   ·injection h with h;subst h;cases ho
   ·exact ih j o h ho
 refine⟨γ',k1,k0,k2,⟨k3.fz,fun j o hj ho=>k3.obj j o (key gs j o hj ho) ho,fun i j oi oj p q hi hj c1 c2=>k3.inj i j oi oj p q (key gs i oi hi c1) (key gs j oj hj c2) c1 c2,fun t v e sz hl hq=>?_,k3.tinj⟩,k4⟩
 obtain⟨n,xs,q1,q2⟩:=k3.tok t v e sz hl hq
 exact⟨n,xs,q1,fun g hg=>⟨(q2 g hg).1,(q2 g hg).2.1,fun j o p hj ho=>(q2 g hg).2.2 j o p (key gs j o hj ho) ho⟩⟩
theorem Hr (gs:List Nat) {P:Program} {rs:List ResultVar} {st:St} {r:AV} {hp1:List (Nat×Ob)} {live1:List Nat} (h:Pt P rs st ⟨r,hp1,live1⟩):Pt P rs st ⟨r,(gs.map fun i=>(i,.gone))++hp1,live1⟩ :=
 let ⟨l,h1,h2⟩:=h;⟨l,h1,yy gs h2⟩
theorem lc (fz:List S4) (hp1:List (Nat×Ob)) {l l1:List AV} {rv:List ResultVar} {st:St} {t:OF} (hl:Kz P st rv=some l) (hn:decide ((Eb fz).Nodup)=true) (hk:(hp1.all fun p=>!(Eb fz).contains p.1)=true)
  (hz:E8 (fun q:S4=>Qw (Ae st.hp q.1) q.2.1 q.2.2.1 q.2.2.2) fz) (ho:E8 (FzO fz st.hp) hp1) (hf:Fz fz l l1) (h:lw hp1 st.live st.nx l1 t):Pt P rv st t:=⟨l,hl,fun own γ w H F=>by
 obtain⟨γ',i1,t1,l1',k1,H1,rep,old⟩:=qj hn hk hz ho H
 obtain⟨γ2,m1,m2,m3,m4,m5⟩:=h own γ' w H1 ⟨fun id hid=>by
  obtain⟨h1,h2,h3,h4⟩:=F.ok id hid
  refine⟨by rw[i1];exact h1,by rw[t1];exact h2,?_,h4⟩
  cases e:Ae hp1 id with
  | none=>rfl
  | some o=>obtain⟨o',h⟩:=old id o e;rw[h]at h3;cases h3⟩
 exact⟨γ2,fun b o v e=>m1 b o v (l1' b o v e),fun c k hc=>(m2 c k hc).trans (k1 c k hc),fun i b hi e=>m3 i b hi (by rw[i1];exact e),m4,fun us hus=>m5 us (rep hf hus)⟩⟩
def finO (P:Program) (fn:Func) (t:OF):Ev:=fun ex s=>isR ex=true∧Pt P fn.results.toList s t
abbrev JO (P:Program) (fn:Func) (A:List AV) (hp:List (Nat×Ob)) (live:List Nat) {R:Type} (en:R→OF):=JD P fn.ntmps (body fn) ⟨O7 0 A,hp,live,16⟩ fun x=>finO P fn (en x)
theorem C0 {R:Type} {f:Nat} {fn:Func} {A:List AV} {hp:List (Nat×Ob)} {live:List Nat} {en:R→OF} (d:JO P fn A hp live en) (hf:P.funcs[f]?=some fn) {x:R} (hx:d.m=some x) (hb:fn.body=some (body fn):=by kernel_rfl) (hn:fn.name ≠ "runtime.NumGoroutine" := by decide)
  (hlen:Nat.ble A.length fn.ntmps=true:=by rfl):Cq P f A hp live (en x):=by
 have hlen:=Nat.le_of_ble_eq_true hlen
 refine⟨⟨fn,hf,by rw[hb];rfl,hn⟩,fun own γ w vs H big F hrep=>?_⟩
 refine calls_of_wp hf hb ?_
 let V:Gm:=⟨own,⟨γ,[]⟩,w⟩
 have hvl:=hrep.length
 have rs:RS V fn.ntmps ⟨O7 0 A,hp,live,16⟩ γ { tmps:=vs.toArray++Array.replicate (fn.ntmps - vs.toArray.size) undef,defers:=[] } w:=by
  refine⟨⟨rfl,by simp;omega,fun t=>?_,(fun t j want h=>by cases h),H,Base.refl _ _,big,Keep.refl _ _ _ _⟩,F⟩
  show RepA γ (Cg (O7 0 A) t) _
  rw[U6,if_pos (Nat.zero_le _),Nat.sub_zero]
  cases hd:A[t]? with
  | none=>simp only[RepA]
  | some d =>
   obtain⟨v,h1,h2⟩:=hrep.get t d hd
   have hlt:t < vs.length:=(List.getElem?_eq_some_iff.1 h1).1
   have:(vs.toArray++Array.replicate (fn.ntmps - vs.toArray.size) undef).getD t undef=v:=by
    rw[Array.getD_eq_getD_getElem?,Array.getElem?_append_left (by simpa using hlt)]
    simp[h1]
   rw[this]
   exact h2
 refine wp_mono (d.j V x hx (fun ex s=>isR ex=true∧Pt P fn.results.toList s (en x)) (fun ex s hs=>hs) γ _ w rs) ?_
 rintro ex a' w' ⟨st',γ',h1,hex,l,hl,hk⟩
 obtain⟨γ2,k1,k0,k2,k3,k4⟩:=hk own γ' w' h1.1.hp h1.2
 obtain⟨us,u1,u2⟩:=Ud h1 hl
 have h3:(fn.results.mapM (Oj a'.tmps)).run P w'=.ok us.toArray w':=by
  rw[Array.mapM_eq_mapM_toList,Sem.run_map,u1]
  rfl
 have h4:(results fn a'.tmps).run P w'=.ok (if h:us.toArray.size=1 then us.toArray[0]else .tuple us.toArray) w':=by
  have e:results fn a'.tmps=(do let vs ← fn.results.mapM (Oj a'.tmps);pure (if h:vs.size=1 then vs[0]else .tuple vs)):=by
   unfold results
   congr 1
  rw[e,Sem.run_bind,h3]
  rfl
 have fin_:bodyPost P fn (fun e w'=>∃ v γ',e=.returned v∧LeM γ.μ γ'.μ∧(∀ i b,i < 16→γ.ι i=some b→γ'.ι i=some b)∧Hp own (Ae (en x).hp) (·∈(en x).live) γ' w'∧Base own w w'∧RepA γ' (en x).r v∧∀ b o,b < w.heap.size→¬ own b→γ'.μ b o=γ.μ b o) .ret a' w':=by
  refine⟨h1.1.defers,_,h4,_,γ2,rfl,fun b o v e=>k1 b o v (h1.1.mu.le b o v e),fun i b hi e=>k2 i b hi (h1.1.mu.pin i b hi e),k3,h1.1.base,k4 us u2,fun b o hb hn=>(k0 b o hn).trans (h1.1.mu.mu b o hb hn)⟩
 cases ex<;>first | exact fin_ | cases hex
abbrev Aj (l:List Nat):List (Nat×Nat):=l.map fun i=>(i,i)
theorem wk (rs ts:List (Nat×Nat)) {st st':St} (hn:Q7 rs ts st st'=true:=by refine id ?_;kernel_rfl) (hf:E8 (fun p:Nat×AV=>Da rs ts (Cg st.fr p.1) p.2) st'.fr:=by repeat' (first | exact dr | exact rfl | exact trivial | exact Af | refine⟨_,_,rfl,rfl,?_⟩ | refine⟨?_,?_⟩))
  (ho:E8 (fun p:Nat×Ob=>∃ b o,Bv rs p.1=some b∧Ae st.hp b=some o∧Oble rs ts o p.2) st'.hp:=by repeat' (first | exact dr | exact rfl | exact trivial | exact Af | refine⟨_,_,rfl,rfl,?_⟩ | refine⟨?_,?_⟩)):Weak st st':=H9 rs ts hn hf ho
theorem wh (rs ts:List (Nat×Nat)) {st st':St} (hf:E8 (fun p:Nat×AV=>Da rs ts (Cg st.fr p.1) p.2) st'.fr) (hn:Q7 rs ts st st'=true:=by refine id ?_;kernel_rfl)
  (ho:E8 (fun p:Nat×Ob=>∃ b o,Bv rs p.1=some b∧Ae st.hp b=some o∧Oble rs ts o p.2) st'.hp:=by repeat' (first | exact dr | exact rfl | exact trivial | exact Af | refine⟨_,_,rfl,rfl,?_⟩ | refine⟨?_,?_⟩)):Weak st st':=H9 rs ts hn hf ho
theorem ws (rs ts:List (Nat×Nat)) {st st':St} (ho:E8 (fun p:Nat×Ob=>∃ b o,Bv rs p.1=some b∧Ae st.hp b=some o∧Oble rs ts o p.2) st'.hp) (hn:Q7 rs ts st st'=true:=by refine id ?_;kernel_rfl)
  (hf:E8 (fun p:Nat×AV=>Da rs ts (Cg st.fr p.1) p.2) st'.fr:=by repeat' (first | exact dr | exact rfl | exact trivial | exact Af | refine⟨_,_,rfl,rfl,?_⟩ | refine⟨?_,?_⟩)):Weak st st':=H9 rs ts hn hf ho
theorem ok (rs ts rs' ts':List (Nat×Nat)) {f:FuncId} {A:List AV} {hp0:List (Nat×Ob)} {live0:List Nat} {t0:OF} (h:Cq P f A hp0 live0 t0) {xs:List AV} {hl:List (Nat×Option Ob)} {id:Nat} {t:OT}
  (n1:H4 rs ts hp0 t.lv live0 16=true:=by refine id ?_;kernel_rfl) (hx:L8 rs ts xs A:=by repeat' (first | exact dr | exact rfl | exact trivial | exact Af | refine⟨_,_,rfl,rfl,?_⟩ | refine⟨?_,?_⟩)) (ho:E8 (fun p:Nat×Ob=>∃ b o,Bv rs p.1=some b∧Uw hl b=some o∧Oble rs ts o p.2) hp0:=by repeat' (first | exact dr | exact rfl | exact trivial | exact Af | refine⟨_,_,rfl,rfl,?_⟩ | refine⟨?_,?_⟩))
  (n2:W8 rs ts rs' ts' hp0 t0.live id t=true:=by refine id ?_;kernel_rfl) (hr:Da rs' ts' t0.r t.r:=by repeat' (first | exact dr | exact rfl | exact trivial | exact Af | refine⟨_,_,rfl,rfl,?_⟩ | refine⟨?_,?_⟩))
  (ho':E8 (fun p:Nat×Ob=>∃ b o,Bv rs' p.1=some b∧Ae t0.hp b=some o∧Oble rs' ts' o p.2) t.ups:=by repeat' (first | exact dr | exact rfl | exact trivial | exact Af | refine⟨_,_,rfl,rfl,?_⟩ | refine⟨?_,?_⟩)):Bp P f xs hl id t:=Dj h rs ts rs' ts' n1 hx ho n2 hr ho'
theorem rk (rs ts:List (Nat×Nat)) (nx':Nat) {l:List AV} {rv:List ResultVar} {st:St} {t:OF} (hl:Kz P st rv=some l:=by rfl) (hn:H4 rs ts t.hp st.live t.live nx'=true:=by refine id ?_;kernel_rfl) (hp:Mj rs nx'=true:=by refine id ?_;kernel_rfl) (hv:Da rs ts (aq l) t.r:=by repeat' (first | exact dr | exact rfl | exact trivial | exact Af | refine⟨_,_,rfl,rfl,?_⟩ | refine⟨?_,?_⟩))
  (ho:E8 (fun p:Nat×Ob=>∃ b o,Bv rs p.1=some b∧Ae st.hp b=some o∧Oble rs ts o p.2) t.hp:=by repeat' (first | exact dr | exact rfl | exact trivial | exact Af | refine⟨_,_,rfl,rfl,?_⟩ | refine⟨?_,?_⟩)):Pt P rv st t:=Jb rs ts nx' hl hn hp hv ho
end Go.Av
set_option maxRecDepth 100000
namespace Go.Av
open Go.RowKit Go.Base Go.Proofs Go.ChangeShapes Go.WideShapes
structure B7 where
 Cond:Int
 Neg:Bool
instance:Inhabited B7:=⟨⟨0,false⟩⟩
noncomputable def Ax (x:B7):D:=.agg [(dI x.Cond),(.bool x.Neg)]
structure Ah where
 Name:List UInt8
 Al:Int
 B0:Int
 Aw:Bool
 Az:List (List UInt8)
 Exit:List (List UInt8)
instance:Inhabited Ah:=⟨⟨[],0,0,false,[],[]⟩⟩
noncomputable def An (x:Ah):D:=.agg [(.str x.Name),(dI x.Al),(dI x.B0),(.bool x.Aw),(A5 1 D.str x.Az),(A5 1 D.str x.Exit)]
structure Ap where
 From:Int
 To:Int
 When:List B7
 B9:List (List UInt8)
instance:Inhabited Ap:=⟨⟨0,0,[],[]⟩⟩
noncomputable def B8 (x:Ap):D:=.agg [(dI x.From),(dI x.To),(A5 2 Ax x.When),(A5 1 D.str x.B9)]
structure A7 where
 Name:List UInt8
 Ag:List (List UInt8)
 Ai:List (List B7)
 A4:List Ah
 Start:Int
 A0:List Ap
instance:Inhabited A7:=⟨⟨[],[],[],[],0,[]⟩⟩
noncomputable def B6 (x:A7):D:=.agg [(.str x.Name),(A5 1 D.str x.Ag),(A5 1 (A5 2 Ax) x.Ai),(A5 6 An x.A4),(dI x.Start),(A5 4 B8 x.A0)]
structure Au where
 Line:Int
 C9:Int
 Code:Int
instance:Inhabited Au:=⟨⟨0,0,0⟩⟩
noncomputable def Dr (x:Au):D:=.agg [(dI x.Line),(dI x.C9),(dI x.Code)]
structure By where
 Text:List UInt8
 C9:Int
instance:Inhabited By:=⟨⟨[],0⟩⟩
noncomputable def Bg (x:By):D:=.agg [(.str x.Text),(dI x.C9)]
structure Cb where
 Bn:Int
 A8:List By
instance:Inhabited Cb:=⟨⟨0,[]⟩⟩
noncomputable def Ee (x:Cb):D:=.agg [(dI x.Bn),(A5 2 Bg x.A8)]
structure A9 where
 Leaf:Int
 A6:List Int
instance:Inhabited A9:=⟨⟨0,[]⟩⟩
noncomputable def Am (x:A9):D:=.agg [(dI x.Leaf),(A5 1 dI x.A6)]
structure Aq where
 Kind:Int
 State:Int
 AA9:Int
 First:Int
 Second:Int
instance:Inhabited Aq:=⟨⟨0,0,0,0,0⟩⟩
noncomputable def C5 (x:Aq):D:=.agg [(.int .u8 x.Kind),(dI x.State),(.int .u16 x.AA9),(dI x.First),(dI x.Second)]
noncomputable def Nx (x:Ap):List AV:=[(aI x.From),(aI x.To),(.d (A5 2 Ax x.When)),(.d (A5 1 D.str x.B9))]
noncomputable def Ac (x:A7):List AV:=[(aS x.Name),(.d (A5 1 D.str x.Ag)),(.d (A5 1 (A5 2 Ax) x.Ai)),(.d (A5 6 An x.A4)),(aI x.Start),(.d (A5 4 B8 x.A0))]
noncomputable def E7 (x:Au):List AV:=[(aI x.Line),(aI x.C9),(aI x.Code)]
noncomputable def aj (x:Cb):List AV:=[(aI x.Bn),(.d (A5 2 Bg x.A8))]
noncomputable def Gc (x:A9):List AV:=[(aI x.Leaf),(.d (A5 1 dI x.A6))]
def Ul (x:B7):Prop:=(Lit.int .i64 x.Cond).wf=true∧True
theorem cells116:Tryz.prog.cellsOf 116=2:=by kernel_rfl
set_option maxRecDepth 100000 in
theorem op116 {W:World} {spare:Nat→Bool}:N8 Tryz.prog W spare 116 (fun x=>[(dI x.Cond),(.bool x.Neg)]) Ul:=fun H enc fuel cs x h=>by
 obtain⟨xs,n,_,_,hl,hx,hf⟩:=DataW.trod_struct Tryz.underlying116 h
 rw[cells116]at hl
 have hx:xs.length=2:=hx
 match cs,hl with
 | [c0,c1],_ =>
  have g0:=hf 0 _ rfl
  rw[List.getElem?_eq_getElem (by omega)]at g0
  obtain⟨z0,g0⟩:∃ z,DataW.trod enc Tryz.prog W 0 spare true n 3 [c0]=some z:=by
   have e:Tryz.prog.cellsOf 3=1:=by kernel_rfl
   exact⟨_,by simpa [e] using g0⟩
  obtain⟨a0,r0,k0⟩:=(Ka Tryz.underlying3) H enc n _ _ g0
  have g1:=hf 1 _ rfl
  rw[List.getElem?_eq_getElem (by omega)]at g1
  obtain⟨z1,g1⟩:∃ z,DataW.trod enc Tryz.prog W 0 spare true n 4 [c1]=some z:=by
   have e:Tryz.prog.cellsOf 4=1:=by kernel_rfl
   exact⟨_,by simpa [e] using g1⟩
  obtain⟨a1,r1,k1⟩:=(Xx Tryz.underlying4) H enc n _ _ g1
  exact⟨⟨a0,a1⟩,E6 r0 (r1),⟨k0,k1⟩⟩
def va (x:Ah):Prop:=x.Name.length≤maxLen∧(Lit.int .i64 x.Al).wf=true∧(Lit.int .i64 x.B0).wf=true∧True∧(x.Az.length≤maxLen∧∀ b∈x.Az,b.length≤maxLen)∧(x.Exit.length≤maxLen∧∀ b∈x.Exit,b.length≤maxLen)
theorem cells119:Tryz.prog.cellsOf 119=6:=by kernel_rfl
set_option maxRecDepth 100000 in
theorem op119 {W:World} {spare:Nat→Bool}:N8 Tryz.prog W spare 119 (fun x=>[(.str x.Name),(dI x.Al),(dI x.B0),(.bool x.Aw),(A5 1 D.str x.Az),(A5 1 D.str x.Exit)]) va:=fun H enc fuel cs x h=>by
 obtain⟨xs,n,_,_,hl,hx,hf⟩:=DataW.trod_struct Tryz.underlying119 h
 rw[cells119]at hl
 have hx:xs.length=6:=hx
 match cs,hl with
 | [c0,c1,c2,c3,c4,c5],_ =>
  have g0:=hf 0 _ rfl
  rw[List.getElem?_eq_getElem (by omega)]at g0
  obtain⟨z0,g0⟩:∃ z,DataW.trod enc Tryz.prog W 0 spare true n 9 [c0]=some z:=by
   have e:Tryz.prog.cellsOf 9=1:=by kernel_rfl
   exact⟨_,by simpa [e] using g0⟩
  obtain⟨a0,r0,k0⟩:=(Gi Tryz.underlying9) H enc n _ _ g0
  have g1:=hf 1 _ rfl
  rw[List.getElem?_eq_getElem (by omega)]at g1
  obtain⟨z1,g1⟩:∃ z,DataW.trod enc Tryz.prog W 0 spare true n 3 [c1]=some z:=by
   have e:Tryz.prog.cellsOf 3=1:=by kernel_rfl
   exact⟨_,by simpa [e] using g1⟩
  obtain⟨a1,r1,k1⟩:=(Ka Tryz.underlying3) H enc n _ _ g1
  have g2:=hf 2 _ rfl
  rw[List.getElem?_eq_getElem (by omega)]at g2
  obtain⟨z2,g2⟩:∃ z,DataW.trod enc Tryz.prog W 0 spare true n 3 [c2]=some z:=by
   have e:Tryz.prog.cellsOf 3=1:=by kernel_rfl
   exact⟨_,by simpa [e] using g2⟩
  obtain⟨a2,r2,k2⟩:=(Ka Tryz.underlying3) H enc n _ _ g2
  have g3:=hf 3 _ rfl
  rw[List.getElem?_eq_getElem (by omega)]at g3
  obtain⟨z3,g3⟩:∃ z,DataW.trod enc Tryz.prog W 0 spare true n 4 [c3]=some z:=by
   have e:Tryz.prog.cellsOf 4=1:=by kernel_rfl
   exact⟨_,by simpa [e] using g3⟩
  obtain⟨a3,r3,k3⟩:=(Xx Tryz.underlying4) H enc n _ _ g3
  have g4:=hf 4 _ rfl
  rw[List.getElem?_eq_getElem (by omega)]at g4
  obtain⟨z4,g4⟩:∃ z,DataW.trod enc Tryz.prog W 0 spare true n 22 [c4]=some z:=by
   have e:Tryz.prog.cellsOf 22=1:=by kernel_rfl
   exact⟨_,by simpa [e] using g4⟩
  obtain⟨a4,r4,k4⟩:=(Ey (sz:=1) (e:=fun a=>[(.str a)]) (en:=D.str) (ok:=fun a=>a.length≤maxLen) Tryz.underlying22 (by kernel_rfl) (by decide) (Gi Tryz.underlying9) (fun _=>rfl) (fun _=>rfl) (fun _=>.inr ⟨rfl,rfl⟩)) H enc n _ _ g4
  have g5:=hf 5 _ rfl
  rw[List.getElem?_eq_getElem (by omega)]at g5
  obtain⟨z5,g5⟩:∃ z,DataW.trod enc Tryz.prog W 0 spare true n 22 [c5]=some z:=by
   have e:Tryz.prog.cellsOf 22=1:=by kernel_rfl
   exact⟨_,by simpa [e] using g5⟩
  obtain⟨a5,r5,k5⟩:=(Ey (sz:=1) (e:=fun a=>[(.str a)]) (en:=D.str) (ok:=fun a=>a.length≤maxLen) Tryz.underlying22 (by kernel_rfl) (by decide) (Gi Tryz.underlying9) (fun _=>rfl) (fun _=>rfl) (fun _=>.inr ⟨rfl,rfl⟩)) H enc n _ _ g5
  exact⟨⟨a0,a1,a2,a3,a4,a5⟩,E6 r0 (E6 r1 (E6 r2 (E6 r3 (E6 r4 (r5))))),⟨k0,k1,k2,k3,k4,k5⟩⟩
def ok85 (x:Ap):Prop:=(Lit.int .i64 x.From).wf=true∧(Lit.int .i64 x.To).wf=true∧(x.When.length≤maxLen∧∀ b∈x.When,Ul b)∧(x.B9.length≤maxLen∧∀ b∈x.B9,b.length≤maxLen)
theorem cells85:Tryz.prog.cellsOf 85=4:=by kernel_rfl
set_option maxRecDepth 100000 in
theorem op85 {W:World} {spare:Nat→Bool}:N8 Tryz.prog W spare 85 (fun x=>[(dI x.From),(dI x.To),(A5 2 Ax x.When),(A5 1 D.str x.B9)]) ok85:=fun H enc fuel cs x h=>by
 obtain⟨xs,n,_,_,hl,hx,hf⟩:=DataW.trod_struct Tryz.underlying85 h
 rw[cells85]at hl
 have hx:xs.length=4:=hx
 match cs,hl with
 | [c0,c1,c2,c3],_ =>
  have g0:=hf 0 _ rfl
  rw[List.getElem?_eq_getElem (by omega)]at g0
  obtain⟨z0,g0⟩:∃ z,DataW.trod enc Tryz.prog W 0 spare true n 3 [c0]=some z:=by
   have e:Tryz.prog.cellsOf 3=1:=by kernel_rfl
   exact⟨_,by simpa [e] using g0⟩
  obtain⟨a0,r0,k0⟩:=(Ka Tryz.underlying3) H enc n _ _ g0
  have g1:=hf 1 _ rfl
  rw[List.getElem?_eq_getElem (by omega)]at g1
  obtain⟨z1,g1⟩:∃ z,DataW.trod enc Tryz.prog W 0 spare true n 3 [c1]=some z:=by
   have e:Tryz.prog.cellsOf 3=1:=by kernel_rfl
   exact⟨_,by simpa [e] using g1⟩
  obtain⟨a1,r1,k1⟩:=(Ka Tryz.underlying3) H enc n _ _ g1
  have g2:=hf 2 _ rfl
  rw[List.getElem?_eq_getElem (by omega)]at g2
  obtain⟨z2,g2⟩:∃ z,DataW.trod enc Tryz.prog W 0 spare true n 83 [c2]=some z:=by
   have e:Tryz.prog.cellsOf 83=1:=by kernel_rfl
   exact⟨_,by simpa [e] using g2⟩
  obtain⟨a2,r2,k2⟩:=(Ey (sz:=2) (e:=fun a=>[(dI a.Cond),(.bool a.Neg)]) (en:=Ax) (ok:=fun a=>Ul a) Tryz.underlying83 (by kernel_rfl) (by decide) op116 (fun _=>rfl) (fun _=>rfl) (fun _=>.inl rfl)) H enc n _ _ g2
  have g3:=hf 3 _ rfl
  rw[List.getElem?_eq_getElem (by omega)]at g3
  obtain⟨z3,g3⟩:∃ z,DataW.trod enc Tryz.prog W 0 spare true n 22 [c3]=some z:=by
   have e:Tryz.prog.cellsOf 22=1:=by kernel_rfl
   exact⟨_,by simpa [e] using g3⟩
  obtain⟨a3,r3,k3⟩:=(Ey (sz:=1) (e:=fun a=>[(.str a)]) (en:=D.str) (ok:=fun a=>a.length≤maxLen) Tryz.underlying22 (by kernel_rfl) (by decide) (Gi Tryz.underlying9) (fun _=>rfl) (fun _=>rfl) (fun _=>.inr ⟨rfl,rfl⟩)) H enc n _ _ g3
  exact⟨⟨a0,a1,a2,a3⟩,E6 r0 (E6 r1 (E6 r2 (r3))),⟨k0,k1,k2,k3⟩⟩
def ok27 (x:A7):Prop:=x.Name.length≤maxLen∧(x.Ag.length≤maxLen∧∀ b∈x.Ag,b.length≤maxLen)∧(x.Ai.length≤maxLen∧∀ b∈x.Ai,(b.length≤maxLen∧∀ c∈b,Ul c))∧(x.A4.length≤maxLen∧∀ b∈x.A4,va b)∧(Lit.int .i64 x.Start).wf=true∧(x.A0.length≤maxLen∧∀ b∈x.A0,ok85 b)
theorem cells27:Tryz.prog.cellsOf 27=6:=by kernel_rfl
set_option maxRecDepth 100000 in
theorem op27 {W:World} {spare:Nat→Bool}:N8 Tryz.prog W spare 27 (fun x=>[(.str x.Name),(A5 1 D.str x.Ag),(A5 1 (A5 2 Ax) x.Ai),(A5 6 An x.A4),(dI x.Start),(A5 4 B8 x.A0)]) ok27:=fun H enc fuel cs x h=>by
 obtain⟨xs,n,_,_,hl,hx,hf⟩:=DataW.trod_struct Tryz.underlying27 h
 rw[cells27]at hl
 have hx:xs.length=6:=hx
 match cs,hl with
 | [c0,c1,c2,c3,c4,c5],_ =>
  have g0:=hf 0 _ rfl
  rw[List.getElem?_eq_getElem (by omega)]at g0
  obtain⟨z0,g0⟩:∃ z,DataW.trod enc Tryz.prog W 0 spare true n 9 [c0]=some z:=by
   have e:Tryz.prog.cellsOf 9=1:=by kernel_rfl
   exact⟨_,by simpa [e] using g0⟩
  obtain⟨a0,r0,k0⟩:=(Gi Tryz.underlying9) H enc n _ _ g0
  have g1:=hf 1 _ rfl
  rw[List.getElem?_eq_getElem (by omega)]at g1
  obtain⟨z1,g1⟩:∃ z,DataW.trod enc Tryz.prog W 0 spare true n 22 [c1]=some z:=by
   have e:Tryz.prog.cellsOf 22=1:=by kernel_rfl
   exact⟨_,by simpa [e] using g1⟩
  obtain⟨a1,r1,k1⟩:=(Ey (sz:=1) (e:=fun a=>[(.str a)]) (en:=D.str) (ok:=fun a=>a.length≤maxLen) Tryz.underlying22 (by kernel_rfl) (by decide) (Gi Tryz.underlying9) (fun _=>rfl) (fun _=>rfl) (fun _=>.inr ⟨rfl,rfl⟩)) H enc n _ _ g1
  have g2:=hf 2 _ rfl
  rw[List.getElem?_eq_getElem (by omega)]at g2
  obtain⟨z2,g2⟩:∃ z,DataW.trod enc Tryz.prog W 0 spare true n 23 [c2]=some z:=by
   have e:Tryz.prog.cellsOf 23=1:=by kernel_rfl
   exact⟨_,by simpa [e] using g2⟩
  obtain⟨a2,r2,k2⟩:=(Ey (sz:=1) (e:=fun a=>[(A5 2 Ax a)]) (en:=(A5 2 Ax)) (ok:=fun a=>(a.length≤maxLen∧∀ b∈a,Ul b)) Tryz.underlying23 (by kernel_rfl) (by decide) (Ey (sz:=2) (e:=fun a=>[(dI a.Cond),(.bool a.Neg)]) (en:=Ax) (ok:=fun a=>Ul a) Tryz.underlying83 (by kernel_rfl) (by decide) op116 (fun _=>rfl) (fun _=>rfl) (fun _=>.inl rfl)) (fun _=>rfl) (fun _=>rfl) (fun _=>.inr ⟨rfl,rfl⟩)) H enc n _ _ g2
  have g3:=hf 3 _ rfl
  rw[List.getElem?_eq_getElem (by omega)]at g3
  obtain⟨z3,g3⟩:∃ z,DataW.trod enc Tryz.prog W 0 spare true n 24 [c3]=some z:=by
   have e:Tryz.prog.cellsOf 24=1:=by kernel_rfl
   exact⟨_,by simpa [e] using g3⟩
  obtain⟨a3,r3,k3⟩:=(Ey (sz:=6) (e:=fun a=>[(.str a.Name),(dI a.Al),(dI a.B0),(.bool a.Aw),(A5 1 D.str a.Az),(A5 1 D.str a.Exit)]) (en:=An) (ok:=fun a=>va a) Tryz.underlying24 (by kernel_rfl) (by decide) op119 (fun _=>rfl) (fun _=>rfl) (fun _=>.inl rfl)) H enc n _ _ g3
  have g4:=hf 4 _ rfl
  rw[List.getElem?_eq_getElem (by omega)]at g4
  obtain⟨z4,g4⟩:∃ z,DataW.trod enc Tryz.prog W 0 spare true n 3 [c4]=some z:=by
   have e:Tryz.prog.cellsOf 3=1:=by kernel_rfl
   exact⟨_,by simpa [e] using g4⟩
  obtain⟨a4,r4,k4⟩:=(Ka Tryz.underlying3) H enc n _ _ g4
  have g5:=hf 5 _ rfl
  rw[List.getElem?_eq_getElem (by omega)]at g5
  obtain⟨z5,g5⟩:∃ z,DataW.trod enc Tryz.prog W 0 spare true n 25 [c5]=some z:=by
   have e:Tryz.prog.cellsOf 25=1:=by kernel_rfl
   exact⟨_,by simpa [e] using g5⟩
  obtain⟨a5,r5,k5⟩:=(Ey (sz:=4) (e:=fun a=>[(dI a.From),(dI a.To),(A5 2 Ax a.When),(A5 1 D.str a.B9)]) (en:=B8) (ok:=fun a=>ok85 a) Tryz.underlying25 (by kernel_rfl) (by decide) op85 (fun _=>rfl) (fun _=>rfl) (fun _=>.inl rfl)) H enc n _ _ g5
  exact⟨⟨a0,a1,a2,a3,a4,a5⟩,E6 r0 (E6 r1 (E6 r2 (E6 r3 (E6 r4 (r5))))),⟨k0,k1,k2,k3,k4,k5⟩⟩
end Go.Av
namespace Go.Av
theorem El {x:Int} (h1 : -9223372036854775808≤x) (h2:x≤9223372036854775807):IntKind.wrap .i64 x=x:=IntWalk.i64_in x ⟨h1,h2⟩
theorem Bj {α:Type} [Inhabited α] {l:List α} {i:Nat} (h:i < l.length):l.getD i default∈l:=by
 rw[List.getD_eq_getElem?_getD,List.getElem?_eq_getElem h,Option.getD_some];exact List.getElem_mem h
end Go.Av
namespace Go.Av
open Go.RowKit Go.Base Go.Proofs
noncomputable def m182 (a0 a1:List UInt8):Option Int:=match a1 with
 | [c]=>some (Lib.countByte a0 c)
 | _=>none
set_option maxHeartbeats 1000000 in
set_option maxRecDepth 100000 in
theorem p182 {a0 a1:List UInt8} {r:Int} (h:m182 a0 a1=some r):Aa Tryz.prog 182 [(.str a0),(.str a1)] (.int .i64 r):=by
 refine⟨⟨_,Tryz.func182,by kernel_rfl,by decide⟩,fun μ w vs hz hr=>?_⟩
 unfold m182 at h
 split at h
 ·rename_i c
  simp only[Option.some.injEq]at h
  simp only[RepL,Rep]at hr
  obtain⟨v,t,rfl,rfl,v2,t2,rfl,rfl,rfl⟩:=hr
  subst h
  suffices hs:Calls Tryz.prog 182 #[.string ⟨⟨a0⟩⟩,.string ⟨#[c]⟩] w fun e w'=>e=.returned (.int .i64 (Lib.countByte a0 c))∧w'=w by
   refine hs.mono ?_
   rintro e w' ⟨rfl,rfl⟩
   exact⟨_,μ,rfl,⟨rfl,rfl,rfl,Nat.le_refl _,fun _ _=>rfl⟩,fun _ _ _=>rfl,hz,by simp only[Rep]⟩
  go_enter Tryz.func182,Tryz.ntmps182
  go_wp2
  rw[run_callFunc_extern Tryz.func204 (by kernel_rfl) (by kernel_rfl) (by kernel_rfl) (e:=Extern.BytealgCount.count) (by kernel_rfl),Lib.run_countString]
  simp only[Result.andThen]
  rw[Oper.upon_value]
  go_wp2
  go_ret
  exact⟨rfl,rfl⟩
 ·cases h
noncomputable def m205 (a0 a1:List UInt8):Option Int:=match a1 with
 | [c]=>some (Lib.indexByte a0 c)
 | _=>none
set_option maxHeartbeats 1000000 in
set_option maxRecDepth 100000 in
theorem p205 {a0 a1:List UInt8} {r:Int} (h:m205 a0 a1=some r):Aa Tryz.prog 205 [(.str a0),(.str a1)] (.int .i64 r):=by
 refine⟨⟨_,Tryz.func205,by kernel_rfl,by decide⟩,fun μ w vs hz hr=>?_⟩
 unfold m205 at h
 split at h
 ·rename_i c
  simp only[Option.some.injEq]at h
  simp only[RepL,Rep]at hr
  obtain⟨v,t,rfl,rfl,v2,t2,rfl,rfl,rfl⟩:=hr
  subst h
  suffices hs:Calls Tryz.prog 205 #[.string ⟨⟨a0⟩⟩,.string ⟨#[c]⟩] w fun e w'=>e=.returned (.int .i64 (Lib.indexByte a0 c))∧w'=w by
   refine hs.mono ?_
   rintro e w' ⟨rfl,rfl⟩
   exact⟨_,μ,rfl,⟨rfl,rfl,rfl,Nat.le_refl _,fun _ _=>rfl⟩,fun _ _ _=>rfl,hz,by simp only[Rep]⟩
  by_cases hc:[c]=a0
  ·have hcb:([c]==a0)=true:=by simpa using hc
   have hi:Lib.indexByte a0 c=0:=by rw[← hc];simp[Lib.indexByte]
   go_enter Tryz.func205,Tryz.ntmps205
   go_wp2
   all_goals first
    | (exfalso;rename_i h0;rw[h0]at hc;cases hc;done)
    | (go_ret;exact⟨by rw[hi];rfl,rfl⟩)
  ·have hcb:([c]==a0)=false:=by simpa using hc
   go_enter Tryz.func205,Tryz.ntmps205
   go_wp2
   rw[run_callFunc_extern Tryz.func220 (by kernel_rfl) (by kernel_rfl) (by kernel_rfl) (e:=Extern.BytealgIndexByte.indexByte) (by kernel_rfl),Lib.run_indexByteString]
   simp only[Result.andThen]
   rw[Oper.upon_value]
   go_wp2
   go_ret
   exact⟨rfl,rfl⟩
 ·cases h
end Go.Av
