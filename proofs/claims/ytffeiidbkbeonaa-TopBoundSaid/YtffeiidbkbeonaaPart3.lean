/- A part of the proof. -/
import Derived.Test.YtffeiidbkbeonaaPart2
import Derived.Maps.RangeWalk
import Derived.KernelRfl
import Derived.Test.YtffeiidbkbeonaaProg
import Derived.WalkKit
import Derived.Lib.Walk
import Derived.Lib.Strings
import Derived.Lib.Bytealg
import Derived.BigCall
import Derived.BigGuard
import Derived.Deep.Draws
import Derived.Laws.Strings3
import Derived.Shelf.Sort.Plain
import Derived.Shelf.Slices.In.SortNone
import Derived.Ground.Names2Prog
import Derived.Ground.SlgnProg
import Derived.Sort.OwnSorted
import Derived.Lib.RowBridge
set_option linter.unusedVariables false
set_option linter.unusedSimpArgs false
namespace Go.Av
open Go.RowKit Go.Base
variable {P:Program} {V:Env} {N:Nat} {γ γ':G} {w w' w0:World} {own:Nat→Prop} {hp:Nat→Option Ob} {live:Nat→Prop}
def opE:Code→Option Oper
 | .region _ ops false=>ops.toList.head?
 | .seq a _=>opE a
 | .block _ c=>opE c
 | _=>none
def EntAt (P:Program) (c:Code) (γ:G) (a:Act) (w:World) (ev:D):Prop :=
 ∃ oe u,opE c=some oe∧oe.guard=none∧(execOp a.eval oe).run P w=.ok (.value u) w∧Rep γ.μ ev u
structure JEn (P:Program) (N:Nat) (c:Code) (st:St) (ev:D) {R:Type} (W:R→Way) where
 m:Option R
 j:∀ V:Env,∀ x,m=some x→∀ K:Exit→St→Prop,(∀ ex s,W x ex s→K ex s)→∀ γ a w,RS V N st γ a w→EntAt P c γ a w ev→c.wp P (Post V N K) a w
def vcE (P:Program) (V:Env) (N:Nat) (cs:List (Nat×Tm)) (c:Code) (st:St) (ev:D) (K:Exit→St→Prop):Prop:=match c with
 | .region id ops false=>(match ops.toList with
  | oe :: os=>if regOk (oe :: os) N=true then exT (lookT cs id) fun cs=>vcOps P cs (oe :: os) st.fr st.nx 1 os ⟨putL oe ⟨none,true,.d ev⟩ [],st.hp,st.live⟩ (fun s=>K .normal (finS st.fr st.nx (oe :: os).length s))else False
  | []=>False)
 | _=>False
theorem wp1 {ops:Array Oper} {Q:Exit→Act→World→Prop} {rest:List Oper} {o:Oper} {a:Act} {u:Value} (hg:o.guard=none) (hrun:(execOp a.eval o).run P w=.ok (.value u) w') (hk:wpList P ops Q rest (a.put o.dst u) w'):wpList P ops Q (o :: rest) a w :=
 wpList_plain hg fun K hK=>by unfold Oper.wp;rw[hrun];exact hK _ _ hk
theorem vcE_sound {cs:List (Nat×Tm)} {c:Code} {st:St} {ev:D} {K:Exit→St→Prop} (h:vcE P V N cs c st ev K) {a:Act} (hs:RS V N st γ a w) (he:EntAt P c γ a w ev):c.wp P (Post V N K) a w:=by
 unfold vcE at h
 split at h
 ·rename_i id ops
  obtain⟨oe,u,h1,h2,h3,h4⟩:=he
  simp only[opE]at h1
  split at h
  ·rename_i oe' os hops
   rw[hops]at h1
   simp only[List.head?_cons,Option.some.injEq]at h1
   subst h1
   split at h
   ·rename_i hr
    obtain⟨cs,h⟩:=exT_elim h
    refine wp_region_list ?_
    rw[hops]
    refine wp1 h2 h3 ?_
    have e:ops=(oe' :: os).toArray:=by rw[← hops]
    have R0:RL V.own V.μ0 V.w0 N (oe' :: os) (· < 0) (fun t=>⟨none,true,look st.fr t⟩) (lookO st.hp) (·∈st.live) γ a w :=
     ⟨hs.1.defers,hs.1.size,fun t=>hs.1.fr t,(fun t j want h=>by cases h),hs.1.hp,hs.1.base,hs.1.big,hs.1.mu⟩
    have R1:=R0.put (i:=0) (o:=oe') (x:=⟨none,true,.d ev⟩) (u:=u) hr rfl (by omega) (LeG.refl γ) R0.hp (Base.refl _ w) (fun _ _ _ _=>rfl) (by simp only[RepA];exact h4)
    have hdone:(fun k=>k < 0∨k=0)=(fun k=>k < 0+1):=by funext k;simp only[eq_iff_iff];omega
    rw[hdone]at R1
    have e1:lookE st.fr (putL oe' ⟨none,true,.d ev⟩ [])=setE oe' ⟨none,true,.d ev⟩ (fun t=>⟨none,true,look st.fr t⟩):=by
     funext t;exact lookE_putL st.fr oe' _ [] t
    rw[e]
    refine ops_seq (P:=P) (QQ:=Post V N K) hr (fun s γ a w hk R F=>⟨_,γ,rs_fin R F,hk⟩) os (0+1) _ γ _ w (by simp;omega) (fun k=>by rw[show 0+1+k=k+1 by omega];rfl) (by rw[e1];exact R1) ⟨fun id hid=>hs.2.ok id (by omega)⟩ h
   ·exact h.elim
  ·exact h.elim
 ·exact h.elim
section
variable {R Y:Type} {W:R→Way} {c:Code} {st:St} {ev:D}
noncomputable def JEn.sg (tms:List (Nat×Tm)) (cx:List (Nat×List Nat×List Nat)) (t:Tr W)
  (h:∀ (V:Env) (K:Exit→St→Prop),vcE P V N tms c st ev (fun ex s=>K ex (cutX cx ex s))=t.Hold K:=by intro V K;refine id ?_;kernel_rfl):JEn P N c st ev W:=⟨t.run,fun V x hx K hk γ a w hr he=>by
 have h1:vcE P V N tms c st ev (fun ex s=>K ex (cutX cx ex s)):=by rw[h V K];exact Tr.hold hk hx
 exact wp_mono (vcE_sound h1 hr he) fun _ _ _ ⟨s,γ',h1,h2⟩=>⟨_,γ',rs_cutX h1 cx,h2⟩⟩
noncomputable def JEn.sc (S:Y→St) (A:JEn P N (fstC c) st ev (wy S W)) (B:∀ y,JD P N (suf 1 c) (S y) W) (hc:isSeq c=true:=by refine id ?_;kernel_rfl):JEn P N c st ev W where
 m:=A.m.bind (onS fun y=>(B y).m)
 j:=fun V x hx K hk γ a w hr he=>by
  obtain⟨z,hz,hx⟩:=Option.bind_eq_some_iff.1 hx
  cases c with
  | seq c1 c2 =>
   refine wp_seq (wp_mono (A.j V z hz (fun ex s=>match ex with | .normal=>Tri P V N c2 s K | ex=>K ex s) (fun ex s hs=>?_) γ a w hr he) ?_)
   ·cases z with
    | inl y =>
     obtain⟨h1,h2⟩:=hs
     cases ex with
     | normal=>exact Tri.weak h2 ((B y).j V x hx K hk)
     | _=>cases h1
    | inr r =>
     injection hx with hx
     subst hx
     obtain⟨h1,h2⟩:=hs
     cases ex with
     | normal=>cases h1
     | _=>exact hk _ _ h2
   ·rintro ex a' w' ⟨s,γ',h1,h2⟩
    cases ex with
    | normal=>exact h2 γ' a' w' h1
    | _=>exact⟨s,γ',h1,h2⟩
  | _=>cases hc
noncomputable def JEn.bk (A:JEn P N (blkC c) st ev (lv (blkI c) W)) (hc:isBlk c=true:=by refine id ?_;kernel_rfl):JEn P N c st ev W where
 m:=A.m
 j:=fun V x hx K hk γ a w hr he=>by
  cases c with
  | block id c =>
   refine wp_block (wp_mono (A.j V x hx (inBlock id K) (fun ex s hs=>?_) γ a w hr he) ?_)
   ·have h2:K (leave id ex) s:=hk _ _ hs
    cases ex with
    | exit j =>
     simp only[inBlock]
     simp only[leave]at h2
     by_cases e:j=id
     ·rw[if_pos e]
      have:Nat.beq j id=true:=by rw[e];exact Nat.beq_refl _
      rw[this]at h2;exact h2
     ·rw[if_neg e]
      have:Nat.beq j id=false:=by
       cases hb:Nat.beq j id with
       | false=>rfl
       | true=>exact absurd (Nat.eq_of_beq_eq_true hb) e
      rw[this]at h2;exact h2
    | _=>exact h2
   ·rintro ex a' w' ⟨st',γ',h1,h2⟩
    cases ex with
    | exit j =>
     simp only[inBlock]at h2
     simp only[Exit.inBlock]
     split
     ·rename_i hj;rw[if_pos hj]at h2;exact⟨st',γ',h1,h2⟩
     ·rename_i hj;rw[if_neg hj]at h2;exact⟨st',γ',h1,h2⟩
    | _=>exact⟨st',γ',h1,h2⟩
  | _=>cases hc
end
theorem Hp.turn (H:Hp own hp live γ w) {row:Option Nat} (hg:w.grownBy w' row) (hr:∀ r,row=some r→¬ own r∧∀ cs e z,w.heap[r]?≠some (.cells cs e z)):Hp own hp live γ w':=by
 have keep:∀ b,b < w.heap.size→own b→w'.heap[b]?=w.heap[b]?:=fun b hb ho=>hg.block b hb fun e=>(hr b e.symm).1 ho
 refine⟨fun b o v h=>?_,fun id o h ho=>?_,H.inj,fun t v e sz hl hq=>?_,H.tinj⟩
 ·obtain⟨cs,e,z,hc⟩:=cell_cells (H.fz b o v h)
  have:w'.heap[b]?=w.heap[b]?:=hg.block b (Array.getElem?_eq_some_iff.1 hc).1 fun e1=>(hr b e1.symm).2 cs e z hc
  rw[World.cell?_of_block (w:=w) this];exact H.fz b o v h
 ·obtain⟨p,h1,h2,h3⟩:=H.obj id o h ho
  exact⟨p,h1,h2.kept (LeG.refl _) fun b hb=>keep b (h2.lt hb) (h3 b hb).1,h3⟩
 ·obtain⟨n,xs,q1,q2⟩:=H.tok t v e sz hl hq
  exact⟨n,xs,own_at q1 fun g hg'=>keep g (by obtain⟨cur,h1,_⟩:=own_cur q1 hg';exact(Array.getElem?_eq_some_iff.1 h1).1) (q2 g hg').1,q2⟩
theorem Hp.less (H:Hp own hp live γ w) {r:Nat} (hr:∀ cs e z,w.heap[r]?≠some (.cells cs e z)) (ho:∀ id o,hp id=some o→o.ok=true→γ.ι id≠some (.blk r)):Hp (fun b=>own b∧b≠r) hp live γ w:=by
 refine H.own_to (fun id o q b h hok hq hb=>?_) fun t v g hl hq hg=>?_
 ·obtain⟨q',h1,h2,h3⟩:=H.obj id o h hok
  rw[hq]at h1;injection h1 with h1;subst h1
  refine⟨(h3 b hb).1,fun e=>?_⟩
  subst e
  cases q with
  | blk b'=>simp only[Pl.block,Option.some.injEq]at hb;subst hb;exact ho id o h hok hq
  | vec v e sz =>
   obtain⟨n,f,xs,_,_,ow,_⟩:=h2
   obtain⟨cur,h1,_⟩:=own_cur ow hb
   exact hr _ _ _ h1
 ·obtain⟨n,xs,q1,q2⟩:=H.tok t v.1 v.2.1 v.2.2 hl hq
  refine⟨(q2 g hg).1,fun e=>?_⟩
  subst e
  obtain⟨cur,h1,_⟩:=own_cur q1 hg
  exact hr _ _ _ h1
mutual
def noId (id:Nat):AV→Bool
 | .ptr d _ | .pa d _ _ _ | .arr d _ _ | .vec d _ _ | .pv d _ _ _ | .mp d=>!Nat.beq d id
 | .fn _ c=>noIdL id c
 | .agg l=>noIdL id l
 | .tup l=>noIdL id l
 | _=>true
def noIdL (id:Nat):List AV→Bool
 | []=>true
 | x :: l=>noId id x&&noIdL id l
end
theorem beq_ne {a b:Nat} (h:(!Nat.beq a b)=true):a≠b:=fun e=>by subst e;rw[Nat.beq_refl]at h;cases h
theorem RightOk.same (ht:γ'.τ=γ.τ) {sz:Nat} {v:Value} {r:Right} (h:RightOk γ sz v r):RightOk γ' sz v r:=by
 cases r with
 | nl=>exact h
 | tok t e=>simp only[RightOk]at h ⊢;rw[ht];exact h
mutual
theorem RepA.noId {id:Nat} (hm:γ'.μ=γ.μ) (ht:γ'.τ=γ.τ) (hi:∀ i,i≠id→γ'.ι i=γ.ι i):∀ {x:AV} {v:Value},noId id x=true→RepA γ x v→RepA γ' x v
 | .d x,v,_,h=>by simp only[RepA]at h ⊢;rw[hm];exact h
 | .ap sz n f r,v,_,h=>by simp only[RepA]at h ⊢;rw[hm];exact⟨h.1,h.2.same ht⟩
 | .ptr d o,v,hn,h=>by simp only[RepA]at h ⊢;rw[hi d (beq_ne hn)];exact h
 | .ep x o,v,_,h=>by simp only[RepA]at h ⊢;rw[hm];exact h
 | .pa d s i o,v,hn,h=>by simp only[RepA]at h ⊢;rw[hi d (beq_ne hn)];exact h
 | .arr d s n,v,hn,h=>by simp only[RepA]at h ⊢;rw[hi d (beq_ne hn)];exact h
 | .vec d s n,v,hn,h=>by simp only[RepA]at h ⊢;rw[hi d (beq_ne hn)];exact h
 | .pv d s i o,v,hn,h=>by simp only[RepA]at h ⊢;rw[hi d (beq_ne hn)];exact h
 | .mp d,v,hn,h=>by simp only[RepA]at h ⊢;rw[hi d (beq_ne hn)];exact h
 | .fn f c,v,hn,h=>by
  simp only[RepA]at h ⊢
  obtain⟨vs,e,h2⟩:=h
  exact⟨vs,e,RepAL.noId hm ht hi hn h2⟩
 | .nilp,v,_,h=>by simpa only[RepA] using h
 | .nilf,v,_,h=>by simpa only[RepA] using h
 | .raw u,v,_,h=>by simpa only[RepA] using h
 | .agg l,v,hn,h=>by
  simp only[RepA]at h ⊢
  obtain⟨vs,e,h2⟩:=h
  exact⟨vs,e,RepAL.noId hm ht hi hn h2⟩
 | .tup l,v,hn,h=>by
  simp only[RepA]at h ⊢
  obtain⟨vs,e,h2⟩:=h
  exact⟨vs,e,RepAL.noId hm ht hi hn h2⟩
 | .any,v,_,_=>by simp only[RepA]
theorem RepAL.noId {id:Nat} (hm:γ'.μ=γ.μ) (ht:γ'.τ=γ.τ) (hi:∀ i,i≠id→γ'.ι i=γ.ι i):∀ {x:List AV} {v:List Value},noIdL id x=true→RepAL γ x v→RepAL γ' x v
 | [],v,_,h=>by simpa only[RepAL] using h
 | x :: l,v,hn,h=>by
  simp only[noIdL,Bool.and_eq_true]at hn
  simp only[RepAL]at h ⊢
  obtain⟨u,t,e,h1,h2⟩:=h
  exact⟨u,t,e,RepA.noId hm ht hi hn.1 h1,RepAL.noId hm ht hi hn.2 h2⟩
end
def noIdO (id:Nat):Ob→Bool
 | .cells l=>noIdL id l
 | .vals _ _ (some (_,a))=>noId id a
 | _=>true
theorem RepO.noId {id:Nat} (hm:γ'.μ=γ.μ) (ht:γ'.τ=γ.τ) (hi:∀ i,i≠id→γ'.ι i=γ.ι i) {o:Ob} {x:Go.Obj} (hn:noIdO id o=true) (h:RepO γ o x):RepO γ' o x:=by
 cases o with
 | cells l=>obtain⟨vs,e,h1,h2,h3⟩:=h;exact⟨vs,e,h1,RepAL.noId hm ht hi hn h2,h3⟩
 | arr sz n f =>
  obtain⟨vs,e,h1,h2,h3⟩:=h
  exact⟨vs,e,h1,h2,fun i hi'=>by obtain⟨u,h4,h5⟩:=h3 i hi';exact⟨u,by rw[hm];exact h4,h5⟩⟩
 | vals n vs x =>
  obtain⟨us,e,h1,h2,h3⟩:=h
  refine⟨us,e,h1,h2,fun i hi'=>?_⟩
  obtain⟨u,h4,h5,h6⟩:=h3 i hi'
  refine⟨u,h4,h5,?_⟩
  cases x with
  | none=>exact h6
  | some ja=>exact⟨h6.1,fun e=>(h6.2 e).noId hm ht hi hn⟩
 | _=>exact h
theorem ObjAt.noId {id:Nat} (hm:γ'.μ=γ.μ) (ht:γ'.τ=γ.τ) (hi:∀ i,i≠id→γ'.ι i=γ.ι i) {o:Ob} {p:Pl} (hn:noIdO id o=true) (h:ObjAt γ w o p):ObjAt γ' w o p:=by
 cases p with
 | blk b=>obtain⟨x,h1,h2⟩:=h;exact⟨x,h1,h2.noId hm ht hi hn⟩
 | vec v e sz=>obtain⟨n,f,xs,h1,h0,h2,h3⟩:=h;exact⟨n,f,xs,h1,h0,h2,by rw[hm];exact h3⟩
theorem Hp.back {own':Nat→Prop} {L:List (Nat×Ob)} {lv:List Nat} {id b:Nat} {o:Ob} (H:Hp own' (lookO L) (·∈lv) γ w) (hm:γ'.μ=γ.μ) (ht:γ'.τ=γ.τ) (hi:∀ i,i≠id→γ'.ι i=γ.ι i) (hid:γ'.ι id=some (.blk b))
  (hL:(L.all fun p=>!Nat.beq p.1 id&&noIdO id p.2)=true) (ho:∀ k,own' k→own k∧k≠b) (hb:own b∧∀ k,γ.μ b k=none) (hx:∃ x,w.heap[b]?=some x∧RepO γ' o x):Hp own (lookO ((id,o) :: L)) (·∈lv) γ' w:=by
 simp only[List.all_eq_true,Bool.and_eq_true]at hL
 have hmem:∀ j oj,lookO L j=some oj→j≠id∧noIdO id oj=true:=fun j oj h=>by
  have:=hL _ (lookO_mem h)
  exact⟨beq_ne this.1,this.2⟩
 have cases_:∀ j oj,lookO ((id,o) :: L) j=some oj→(j=id∧oj=o)∨(j≠id∧lookO L j=some oj):=fun j oj h=>by
  rw[lookO_cons]at h
  split at h
  ·rename_i e;injection h with h;exact .inl ⟨e,h.symm⟩
  ·rename_i e;exact .inr ⟨e,h⟩
 refine⟨by rw[hm];exact H.fz,fun j oj hj hok=>?_,fun i j oi oj p q h1 h2 c1 c2 hne hp hq=>?_,fun t v e sz hl hq=>?_,by rw[ht];exact H.tinj⟩
 ·rcases cases_ j oj hj with⟨rfl,rfl⟩ | ⟨hne,h⟩
  ·exact⟨.blk b,hid,hx,fun b' h=>by simp only[Pl.block,Option.some.injEq]at h;subst h;rw[hm];exact hb⟩
  ·obtain⟨p,g1,g2,g3⟩:=H.obj j oj h hok
   exact⟨p,by rw[hi j hne];exact g1,g2.noId hm ht hi (hmem j oj h).2,fun b' h=>⟨(ho _ (g3 b' h).1).1,by rw[hm];exact(g3 b' h).2⟩⟩
 ·have far:∀ j oj q,lookO L j=some oj→oj.ok=true→γ.ι j=some q→q.block≠some b:=fun j oj q h hok hq e=>by
   obtain⟨p',g1,g2,g3⟩:=H.obj j oj h hok
   rw[hq]at g1;injection g1 with g1;subst g1
   exact(ho _ (g3 b e).1).2 rfl
  rcases cases_ i oi h1 with⟨rfl,rfl⟩ | ⟨n1,k1⟩
  ·rcases cases_ j oj h2 with⟨rfl,rfl⟩ | ⟨n2,k2⟩
   ·exact absurd rfl hne
   ·rw[hid]at hp;injection hp with hp;subst hp
    rw[hi j n2]at hq
    exact .inr fun e=>far j oj q k2 c2 hq e.symm
  ·rcases cases_ j oj h2 with⟨rfl,rfl⟩ | ⟨n2,k2⟩
   ·rw[hid]at hq;injection hq with hq;subst hq
    rw[hi i n1]at hp
    exact .inr fun e=>far i oi p k1 c1 hp e
   ·rw[hi i n1]at hp
    rw[hi j n2]at hq
    exact H.inj i j oi oj p q k1 k2 c1 c2 hne hp hq
 ·rw[ht]at hq
  obtain⟨m,xs,q1,q2⟩:=H.tok t v e sz hl hq
  refine⟨m,xs,q1,fun g hg=>?_⟩
  obtain⟨s1,s2,s3⟩:=q2 g hg
  refine⟨(ho _ s1).1,by rw[hm];exact s2,fun j oj p hj hok hp=>?_⟩
  rcases cases_ j oj hj with⟨rfl,rfl⟩ | ⟨n1,k1⟩
  ·rw[hid]at hp;injection hp with hp;subst hp
   intro e
   simp only[Pl.block,Option.some.injEq]at e
   exact(ho _ s1).2 e.symm
  ·rw[hi j n1]at hp;exact s3 j oj p k1 hok hp
def EnumL (n:Nat) (h:List UInt8→Bool) (l:List (List UInt8)):Prop:=l.Nodup∧l.length=n∧∀ s,s∈l↔(s.length≤maxLen∧h s=true)
open Classical in
noncomputable def rangeM {Y:Type} (n:Nat) (h:List UInt8→Bool) (step:List UInt8→Y→Option Y) (y0:Y):Option Y :=
 if H:∃ r,∀ l,EnumL n h l→l.foldlM (fun y s=>step s y) y0=some r then some H.choose else none
theorem rangeM_some {Y:Type} {n:Nat} {h:List UInt8→Bool} {step:List UInt8→Y→Option Y} {y0 r:Y} (hr:rangeM n h step y0=some r) {l:List (List UInt8)} (hl:EnumL n h l):l.foldlM (fun y s=>step s y) y0=some r:=by
 unfold rangeM at hr
 split at hr
 ·rename_i H
  injection hr with hr
  rw[← hr]
  exact H.choose_spec l hl
 ·cases hr
theorem rangeM_of {Y:Type} {n:Nat} {h:List UInt8→Bool} {step:List UInt8→Y→Option Y} {y0 r:Y} {l:List (List UInt8)} (hl:EnumL n h l) (hr:∀ l,EnumL n h l→l.foldlM (fun y s=>step s y) y0=some r):rangeM n h step y0=some r:=by
 unfold rangeM
 have H:∃ r,∀ l,EnumL n h l→l.foldlM (fun y s=>step s y) y0=some r:=⟨r,hr⟩
 rw[dif_pos H]
 have h1:=H.choose_spec l hl
 rw[hr l hl]at h1
 injection h1 with h1
 rw[← h1]
theorem EnumL.more {n:Nat} {h:List UInt8→Bool} {l p:List (List UInt8)} (hl:EnumL n h l) (hp:p.Nodup) (hs:∀ s∈p,s.length≤maxLen∧h s=true):∃ q,EnumL n h (p++q):=by
 refine⟨l.filter fun s=>!decide (s∈p),?_⟩
 have hn:(p++l.filter fun s=>!decide (s∈p)).Nodup:=by
  rw[List.nodup_append]
  refine⟨hp,hl.1.filter _,fun a ha b hb e=>?_⟩
  subst e
  simp only[List.mem_filter,Bool.not_eq_true',decide_eq_false_iff_not]at hb
  exact hb.2 ha
 have hm:∀ s,s∈(p++l.filter fun s=>!decide (s∈p))↔(s.length≤maxLen∧h s=true):=fun s=>by
  simp only[List.mem_append,List.mem_filter,Bool.not_eq_true',decide_eq_false_iff_not]
  constructor
  ·rintro(h1 | ⟨h1,_⟩)
   ·exact hs s h1
   ·exact(hl.2.2 s).1 h1
  ·intro h1
   by_cases h2:s∈p
   ·exact .inl h2
   ·exact .inr ⟨(hl.2.2 s).2 h1,h2⟩
 refine⟨hn,?_,hm⟩
 rw[← hl.2.1]
 exact((List.perm_ext_iff_of_nodup hn hl.1).2 fun s=>by rw[hm s,hl.2.2 s]).length_eq
theorem enum_of {k e:TypeId} {n:Nat} {h:List UInt8→Bool} {f:List UInt8→D} {o:Go.Obj} (hm:GmIs P k e n h f o):∃ l,EnumL n h l:=by
 obtain⟨es,clock,i,z,z0,rfl,F,hn,hk,hi,hz,hu,hv⟩:=hm
 have K:=Go.Maps.string_keyed hk
 have hkey:∀ x∈es.toList,∃ s:List UInt8,x.key=.string ⟨⟨s⟩⟩∧s.length≤maxLen∧(Go.WideElems.rg P k (flatR) x).1=.string s:=fun x hx=>by
  obtain⟨y,hy⟩:=F.reads x hx
  have h1:=Go.WideElems.rd_key hy
  have h2:(Go.WideElems.rg P k (flatR) x).1=y.1:=by rw[Go.WideElems.rg_of hy]
  rw[h2]
  generalize y.1=kl at h1
  cases hx2:x.key with
  | string bs =>
   rw[hx2]at h1
   by_cases hs:bs.size≤maxLen
   ·rw[Go.WideMaps.keyOf_string_mk hk hs]at h1
    injection h1 with h1
    exact⟨bs.data.toList,by cases bs;rfl,by simpa using hs,h1.symm⟩
   ·simp[keyOf,hk,mapKey,hs]at h1
  | _=>rw[hx2]at h1;simp[keyOf,hk,mapKey]at h1
 let g:MapEntry→List UInt8:=fun x=>match x.key with | .string bs=>bs.data.toList | _=>[]
 have hg:∀ x∈es.toList,x.key=.string ⟨⟨g x⟩⟩∧(g x).length≤maxLen∧(Go.WideElems.rg P k (flatR) x).1=.string (g x):=fun x hx=>by
  obtain⟨s,h1,h2,h3⟩:=hkey x hx
  have:g x=s:=by simp only[g,h1]
  rw[this];exact⟨h1,h2,h3⟩
 refine⟨es.toList.map g,?_,by simpa using hn,fun s=>?_⟩
 ·have hp:=((MapKept.stamped_iff es clock).1 F.stamped).2.2
  refine List.pairwise_map.2 (hp.imp_of_mem fun {a b} ha hb hne e=>hne ?_)
  rw[(hg a ha).1,(hg b hb).1,e]
 ·constructor
  ·intro hs
   obtain⟨x,hx,rfl⟩:=List.mem_map.1 hs
   obtain⟨h1,h2,h3⟩:=hg x hx
   refine⟨h2,?_⟩
   rw[← (hv _ h2).1]
   refine List.any_eq_true.2 ⟨Go.WideElems.rg P k flatR x,mem_sorted.2 (List.mem_map.2 ⟨x,hx,rfl⟩),?_⟩
   rw[h3]
   exact WideAt.sameKey_self (K.key (Go.WideMaps.keyOf_string_mk hk (show (⟨⟨g x⟩⟩:ByteArray).size≤maxLen from h2)))
  ·rintro⟨h1,h2⟩
   rw[← (hv s h1).1]at h2
   obtain⟨p,hp,hpk⟩:=List.any_eq_true.1 h2
   obtain⟨x,hx,rfl⟩:=List.mem_map.1 (mem_sorted.1 hp)
   have h3:=WideAt.sameKey_eq hpk
   rw[(hg x hx).2.2]at h3
   injection h3 with h3
   exact List.mem_map.2 ⟨x,hx,h3⟩
theorem put_at {a:Act} {d t:Nat} {v:Value} (h:d < a.tmps.size):(a.put (some d) v).tmps.getD t undef=if d=t then v else a.tmps.getD t undef:=getD_put h
theorem put_size {a:Act} {d:Option Nat} {v:Value}:(a.put d v).tmps.size=a.tmps.size:=by cases d<;>simp[Act.put]
theorem put_defers {a:Act} {d:Option Nat} {v:Value}:(a.put d v).defers=a.defers:=by cases d<;>simp[Act.put]
theorem look_none {F:List (Nat×AV)} {t:Nat} (h:(F.all fun p=>!Nat.beq p.1 t)=true):look F t=.any:=by
 induction F with
 | nil=>rfl
 | cons p l ih =>
  simp only[List.all_cons,Bool.and_eq_true]at h
  obtain⟨i,v⟩:=p
  simp only[look]
  rw[if_neg (beq_ne h.1)]
  exact ih h.2
theorem look_ok {F:List (Nat×AV)} {id t:Nat} (h:(F.all fun p=>noId id p.2)=true):noId id (look F t)=true:=by
 rcases mem_of_look (l:=F) (t:=t) with e | e
 ·rw[e];rfl
 ·exact(List.all_eq_true.1 h) _ e
def onN {Y:Type}:Y⊕Empty→Option Y
 | .inl y=>some y
 | .inr r=>r.elim
abbrev rmH (P:Program) (tm mid k e n:Nat) (h:List UInt8→Bool) (f:List UInt8→D) {Y:Type} (F:Y→List (Nat×AV)) (O:Y→List (Nat×Ob)) (L:Y→List Nat) (nx:Nat) (y:Y):St:=⟨(tm,.mp mid) :: F y,(mid,.gm P k e n h f) :: O y,L y,nx⟩
abbrev rmS (tm t30:Nat) {Y:Type} (F:Y→List (Nat×AV)) (O:Y→List (Nat×Ob)) (L:Y→List Nat) (nx:Nat) (mv iv:Value) (y:Y):St:=⟨(tm,.raw mv) :: (t30,.raw iv) :: F y,O y,L y,nx⟩
theorem tri_range {Y:Type} {c:Code} {st:St} {K:Exit→St→Prop} {i0 i1 b tm t29 t30 t31 t32 T k e n mid nx:Nat} {mv rg nxt ex:Oper} {bd:Code} {z0:D} {h:List UInt8→Bool} {f:List UInt8→D}
  (hc:c=.seq (.region i0 #[mv,rg] false) (.block b (.loop (.seq (.region i1 #[nxt,ex] false) (.seq (.cond (.tmp t32) .skip (.exit b)) bd)))))
  (a1:mv.op=.move (.tmp tm)) (a2:mv.dst=some t29) (a3:mv.guard=none) (b1:rg.op=.range T (.tmp t29)) (b2:rg.dst=some t30) (b3:rg.guard=none)
  (c1:nxt.op=.next (.tmp t30) false) (c2:nxt.dst=some t31) (c3:nxt.guard=none) (d1:ex.op=.extract (.tmp t31) 0) (d2:ex.dst=some t32) (d3:ex.guard=none)
  (be:∃ oe,opE bd=some oe∧oe.op=.entry (.tmp t30)∧oe.guard=none)
  (hd:decide (t29 < N∧t30 < N∧t31 < N∧t32 < N∧tm≠t29∧tm≠t30∧tm≠t31∧tm≠t32∧t30≠t29∧t31≠t30∧t32≠t30∧t32≠t31∧mid < nx)=true) (hT:gmT P T=some (k,e,z0))
  (F:Y→List (Nat×AV)) (O:Y→List (Nat×Ob)) (L:Y→List Nat) (y0:Y) (w0:Weak st (rmH P tm mid k e n h f F O L nx y0))
  (hF:∀ y,((F y).all fun p=>!Nat.beq p.1 tm&&(!Nat.beq p.1 t29&&(!Nat.beq p.1 t30&&(!Nat.beq p.1 t31&&(!Nat.beq p.1 t32&&noId mid p.2)))))=true)
  (hO:∀ y,((O y).all fun p=>!Nat.beq p.1 mid&&noIdO mid p.2)=true)
  (step:List UInt8→Y→Option Y)
  (B:∀ (mv iv:Value) (y:Y) (s:List UInt8) (y1:Y),step s y=some y1→∀ (V:Env) (γ:G) (a:Act) (w:World),RS V N (rmS tm t30 F O L nx mv iv y) γ a w→EntAt P bd γ a w (.tup [.str s,f s])→bd.wp P (Post V N fun ex s=>isN ex=true∧Weak s (rmS tm t30 F O L nx mv iv y1)) a w)
  {r:Y} (hr:rangeM n h step y0=some r) (C:∀ (γ:G) (a:Act) (w:World),RS V N (rmH P tm mid k e n h f F O L nx r) γ a w→Post V N K .normal a w):Tri P V N c st K:=fun γ0 a0 w00 hr0=>by
 obtain⟨k1,k2,k3,k4,k5,k6,k7,k8,k9,k10,k11,k12,k13⟩:=of_decide_eq_true hd
 obtain⟨γ,hs⟩:=w0 V N γ0 a0 w00 hr0
 clear hr0
 generalize a0=a at hs ⊢
 generalize w00=w at hs ⊢
 have Rr:=hs.1
 have hF1:∀ y t,t=tm∨t=t29∨t=t30∨t=t31∨t=t32→look (F y) t=.any:=fun y t ht=>look_none (by
  have:=hF y
  simp only[List.all_eq_true,Bool.and_eq_true]at this ⊢
  intro p hp
  obtain⟨q1,q2,q3,q4,q5,_⟩:=this p hp
  rcases ht with rfl | rfl | rfl | rfl | rfl<;>assumption)
 have hF2:∀ y t,noId mid (look (F y) t)=true:=fun y t=>look_ok (by
  have:=hF y
  simp only[List.all_eq_true,Bool.and_eq_true]at this ⊢
  exact fun p hp=>(this p hp).2.2.2.2.2)
 have hmv:RepA γ (.mp mid) (a.tmps.getD tm undef):=by
  have:=Rr.fr tm
  simp only[EOk,look,if_true]at this
  exact this
 have hlo:lookO (rmH P tm mid k e n h f F O L nx y0).hp mid=some (.gm P k e n h f):=by simp[lookO]
 obtain⟨bm,om,e1,e2,g2,g3⟩:=gm_blk Rr.hp hlo hmv
 obtain⟨bm',xm,e1',_,_,ownm,mum⟩:=Rr.hp.blk hlo rfl
 obtain rfl:bm'=bm:=by rw[e1]at e1';injection e1' with e1';injection e1' with e1';exact e1'.symm
 obtain⟨l0,hl0⟩:=enum_of g3
 obtain⟨D0,i,z,z0',hD,hsz,hks,hi,hz,huz,hv⟩:=g3.at g2
 have KK:=Go.Maps.string_keyed hks
 obtain⟨hu,_⟩:=gmT_some hT
 obtain⟨w1,hrun1,hrg1,hgr1,hsz1⟩:=hD.range KK hu
 have bml:bm' < w.heap.size:=hD.lt
 -- ahead of the loop
 have sa:a.tmps.size=N:=Rr.size
 let mval:Value:=.map (some bm')
 let ival:Value:=.pointer (some ⟨w.heap.size,0,none⟩)
 have hmval:a.tmps.getD tm undef=mval:=e2
 rw[hc]
 refine wp_seq (wp_region_list ?_)
 show wpList P _ _ [mv,rg] a w
 refine wp1 a3 (u:=mval) (w':=w) ?_ (wp1 b3 (u:=ival) (w':=w1) ?_ ?_)
 ·unfold execOp
  simp only[a1]
  show Sem.run P (pure (Next.value (a.tmps.getD tm undef))) w=_
  rw[hmval];rfl
 ·have hev:(a.put mv.dst mval).eval (.tmp t29)=mval:=by
   show (a.put mv.dst mval).tmps.getD t29 undef=mval
   rw[a2,put_at (by rw[sa];exact k1),if_pos rfl]
  unfold execOp
  simp only[b1,hev]
  rw[Sem.run_bind,hrun1]
  rfl
 let a2':Act:=(a.put mv.dst mval).put rg.dst ival
 have sa2:a2'.tmps.size=N:=by simp only[a2',put_size,sa]
 have ga2:∀ t,a2'.tmps.getD t undef=if t30=t then ival else if t29=t then mval else a.tmps.getD t undef:=fun t=>by
  simp only[a2',b2,a2]
  rw[put_at (by rw[put_size,sa];exact k2),put_at (by rw[sa];exact k1)]
 -- the parts' owners
 let r0:=w.heap.size
 let own':Nat→Prop:=fun q=>(V.own q∧q≠bm')∧q≠r0
 have ownr:V.own r0:=Rr.big _ Rr.base.size
 have hObm:∀ y j o,lookO (O y) j=some o→j≠mid:=fun y j o hj=>by
  have:=hO y
  simp only[List.all_eq_true,Bool.and_eq_true]at this
  exact beq_ne (this _ (lookO_mem hj)).1
 have H0:Hp (fun q=>V.own q∧q≠bm') (lookO (O y0)) (·∈L y0) γ w:=Rr.hp.drop (ob:=.gm P k e n h f) hlo rfl e1 (fun j o hj=>⟨by
  rw[lookO_cons,if_neg (hObm y0 j o hj)];exact hj,hObm y0 j o hj⟩)
 have nor:∀ cs e z,w1.heap[r0]?≠some (.cells cs e z):=fun cs e z hh=>by
  obtain⟨es,clock,since,seen,c0,_,_,_,_,hrr,_⟩:=hrg1
  rw[hrr]at hh;cases hh
 have H1:Hp own' (lookO (O y0)) (·∈L y0) γ w1:=by
  refine(H0.turn hgr1 (fun r hr=>by cases hr)).less nor fun id o hj hok hq=>?_
  obtain⟨p,q1,q2,_⟩:=H0.obj id o hj hok
  rw[hq]at q1;injection q1 with q1;subst q1
  exact absurd (q2.lt rfl) (Nat.lt_irrefl _)
 have F0:Fresh nx (lookO (O y0)) (·∈L y0) γ:=⟨fun id hid=>by
  obtain⟨f1,f2,f3,f4⟩:=hs.2.ok id hid
  refine⟨f1,f2,?_,f4⟩
  rw[lookO_cons]at f3
  split at f3
  ·cases f3
  ·exact f3⟩
 have fr0:∀ t,RepA γ (look (rmS tm t30 F O L nx mval ival y0).fr t) (a2'.tmps.getD t undef):=fun t=>by
  rw[ga2]
  simp only[look]
  by_cases h1:tm=t
  ·subst h1
   rw[if_pos rfl,if_neg (fun e=>k6 e.symm),if_neg (fun e=>k5 e.symm),hmval]
   simp only[RepA]
  ·rw[if_neg h1]
   by_cases h2:t30=t
   ·subst h2
    rw[if_pos rfl,if_pos rfl]
    simp only[RepA]
   ·rw[if_neg h2,if_neg h2]
    by_cases h3:t29=t
    ·subst h3
     rw[hF1 y0 t29 (.inr (.inl rfl))]
     simp only[RepA]
    ·rw[if_neg h3]
     have:=Rr.fr t
     simp only[EOk,look]at this
     rw[if_neg h1]at this
     exact this
 have base1:Base V.own V.w0 w1:=Rr.base.trans (fun q hq=>Rr.big q (Nat.le_trans Rr.base.size hq)) ⟨hgr1.os,hgr1.tape,hgr1.output,hgr1.size,fun q hq _=>hgr1.block q hq (by simp)⟩
 -- the loop
 let I:Nat→Act→World→Prop:=fun cnt a' w'=>∃ (γ':G) (y:Y) (p:List (List UInt8)) (left:Lit→Bool),a'.defers=V.μ0.df∧a'.tmps.size=N∧p.Nodup∧p.foldlM (fun y s=>step s y) y0=some y∧(∀ s∈p,s.length≤maxLen∧h s=true) ∧
  w'.ranges P k flatR bm' r0 n D0 left cnt∧(∀ s:List UInt8,s.length≤maxLen→left (.string s)=(h s&&!decide (s∈p)))∧Hp own' (lookO (O y)) (·∈L y) γ' w'∧Fresh nx (lookO (O y)) (·∈L y) γ' ∧
  (∀ t,RepA γ' (look (rmS tm t30 F O L nx mval ival y).fr t) (a'.tmps.getD t undef))∧Base V.own V.w0 w'∧Keep V.own V.w0 V.μ0 γ'∧r0 < w'.heap.size∧LeM γ.μ γ'.μ∧(∀ i b,i < 16→γ.ι i=some b→γ'.ι i=some b)∧(∀ q,γ'.μ bm' q=none)
 have I0:I (Maps.size D0) a2' w1:=by
  refine⟨γ,y0,[],Maps.has D0,?_,sa2,List.nodup_nil,rfl,(fun s hs=>by cases hs),hrg1,fun s hl=>?_,H1,F0,fr0,base1,Rr.mu,by rw[hsz1];exact Nat.lt_succ_self _,LeM.refl _,fun _ _ _ h=>h,mum⟩
  ·simp only[a2',put_defers];exact Rr.defers
  ·rw[(hv s hl).1];simp
 show (Code.block b (.loop (.seq (.region i1 #[nxt,ex] false) (.seq (.cond (.tmp t32) .skip (.exit b)) bd)))).wp P (Post V N K) a2' w1
 refine wp_block (wp_loop_ex (X:=Nat) I id _ I0 ?_)
 rintro cnt a' w' ⟨γ',y,p,left,j1,j2,j3,j4,j5,j6,j7,j8,j9,j10,j11,j12,j13,j14,j15,j16⟩
 have hit:a'.tmps.getD t30 undef=ival:=by
  have:=j10 t30
  simpa only[look,if_neg k6,if_true,RepA] using this
 have hmt:a'.tmps.getD tm undef=mval:=by
  have:=j10 tm
  simpa only[look,if_true,RepA] using this
 have hevi:∀ {a:Act},a.tmps.getD t30 undef=ival→a.eval (.tmp t30)=ival:=fun h=>h
 refine wp_seq (wp_region_list ?_)
 show wpList P _ _ [nxt,ex] a' w'
 rcases j6.next KK nxt.type with⟨hc0,hl0',hrn⟩ | ⟨key,v,kl,yy,w2,cnt',hkey,hlk,hvy,hat,hrn,hrg2,hlt,hgr2,hsz2,hen⟩
 · -- nothing is left
  refine wp1 c3 (u:=.tuple #[.bool false]) (w':=w') ?_ (wp1 d3 (u:=.bool false) (w':=w') ?_ ?_)
  ·unfold execOp
   simp only[c1,hevi hit]
   rw[Sem.run_bind,hrn]
   rfl
  ·have hev:(a'.put nxt.dst (.tuple #[.bool false])).eval (.tmp t31)=.tuple #[.bool false]:=by
    show (a'.put nxt.dst (.tuple #[.bool false])).tmps.getD t31 undef=_
    rw[c2,put_at (by rw[j2];exact k3),if_pos rfl]
   unfold execOp
   simp only[d1,hev]
   rfl
  let a3':Act:=(a'.put nxt.dst (.tuple #[.bool false])).put ex.dst (.bool false)
  have ga3:∀ t,a3'.tmps.getD t undef=if t32=t then .bool false else if t31=t then .tuple #[.bool false]else a'.tmps.getD t undef:=fun t=>by
   simp only[a3',d2,c2]
   rw[put_at (by rw[put_size,j2];exact k4),put_at (by rw[j2];exact k3)]
  show (Code.seq (.cond (.tmp t32) .skip (.exit b)) bd).wp P _ a3' w'
  refine wp_seq (wp_cond_split (t:=false) (by show a3'.tmps.getD t32 undef=_;rw[ga3,if_pos rfl]) (fun h=>by cases h) fun _=>wp_exit ?_)
  show Exit.inBlock b _ (.exit b) a3' w'
  simp only[Exit.inBlock,if_true]
  -- the map is told again
  have hEn:EnumL n h p:=by
   refine⟨j3,?_,fun s=>⟨j5 s,fun hss=>?_⟩⟩
   ·obtain⟨q,hq⟩:=hl0.more j3 j5
    have:q=[]:=by
     cases q with
     | nil=>rfl
     | cons s q =>
      exfalso
      have hs2:=(hq.2.2 s).1 (by simp)
      have h3:=hl0' (.string s)
      rw[j7 s hs2.1,hs2.2]at h3
      have h4:s∈p:=by simpa using h3
      have:=hq.1
      rw[List.nodup_append]at this
      exact this.2.2 s h4 s (by simp) rfl
    subst this
    have:=hq.2.1
    simpa using this
   ·have h3:=hl0' (.string s)
    rw[j7 s hss.1,hss.2]at h3
    simpa using h3
  have hy:y=r:=by
   have:=rangeM_some hr hEn
   rw[j4]at this
   injection this
  subst hy
  let γ2:G:=⟨γ'.μ,fun j=>if j=mid then some (.blk bm')else γ'.ι j,γ'.τ⟩
  have hι:∀ j,j≠mid→γ2.ι j=γ'.ι j:=fun j hj=>if_neg hj
  have hιm:γ2.ι mid=some (.blk bm'):=if_pos rfl
  have ho:=j6.owns
  obtain⟨om2,hom2,his2⟩:=GmIs.of (e:=e) (n:=n) (h:=h) (f:=f) ho hsz hks hi hz huz hv
  have Hb:Hp V.own (lookO ((mid,.gm P k e n h f) :: O y)) (·∈L y) γ2 w':=Hp.back j8 rfl rfl hι hιm (hO y) (fun q hq=>hq.1) ⟨ownm,j16⟩ ⟨om2,hom2,his2⟩
  have hRS:RS V N (rmH P tm mid k e n h f F O L nx y) γ2 a3' w':=by
   refine⟨⟨?_,?_,fun t=>?_,(fun t j want h=>by cases h),Hb,j11,Rr.big,⟨j12.mu,j12.le,fun i b hi16 hib=>?_⟩⟩,⟨fun id hid=>?_⟩⟩
   ·simp only[a3',put_defers];exact j1
   ·simp only[a3',put_size];exact j2
   ·show RepA γ2 (look ((tm,.mp mid) :: F y) t) (a3'.tmps.getD t undef)
    rw[ga3]
    simp only[look]
    by_cases h1:tm=t
    ·subst h1
     rw[if_pos rfl,if_neg (fun e=>k8 e.symm),if_neg (fun e=>k7 e.symm),hmt]
     simp only[RepA]
     exact⟨bm',hιm,rfl⟩
    ·rw[if_neg h1]
     by_cases h2:t32=t
     ·subst h2
      rw[hF1 y t32 (by simp)]
      simp only[RepA]
     ·rw[if_neg h2]
      by_cases h3:t31=t
      ·subst h3
       rw[hF1 y t31 (by simp)]
       simp only[RepA]
      ·rw[if_neg h3]
       have h4:=j10 t
       simp only[look]at h4
       rw[if_neg h1]at h4
       by_cases h5:t30=t
       ·subst h5
        rw[hF1 y t30 (by simp)]
        simp only[RepA]
       ·rw[if_neg h5]at h4
        exact RepA.noId (γ:=γ') (γ':=γ2) rfl rfl hι (hF2 y t) h4
   ·by_cases hm:i=mid
    ·subst hm
     rw[hιm]
     have:=Rr.mu.pin i b hi16 hib
     rw[e1]at this
     exact this
    ·rw[hι i hm];exact j12.pin i b hi16 hib
   ·obtain⟨f1,f2,f3,f4⟩:=j9.ok id hid
    have hne:id≠mid:=by have:nx≤id:=hid;omega
    refine⟨by rw[hι id hne];exact f1,f2,?_,f4⟩
    show lookO ((mid,Ob.gm P k e n h f) :: O y) id=none
    rw[lookO_cons,if_neg hne];exact f3
  exact C γ2 a3' w' hRS
 · -- an entry
  obtain⟨s,rfl,rfl,hsl⟩:∃ s:List UInt8,key=.string ⟨⟨s⟩⟩∧kl=.string s∧s.length≤maxLen:=by
   cases key with
   | string bs =>
    by_cases hs:bs.size≤maxLen
    ·rw[Go.WideMaps.keyOf_string_mk hks hs]at hkey
     injection hkey with hkey
     exact⟨bs.data.toList,by cases bs;rfl,hkey.symm,by simpa using hs⟩
    ·simp[keyOf,hks,mapKey,hs]at hkey
   | _=>simp[keyOf,hks,mapKey]at hkey
  have hls:=j7 s hsl
  rw[hlk]at hls
  have hls2:=hls.symm
  simp only[Bool.and_eq_true,Bool.not_eq_true',decide_eq_false_iff_not]at hls2
  obtain⟨hhs,hsp⟩:=hls2
  -- the step is known
  obtain⟨q,hq⟩:=hl0.more (p:=p++[s]) (by
   rw[List.nodup_append]
   exact⟨j3,by simp,fun x hx y hy e=>hsp (by simp only[List.mem_singleton]at hy;subst hy;subst e;exact hx)⟩) (fun x hx=>by
   rcases List.mem_append.1 hx with hx | hx
   ·exact j5 x hx
   ·simp only[List.mem_singleton]at hx;subst hx;exact⟨hsl,hhs⟩)
  have hfold:=rangeM_some hr hq
  rw[List.append_assoc,List.foldlM_append,j4]at hfold
  obtain⟨y1,hst⟩:∃ y1,step s y=some y1:=by
   have:([s]++q).foldlM (fun y s=>step s y) y=some r:=hfold
   rw[List.singleton_append,List.foldlM_cons]at this
   obtain⟨y1,h1,_⟩:=Option.bind_eq_some_iff.1 this
   exact⟨y1,h1⟩
  have hp2:(p++[s]).foldlM (fun y s=>step s y) y0=some y1:=by
   rw[List.foldlM_append,j4]
   show ([s].foldlM (fun y s=>step s y) y:Option Y)=some y1
   rw[List.foldlM_cons,hst];rfl
  have hvrep:∀ μ,Rep μ (f s) v:=fun μ=>by
   obtain⟨q1,q2,q3⟩:=hv s hsl
   unfold flatR at hvy
   obtain⟨d,u1,u2⟩:=Option.map_eq_some_iff.1 hvy
   have h5:=hat (dDat z0')
   rw[q3,← u2]at h5
   have:d=f s:=dDat_inj (flat_unV u1) q2 h5.symm
   subst this
   exact rep_unV u1
  refine wp1 c3 (u:=.tuple #[.bool true,.string ⟨⟨s⟩⟩,v]) (w':=w2) ?_ (wp1 d3 (u:=.bool true) (w':=w2) ?_ ?_)
  ·unfold execOp
   simp only[c1,hevi hit]
   rw[Sem.run_bind,hrn]
   rfl
  ·have hev:(a'.put nxt.dst (.tuple #[.bool true,.string ⟨⟨s⟩⟩,v])).eval (.tmp t31)=.tuple #[.bool true,.string ⟨⟨s⟩⟩,v]:=by
    show (a'.put nxt.dst (.tuple #[.bool true,.string ⟨⟨s⟩⟩,v])).tmps.getD t31 undef=_
    rw[c2,put_at (by rw[j2];exact k3),if_pos rfl]
   unfold execOp
   simp only[d1,hev]
   rfl
  let a3':Act:=(a'.put nxt.dst (.tuple #[.bool true,.string ⟨⟨s⟩⟩,v])).put ex.dst (.bool true)
  have ga3:∀ t,a3'.tmps.getD t undef=if t32=t then .bool true else if t31=t then .tuple #[.bool true,.string ⟨⟨s⟩⟩,v]else a'.tmps.getD t undef:=fun t=>by
   simp only[a3',d2,c2]
   rw[put_at (by rw[put_size,j2];exact k4),put_at (by rw[j2];exact k3)]
  show (Code.seq (.cond (.tmp t32) .skip (.exit b)) bd).wp P _ a3' w2
  refine wp_seq (wp_cond_split (t:=true) (by show a3'.tmps.getD t32 undef=_;rw[ga3,if_pos rfl]) (fun _=>wp_skip ?_) fun h=>by cases h)
  show bd.wp P _ a3' w2
  have nor2:∀ cs e z,w'.heap[r0]?≠some (.cells cs e z):=fun cs e z hh=>by
   obtain⟨es,clock,since,seen,c0,_,_,_,_,hrr,_⟩:=j6
   rw[hrr]at hh;cases hh
  have H2:Hp own' (lookO (O y)) (·∈L y) γ' w2:=j8.turn hgr2 (fun r hr=>by injection hr with hr;subst hr;exact⟨fun h=>h.2 rfl,nor2⟩)
  have big2:∀ q,w2.heap.size≤q→own' q:=fun q hq=>by
   have h1:r0 < q:=by rw[hsz2]at hq;omega
   exact⟨⟨Rr.big q (by have:=j11.size;rw[hsz2]at hq;omega),by have:bm' < r0:=bml;omega⟩,by omega⟩
  have fr3:∀ t,RepA γ' (look (rmS tm t30 F O L nx mval ival y).fr t) (a3'.tmps.getD t undef):=fun t=>by
   rw[ga3]
   by_cases h2:t32=t
   ·subst h2
    simp only[look]
    rw[if_neg k8,if_neg (fun e=>k11 e.symm),hF1 y t32 (by simp)]
    simp only[RepA]
   ·rw[if_neg h2]
    by_cases h3:t31=t
    ·subst h3
     simp only[look]
     rw[if_neg k7,if_neg (fun e=>k10 e.symm),hF1 y t31 (by simp)]
     simp only[RepA]
    ·rw[if_neg h3];exact j10 t
  let V2:Env:=⟨own',⟨γ',a3'.defers⟩,w2⟩
  have hRS2:RS V2 N (rmS tm t30 F O L nx mval ival y) γ' a3' w2 :=
   ⟨⟨rfl,by simp only[a3',put_size];exact j2,fun t=>fr3 t,(fun t j want h=>by cases h),H2,Base.refl _ _,big2,Keep.refl _ _ _ _⟩,j9⟩
  have hent:EntAt P bd γ' a3' w2 (.tup [.str s,f s]):=by
   obtain⟨oe,o1,o2,o3⟩:=be
   refine⟨oe,.tuple #[.string ⟨⟨s⟩⟩,v],o1,o3,?_,?_⟩
   ·have hev:a3'.eval (.tmp t30)=ival:=by
     show a3'.tmps.getD t30 undef=ival
     rw[ga3,if_neg k11,if_neg k10];exact hit
    unfold execOp
    simp only[o2,hev]
    rw[Sem.run_bind,hen]
    rfl
   ·simp only[Rep]
    exact⟨[_,_],rfl,by simp only[RepL,Rep];exact⟨_,_,rfl,rfl,_,_,rfl,hvrep _,rfl⟩⟩
  refine wp_mono (B mval ival y s y1 hst V2 γ' a3' w2 hRS2 hent) ?_
  rintro ex4 a4 w4 ⟨st4,γ4',h41,h42,h43⟩
  obtain rfl:ex4=.normal:=by cases ex4<;>first | rfl | cases h42
  obtain⟨γ4,hr4⟩:=h43 V2 N γ4' a4 w4 h41
  have R4:=hr4.1
  have B4:Base own' w2 w4:=R4.base
  have K4:Keep own' w2 ⟨γ',a3'.defers⟩ γ4:=R4.mu
  have hr4b:w4.heap[bm']?=w2.heap[bm']?:=B4.block _ (by have:=j13;rw[hsz2];have:bm' < r0:=bml;omega) (fun hh=>hh.1.2 rfl)
  have hr4r:w4.heap[r0]?=w2.heap[r0]?:=B4.block _ (by rw[hsz2];exact j13) (fun hh=>hh.2 rfl)
  have hrg4:w4.ranges P k flatR bm' r0 n D0 (fun x=>left x&&!x.sameKey (.string s)) cnt':=by
   obtain⟨es,clock,since,seen,c0,q1,q2,q3,q4,q5,q6⟩:=hrg2
   exact⟨es,clock,since,seen,c0,by rw[hr4b];exact q1,q2,q3,q4,by rw[hr4r];exact q5,q6⟩
  have B2:Base V.own w' w2:=⟨hgr2.os,hgr2.tape,hgr2.output,hgr2.size,fun q hq hn=>hgr2.block q hq (fun e=>by injection e with e;subst e;exact hn ownr)⟩
  have le':V.w0.heap.size≤w'.heap.size:=j11.size
  have bigV:∀ q,w'.heap.size≤q→V.own q:=fun q hq=>Rr.big q (Nat.le_trans le' hq)
  have B4':Base V.own w2 w4:=⟨B4.os,B4.tape,B4.output,B4.size,fun q hq hn=>B4.block q hq (fun hh=>hn hh.1.1)⟩
  refine⟨cnt',⟨γ4,y1,p++[s],_,?_,R4.size,?_,hp2,fun x hx=>?_,hrg4,fun x hx=>?_,R4.hp,hr4.2,fun t=>R4.fr t,?_,?_,?_,fun b o v hb=>K4.le b o v (j14 b o v hb),fun i b hi16 hib=>K4.pin i b hi16 (j15 i b hi16 hib),fun q=>?_⟩,hlt⟩
  ·have:=R4.defers
   rw[this]
   show a3'.defers=_
   simp only[a3',put_defers];exact j1
  ·rw[List.nodup_append]
   exact⟨j3,by simp,fun x hx y hy e=>hsp (by simp only[List.mem_singleton]at hy;subst hy;subst e;exact hx)⟩
  ·rcases List.mem_append.1 hx with hx | hx
   ·exact j5 x hx
   ·simp only[List.mem_singleton]at hx;subst hx;exact⟨hsl,hhs⟩
  ·show (left (.string x)&&!(Lit.string x).sameKey (.string s))=_
   rw[j7 x hx]
   by_cases hxs:x=s
   ·subst hxs
    rw[WideAt.sameKey_self (KK.key (Go.WideMaps.keyOf_string_mk hks (show (⟨⟨x⟩⟩:ByteArray).size≤maxLen from hx)))]
    simp
   ·have hne:(Lit.string x)≠.string s:=fun h=>hxs (by injection h)
    rw[Maps.sameKey_ne hne]
    simp[hxs]
  ·exact j11.trans bigV (B2.trans (fun q hq=>bigV q (Nat.le_trans hgr2.size hq)) B4')
  ·refine⟨fun b o hb hn=>?_,fun b o v hb=>K4.le b o v (j12.le b o v hb),fun i b hi16 hib=>K4.pin i b hi16 (j12.pin i b hi16 hib)⟩
   have hb2:b < w2.heap.size:=by rw[hsz2];omega
   exact(K4.mu b o hb2 fun hh=>hn hh.1.1).trans (j12.mu b o hb hn)
  ·have:=B4.size;rw[hsz2]at this;omega
  ·have hb2:bm' < w2.heap.size:=by rw[hsz2];have:bm' < r0:=bml;omega
   exact(K4.mu bm' q hb2 fun hh=>hh.1.2 rfl).trans (j16 q)
def opMv:Op→Option Nat
 | .move (.tmp t)=>some t
 | _=>none
def opRg:Op→Option (Nat×Nat)
 | .range T (.tmp t)=>some (T,t)
 | _=>none
def opNx:Op→Option Nat
 | .next (.tmp t) false=>some t
 | _=>none
def opEx:Op→Option Nat
 | .extract (.tmp t) 0=>some t
 | _=>none
def opEn:Op→Option Nat
 | .entry (.tmp t)=>some t
 | _=>none
theorem opMv_some {o:Op} {t:Nat} (h:opMv o=some t):o=.move (.tmp t):=by
 unfold opMv at h;split at h
 ·injection h with h;rw[h]
 ·cases h
theorem opRg_some {o:Op} {T t:Nat} (h:opRg o=some (T,t)):o=.range T (.tmp t):=by
 unfold opRg at h;split at h
 ·injection h with h;injection h with h1 h2;rw[h1,h2]
 ·cases h
theorem opNx_some {o:Op} {t:Nat} (h:opNx o=some t):o=.next (.tmp t) false:=by
 unfold opNx at h;split at h
 ·injection h with h;rw[h]
 ·cases h
theorem opEx_some {o:Op} {t:Nat} (h:opEx o=some t):o=.extract (.tmp t) 0:=by
 unfold opEx at h;split at h
 ·injection h with h;rw[h]
 ·cases h
theorem opEn_some {o:Op} {t:Nat} (h:opEn o=some t):o=.entry (.tmp t):=by
 unfold opEn at h;split at h
 ·injection h with h;rw[h]
 ·cases h
def rmB:Code→Code
 | .seq _ (.block _ (.loop (.seq _ (.seq _ bd))))=>bd
 | c=>c
def isTmp (o:Operand) (t:Nat):Bool:=match o with
 | .tmp k=>Nat.beq k t
 | _=>false
def rmOk (c:Code) (tm t29 t30 t31 t32 T:Nat):Bool:=match c with
 | .seq (.region _ ops0 false) (.block b (.loop (.seq (.region _ ops1 false) (.seq (.cond o .skip (.exit b')) bd))))=>(match ops0.toList,ops1.toList with
  | [mv,rg],[nxt,ex]=>isTmp o t32&&(Nat.beq b' b&&(decide (opMv mv.op=some tm∧mv.dst=some t29∧mv.guard=none∧opRg rg.op=some (T,t29)∧rg.dst=some t30∧rg.guard=none) &&
    (decide (opNx nxt.op=some t30∧nxt.dst=some t31∧nxt.guard=none∧opEx ex.op=some t31∧ex.dst=some t32∧ex.guard=none) &&
    (match opE bd with | some oe=>decide (opEn oe.op=some t30∧oe.guard=none) | none=>false))))
  | _,_=>false)
 | _=>false
section
variable {R Y:Type} {W:R→Way} {c:Code} {st:St} {ev:D}
theorem JEn.sg_m {tms:List (Nat×Tm)} {cx:List (Nat×List Nat×List Nat)} {t:Tr W} {h}:(JEn.sg (P:=P) (N:=N) (c:=c) (st:=st) (ev:=ev) tms cx t h).m=t.run:=rfl
theorem JEn.sc_m {S:Y→St} {A:JEn P N (fstC c) st ev (wy S W)} {B:∀ y,JD P N (suf 1 c) (S y) W} {hc}:(JEn.sc S A B hc).m=A.m.bind (onS fun y=>(B y).m):=rfl
theorem JEn.bk_m {A:JEn P N (blkC c) st ev (lv (blkI c) W)} {hc}:(JEn.bk A hc).m=A.m:=rfl
end
noncomputable def JD.rm {R Y:Type} {W:R→Way} {c:Code} {st:St} (tm t29 t30 t31 t32 T k e n mid nx:Nat) (z0:D) (h:List UInt8→Bool) (f:List UInt8→D) (F:Y→List (Nat×AV)) (O:Y→List (Nat×Ob)) (L:Y→List Nat) (y0:Y)
  (w0:Weak st (rmH P tm mid k e n h f F O L nx y0))
  (B:∀ (mv iv:Value) (y:Y) (s:List UInt8),JEn P N (rmB c) (rmS tm t30 F O L nx mv iv y) (.tup [.str s,f s]) (wy (fun y'=>rmS tm t30 F O L nx mv iv y') (fun r:Empty=>r.elim)))
  (cx:List (Nat×List Nat×List Nat)) (C:Y→Tr W)
  (hB:∀ mv iv y s,(B mv iv y s).m=(B undef undef y s).m:=by intro mv iv y s;simp only[↓JEn.sg_m,↓JEn.sc_m,↓JEn.bk_m,↓JD.sg_m,↓JD.sq_m,↓JD.sc_m,↓JD.bk_m,↓JD.lp_m,↓JD.cd_m,↓JD.se_m,onE_r,↓Tr.run,↓Tr.run_nd,↓Tr.run_c3,↓Tr.run_c2,↓Tr.run_nx,↓onS,bind_ite,Option.bind_some,Option.bind_none,obR])
  (hC:∀ (y:Y) (K:Exit→St→Prop),K .normal (cutX cx .normal (rmH P tm mid k e n h f F O L nx y))=(C y).Hold K:=by intro y K;refine id ?_;kernel_rfl)
  (hok:rmOk c tm t29 t30 t31 t32 T=true:=by refine id ?_;kernel_rfl)
  (hd:decide (t29 < N∧t30 < N∧t31 < N∧t32 < N∧tm≠t29∧tm≠t30∧tm≠t31∧tm≠t32∧t30≠t29∧t31≠t30∧t32≠t30∧t32≠t31∧mid < nx)=true:=by refine id ?_;kernel_rfl) (hT:gmT P T=some (k,e,z0):=by refine id ?_;kernel_rfl)
  (hF:∀ y,((F y).all fun p=>!Nat.beq p.1 tm&&(!Nat.beq p.1 t29&&(!Nat.beq p.1 t30&&(!Nat.beq p.1 t31&&(!Nat.beq p.1 t32&&noId mid p.2)))))=true:=by intro y;refine id ?_;kernel_rfl)
  (hO:∀ y,((O y).all fun p=>!Nat.beq p.1 mid&&noIdO mid p.2)=true:=by intro y;refine id ?_;kernel_rfl):JD P N c st W where
 m:=(rangeM n h (fun s y=>(B undef undef y s).m.bind onN) y0).bind fun y=>(C y).run
 j:=fun V x hx K hk=>by
  obtain⟨r,hr,hxr⟩:=Option.bind_eq_some_iff.1 hx
  unfold rmOk at hok
  split at hok
  ·rename_i i0 ops0 b i1 ops1 o b' bd
   split at hok
   ·rename_i mv rg nxt ex h0 h1
    simp only[Bool.and_eq_true,decide_eq_true_eq]at hok
    obtain⟨q1,q2,⟨a1,a2,a3,b1,b2,b3⟩,⟨c1,c2,c3,d1,d2,d3⟩,q3⟩:=hok
    have e0:ops0=#[mv,rg]:=Array.toList_inj.1 h0
    have e1:ops1=#[nxt,ex]:=Array.toList_inj.1 h1
    have e2:o=.tmp t32:=by
     unfold isTmp at q1
     split at q1
     ·rw[Nat.eq_of_beq_eq_true q1]
     ·cases q1
    have e3:b'=b:=Nat.eq_of_beq_eq_true q2
    split at q3
    ·rename_i oe hoe
     obtain⟨u1,u2⟩:=of_decide_eq_true q3
     refine tri_range (bd:=bd) (T:=T) (e:=e) (by rw[e0,e1,e2,e3]) (opMv_some a1) a2 a3 (opRg_some b1) b2 b3 (opNx_some c1) c2 c3 (opEx_some d1) d2 d3 ⟨oe,hoe,opEn_some u1,u2⟩ hd hT F O L y0 w0 hF hO
      (fun s y=>(B undef undef y s).m.bind onN) ?_ hr ?_
     ·intro mv iv y s y1 hst V γ a w hrs hen
      obtain⟨z,hz,hz2⟩:=Option.bind_eq_some_iff.1 hst
      have hz3:z=.inl y1:=by
       cases z with
       | inl z=>injection hz2 with hz2;rw[hz2]
       | inr z=>cases z
      subst hz3
      refine(B mv iv y s).j V (.inl y1) (by rw[hB];exact hz) _ ?_ γ a w hrs hen
      rintro ex s' ⟨g1,g2⟩
      exact⟨g1,g2⟩
     ·intro γ a w hrs2
      have h1:K .normal (cutX cx .normal (rmH P tm mid k e n h f F O L nx r)):=by rw[hC r K];exact Tr.hold hk hxr
      exact⟨_,γ,rs_cutX hrs2 cx,h1⟩
    ·cases q3
   ·cases hok
  ·cases hok
abbrev cG {α:Type} (e:α→D) (F:List UInt8→α):List UInt8→D:=fun q=>e (F q)
theorem gm_put {α:Type} {e:α→D} {F:List UInt8→α} {f:List UInt8→D} {s:List UInt8} {v:α} {d:D} (h:∀ q,f q=cG e F q) (hd:d=e v):∀ q,(if q=s then d else f q)=cG e (fun q=>if q=s then v else F q) q:=fun q=>by
 by_cases hq:q=s
 ·show (if q=s then d else f q)=e (if q=s then v else F q)
  rw[if_pos hq,if_pos hq,hd]
 ·show (if q=s then d else f q)=e (if q=s then v else F q)
  rw[if_neg hq,if_neg hq];exact h q
end Go.Av
namespace Go.Av
open Go.RowKit Go.Base
variable {P:Program} {V:Env} {N:Nat} {γ γ':G} {w w':World} {own:Nat→Prop} {hp:Nat→Option Ob} {live:Nat→Prop}
mutual
def noTok (T:Nat):AV→Bool
 | .ap _ _ _ r=>(match r with | .nl=>true | .tok t _=>!Nat.beq t T)
 | .fn _ c=>noTokL T c
 | .agg l=>noTokL T l
 | .tup l=>noTokL T l
 | _=>true
def noTokL (T:Nat):List AV→Bool
 | []=>true
 | x :: l=>noTok T x&&noTokL T l
end
mutual
theorem RepA.noTok {T:Nat} (hm:γ'.μ=γ.μ) (hi:γ'.ι=γ.ι) (ht:∀ t,t≠T→γ'.τ t=γ.τ t):∀ {x:AV} {v:Value},noTok T x=true→RepA γ x v→RepA γ' x v
 | .d x,v,_,h=>by simp only[RepA]at h ⊢;rw[hm];exact h
 | .ap sz n f r,v,hn,h=>by
  simp only[RepA]at h ⊢
  rw[hm]
  refine⟨h.1,?_⟩
  cases r with
  | nl=>exact h.2
  | tok t e =>
   simp only[Go.Av.noTok]at hn
   have:=h.2
   simp only[RightOk]at this ⊢
   rw[ht t (beq_ne hn)];exact this
 | .ptr d o,v,hn,h=>by simp only[RepA]at h ⊢;rw[hi];exact h
 | .ep x o,v,_,h=>by simp only[RepA]at h ⊢;rw[hm];exact h
 | .pa d s i o,v,hn,h=>by simp only[RepA]at h ⊢;rw[hi];exact h
 | .arr d s n,v,hn,h=>by simp only[RepA]at h ⊢;rw[hi];exact h
 | .vec d s n,v,hn,h=>by simp only[RepA]at h ⊢;rw[hi];exact h
 | .pv d s i o,v,hn,h=>by simp only[RepA]at h ⊢;rw[hi];exact h
 | .mp d,v,hn,h=>by simp only[RepA]at h ⊢;rw[hi];exact h
 | .fn f c,v,hn,h=>by
  simp only[RepA]at h ⊢
  obtain⟨vs,e,h2⟩:=h
  exact⟨vs,e,RepAL.noTok hm hi ht (by simpa only[Go.Av.noTok] using hn) h2⟩
 | .nilp,v,_,h=>by simpa only[RepA] using h
 | .nilf,v,_,h=>by simpa only[RepA] using h
 | .raw u,v,_,h=>by simpa only[RepA] using h
 | .agg l,v,hn,h=>by
  simp only[RepA]at h ⊢
  obtain⟨vs,e,h2⟩:=h
  exact⟨vs,e,RepAL.noTok hm hi ht (by simpa only[Go.Av.noTok] using hn) h2⟩
 | .tup l,v,hn,h=>by
  simp only[RepA]at h ⊢
  obtain⟨vs,e,h2⟩:=h
  exact⟨vs,e,RepAL.noTok hm hi ht (by simpa only[Go.Av.noTok] using hn) h2⟩
 | .any,v,_,_=>by simp only[RepA]
theorem RepAL.noTok {T:Nat} (hm:γ'.μ=γ.μ) (hi:γ'.ι=γ.ι) (ht:∀ t,t≠T→γ'.τ t=γ.τ t):∀ {x:List AV} {v:List Value},noTokL T x=true→RepAL γ x v→RepAL γ' x v
 | [],v,_,h=>by simpa only[RepAL] using h
 | x :: l,v,hn,h=>by
  simp only[noTokL,Bool.and_eq_true]at hn
  simp only[RepAL]at h ⊢
  obtain⟨u,t,e,h1,h2⟩:=h
  exact⟨u,t,e,RepA.noTok hm hi ht hn.1 h1,RepAL.noTok hm hi ht hn.2 h2⟩
end
def noTokO (T:Nat):Ob→Bool
 | .cells l=>noTokL T l
 | .vals _ _ (some (_,a))=>noTok T a
 | _=>true
theorem RepO.noTok {T:Nat} (hm:γ'.μ=γ.μ) (hi:γ'.ι=γ.ι) (ht:∀ t,t≠T→γ'.τ t=γ.τ t) {o:Ob} {x:Go.Obj} (hn:noTokO T o=true) (h:RepO γ o x):RepO γ' o x:=by
 cases o with
 | cells l=>obtain⟨vs,e,h1,h2,h3⟩:=h;exact⟨vs,e,h1,RepAL.noTok hm hi ht hn h2,h3⟩
 | arr sz n f =>
  obtain⟨vs,e,h1,h2,h3⟩:=h
  exact⟨vs,e,h1,h2,fun i hi'=>by obtain⟨u,h4,h5⟩:=h3 i hi';exact⟨u,by rw[hm];exact h4,h5⟩⟩
 | vals n vs x =>
  obtain⟨us,e,h1,h2,h3⟩:=h
  refine⟨us,e,h1,h2,fun i hi'=>?_⟩
  obtain⟨u,h4,h5,h6⟩:=h3 i hi'
  refine⟨u,h4,h5,?_⟩
  cases x with
  | none=>exact h6
  | some ja=>exact⟨h6.1,fun e=>(h6.2 e).noTok hm hi ht hn⟩
 | _=>exact h
theorem ObjAt.noTok {T:Nat} (hm:γ'.μ=γ.μ) (hi:γ'.ι=γ.ι) (ht:∀ t,t≠T→γ'.τ t=γ.τ t) {o:Ob} {p:Pl} (hn:noTokO T o=true) (h:ObjAt γ w o p):ObjAt γ' w o p:=by
 cases p with
 | blk b=>obtain⟨x,h1,h2⟩:=h;exact⟨x,h1,h2.noTok hm hi ht hn⟩
 | vec v e sz=>obtain⟨n,f,xs,h1,h0,h2,h3⟩:=h;exact⟨n,f,xs,h1,h0,h2,by rw[hm];exact h3⟩
theorem look_tok {F:List (Nat×AV)} {T t:Nat} (h:(F.all fun p=>Go.Av.noTok T p.2)=true):Go.Av.noTok T (look F t)=true:=by
 rcases mem_of_look (l:=F) (t:=t) with e | e
 ·rw[e];rfl
 ·exact(List.all_eq_true.1 h) _ e
theorem Hp.retok {T:Nat} {O:List (Nat×Ob)} (H:Hp own (lookO O) live γ w) (hm:γ'.μ=γ.μ) (hi:γ'.ι=γ.ι) (ht:∀ t,t≠T→γ'.τ t=γ.τ t) (hO:(O.all fun p=>noTokO T p.2)=true) (hT:¬ live T):Hp own (lookO O) live γ' w:=by
 have hne:∀ {t},live t→t≠T:=fun h e=>hT (e ▸ h)
 refine⟨by rw[hm];exact H.fz,fun id o h ho=>?_,by rw[hi];exact H.inj,fun t v e sz hl hq=>?_,fun s t v u hs hl hne' h1 h2=>H.tinj s t v u hs hl hne' (by rw[← ht s (hne hs)];exact h1) (by rw[← ht t (hne hl)];exact h2)⟩
 ·obtain⟨p,h1,h2,h3⟩:=H.obj id o h ho
  exact⟨p,by rw[hi];exact h1,h2.noTok hm hi ht ((List.all_eq_true.1 hO) _ (lookO_mem h)),by rw[hm];exact h3⟩
 ·rw[ht t (hne hl)]at hq
  obtain⟨n,xs,q1,q2⟩:=H.tok t v e sz hl hq
  exact⟨n,xs,q1,by rw[hm,hi];exact q2⟩
theorem Hp.addTok (H:Hp own hp live γ w) {T:Nat} {v:Value} {te sz n:Nat} {xs:List Value} (hτ:γ.τ T=some (v,te,sz)) (ow:w.ownsRow 0 te sz v n xs)
  (h1:∀ g,v.ownBlock=some g→own g∧(∀ k,n * sz≤k→γ.μ g k=none)∧∀ id o p,hp id=some o→o.ok=true→γ.ι id=some p→p.block≠some g)
  (h2:∀ t u,live t→γ.τ t=some u→v.ownBlock=none∨v.ownBlock≠u.1.ownBlock):Hp own hp (fun t=>t=T∨live t) γ w:=by
 refine⟨H.fz,H.obj,H.inj,fun t u e z hl hq=>?_,fun s t u u' hs hl hne hq hq'=>?_⟩
 ·rcases hl with rfl | hl
  ·rw[hτ]at hq
   injection hq with hq
   simp only[Prod.mk.injEq]at hq
   obtain⟨rfl,rfl,rfl⟩:=hq
   exact⟨n,xs,ow,h1⟩
  ·exact H.tok t u e z hl hq
 ·rcases hs with rfl | hs
  ·rcases hl with rfl | hl
   ·exact absurd rfl hne
   ·rw[hτ]at hq;injection hq with hq;subst hq
    exact h2 t u' hl hq'
  ·rcases hl with rfl | hl
   ·rw[hτ]at hq';injection hq' with hq';subst hq'
    rcases h2 s u hs hq with h | h
    ·cases hb:u.1.ownBlock with
     | none=>exact .inl rfl
     | some g=>exact .inr fun e=>by rw[← e]at h;cases h
    ·exact .inr fun e=>h e.symm
   ·exact H.tinj s t u u' hs hl hne hq hq'
theorem Hp.sub (H:Hp own hp live γ w) {hp':Nat→Option Ob} {live':Nat→Prop} (h1:∀ j o,hp' j=some o→hp j=some o) (h2:∀ t,live' t→live t):Hp own hp' live' γ w :=
 ⟨H.fz,fun id o h=>H.obj id o (h1 id o h),fun i j oi oj p q hi hj=>H.inj i j oi oj p q (h1 i oi hi) (h1 j oj hj),fun t v e sz hl hq =>
  let ⟨n,xs,q1,q2⟩:=H.tok t v e sz (h2 t hl) hq
  ⟨n,xs,q1,fun g hg=>⟨(q2 g hg).1,(q2 g hg).2.1,fun id o p h=>(q2 g hg).2.2 id o p (h1 id o h)⟩⟩,fun s t v u hs ht=>H.tinj s t v u (h2 s hs) (h2 t ht)⟩
theorem Hp.frozen (H:Hp own hp live γ w) {b:Nat} (hob:∀ id o p,hp id=some o→o.ok=true→γ.ι id=some p→p.block≠some b) (htk:∀ t u,live t→γ.τ t=some u→u.1.ownBlock≠some b)
  {ν:Nat→Nat→Option Value} (le:LeM γ.μ ν) (hν:∀ c k,c≠b→ν c k=γ.μ c k) (fz:FzM ν w):Hp own hp live ⟨ν,γ.ι,γ.τ⟩ w:=by
 have leG:LeG γ ⟨ν,γ.ι,γ.τ⟩:=⟨le,fun _ _ h=>h,fun _ _ h=>h⟩
 refine⟨fz,fun id o h ho=>?_,H.inj,fun t v e sz hl hq=>?_,H.tinj⟩
 ·obtain⟨p,h1,h2,h3⟩:=H.obj id o h ho
  exact⟨p,h1,h2.kept leG fun _ _=>rfl,fun c hc=>⟨(h3 c hc).1,fun k=>(hν c k (fun e=>hob id o p h ho h1 (by rw[hc,e]))).trans ((h3 c hc).2 k)⟩⟩
 ·obtain⟨n,xs,q1,q2⟩:=H.tok t v e sz hl hq
  exact⟨n,xs,q1,fun g hg=>⟨(q2 g hg).1,fun k hk=>(hν g k (fun e=>htk t _ hl hq (by rw[hg,e]))).trans ((q2 g hg).2.1 k hk),(q2 g hg).2.2⟩⟩
section
variable {α:Type} [Inhabited α] {te sz n:Nat} {e:α→D}
def ownB (V:Env) (b:Nat) (vs:Nat→Value) (n:Nat):Nat→Prop:=fun g=>V.own g∧g≠b∧∀ i,i < n→(vs i).ownBlock≠some g
def ownR (V:Env) (vs:Nat→Value) (n j:Nat):Nat→Prop:=fun g=>V.own g∧∀ i,i < n→i≠j→(vs i).ownBlock≠some g
structure Fam (V:Env) (γ:G) (w:World) (te sz n:Nat) (e:α→D) (b:Nat) (vs:Nat→Value) (rows:List (List α)):Prop where
 cells:∃ us et,w.heap[b]?=some (.cells us et (0,0))∧us.size=n∧∀ i,i < n→us[i]?=some (vs i)∧(vs i).oneCell'=true
 own:V.own b
 mu:∀ k,γ.μ b k=none
 row:∀ i,i < n→∃ xs,w.ownsRow 0 te sz (vs i) (rows.getD i []).length xs∧Rep γ.μ (eSl sz e (rows.getD i [])) (vs i)∧∀ g,(vs i).ownBlock=some g→V.own g∧g≠b∧∀ k,(rows.getD i []).length * sz≤k→γ.μ g k=none
 inj:∀ i j,i < n→j < n→i≠j→(vs i).ownBlock=none∨(vs i).ownBlock≠(vs j).ownBlock
abbrev rwS (tl L n te sz T:Nat) (e:α→D) (vs:Nat→Value) (j:Nat) (l:List α) (F:List (Nat×AV)) (O:List (Nat×Ob)) (Lv:List Nat) (nx:Nat):St:=⟨(tl,.arr L 1 n) :: F,(L,.vals n vs (some (j,.ap sz l.length (cF e l) (.tok T te)))) :: O,T :: Lv,nx⟩
structure RwI (V:Env) (N:Nat) (te sz n:Nat) (e:α→D) (L:Nat) (st:St) (rows:List (List α)) (γ:G) (a:Act) (w:World):Prop where
 ex:∃ b vs,γ.ι L=some (.blk b)∧Fam V γ w te sz n e b vs rows∧RS ⟨ownB V b vs n,⟨γ,a.defers⟩,w⟩ N st γ a w
 df:a.defers=V.μ0.df
 base:Base V.own V.w0 w
 big:∀ b,V.w0.heap.size≤b→V.own b
 mu:Keep V.own V.w0 V.μ0 γ
 len:rows.length=n
theorem rw_start {tl L:Nat} {F:List (Nat×AV)} {O:List (Nat×Ob)} {Lv:List Nat} {nx:Nat} {a:Act} (hO:(O.all fun p=>!Nat.beq p.1 L)=true) (R:RS V N ⟨(tl,.arr L 1 n) :: F,(L,.vals n (fun _=>.slice none 0 0) none) :: O,Lv,nx⟩ γ a w) :
  RwI V N te sz n e L ⟨(tl,.arr L 1 n) :: F,O,Lv,nx⟩ (List.replicate n ([]:List α)) γ a w:=by
 obtain⟨b,x,h1,h2,⟨us,et,rfl,h3,h4⟩,h5,h6⟩:=R.1.hp.blk (id:=L) (o:=.vals n (fun _=>.slice none 0 0) none) (by simp[lookO]) rfl
 have hid:∀ j o,lookO O j=some o→j≠L:=fun j o h=>beq_ne ((List.all_eq_true.1 hO) _ (lookO_mem h))
 have hold:∀ j o,lookO O j=some o→lookO ((L,Ob.vals n (fun _=>.slice none 0 0) none) :: O) j=some o:=fun j o h=>by rw[lookO_cons,if_neg (hid j o h)];exact h
 have hL:lookO ((L,Ob.vals n (fun _=>.slice none 0 0) none) :: O) L=some (.vals n (fun _=>.slice none 0 0) none):=by simp[lookO]
 have g0:∀ i,i < n→(List.replicate n ([]:List α)).getD i []=[]:=fun i hi=>by simp[List.getD_eq_getElem?_getD,List.getElem?_replicate,hi]
 refine⟨⟨b,fun _=>.slice none 0 0,h1,⟨⟨us,et,h2,h3,fun i hi=>?_⟩,h5,h6,fun i hi=>?_,fun i j _ _ _=>.inl rfl⟩,⟨⟨rfl,R.1.size,R.1.fr,(fun t j want h=>by cases h),?_,Base.refl _ _,fun k hk=>⟨R.1.big k (Nat.le_trans R.1.base.size hk),fun hb=>?_,fun i _ h=>by cases h⟩,Keep.refl _ _ _ _⟩,⟨fun id hid'=>?_⟩⟩⟩,R.1.defers,R.1.base,R.1.big,R.1.mu,by simp⟩
 ·obtain⟨u,q1,q2,q3⟩:=h4 i hi
  have q3:u=.slice none 0 0:=q3
  rw[q3]at q1
  exact⟨q1,rfl⟩
 ·rw[g0 i hi]
  refine⟨[],World.ownsRow_nil w 0 te sz,?_,fun g hg=>by cases hg⟩
  simp only[eSl,Rep]
  exact⟨none,0,rfl,Nat.le_refl _,Nat.zero_le _,fun h=>absurd h (by simp)⟩
 ·refine(R.1.hp.sub hold fun t h=>h).own_to (fun id o p b' h ho hp hb=>?_) fun t v g hl hq hg=>?_
  ·obtain⟨p',e1,e2,e3⟩:=R.1.hp.obj id o (hold id o h) ho
   rw[hp]at e1;injection e1 with e1;subst e1
   refine⟨(e3 b' hb).1,fun eb=>?_,fun i _ h=>by cases h⟩
   rcases R.1.hp.inj id L o _ p (.blk b) (hold id o h) hL ho rfl (hid id o h) hp h1 with h' | h'
   ·rw[hb]at h';cases h'
   ·exact h' (by rw[hb,eb];rfl)
  ·obtain⟨m,xs,q1,q2⟩:=R.1.hp.tok t v.1 v.2.1 v.2.2 hl hq
   exact⟨(q2 g hg).1,fun eb=>(q2 g hg).2.2 L _ (.blk b) hL rfl h1 (by rw[eb];rfl),fun i _ h=>by cases h⟩
 ·subst hb
  have:=(Array.getElem?_eq_some_iff.1 h2).1
  have hk':w.heap.size≤k:=hk
  omega
 ·obtain⟨f1,f2,f3,f4⟩:=R.2.ok id hid'
  refine⟨f1,f2,?_,f4⟩
  cases ho:lookO O id with
  | none=>rfl
  | some o=>rw[hold id o ho]at f3;cases f3
theorem rw_round {c:Code} {tl L T nx nx' j:Nat} {F F':List (Nat×AV)} {O O':List (Nat×Ob)} {Lv Lv':List Nat} {a:Act} {rows:List (List α)} {l':List α} {q:Exit→Bool}
  (hj:j < n) (hF:(F.all fun p=>noTok T p.2)=true) (hO:(O.all fun p=>!Nat.beq p.1 L&&noIdO L p.2)=true) (hO2:(O.all fun p=>noTokO T p.2)=true) (hT:T ∉ Lv) (hx:L < nx∧T < nx)
  (hO':(O'.all fun p=>!Nat.beq p.1 L&&noIdO L p.2)=true) (hT':T ∉ Lv')
  (I:RwI V N te sz n e L ⟨(tl,.arr L 1 n) :: F,O,Lv,nx⟩ rows γ a w)
  (hrun:∀ (V1:Env) (vs:Nat→Value) (γ1:G),RS V1 N (rwS tl L n te sz T e vs j (rows.getD j []) F O Lv nx) γ1 a w→c.wp P (Post V1 N fun ex s=>q ex=true∧Weak s (rwS tl L n te sz T e vs j l' F' O' Lv' nx')) a w) :
  c.wp P (fun ex a' w'=>q ex=true∧∃ γ',RwI V N te sz n e L ⟨(tl,.arr L 1 n) :: F',O',Lv',nx'⟩ (rows.set j l') γ' a' w') a w:=by
 obtain⟨⟨b,vs,hι,Fm,R⟩,df,base,big,mu,hlen⟩:=I
 obtain⟨xs,ow,rep,blk⟩:=Fm.row j hj
 let γ1:G:=⟨γ.μ,γ.ι,fun t=>if t=T then some (vs j,te,sz)else γ.τ t⟩
 have hτT:γ1.τ T=some (vs j,te,sz):=if_pos rfl
 have hτo:∀ t,t≠T→γ1.τ t=γ.τ t:=fun t h=>if_neg h
 have H1:Hp (ownB V b vs n) (lookO O) (·∈Lv) γ1 w:=R.1.hp.retok (T:=T) rfl rfl hτo hO2 hT
 obtain⟨us,et,hbk,hus,hcell⟩:=Fm.cells
 have H2:Hp (ownR V vs n j) (lookO ((L,.vals n vs (some (j,.ap sz (rows.getD j []).length (cF e (rows.getD j [])) (.tok T te)))) :: O)) (·∈Lv) γ1 w :=
  H1.back rfl rfl (fun _ _=>rfl) hι hO (fun k hk=>⟨⟨hk.1,fun i hi _=>hk.2.2 i hi⟩,hk.2.1⟩)
   ⟨⟨Fm.own,fun i hi _ eb=>by obtain⟨_,_,_,h⟩:=Fm.row i hi;exact(h b eb).2.1 rfl⟩,Fm.mu⟩
   ⟨_,hbk,us,et,rfl,hus,fun i hi=>⟨vs i,(hcell i hi).1,(hcell i hi).2,fun _=>rfl,fun ei=>by
    subst ei
    simp only[RepA]
    exact⟨rep,.inl hτT⟩⟩⟩
 have H3:Hp (ownR V vs n j) (lookO ((L,.vals n vs (some (j,.ap sz (rows.getD j []).length (cF e (rows.getD j [])) (.tok T te)))) :: O)) (·∈T :: Lv) γ1 w:=by
  have:=H2.addTok hτT ow (fun g hg=>⟨⟨(blk g hg).1,fun i hi hne eb=>?_⟩,(blk g hg).2.2,fun id o p hid ho hp eb=>?_⟩) (fun t u hl hq=>?_)
  ·have e2:(fun t=>t=T∨t∈Lv)=(·∈T :: Lv):=by funext t;simp
   rw[e2]at this;exact this
  ·rcases Fm.inj j i hj hi (fun e=>hne e.symm) with h | h
   ·rw[hg]at h;cases h
   ·exact h (by rw[hg,eb])
  ·rw[lookO_cons]at hid
   split at hid
   ·rename_i e1
    subst e1
    rw[show γ1.ι id=some (.blk b) from hι]at hp
    injection hp with hp;subst hp
    simp only[Pl.block,Option.some.injEq]at eb
    exact(blk g hg).2.1 eb.symm
   ·obtain⟨p',e1,e2,e3⟩:=H1.obj id o hid ho
    rw[hp]at e1;injection e1 with e1;subst e1
    exact(e3 g eb).1.2.2 j hj hg
  ·cases hb:(vs j).ownBlock with
   | none=>exact .inl rfl
   | some g =>
    refine .inr fun eb=>?_
    obtain⟨m,ys,q1,q2⟩:=H1.tok t u.1 u.2.1 u.2.2 hl hq
    exact(q2 g eb.symm).1.2.2 j hj hb
 have hlt:∀ i,i < n→∀ g,(vs i).ownBlock=some g→g < w.heap.size:=fun i hi g hg=>by obtain⟨ys,h,_⟩:=Fm.row i hi;exact(h.lt g hg).2
 have R1:RS ⟨ownR V vs n j,⟨γ1,a.defers⟩,w⟩ N (rwS tl L n te sz T e vs j (rows.getD j []) F O Lv nx) γ1 a w:=by
  refine⟨⟨rfl,R.1.size,fun t=>?_,(fun t j want h=>by cases h),H3,Base.refl _ _,fun k hk=>⟨big k (Nat.le_trans base.size hk),fun i hi _ eb=>absurd (hlt i hi k eb) (by have:w.heap.size≤k:=hk;omega)⟩,Keep.refl _ _ _ _⟩,⟨fun id hid=>?_⟩⟩
  ·have h:RepA γ (look ((tl,.arr L 1 n) :: F) t) (a.tmps.getD t undef):=R.1.fr t
   show RepA γ1 (look ((tl,.arr L 1 n) :: F) t) (a.tmps.getD t undef)
   exact RepA.noTok (γ:=γ) (γ':=γ1) (T:=T) rfl rfl hτo (look_tok (T:=T) (F:=(tl,.arr L 1 n) :: F) (by simp only[List.all_cons,hF,Bool.and_true];rfl)) h
  ·have hid:nx≤id:=hid
   obtain⟨f1,f2,f3,f4⟩:=R.2.ok id hid
   refine⟨f1,by rw[hτo id (by omega)];exact f2,?_,fun h=>?_⟩
   ·show lookO ((L,_) :: O) id=none
    rw[lookO_cons,if_neg (by omega)];exact f3
   ·rcases List.mem_cons.1 h with h | h
    ·omega
    ·exact f4 h
 refine wp_mono (hrun _ vs γ1 R1) ?_
 rintro ex a' w' ⟨s,γ2,r1,hq,hw⟩
 obtain⟨γ3,R3⟩:=hw _ N γ2 a' w' r1
 refine⟨hq,γ3,?_⟩
 have B1:Base (ownR V vs n j) w w':=R3.1.base
 have K1:Keep (ownR V vs n j) w ⟨γ1,a.defers⟩ γ3:=R3.1.mu
 have le:LeM γ.μ γ3.μ:=K1.le
 have hL:lookO ((L,Ob.vals n vs (some (j,.ap sz l'.length (cF e l') (.tok T te)))) :: O') L=some (.vals n vs (some (j,.ap sz l'.length (cF e l') (.tok T te)))):=by simp[lookO]
 have hid:∀ k o,lookO O' k=some o→k≠L:=fun k o h=>by
  have:=(List.all_eq_true.1 hO') _ (lookO_mem h)
  simp only[Bool.and_eq_true]at this
  exact beq_ne this.1
 have hold:∀ k o,lookO O' k=some o→lookO ((L,Ob.vals n vs (some (j,.ap sz l'.length (cF e l') (.tok T te)))) :: O') k=some o:=fun k o h=>by rw[lookO_cons,if_neg (hid k o h)];exact h
 obtain⟨b3,x3,i3,hx3,⟨us3,et3,rfl,sz3,cell3⟩,own3,mu3⟩:=R3.1.hp.blk (id:=L) hL rfl
 obtain⟨v3,c1,c2,_,c3⟩:=cell3 j hj
 have c3:=c3 rfl
 simp only[RepA]at c3
 obtain⟨rp3,rt3⟩:=c3
 have rowj:∃ xs,w'.ownsRow 0 te sz v3 l'.length xs∧∀ g,v3.ownBlock=some g→ownR V vs n j g∧(∀ k,l'.length * sz≤k→γ3.μ g k=none)∧(∀ id o p,lookO ((L,Ob.vals n vs (some (j,.ap sz l'.length (cF e l') (.tok T te)))) :: O') id=some o→o.ok=true→γ3.ι id=some p→p.block≠some g)∧∀ t u,t∈Lv'→γ3.τ t=some u→u.1.ownBlock≠some g:=by
  have rp3':=rp3
  simp only[Rep]at rp3'
  obtain⟨A',c',e2,_⟩:=rp3'
  rcases rt3 with h | h
  ·obtain⟨n3,ys,ow3,hg3⟩:=R3.1.hp.tok T v3 te sz (by simp) h
   obtain⟨A,cc,e1,_⟩:=own_slice ow3
   have en:n3=l'.length:=by rw[e1]at e2;injection e2
   subst en
   refine⟨ys,ow3,fun g hg=>⟨(hg3 g hg).1,(hg3 g hg).2.1,(hg3 g hg).2.2,fun t u ht hu eb=>?_⟩⟩
   rcases R3.1.hp.tinj T t (v3,te,sz) u (by simp) (by simp[ht]) (fun e=>hT' (e ▸ ht)) h hu with h' | h'
   ·have h':v3.ownBlock=none:=h'
    rw[hg]at h';cases h'
   ·exact h' (by show v3.ownBlock=_;rw[hg,eb])
  ·subst h
   have en:l'.length=0:=by injection e2 with _ e3 _;exact e3.symm
   rw[en]
   exact⟨[],World.ownsRow_nil w' 0 te sz,fun g hg=>by cases hg⟩
 obtain⟨xs3,ow3,hg3⟩:=rowj
 let vs3:Nat→Value:=fun i=>if i=j then v3 else vs i
 have v3j:vs3 j=v3:=if_pos rfl
 have v3o:∀ i,i≠j→vs3 i=vs i:=fun i h=>if_neg h
 have notR:∀ i,i < n→i≠j→∀ g,(vs i).ownBlock=some g→¬ ownR V vs n j g:=fun i hi hne g hg h=>h.2 i hi hne hg
 have keep:∀ i,i < n→i≠j→∀ g,(vs i).ownBlock=some g→w'.heap[g]?=w.heap[g]?:=fun i hi hne g hg=>B1.block g (hlt i hi g hg) (notR i hi hne g hg)
 have lset:(rows.set j l').length=n:=by rw[List.length_set];exact hlen
 have gset:∀ i,i < n→(rows.set j l').getD i []=if i=j then l' else rows.getD i []:=fun i hi=>by
  simp only[List.getD_eq_getElem?_getD,List.getElem?_set]
  by_cases e1:i=j
  ·subst e1;rw[if_pos rfl,if_pos (by omega),if_pos rfl];rfl
  ·rw[if_neg (fun e=>e1 e.symm),if_neg e1]
 refine⟨⟨b3,vs3,i3,⟨⟨us3,et3,hx3,sz3,fun i hi=>?_⟩,own3.1,mu3,fun i hi=>?_,fun i k hi hk hne=>?_⟩,⟨⟨rfl,R3.1.size,R3.1.fr,(fun t j want h=>by cases h),?_,Base.refl _ _,fun k hk=>⟨?_,?_,fun i hi eb=>?_⟩,Keep.refl _ _ _ _⟩,⟨fun id hid'=>?_⟩⟩⟩,R3.1.defers.trans df,?_,big,?_,lset⟩
 ·by_cases e1:i=j
  ·subst e1;rw[v3j];exact⟨c1,c2⟩
  ·obtain⟨u,q1,q2,q3,_⟩:=cell3 i hi
   rw[v3o i e1]
   rw[q3 e1]at q1 q2
   exact⟨q1,q2⟩
 ·rw[gset i hi]
  by_cases e1:i=j
  ·subst e1
   rw[v3j,if_pos rfl]
   exact⟨xs3,ow3,rp3,fun g hg=>⟨(hg3 g hg).1.1,fun eb=>(hg3 g hg).2.2.1 L _ (.blk b3) hL rfl i3 (by rw[eb];rfl),(hg3 g hg).2.1⟩⟩
  ·rw[v3o i e1,if_neg e1]
   obtain⟨ys,q1,q2,q3⟩:=Fm.row i hi
   refine⟨ys,own_at q1 (keep i hi e1),Rep.mono le _ _ q2,fun g hg=>⟨(q3 g hg).1,fun eb=>?_,fun k hk=>?_⟩⟩
   ·exact own3.2 i hi e1 (by rw[← eb];exact hg)
   ·have:=K1.mu g k (hlt i hi g hg) (notR i hi e1 g hg)
    rw[this];exact(q3 g hg).2.2 k hk
 ·by_cases e1:i=j
  ·subst e1
   rw[v3j,v3o k (fun e=>hne e.symm)]
   cases hb:v3.ownBlock with
   | none=>exact .inl rfl
   | some g=>exact .inr fun eb=>(hg3 g hb).1.2 k hk (fun e=>hne e.symm) eb.symm
  ·rw[v3o i e1]
   by_cases e2:k=j
   ·subst e2
    rw[v3j]
    cases hb:(vs i).ownBlock with
    | none=>exact .inl rfl
    | some g=>exact .inr fun eb=>(hg3 g eb.symm).1.2 i hi e1 hb
   ·rw[v3o k e2];exact Fm.inj i k hi hk hne
 ·refine(R3.1.hp.sub hold fun t h=>by simp[h]).own_to (fun id o p b' h ho hp hb=>?_) fun t v g hl hq hg=>?_
  ·obtain⟨p',e1,e2,e3⟩:=R3.1.hp.obj id o (hold id o h) ho
   rw[hp]at e1;injection e1 with e1;subst e1
   refine⟨(e3 b' hb).1.1,fun eb=>?_,fun i hi eb=>?_⟩
   ·rcases R3.1.hp.inj id L o _ p (.blk b3) (hold id o h) hL ho rfl (hid id o h) hp i3 with h' | h'
    ·rw[hb]at h';cases h'
    ·exact h' (by rw[hb,eb];rfl)
   ·by_cases e4:i=j
    ·subst e4
     rw[v3j]at eb
     exact(hg3 b' eb).2.2.1 id o p (hold id o h) ho hp hb
    ·rw[v3o i e4]at eb;exact(e3 b' hb).1.2 i hi e4 eb
  ·obtain⟨m,ys,q1,q2⟩:=R3.1.hp.tok t v.1 v.2.1 v.2.2 (by simp[show t∈Lv' from hl]) hq
   refine⟨(q2 g hg).1.1,fun eb=>(q2 g hg).2.2 L _ (.blk b3) hL rfl i3 (by rw[eb];rfl),fun i hi eb=>?_⟩
   by_cases e4:i=j
   ·subst e4
    rw[v3j]at eb
    exact(hg3 g eb).2.2.2 t v hl hq hg
   ·rw[v3o i e4]at eb;exact(q2 g hg).1.2 i hi e4 eb
 ·exact big k (Nat.le_trans (Nat.le_trans base.size B1.size) hk)
 ·intro eb
  subst eb
  have:=(Array.getElem?_eq_some_iff.1 hx3).1
  have hk':w'.heap.size≤k:=hk
  omega
 ·have hk':w'.heap.size≤k:=hk
  by_cases e4:i=j
  ·subst e4
   rw[v3j]at eb
   have:=(ow3.lt k eb).2;omega
  ·rw[v3o i e4]at eb
   have:=hlt i hi k eb
   have:=B1.size
   omega
 ·obtain⟨f1,f2,f3,f4⟩:=R3.2.ok id hid'
  refine⟨f1,f2,?_,fun h=>f4 (by simp[show id∈Lv' from h])⟩
  cases ho:lookO O' id with
  | none=>rfl
  | some o=>have:=hold id o ho;rw[f3]at this;cases this
 ·exact base.trans (fun k hk=>big k (Nat.le_trans base.size hk)) ⟨B1.os,B1.tape,B1.output,B1.size,fun k hk hn=>B1.block k hk fun h=>hn h.1⟩
 ·exact⟨fun c o hc hn=>(K1.mu c o (Nat.lt_of_lt_of_le hc base.size) fun h=>hn h.1).trans (mu.mu c o hc hn),fun c o u h=>le c o u (mu.le c o u h),fun i p hi h=>K1.pin i p hi (mu.pin i p hi h)⟩
theorem rw_close {tl L:Nat} {F:List (Nat×AV)} {O:List (Nat×Ob)} {Lv:List Nat} {nx:Nat} {a:Act} {rows:List (List α)} (I:RwI V N te sz n e L ⟨(tl,.arr L 1 n) :: F,O,Lv,nx⟩ rows γ a w) :
  ∃ γ',RS V N ⟨(tl,.d (eSl 1 (eSl sz e) rows)) :: F,O,Lv,nx⟩ γ' a w:=by
 obtain⟨⟨b,vs,hι,Fm,R⟩,df,base,big,mu,hlen⟩:=I
 obtain⟨us,et,hbk,hus,hcell⟩:=Fm.cells
 let ν:Nat→Nat→Option Value:=fun c k=>if c=b then us[k]? else γ.μ c k
 have νb:∀ k,ν b k=us[k]?:=fun k=>if_pos rfl
 have νo:∀ c k,c≠b→ν c k=γ.μ c k:=fun c k h=>if_neg h
 have le:LeM γ.μ ν:=fun c k v h=>by
  by_cases ec:c=b
  ·subst ec;rw[Fm.mu k]at h;cases h
  ·rw[νo c k ec];exact h
 have leG:LeG γ ⟨ν,γ.ι,γ.τ⟩:=⟨le,fun _ _ h=>h,fun _ _ h=>h⟩
 have fz:FzM ν w:=fun c k v h=>by
  by_cases ec:c=b
  ·subst ec
   rw[νb k]at h
   simp[World.cell?,hbk,h]
  ·rw[νo c k ec]at h;exact R.1.hp.fz c k v h
 have H1:=R.1.hp.frozen (b:=b) (fun id o p h ho hp eb=>by
   obtain⟨p',e1,e2,e3⟩:=R.1.hp.obj id o h ho
   rw[hp]at e1;injection e1 with e1;subst e1
   exact(e3 b eb).1.2.1 rfl) (fun t u hl hq eb=>by
   obtain⟨m,ys,q1,q2⟩:=R.1.hp.tok t u.1 u.2.1 u.2.2 hl hq
   exact(q2 b eb).1.2.1 rfl) le νo fz
 have H2:Hp V.own (lookO O) (·∈Lv) ⟨ν,γ.ι,γ.τ⟩ w:=H1.own_to (fun id o p b' h ho hp hb=>by
   obtain⟨p',e1,e2,e3⟩:=H1.obj id o h ho
   rw[hp]at e1;injection e1 with e1;subst e1
   exact(e3 b' hb).1.1) fun t v g hl hq hg=>by
   obtain⟨m,ys,q1,q2⟩:=H1.tok t v.1 v.2.1 v.2.2 hl hq
   exact(q2 g hg).1.1
 refine⟨⟨ν,γ.ι,γ.τ⟩,⟨df,R.1.size,fun t=>?_,(fun t j want h=>by cases h),H2,base,big,⟨fun c o hc hn=>?_,fun c o v h=>le c o v (mu.le c o v h),mu.pin⟩⟩,⟨fun id hid=>R.2.ok id hid⟩⟩
 ·have h:RepA γ (look ((tl,.arr L 1 n) :: F) t) (a.tmps.getD t undef):=R.1.fr t
  show RepA ⟨ν,γ.ι,γ.τ⟩ (look ((tl,.d (eSl 1 (eSl sz e) rows)) :: F) t) (a.tmps.getD t undef)
  simp only[look]at h ⊢
  split at h
  ·rename_i et'
   rw[if_pos et']
   simp only[RepA]at h ⊢
   obtain⟨b',cc,e1,e2,e3,e4⟩:=h
   rw[hι]at e1;injection e1 with e1;injection e1 with e1;subst e1
   rw[e2]
   simp only[eSl,Rep]
   refine⟨some ⟨b,0,none⟩,cc,by rw[hlen],by omega,e4,fun _=>⟨b,0,rfl,fun i hi=>?_⟩⟩
   have hi':i < n:=by omega
   obtain⟨ys,q1,q2,q3⟩:=Fm.row i hi'
   obtain⟨A,c2,s1,_⟩:=own_slice q1
   refine⟨vs i,?_,by rw[s1];rfl,fun y hy=>?_,fun k hk=>?_⟩
   ·have:cF (eSl sz e) rows i=eSl sz e (rows.getD i []):=rfl
    rw[this]
    exact Rep.mono le _ _ q2
   ·have hcs:(vs i).cells=#[vs i]:=by rw[s1];rfl
    rw[hcs]at hy
    simp only[List.mem_toArray,List.mem_cons,List.not_mem_nil,or_false]at hy
    rw[hy];exact(hcell i hi').2
   ·obtain rfl:k=0:=by omega
    have hcs:(vs i).cells=#[vs i]:=by rw[s1];rfl
    rw[hcs,νb]
    have:0+i * 1+0=i:=by omega
    rw[this,(hcell i hi').1];rfl
  ·rename_i et'
   rw[if_neg et']
   exact RepA.mono leG _ _ h
 ·exact(νo c o (fun ec=>hn (by rw[ec];exact Fm.own))).trans (mu.mu c o hc hn)
def isE (b:Nat):Exit→Bool
 | .exit j=>Nat.beq j b
 | _=>false
def rwM {Y X:Type} (n:Nat) (jof:Y→Nat) (bm:Y→List α→Option ((Y×List α)⊕(X×List α))) (s:Y×List (List α)):Option ((Y×List (List α))⊕(X×List (List α))) :=
 if jof s.1 < n then(bm s.1 (s.2.getD (jof s.1) [])).bind fun z=>match z with
  | .inl p=>some (.inl (p.1,s.2.set (jof s.1) p.2))
  | .inr p=>some (.inr (p.1,s.2.set (jof s.1) p.2))
 else none
abbrev rwW {Y X:Type} (tl L n te sz T b:Nat) (e:α→D) (F:Y→List (Nat×AV)) (O:Y→List (Nat×Ob)) (Lv:Y→List Nat) (nx:Nat) (Fx:X→List (Nat×AV)) (Ox:X→List (Nat×Ob)) (Lx:X→List Nat) (nxx:Nat) (vs:Nat→Value) (j:Nat):(Y×List α)⊕(X×List α)→Way :=
 wy (fun p=>rwS tl L n te sz T e vs j p.2 (F p.1) (O p.1) (Lv p.1) nx) (fun p ex s=>isE b ex=true∧Weak s (rwS tl L n te sz T e vs j p.2 (Fx p.1) (Ox p.1) (Lx p.1) nxx))
noncomputable def JD.rw {R Y X:Type} {W:R→Way} {c:Code} {st:St} (tl L n te sz T b:Nat) (e:α→D) (F:Y→List (Nat×AV)) (O:Y→List (Nat×Ob)) (Lv:Y→List Nat) (nx:Nat) (jof:Y→Nat) (y0:Y)
  (w0:Weak st ⟨(tl,.arr L 1 n) :: F y0,(L,.vals n (fun _=>.slice none 0 0) none) :: O y0,Lv y0,nx⟩) (Fx:X→List (Nat×AV)) (Ox:X→List (Nat×Ob)) (Lx:X→List Nat) (nxx:Nat)
  (B:∀ (vs:Nat→Value) (y:Y) (l:List α),JD P N (lpC c) (rwS tl L n te sz T e vs (jof y) l (F y) (O y) (Lv y) nx) (rwW tl L n te sz T b e F O Lv nx Fx Ox Lx nxx vs (jof y)))
  (cx:List (Nat×List Nat×List Nat)) (C:X→List (List α)→Tr W)
  (hB:∀ vs y l,(B vs y l).m=(B (fun _=>undef) y l).m:=by intro vs y l;rfl)
  (hC:∀ (x:X) (rows:List (List α)) (K:Exit→St→Prop),K (.exit b) (cutX cx (.exit b) ⟨(tl,.d (eSl 1 (eSl sz e) rows)) :: Fx x,Ox x,Lx x,nxx⟩)=(C x rows).Hold K:=by intro x rows K;refine id ?_;kernel_rfl)
  (hF:∀ y,((F y).all fun p=>noTok T p.2)=true:=by intro y;refine id ?_;kernel_rfl)
  (hO:∀ y,((O y).all fun p=>!Nat.beq p.1 L&&noIdO L p.2)=true:=by intro y;refine id ?_;kernel_rfl) (hO2:∀ y,((O y).all fun p=>noTokO T p.2)=true:=by intro y;refine id ?_;kernel_rfl)
  (hL:∀ y,(!(Lv y).contains T)=true:=by intro y;refine id ?_;kernel_rfl) (hOx:∀ x,((Ox x).all fun p=>!Nat.beq p.1 L&&noIdO L p.2)=true:=by intro y;refine id ?_;kernel_rfl) (hLx:∀ x,(!(Lx x).contains T)=true:=by intro y;refine id ?_;kernel_rfl)
  (hx:decide (L < nx∧T < nx)=true:=by refine id ?_;kernel_rfl) (hc:isLp c=true:=by refine id ?_;kernel_rfl):JD P N c st W where
 m:=(loopO (rwM n jof fun y l=>(B (fun _=>undef) y l).m) (y0,List.replicate n [])).bind fun p=>(C p.1 p.2).run
 j:=fun V x hm K hk γ0 a0 w00 hr0=>by
  obtain⟨⟨x1,rows1⟩,hp,hxr⟩:=Option.bind_eq_some_iff.1 hm
  have noC:∀ {l:List Nat},(!l.contains T)=true→T ∉ l:=fun h=>by simpa using h
  have hlt:=of_decide_eq_true hx
  cases c with
  | loop c =>
   obtain⟨k,hk2⟩:=loopO_some hp
   obtain⟨γ1,hr1⟩:=w0 V N γ0 a0 w00 hr0
   have hO0:((O y0).all fun p=>!Nat.beq p.1 L)=true:=by
    have:=hO y0
    simp only[List.all_eq_true,Bool.and_eq_true]at this ⊢
    exact fun p hp=>(this p hp).1
   have I0:=rw_start (te:=te) (sz:=sz) (e:=e) hO0 hr1
   refine wp_loop_ex (X:=Nat×Y×List (List α)) (I:=fun p a w=>loopN (rwM n jof fun y l=>(B (fun _=>undef) y l).m) p.1 p.2=some (x1,rows1)∧∃ γ,RwI V N te sz n e L ⟨(tl,.arr L 1 n) :: F p.2.1,O p.2.1,Lv p.2.1,nx⟩ p.2.2 γ a w) (fun p=>p.1) (k,y0,List.replicate n []) ⟨hk2,γ1,I0⟩ ?_
   rintro⟨k,y,rows⟩ a w ⟨hs,γ,I⟩
   cases k with
   | zero=>cases hs
   | succ k =>
    have hs':=hs
    simp only[loopN,rwM]at hs
    by_cases hj:jof y < n
    ·rw[if_pos hj]at hs
     cases hz:(B (fun _=>undef) y (rows.getD (jof y) [])).m with
     | none=>rw[hz]at hs;cases hs
     | some z =>
      rw[hz]at hs
      cases z with
      | inl p =>
       have key:=rw_round (P:=P) (q:=isN) hj (hF y) (hO y) (hO2 y) (noC (hL y)) hlt (hO p.1) (noC (hL p.1)) I (fun V1 vs γ1 R1=>(B vs y (rows.getD (jof y) [])).j V1 (.inl p) (by rw[hB];exact hz) _ (fun ex s h=>h) γ1 a w R1)
       refine wp_mono key ?_
       rintro ex a' w' ⟨hq,γ',I'⟩
       cases ex with
       | normal=>exact⟨(k,p.1,rows.set (jof y) p.2),⟨hs,γ',I'⟩,Nat.lt_succ_self k⟩
       | _=>cases hq
      | inr p =>
       simp only[Option.bind_some,Option.some.injEq,Prod.mk.injEq]at hs
       obtain⟨rfl,rfl⟩:=hs
       have key:=rw_round (P:=P) (q:=isE b) hj (hF y) (hO y) (hO2 y) (noC (hL y)) hlt (hOx p.1) (noC (hLx p.1)) I (fun V1 vs γ1 R1=>(B vs y (rows.getD (jof y) [])).j V1 (.inr p) (by rw[hB];exact hz) _ (fun ex s h=>h.2) γ1 a w R1)
       refine wp_mono key ?_
       rintro ex a' w' ⟨hq,γ',I'⟩
       cases ex with
       | exit i =>
        obtain rfl:i=b:=Nat.eq_of_beq_eq_true hq
        obtain⟨γ'',h9⟩:=rw_close I'
        have h10:K (.exit i) (cutX cx (.exit i) ⟨(tl,.d (eSl 1 (eSl sz e) (rows.set (jof y) p.2))) :: Fx p.1,Ox p.1,Lx p.1,nxx⟩):=by
         have h11:=hC p.1 (rows.set (jof y) p.2) K
         rw[h11];exact Tr.hold hk hxr
        exact⟨_,γ'',rs_cutX h9 cx,h10⟩
       | _=>cases hq
    ·rw[if_neg hj]at hs;cases hs
  | _=>cases hc
end
end Go.Av
set_option maxRecDepth 100000
namespace Go.Av
open Go.RowKit Go.Base Go.Proofs Go.ChangeShapes Go.WideShapes
structure T43 where
 Lo:Int
 Hi:Int
instance:Inhabited T43:=⟨⟨0,0⟩⟩
noncomputable def e43 (x:T43):D:=.agg [(dI x.Lo),(dI x.Hi)]
structure T45 where
 Ref:List UInt8
 Alt:T43
 Dir:Int
instance:Inhabited T45:=⟨⟨[],default,0⟩⟩
noncomputable def e45 (x:T45):D:=.agg [(.str x.Ref),(dI x.Alt.Lo),(dI x.Alt.Hi),(.int .u8 x.Dir)]
structure T39 where
 Name:List UInt8
 Points:List T45
instance:Inhabited T39:=⟨⟨[],[]⟩⟩
noncomputable def e39 (x:T39):D:=.agg [(.str x.Name),(eSl 4 e45 x.Points)]
structure T52 where
 Lat:Int
 Lon:Int
instance:Inhabited T52:=⟨⟨0,0⟩⟩
noncomputable def e52 (x:T52):D:=.agg [(dI x.Lat),(dI x.Lon)]
structure T54 where
 Ident:List UInt8
 Region:List UInt8
 Kind:Int
 Pos:T52
 Elev:Int
 Range:Int
instance:Inhabited T54:=⟨⟨[],[],0,default,0,0⟩⟩
noncomputable def e54 (x:T54):D:=.agg [(.str x.Ident),(.str x.Region),(.int .u8 x.Kind),(dI x.Pos.Lat),(dI x.Pos.Lon),(dI x.Elev),(dI x.Range)]
structure T63 where
 From:List UInt8
 To:List UInt8
 More:List Int
instance:Inhabited T63:=⟨⟨[],[],[]⟩⟩
noncomputable def e63 (x:T63):D:=.agg [(.str x.From),(.str x.To),(eSl 1 (D.int .u32) x.More)]
structure T72 where
 From:Int
 To:Int
 Cost:Int
instance:Inhabited T72:=⟨⟨0,0,0⟩⟩
noncomputable def e72 (x:T72):D:=.agg [(dI x.From),(dI x.To),(dI x.Cost)]
structure T66 where
 N:Int
 Edges:List T72
instance:Inhabited T66:=⟨⟨0,[]⟩⟩
noncomputable def e66 (x:T66):D:=.agg [(dI x.N),(eSl 3 e72 x.Edges)]
structure T115 where
 cost:Int
 edges:Int
 done:Bool
instance:Inhabited T115:=⟨⟨0,0,false⟩⟩
noncomputable def e115 (x:T115):D:=.agg [(dI x.cost),(dI x.edges),(.bool x.done)]
structure T49 where
 Airway:List UInt8
 To:List UInt8
 Alt:T43
instance:Inhabited T49:=⟨⟨[],[],default⟩⟩
noncomputable def e49 (x:T49):D:=.agg [(.str x.Airway),(.str x.To),(dI x.Alt.Lo),(dI x.Alt.Hi)]
structure T69 where
 Ref:List UInt8
 Length:Int
 Hops:Int
instance:Inhabited T69:=⟨⟨[],0,0⟩⟩
noncomputable def e69 (x:T69):D:=.agg [(.str x.Ref),(dI x.Length),(dI x.Hops)]
structure T31 where
 Hops:List T49
 Length:Int
 Labels:List T69
instance:Inhabited T31:=⟨⟨[],0,[]⟩⟩
noncomputable def e31 (x:T31):D:=.agg [(eSl 4 e49 x.Hops),(dI x.Length),(eSl 3 e69 x.Labels)]
structure T100 where
 e0:Int
 e1:Int
 e2:Int
instance:Inhabited T100:=⟨⟨0,0,0⟩⟩
noncomputable def e100 (x:T100):D:=.agg [(dI x.e0),(dI x.e1),(dI x.e2)]
noncomputable def g39 (x:T39):List AV:=[(aS x.Name),(.d (eSl 4 e45 x.Points))]
noncomputable def g63 (x:T63):List AV:=[(aS x.From),(aS x.To),(.d (eSl 1 (D.int .u32) x.More))]
noncomputable def g66 (x:T66):List AV:=[(aI x.N),(.d (eSl 3 e72 x.Edges))]
noncomputable def g69 (x:T69):List AV:=[(aS x.Ref),(aI x.Length),(aI x.Hops)]
noncomputable def g31 (x:T31):List AV:=[(.d (eSl 4 e49 x.Hops)),(aI x.Length),(.d (eSl 3 e69 x.Labels))]
def ok43 (x:T43):Prop:=(Lit.int .i64 x.Lo).wf=true∧(Lit.int .i64 x.Hi).wf=true
theorem cells43:Try.prog.cellsOf 43=2:=by kernel_rfl
set_option maxRecDepth 100000 in
theorem op43 {W:World} {spare:Nat→Bool}:Opens Try.prog W spare 43 (fun x=>[(dI x.Lo),(dI x.Hi)]) ok43:=fun H enc fuel cs x h=>by
 obtain⟨xs,n,_,_,hl,hx,hf⟩:=DataW.trod_struct Try.underlying43 h
 rw[cells43]at hl
 have hx:xs.length=2:=hx
 match cs,hl with
 | [c0,c1],_ =>
  have g0:=hf 0 _ rfl
  rw[List.getElem?_eq_getElem (by omega)]at g0
  obtain⟨z0,g0⟩:∃ z,DataW.trod enc Try.prog W 0 spare true n 2 [c0]=some z:=by
   have e:Try.prog.cellsOf 2=1:=by kernel_rfl
   exact⟨_,by simpa [e] using g0⟩
  obtain⟨a0,r0,k0⟩:=(opens_int Try.underlying2) H enc n _ _ g0
  have g1:=hf 1 _ rfl
  rw[List.getElem?_eq_getElem (by omega)]at g1
  obtain⟨z1,g1⟩:∃ z,DataW.trod enc Try.prog W 0 spare true n 2 [c1]=some z:=by
   have e:Try.prog.cellsOf 2=1:=by kernel_rfl
   exact⟨_,by simpa [e] using g1⟩
  obtain⟨a1,r1,k1⟩:=(opens_int Try.underlying2) H enc n _ _ g1
  exact⟨⟨a0,a1⟩,repL_app r0 (r1),⟨k0,k1⟩⟩
def ok45 (x:T45):Prop:=x.Ref.length≤maxLen∧ok43 x.Alt∧(Lit.int .u8 x.Dir).wf=true
theorem cells45:Try.prog.cellsOf 45=4:=by kernel_rfl
set_option maxRecDepth 100000 in
theorem op45 {W:World} {spare:Nat→Bool}:Opens Try.prog W spare 45 (fun x=>[(.str x.Ref),(dI x.Alt.Lo),(dI x.Alt.Hi),(.int .u8 x.Dir)]) ok45:=fun H enc fuel cs x h=>by
 obtain⟨xs,n,_,_,hl,hx,hf⟩:=DataW.trod_struct Try.underlying45 h
 rw[cells45]at hl
 have hx:xs.length=3:=hx
 match cs,hl with
 | [c0,c1,c2,c3],_ =>
  have g0:=hf 0 _ rfl
  rw[List.getElem?_eq_getElem (by omega)]at g0
  obtain⟨z0,g0⟩:∃ z,DataW.trod enc Try.prog W 0 spare true n 9 [c0]=some z:=by
   have e:Try.prog.cellsOf 9=1:=by kernel_rfl
   exact⟨_,by simpa [e] using g0⟩
  obtain⟨a0,r0,k0⟩:=(opens_string Try.underlying9) H enc n _ _ g0
  have g1:=hf 1 _ rfl
  rw[List.getElem?_eq_getElem (by omega)]at g1
  obtain⟨z1,g1⟩:∃ z,DataW.trod enc Try.prog W 0 spare true n 43 [c1,c2]=some z:=by
   have e:Try.prog.cellsOf 43=2:=by kernel_rfl
   exact⟨_,by simpa [e] using g1⟩
  obtain⟨a1,r1,k1⟩:=op43 H enc n _ _ g1
  have g2:=hf 2 _ rfl
  rw[List.getElem?_eq_getElem (by omega)]at g2
  obtain⟨z2,g2⟩:∃ z,DataW.trod enc Try.prog W 0 spare true n 5 [c3]=some z:=by
   have e:Try.prog.cellsOf 5=1:=by kernel_rfl
   exact⟨_,by simpa [e] using g2⟩
  obtain⟨a2,r2,k2⟩:=(opens_int Try.underlying5) H enc n _ _ g2
  exact⟨⟨a0,a1,a2⟩,repL_app r0 (repL_app r1 (r2)),⟨k0,k1,k2⟩⟩
def ok39 (x:T39):Prop:=x.Name.length≤maxLen∧(x.Points.length≤maxLen∧∀ b∈x.Points,ok45 b)
theorem cells39:Try.prog.cellsOf 39=2:=by kernel_rfl
set_option maxRecDepth 100000 in
theorem op39 {W:World} {spare:Nat→Bool}:Opens Try.prog W spare 39 (fun x=>[(.str x.Name),(eSl 4 e45 x.Points)]) ok39:=fun H enc fuel cs x h=>by
 obtain⟨xs,n,_,_,hl,hx,hf⟩:=DataW.trod_struct Try.underlying39 h
 rw[cells39]at hl
 have hx:xs.length=2:=hx
 match cs,hl with
 | [c0,c1],_ =>
  have g0:=hf 0 _ rfl
  rw[List.getElem?_eq_getElem (by omega)]at g0
  obtain⟨z0,g0⟩:∃ z,DataW.trod enc Try.prog W 0 spare true n 9 [c0]=some z:=by
   have e:Try.prog.cellsOf 9=1:=by kernel_rfl
   exact⟨_,by simpa [e] using g0⟩
  obtain⟨a0,r0,k0⟩:=(opens_string Try.underlying9) H enc n _ _ g0
  have g1:=hf 1 _ rfl
  rw[List.getElem?_eq_getElem (by omega)]at g1
  obtain⟨z1,g1⟩:∃ z,DataW.trod enc Try.prog W 0 spare true n 37 [c1]=some z:=by
   have e:Try.prog.cellsOf 37=1:=by kernel_rfl
   exact⟨_,by simpa [e] using g1⟩
  obtain⟨a1,r1,k1⟩:=(opens_slice (sz:=4) (e:=fun a=>[(.str a.Ref),(dI a.Alt.Lo),(dI a.Alt.Hi),(.int .u8 a.Dir)]) (en:=e45) (ok:=fun a=>ok45 a) Try.underlying37 (by kernel_rfl) (by decide) op45 (fun _=>rfl) (fun _=>rfl) (fun _=>.inl rfl)) H enc n _ _ g1
  exact⟨⟨a0,a1⟩,repL_app r0 (r1),⟨k0,k1⟩⟩
def ok52 (x:T52):Prop:=(Lit.int .i64 x.Lat).wf=true∧(Lit.int .i64 x.Lon).wf=true
theorem cells52:Try.prog.cellsOf 52=2:=by kernel_rfl
set_option maxRecDepth 100000 in
theorem op52 {W:World} {spare:Nat→Bool}:Opens Try.prog W spare 52 (fun x=>[(dI x.Lat),(dI x.Lon)]) ok52:=fun H enc fuel cs x h=>by
 obtain⟨xs,n,_,_,hl,hx,hf⟩:=DataW.trod_struct Try.underlying52 h
 rw[cells52]at hl
 have hx:xs.length=2:=hx
 match cs,hl with
 | [c0,c1],_ =>
  have g0:=hf 0 _ rfl
  rw[List.getElem?_eq_getElem (by omega)]at g0
  obtain⟨z0,g0⟩:∃ z,DataW.trod enc Try.prog W 0 spare true n 2 [c0]=some z:=by
   have e:Try.prog.cellsOf 2=1:=by kernel_rfl
   exact⟨_,by simpa [e] using g0⟩
  obtain⟨a0,r0,k0⟩:=(opens_int Try.underlying2) H enc n _ _ g0
  have g1:=hf 1 _ rfl
  rw[List.getElem?_eq_getElem (by omega)]at g1
  obtain⟨z1,g1⟩:∃ z,DataW.trod enc Try.prog W 0 spare true n 2 [c1]=some z:=by
   have e:Try.prog.cellsOf 2=1:=by kernel_rfl
   exact⟨_,by simpa [e] using g1⟩
  obtain⟨a1,r1,k1⟩:=(opens_int Try.underlying2) H enc n _ _ g1
  exact⟨⟨a0,a1⟩,repL_app r0 (r1),⟨k0,k1⟩⟩
theorem cells54:Try.prog.cellsOf 54=7:=by kernel_rfl
def ok63 (x:T63):Prop:=x.From.length≤maxLen∧x.To.length≤maxLen∧(x.More.length≤maxLen∧∀ b∈x.More,(Lit.int .u32 b).wf=true)
theorem cells63:Try.prog.cellsOf 63=3:=by kernel_rfl
set_option maxRecDepth 100000 in
theorem op63 {W:World} {spare:Nat→Bool}:Opens Try.prog W spare 63 (fun x=>[(.str x.From),(.str x.To),(eSl 1 (D.int .u32) x.More)]) ok63:=fun H enc fuel cs x h=>by
 obtain⟨xs,n,_,_,hl,hx,hf⟩:=DataW.trod_struct Try.underlying63 h
 rw[cells63]at hl
 have hx:xs.length=3:=hx
 match cs,hl with
 | [c0,c1,c2],_ =>
  have g0:=hf 0 _ rfl
  rw[List.getElem?_eq_getElem (by omega)]at g0
  obtain⟨z0,g0⟩:∃ z,DataW.trod enc Try.prog W 0 spare true n 9 [c0]=some z:=by
   have e:Try.prog.cellsOf 9=1:=by kernel_rfl
   exact⟨_,by simpa [e] using g0⟩
  obtain⟨a0,r0,k0⟩:=(opens_string Try.underlying9) H enc n _ _ g0
  have g1:=hf 1 _ rfl
  rw[List.getElem?_eq_getElem (by omega)]at g1
  obtain⟨z1,g1⟩:∃ z,DataW.trod enc Try.prog W 0 spare true n 9 [c1]=some z:=by
   have e:Try.prog.cellsOf 9=1:=by kernel_rfl
   exact⟨_,by simpa [e] using g1⟩
  obtain⟨a1,r1,k1⟩:=(opens_string Try.underlying9) H enc n _ _ g1
  have g2:=hf 2 _ rfl
  rw[List.getElem?_eq_getElem (by omega)]at g2
  obtain⟨z2,g2⟩:∃ z,DataW.trod enc Try.prog W 0 spare true n 61 [c2]=some z:=by
   have e:Try.prog.cellsOf 61=1:=by kernel_rfl
   exact⟨_,by simpa [e] using g2⟩
  obtain⟨a2,r2,k2⟩:=(opens_slice (sz:=1) (e:=fun a=>[(.int .u32 a)]) (en:=(D.int .u32)) (ok:=fun a=>(Lit.int .u32 a).wf=true) Try.underlying61 (by kernel_rfl) (by decide) (opens_int Try.underlying77) (fun _=>rfl) (fun _=>rfl) (fun _=>.inr ⟨rfl,rfl⟩)) H enc n _ _ g2
  exact⟨⟨a0,a1,a2⟩,repL_app r0 (repL_app r1 (r2)),⟨k0,k1,k2⟩⟩
end Go.Av
namespace Go.Av
open Go.RowKit Go.Base Go.Proofs
noncomputable def m97 (a0 a1:List UInt8):Option Int:=match a1 with
 | [c]=>some (Lib.indexByte a0 c)
 | _=>none
set_option maxHeartbeats 1000000 in
set_option maxRecDepth 100000 in
theorem p97 {a0 a1:List UInt8} {r:Int} (h:m97 a0 a1=some r):PureAt Try.prog 97 [(.str a0),(.str a1)] (.int .i64 r):=by
 refine⟨⟨_,Try.func97,by kernel_rfl,by decide⟩,fun μ w vs hz hr=>?_⟩
 unfold m97 at h
 split at h
 ·rename_i c
  simp only[Option.some.injEq]at h
  simp only[RepL,Rep]at hr
  obtain⟨v,t,rfl,rfl,v2,t2,rfl,rfl,rfl⟩:=hr
  subst h
  suffices hs:Calls Try.prog 97 #[.string ⟨⟨a0⟩⟩,.string ⟨#[c]⟩] w fun e w'=>e=.returned (.int .i64 (Lib.indexByte a0 c))∧w'=w by
   refine hs.mono ?_
   rintro e w' ⟨rfl,rfl⟩
   exact⟨_,μ,rfl,⟨rfl,rfl,rfl,Nat.le_refl _,fun _ _=>rfl⟩,fun _ _ _=>rfl,hz,by simp only[Rep]⟩
  by_cases hc:[c]=a0
  ·have hcb:([c]==a0)=true:=by simpa using hc
   have hi:Lib.indexByte a0 c=0:=by rw[← hc];simp[Lib.indexByte]
   go_enter Try.func97,Try.ntmps97
   go_wp2
   all_goals first
    | (exfalso;rename_i h0;rw[h0]at hc;cases hc;done)
    | (go_ret;exact⟨by rw[hi];rfl,rfl⟩)
  ·have hcb:([c]==a0)=false:=by simpa using hc
   go_enter Try.func97,Try.ntmps97
   go_wp2
   rw[run_callFunc_extern Try.func102 (by kernel_rfl) (by kernel_rfl) (by kernel_rfl) (e:=Extern.BytealgIndexByte.indexByte) (by kernel_rfl),Lib.run_indexByteString]
   simp only[Result.andThen]
   rw[Oper.upon_value]
   go_wp2
   go_ret
   exact⟨rfl,rfl⟩
 ·cases h
end Go.Av
namespace Go.Proofs
open Go.Shelf
def Try.lays190_ren:Go.Shelf.Ren:=⟨fun | 190=>47 | 125=>66 | 258=>65 | 128=>82 | 129=>58 | 302=>73 | 303=>74 | 304=>75 | 305=>76 | 306=>77 | 307=>78 | 308=>79 | 309=>80 | 310=>81 | 333=>87 | 329=>88 | 330=>89 | 334=>90 | 335=>91 | 336=>92 | 344=>96 | n=>n,fun | 31=>87 | 9=>9 | 3=>3 | 46=>129 | 0=>0 | 51=>77 | 53=>133 | 4=>4 | 183=>150 | 182=>149 | 131=>155 | 5=>5 | 218=>161 | 222=>165 | 228=>168 | 229=>169 | n=>n,fun | n=>n⟩
theorem Try.lays190:Go.Proofs.Lays.n190 Try.prog Try.lays190_ren:={
 mixed:=by kernel_rfl
 f125:=Try.func66.trans (congrArg some (by kernel_rfl))
 f128:=Try.func82.trans (congrArg some (by kernel_rfl))
 f129:=Try.func58.trans (congrArg some (by kernel_rfl))
 f190:=Try.func47.trans (congrArg some (by kernel_rfl))
 f258:=Try.func65.trans (congrArg some (by kernel_rfl))
 f302:=Try.func73.trans (congrArg some (by kernel_rfl))
 f303:=Try.func74.trans (congrArg some (by kernel_rfl))
 f304:=Try.func75.trans (congrArg some (by kernel_rfl))
 f305:=Try.func76.trans (congrArg some (by kernel_rfl))
 f306:=Try.func77.trans (congrArg some (by kernel_rfl))
 f307:=Try.func78.trans (congrArg some (by kernel_rfl))
 f308:=Try.func79.trans (congrArg some (by kernel_rfl))
 f309:=Try.func80.trans (congrArg some (by kernel_rfl))
 f310:=Try.func81.trans (congrArg some (by kernel_rfl))
 f329:=Try.func88.trans (congrArg some (by kernel_rfl))
 f330:=Try.func89.trans (congrArg some (by kernel_rfl))
 f333:=Try.func87.trans (congrArg some (by kernel_rfl))
 f334:=Try.func90.trans (congrArg some (by kernel_rfl))
 f335:=Try.func91.trans (congrArg some (by kernel_rfl))
 f336:=Try.func92.trans (congrArg some (by kernel_rfl))
 f344:=Try.func96.trans (congrArg some (by kernel_rfl))
 t0:=Try.underlying0
 a0:=Try.isAgg0
 z0:=Try.sizeOf0
 v0:=Try.zeroValue0
 t3:=Try.underlying3
 a3:=Try.isAgg3
 z3:=Try.sizeOf3
 v3:=Try.zeroValue3
 t4:=Try.underlying4
 a4:=Try.isAgg4
 z4:=Try.sizeOf4
 v4:=Try.zeroValue4
 t5:=Try.underlying5
 a5:=Try.isAgg5
 z5:=Try.sizeOf5
 v5:=Try.zeroValue5
 t9:=Try.underlying9
 a9:=Try.isAgg9
 z9:=Try.sizeOf9
 v9:=Try.zeroValue9
 t31:=Try.underlying87
 a31:=Try.isAgg87
 z31:=Try.sizeOf87
 v31:=Try.zeroValue87
 t46:=Try.underlying129
 a46:=Try.isAgg129
 z46:=Try.sizeOf129
 v46:=Try.zeroValue129
 t51:=Try.underlying77
 a51:=Try.isAgg77
 z51:=Try.sizeOf77
 v51:=Try.zeroValue77
 t53:=Try.underlying133
 a53:=Try.isAgg133
 z53:=Try.sizeOf133
 v53:=Try.zeroValue133
 t131:=Try.underlying155
 a131:=Try.isAgg155
 z131:=Try.sizeOf155
 v131:=Try.zeroValue155
 t182:=Try.underlying149
 a182:=Try.isAgg149
 z182:=Try.sizeOf149
 v182:=Try.zeroValue149
 t183:=Try.underlying150
 a183:=Try.isAgg150
 z183:=Try.sizeOf150
 v183:=Try.zeroValue150
 t218:=Try.underlying161
 a218:=Try.isAgg161
 z218:=Try.sizeOf161
 v218:=Try.zeroValue161
 t222:=Try.underlying165
 a222:=Try.isAgg165
 z222:=Try.sizeOf165
 v222:=Try.zeroValue165
 t228:=Try.underlying168
 a228:=Try.isAgg168
 z228:=Try.sizeOf168
 v228:=Try.zeroValue168
 t229:=Try.underlying169
 a229:=Try.isAgg169
 z229:=Try.sizeOf169
 v229:=Try.zeroValue169 }
open Go.Sort Go.RowKit in
theorem Try.slices_Sort_string (blk off cap:Nat) (ss:List (List UInt8)) (w:World) (hH:Holds encStr w blk off ss.toArray) (hblk:blk < w.heap.size) (hsz:ss.length < 4611686018427387904) :
  Calls Try.prog 47 #[.slice (some ⟨blk,off,none⟩) ss.length cap] w fun e w' =>
   e=.returned (.tuple #[])∧∃ n os,w'=grow (putRow encStr (Sort.ahead w n) blk off (ss.mergeSort fun x y=>decide (x≤y)).toArray) os:=Any.slices_Sort_string Try.lays190 blk off cap ss w hH hblk hsz
open Go.RowKit Go.Sort in
theorem Try.slices_Sort_string_none (p:Option Addr) (cap:Nat) (w:World) :
  Calls Try.prog 47 #[.slice p 0 cap] w fun e w'=>e=.returned (.tuple #[])∧w'=w:=Any.slices_Sort_string_none Try.lays190 p cap w
end Go.Proofs
namespace Go.Av
open Go.RowKit Go.Base Go.Proofs Go.Sort
noncomputable def sortS (l:List (List UInt8)):List (List UInt8):=l.mergeSort fun x y=>decide (x≤y)
theorem sortS_perm (l:List (List UInt8)):(sortS l).Perm l:=List.mergeSort_perm l _
theorem sortS_len (l:List (List UInt8)):(sortS l).length=l.length:=(sortS_perm l).length_eq
theorem de_sortS {l:List (List UInt8)}:De (.sl 1 l.length (cF D.str (sortS l))) (eSl 1 D.str (sortS l)):=by
 rw[← sortS_len l];exact De.rfl
theorem elems_strS {μ:Nat→Nat→Option Value} {l:List (List UInt8)} {n:Nat} {xs:List Value} (hn:n=l.length) (hx:xs.length=n) (h:Elems μ 1 n (cF D.str l) xs):xs=l.map encStr:=by
 subst hn
 apply List.ext_getElem?
 intro i
 by_cases hi:i < l.length
 ·obtain⟨u,h1,h2,h3,h4⟩:=h i hi
  have hc:cF D.str l i=.str l[i]:=by simp[cF,List.getD_eq_getElem?_getD,List.getElem?_eq_getElem hi]
  rw[hc]at h1
  simp only[Rep]at h1
  subst h1
  have:=h4 0 (by omega)
  simp only[Nat.mul_one,Nat.add_zero]at this
  rw[this,List.getElem?_map,List.getElem?_eq_getElem hi]
  rfl
 ·rw[List.getElem?_eq_none (by omega),List.getElem?_eq_none (by simp;omega)]
theorem elems_toS {μ:Nat→Nat→Option Value} {l:List (List UInt8)}:Elems μ 1 l.length (cF D.str l) (l.map encStr):=fun i hi=>by
 have hc:cF D.str l i=.str l[i]:=by simp[cF,List.getD_eq_getElem?_getD,List.getElem?_eq_getElem hi]
 refine⟨.string ⟨⟨l[i]⟩⟩,by rw[hc];simp only[Rep],rfl,by simp[Value.cells,Value.oneCell'],fun j hj=>?_⟩
 obtain rfl:j=0:=by omega
 simp only[Nat.mul_one,Nat.add_zero]
 rw[List.getElem?_map,List.getElem?_eq_getElem hi]
 rfl
theorem row_changed {own:Nat→Prop} {γ γ':G} {w w':World} {hp':List (Nat×Ob)} {g i:Nat} {o:Ob} {v:Value} (hz:FzM γ.μ w) (hg:w.grownBy w' (some g)) (kb:own g∧∀ k,γ.μ g k=none) (hμ:γ'.μ=γ.μ)
  (ho:∀ j o',lookO hp' j=some o'→o'.ok=true→j=i∧o'=o) (hi:γ'.ι i=some (.vec v 9 1)) (hv:v.ownBlock=some g) (hat:ObjAt γ' w' o (.vec v 9 1)):Hp own (lookO hp') (·∈([]:List Nat)) γ' w':=by
 refine⟨fun c k y hy=>?_,fun j o' h1 h2=>?_,fun a b oa ob p q h1 h2 h3 h4 hne _ _=>?_,fun t v e sz ht=>(by cases ht),fun s t v u ht=>(by cases ht)⟩
 ·rw[hμ]at hy
  have hc:some c≠some g:=fun e=>by injection e with e;rw[e,kb.2 k]at hy;cases hy
  rw[World.cell?_of_block (w:=w) (hg.block c (fz_lt hz hy) hc)]
  exact hz c k y hy
 ·obtain⟨rfl,rfl⟩:=ho j o' h1 h2
  refine⟨_,hi,hat,fun b hb=>?_⟩
  have:b=g:=by have e:v.ownBlock=some b:=hb;rw[hv]at e;injection e with e;exact e.symm
  subst this
  exact⟨kb.1,fun k=>by rw[hμ];exact kb.2 k⟩
 ·exact absurd ((ho a oa h1 h3).1.trans (ho b ob h2 h4).1.symm) hne
noncomputable def msrts (a0:List (List UInt8)):Option Unit:=if a0.length≤1000000 then some ()else none
noncomputable def qsrts (a0:List (List UInt8)) (y:Unit):OF:=⟨.tup [],[(0,.vec 9 1 a0.length (cF D.str (sortS a0)))],[]⟩
theorem posrts {a0:List (List UInt8)} {r:Unit} (h:msrts a0=some r):ObjF Try.prog 47 [.vec 0 1 a0.length] [(0,.vec 9 1 a0.length (cF D.str a0))] [] (qsrts a0 r):=by
 refine⟨⟨_,Try.func47,by kernel_rfl,by decide⟩,fun own γ w vs H big F hr=>?_⟩
 unfold msrts at h
 split at h
 ·rename_i hlen
  obtain⟨v,xs,k1,_,ow,hE,kb⟩:=H.vec (id:=0) (e:=9) (sz:=1) (n:=a0.length) (f:=cF D.str a0) rfl
  simp only[RepAL,RepA]at hr
  obtain⟨v1,t1,rfl,⟨e,A,c,hv,hsl,_⟩,rfl⟩:=hr
  rw[k1]at hv
  injection hv with hv
  injection hv with hv _ _
  subst hv
  obtain⟨ow1,ow2⟩:=ow
  have hxs:=elems_strS rfl (by rw[ow1,Nat.mul_one]) hE
  rcases ow2 with⟨hv,hn⟩ | ⟨g,cap,cur,rfl,_,hg,h3,h4,h5,h6⟩
  ·subst hv
   obtain rfl:a0=[]:=List.length_eq_zero_iff.1 hn
   refine(Try.slices_Sort_string_none none 0 w).mono ?_
   rintro e w' ⟨rfl,rfl⟩
   have e0:sortS []=[]:=List.length_eq_zero_iff.1 (sortS_len [])
   exact⟨_,γ,rfl,LeM.refl _,fun _ _ _ h=>h,by unfold qsrts;rw[e0];exact H,Base.refl _ _,by simp only[qsrts,RepA,RepAL];exact⟨[],rfl,rfl⟩,fun _ _ _ _=>rfl⟩
  ·rw[Nat.mul_one]at h5 h6
   rw[hxs]at h6
   have hgs:g < w.heap.size:=(Array.getElem?_eq_some_iff.1 hg).1
   have kg:=kb g rfl
   refine(Try.slices_Sort_string g 0 cap a0 w (holds_of_block hg h6) hgs (by omega)).mono ?_
   rintro e w' ⟨rfl,n,os,rfl⟩
   have hgr:=grownBy_sorted (w:=w) (g:=g) (n:=n) (os:=os) (sortS a0).toArray
   refine⟨_,γ,rfl,LeM.refl _,fun _ _ _ h=>h,row_changed (i:=0) (o:=.vec 9 1 a0.length (cF D.str (sortS a0))) H.fz hgr kg rfl (fun j o' h1 _=>?_) k1 rfl ?_,base_grown hgr (fun g' e=>by injection e with e;subst e;exact kg.1),by simp only[qsrts,RepA,RepAL];exact⟨[],rfl,rfl⟩,fun _ _ _ _=>rfl⟩
   ·simp only[qsrts,lookO]at h1
    split at h1
    ·rename_i e;injection h1 with h1;exact⟨e.symm,h1.symm⟩
    ·cases h1
   ·refine⟨a0.length,_,(sortS a0).map encStr,rfl,by omega,?_,?_⟩
    ·exact ownsRow_sorted (ss:=a0) (ts:=sortS a0) (sortS_len a0) (Nat.zero_le _) hg h3 h4 (by rw[Nat.mul_one];exact h5)
    ·have:=elems_toS (μ:=γ.μ) (l:=sortS a0)
     rw[sortS_len]at this
     exact this
 ·cases h
end Go.Av
