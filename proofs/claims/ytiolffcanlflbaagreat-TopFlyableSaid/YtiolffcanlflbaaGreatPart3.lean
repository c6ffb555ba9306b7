/- A part of the proof. -/
import Derived.Test.YtiolffcanlflbaaGreatPart2
import Derived.Maps.RangeWalk
import Derived.KernelRfl
import Derived.Test.YtiolffcanlflbaaGreatProg
set_option linter.unusedVariables false
set_option linter.unusedSimpArgs false
namespace Go.Av
open Go.RowKit Go.Base
variable {P:Program} {V:Dl} {N:Nat} {γ γ':G} {w w' w0:World} {own:Nat→Prop} {hp:Nat→Option Ob} {live:Nat→Prop}
def opE:Code→Option Oper
 | .region _ ops false=>ops.toList.head?
 | .seq a _=>opE a
 | .block _ c=>opE c
 | _=>none
def AAh (P:Program) (c:Code) (γ:G) (a:Act) (w:World) (ev:D):Prop :=
 ∃ oe u,opE c=some oe∧oe.guard=none∧(execOp a.eval oe).run P w=.ok (.value u) w∧Rep γ.μ ev u
structure JEn (P:Program) (N:Nat) (c:Code) (st:St) (ev:D) {R:Type} (W:R→Ed) where
 m:Option R
 j:∀ V:Dl,∀ x,m=some x→∀ K:Exit→St→Prop,(∀ ex s,W x ex s→K ex s)→∀ γ a w,RS V N st γ a w→AAh P c γ a w ev→c.wp P (Rw V N K) a w
def vcE (P:Program) (V:Dl) (N:Nat) (cs:List (Nat×Tm)) (c:Code) (st:St) (ev:D) (K:Exit→St→Prop):Prop:=match c with
 | .region id ops false=>(match ops.toList with
  | oe :: os=>if H7 (oe :: os) N=true then tw (Z9 cs id) fun cs=>G2 P cs (oe :: os) st.fr st.nx 1 os ⟨Sc oe ⟨none,true,.d ev⟩ [],st.hp,st.live⟩ (fun s=>K .normal (S1 st.fr st.nx (oe :: os).length s))else False
  | []=>False)
 | _=>False
theorem wp1 {ops:Array Oper} {Q:Exit→Act→World→Prop} {rest:List Oper} {o:Oper} {a:Act} {u:Value} (hg:o.guard=none) (hrun:(execOp a.eval o).run P w=.ok (.value u) w') (hk:wpList P ops Q rest (a.put o.dst u) w'):wpList P ops Q (o :: rest) a w :=
 wpList_plain hg fun K hK=>by unfold Oper.wp;rw[hrun];exact hK _ _ hk
theorem yw {cs:List (Nat×Tm)} {c:Code} {st:St} {ev:D} {K:Exit→St→Prop} (h:vcE P V N cs c st ev K) {a:Act} (hs:RS V N st γ a w) (he:AAh P c γ a w ev):c.wp P (Rw V N K) a w:=by
 unfold vcE at h
 split at h
 ·rename_i id ops
  obtain⟨oe,u,h1,h2,h3,h4⟩:=he
  simp only[opE]at h1
  split at h
  ·rename_i oe' os hops
   rw[hops]at h1
   simp only[List.head?_cons,Option.some.injEq]at h1
   subst h1
   split at h
   ·rename_i hr
    obtain⟨cs,h⟩:=S0 h
    refine wp_region_list ?_
    rw[hops]
    refine wp1 h2 h3 ?_
    have e:ops=(oe' :: os).toArray:=by rw[← hops]
    have R0:RL V.own V.μ0 V.w0 N (oe' :: os) (· < 0) (fun t=>⟨none,true,Bl st.fr t⟩) (Ac st.hp) (·∈st.live) γ a w :=
     ⟨hs.1.defers,hs.1.size,fun t=>hs.1.fr t,(fun t j want h=>by cases h),hs.1.hp,hs.1.base,hs.1.big,hs.1.mu⟩
    have R1:=R0.put (i:=0) (o:=oe') (x:=⟨none,true,.d ev⟩) (u:=u) hr rfl (by omega) (LeG.refl γ) R0.hp (Base.refl _ w) (fun _ _ _ _=>rfl) (by simp only[RepA];exact h4)
    have hdone:(fun k=>k < 0∨k=0)=(fun k=>k < 0+1):=by funext k;simp only[eq_iff_iff];omega
    rw[hdone]at R1
    have e1:B6 st.fr (Sc oe' ⟨none,true,.d ev⟩ [])=Mm oe' ⟨none,true,.d ev⟩ (fun t=>⟨none,true,Bl st.fr t⟩):=by
     funext t;exact Kc st.fr oe' _ [] t
    rw[e]
    refine Qu (P:=P) (QQ:=Rw V N K) hr (fun s γ a w hk R F=>⟨_,γ,fw R F,hk⟩) os (0+1) _ γ _ w (by simp;omega) (fun k=>by rw[show 0+1+k=k+1 by omega];rfl) (by rw[e1];exact R1) ⟨fun id hid=>hs.2.ok id (by omega)⟩ h
   ·exact h.elim
  ·exact h.elim
 ·exact h.elim
section
variable {R Y:Type} {W:R→Ed} {c:Code} {st:St} {ev:D}
noncomputable def JEn.sg (tms:List (Nat×Tm)) (cx:List (Nat×List Nat×List Nat)) (t:Tr W)
  (h:∀ (V:Dl) (K:Exit→St→Prop),vcE P V N tms c st ev (fun ex s=>K ex (Ep cx ex s))=t.Hold K:=by intro V K;refine id ?_;kernel_rfl):JEn P N c st ev W:=⟨t.run,fun V x hx K hk γ a w hr he=>by
 have h1:vcE P V N tms c st ev (fun ex s=>K ex (Ep cx ex s)):=by rw[h V K];exact Tr.hold hk hx
 exact wp_mono (yw h1 hr he) fun _ _ _ ⟨s,γ',h1,h2⟩=>⟨_,γ',Hu h1 cx,h2⟩⟩
noncomputable def JEn.sc (S:Y→St) (A:JEn P N (pq c) st ev (wy S W)) (B:∀ y,JD P N (o9 1 c) (S y) W) (hc:Z7 c=true:=by refine id ?_;kernel_rfl):JEn P N c st ev W where
 m:=A.m.bind (A5 fun y=>(B y).m)
 j:=fun V x hx K hk γ a w hr he=>by
  obtain⟨z,hz,hx⟩:=Option.bind_eq_some_iff.1 hx
  cases c with
  | seq c1 c2 =>
   refine wp_seq (wp_mono (A.j V z hz (fun ex s=>match ex with | .normal=>Tri P V N c2 s K | ex=>K ex s) (fun ex s hs=>?_) γ a w hr he) ?_)
   ·cases z with
    | inl y =>
     obtain⟨h1,h2⟩:=hs
     cases ex with
     | normal=>exact Tri.weak h2 ((B y).j V x hx K hk)
     | _=>cases h1
    | inr r =>
     injection hx with hx
     subst hx
     obtain⟨h1,h2⟩:=hs
     cases ex with
     | normal=>cases h1
     | _=>exact hk _ _ h2
   ·rintro ex a' w' ⟨s,γ',h1,h2⟩
    cases ex with
    | normal=>exact h2 γ' a' w' h1
    | _=>exact⟨s,γ',h1,h2⟩
  | _=>cases hc
noncomputable def JEn.bk (A:JEn P N (blkC c) st ev (lv (blkI c) W)) (hc:isBlk c=true:=by refine id ?_;kernel_rfl):JEn P N c st ev W where
 m:=A.m
 j:=fun V x hx K hk γ a w hr he=>by
  cases c with
  | block id c =>
   refine wp_block (wp_mono (A.j V x hx (inBlock id K) (fun ex s hs=>?_) γ a w hr he) ?_)
   ·have h2:K (Um id ex) s:=hk _ _ hs
    cases ex with
    | exit j =>
     simp only[inBlock]
     simp only[Um]at h2
     by_cases e:j=id
     ·rw[if_pos e]
      have:Nat.beq j id=true:=by rw[e];exact Nat.beq_refl _
      rw[this]at h2;exact h2
     ·rw[if_neg e]
      have:Nat.beq j id=false:=by
       cases hb:Nat.beq j id with
       | false=>rfl
       | true=>exact absurd (Nat.eq_of_beq_eq_true hb) e
      rw[this]at h2;exact h2
    | _=>exact h2
   ·rintro ex a' w' ⟨st',γ',h1,h2⟩
    cases ex with
    | exit j =>
     simp only[inBlock]at h2
     simp only[Exit.inBlock]
     split
     ·rename_i hj;rw[if_pos hj]at h2;exact⟨st',γ',h1,h2⟩
     ·rename_i hj;rw[if_neg hj]at h2;exact⟨st',γ',h1,h2⟩
    | _=>exact⟨st',γ',h1,h2⟩
  | _=>cases hc
end
mutual
def noId (id:Nat):AV→Bool
 | .ptr d _ | .pa d _ _ _ | .arr d _ _ | .vec d _ _ | .pv d _ _ _ | .mp d=>!Nat.beq d id
 | .fn _ c=>O8 id c
 | .agg l=>O8 id l
 | .tup l=>O8 id l
 | _=>true
def O8 (id:Nat):List AV→Bool
 | []=>true
 | x :: l=>noId id x&&O8 id l
end
theorem Fi {a b:Nat} (h:(!Nat.beq a b)=true):a≠b:=fun e=>by subst e;rw[Nat.beq_refl]at h;cases h
theorem RightOk.same (ht:γ'.τ=γ.τ) {sz:Nat} {v:Value} {r:Sm} (h:RightOk γ sz v r):RightOk γ' sz v r:=by
 cases r with
 | nl=>exact h
 | tok t e=>simp only[RightOk]at h ⊢;rw[ht];exact h
mutual
theorem RepA.noId {id:Nat} (hm:γ'.μ=γ.μ) (ht:γ'.τ=γ.τ) (hi:∀ i,i≠id→γ'.ι i=γ.ι i):∀ {x:AV} {v:Value},noId id x=true→RepA γ x v→RepA γ' x v
 | .d x,v,_,h=>by simp only[RepA]at h ⊢;rw[hm];exact h
 | .ap sz n f r,v,_,h=>by simp only[RepA]at h ⊢;rw[hm];exact⟨h.1,h.2.same ht⟩
 | .ptr d o,v,hn,h=>by simp only[RepA]at h ⊢;rw[hi d (Fi hn)];exact h
 | .ep x o,v,_,h=>by simp only[RepA]at h ⊢;rw[hm];exact h
 | .pa d s i o,v,hn,h=>by simp only[RepA]at h ⊢;rw[hi d (Fi hn)];exact h
 | .arr d s n,v,hn,h=>by simp only[RepA]at h ⊢;rw[hi d (Fi hn)];exact h
 | .vec d s n,v,hn,h=>by simp only[RepA]at h ⊢;rw[hi d (Fi hn)];exact h
 | .pv d s i o,v,hn,h=>by simp only[RepA]at h ⊢;rw[hi d (Fi hn)];exact h
 | .mp d,v,hn,h=>by simp only[RepA]at h ⊢;rw[hi d (Fi hn)];exact h
 | .fn f c,v,hn,h=>by
  simp only[RepA]at h ⊢
  obtain⟨vs,e,h2⟩:=h
  exact⟨vs,e,RepAL.noId hm ht hi hn h2⟩
 | .nilp,v,_,h=>by simpa only[RepA] using h
 | .nilf,v,_,h=>by simpa only[RepA] using h
 | .raw u,v,_,h=>by simpa only[RepA] using h
 | .agg l,v,hn,h=>by
  simp only[RepA]at h ⊢
  obtain⟨vs,e,h2⟩:=h
  exact⟨vs,e,RepAL.noId hm ht hi hn h2⟩
 | .tup l,v,hn,h=>by
  simp only[RepA]at h ⊢
  obtain⟨vs,e,h2⟩:=h
  exact⟨vs,e,RepAL.noId hm ht hi hn h2⟩
 | .any,v,_,_=>by simp only[RepA]
theorem RepAL.noId {id:Nat} (hm:γ'.μ=γ.μ) (ht:γ'.τ=γ.τ) (hi:∀ i,i≠id→γ'.ι i=γ.ι i):∀ {x:List AV} {v:List Value},O8 id x=true→RepAL γ x v→RepAL γ' x v
 | [],v,_,h=>by simpa only[RepAL] using h
 | x :: l,v,hn,h=>by
  simp only[O8,Bool.and_eq_true]at hn
  simp only[RepAL]at h ⊢
  obtain⟨u,t,e,h1,h2⟩:=h
  exact⟨u,t,e,RepA.noId hm ht hi hn.1 h1,RepAL.noId hm ht hi hn.2 h2⟩
end
def M0 (id:Nat):Ob→Bool
 | .cells l=>O8 id l
 | .vals _ _ (some (_,a))=>noId id a
 | _=>true
theorem RepO.noId {id:Nat} (hm:γ'.μ=γ.μ) (ht:γ'.τ=γ.τ) (hi:∀ i,i≠id→γ'.ι i=γ.ι i) {o:Ob} {x:Go.Obj} (hn:M0 id o=true) (h:RepO γ o x):RepO γ' o x:=by
 cases o with
 | cells l=>obtain⟨vs,e,h1,h2,h3⟩:=h;exact⟨vs,e,h1,RepAL.noId hm ht hi hn h2,h3⟩
 | arr sz n f =>
  obtain⟨vs,e,h1,h2,h3⟩:=h
  exact⟨vs,e,h1,h2,fun i hi'=>by obtain⟨u,h4,h5⟩:=h3 i hi';exact⟨u,by rw[hm];exact h4,h5⟩⟩
 | vals n vs x =>
  obtain⟨us,e,h1,h2,h3⟩:=h
  refine⟨us,e,h1,h2,fun i hi'=>?_⟩
  obtain⟨u,h4,h5,h6⟩:=h3 i hi'
  refine⟨u,h4,h5,?_⟩
  cases x with
  | none=>exact h6
  | some ja=>exact⟨h6.1,fun e=>(h6.2 e).noId hm ht hi hn⟩
 | _=>exact h
theorem ObjAt.noId {id:Nat} (hm:γ'.μ=γ.μ) (ht:γ'.τ=γ.τ) (hi:∀ i,i≠id→γ'.ι i=γ.ι i) {o:Ob} {p:Pl} (hn:M0 id o=true) (h:ObjAt γ w o p):ObjAt γ' w o p:=by
 cases p with
 | blk b=>obtain⟨x,h1,h2⟩:=h;exact⟨x,h1,h2.noId hm ht hi hn⟩
 | vec v e sz=>obtain⟨n,f,xs,h1,h0,h2,h3⟩:=h;exact⟨n,f,xs,h1,h0,h2,by rw[hm];exact h3⟩
theorem Hp.back {own':Nat→Prop} {L:List (Nat×Ob)} {lv:List Nat} {id b:Nat} {o:Ob} (H:Hp own' (Ac L) (·∈lv) γ w) (hm:γ'.μ=γ.μ) (ht:γ'.τ=γ.τ) (hi:∀ i,i≠id→γ'.ι i=γ.ι i) (hid:γ'.ι id=some (.blk b))
  (hL:(L.all fun p=>!Nat.beq p.1 id&&M0 id p.2)=true) (ho:∀ k,own' k→own k∧k≠b) (hb:own b∧∀ k,γ.μ b k=none) (hx:∃ x,w.heap[b]?=some x∧RepO γ' o x):Hp own (Ac ((id,o) :: L)) (·∈lv) γ' w:=by
 simp only[List.all_eq_true,Bool.and_eq_true]at hL
 have hmem:∀ j oj,Ac L j=some oj→j≠id∧M0 id oj=true:=fun j oj h=>by
  have:=hL _ (Dy h)
  exact⟨Fi this.1,this.2⟩
 have cases_:∀ j oj,Ac ((id,o) :: L) j=some oj→(j=id∧oj=o)∨(j≠id∧Ac L j=some oj):=fun j oj h=>by
  rw[Cr]at h
  split at h
  ·rename_i e;injection h with h;exact .inl ⟨e,h.symm⟩
  ·rename_i e;exact .inr ⟨e,h⟩
 refine⟨by rw[hm];exact H.fz,fun j oj hj hok=>?_,fun i j oi oj p q h1 h2 c1 c2 hne hp hq=>?_,fun t v e sz hl hq=>?_,by rw[ht];exact H.tinj⟩
 ·rcases cases_ j oj hj with⟨rfl,rfl⟩ | ⟨hne,h⟩
  ·exact⟨.blk b,hid,hx,fun b' h=>by simp only[Pl.block,Option.some.injEq]at h;subst h;rw[hm];exact hb⟩
  ·obtain⟨p,g1,g2,g3⟩:=H.obj j oj h hok
   exact⟨p,by rw[hi j hne];exact g1,g2.noId hm ht hi (hmem j oj h).2,fun b' h=>⟨(ho _ (g3 b' h).1).1,by rw[hm];exact(g3 b' h).2⟩⟩
 ·have far:∀ j oj q,Ac L j=some oj→oj.ok=true→γ.ι j=some q→q.block≠some b:=fun j oj q h hok hq e=>by
   obtain⟨p',g1,g2,g3⟩:=H.obj j oj h hok
   rw[hq]at g1;injection g1 with g1;subst g1
   exact(ho _ (g3 b e).1).2 rfl
  rcases cases_ i oi h1 with⟨rfl,rfl⟩ | ⟨n1,k1⟩
  ·rcases cases_ j oj h2 with⟨rfl,rfl⟩ | ⟨n2,k2⟩
   ·exact absurd rfl hne
   ·rw[hid]at hp;injection hp with hp;subst hp
    rw[hi j n2]at hq
    exact .inr fun e=>far j oj q k2 c2 hq e.symm
  ·rcases cases_ j oj h2 with⟨rfl,rfl⟩ | ⟨n2,k2⟩
   ·rw[hid]at hq;injection hq with hq;subst hq
    rw[hi i n1]at hp
    exact .inr fun e=>far i oi p k1 c1 hp e
   ·rw[hi i n1]at hp
    rw[hi j n2]at hq
    exact H.inj i j oi oj p q k1 k2 c1 c2 hne hp hq
 ·rw[ht]at hq
  obtain⟨m,xs,q1,q2⟩:=H.tok t v e sz hl hq
  refine⟨m,xs,q1,fun g hg=>?_⟩
  obtain⟨s1,s2,s3⟩:=q2 g hg
  refine⟨(ho _ s1).1,by rw[hm];exact s2,fun j oj p hj hok hp=>?_⟩
  rcases cases_ j oj hj with⟨rfl,rfl⟩ | ⟨n1,k1⟩
  ·rw[hid]at hp;injection hp with hp;subst hp
   intro e
   simp only[Pl.block,Option.some.injEq]at e
   exact(ho _ s1).2 e.symm
  ·rw[hi j n1]at hp;exact s3 j oj p k1 hok hp
def EnumL (n:Nat) (h:List UInt8→Bool) (l:List (List UInt8)):Prop:=l.Nodup∧l.length=n∧∀ s,s∈l↔(s.length≤maxLen∧h s=true)
theorem EnumL.more {n:Nat} {h:List UInt8→Bool} {l p:List (List UInt8)} (hl:EnumL n h l) (hp:p.Nodup) (hs:∀ s∈p,s.length≤maxLen∧h s=true):∃ q,EnumL n h (p++q):=by
 refine⟨l.filter fun s=>!decide (s∈p),?_⟩
 have hn:(p++l.filter fun s=>!decide (s∈p)).Nodup:=by
  rw[List.nodup_append]
  refine⟨hp,hl.1.filter _,fun a ha b hb e=>?_⟩
  subst e
  simp only[List.mem_filter,Bool.not_eq_true',decide_eq_false_iff_not]at hb
  exact hb.2 ha
 have hm:∀ s,s∈(p++l.filter fun s=>!decide (s∈p))↔(s.length≤maxLen∧h s=true):=fun s=>by
  simp only[List.mem_append,List.mem_filter,Bool.not_eq_true',decide_eq_false_iff_not]
  constructor
  ·rintro(h1 | ⟨h1,_⟩)
   ·exact hs s h1
   ·exact(hl.2.2 s).1 h1
  ·intro h1
   by_cases h2:s∈p
   ·exact .inl h2
   ·exact .inr ⟨(hl.2.2 s).2 h1,h2⟩
 refine⟨hn,?_,hm⟩
 rw[← hl.2.1]
 exact((List.perm_ext_iff_of_nodup hn hl.1).2 fun s=>by rw[hm s,hl.2.2 s]).length_eq
theorem look_ok {F:List (Nat×AV)} {id t:Nat} (h:(F.all fun p=>noId id p.2)=true):noId id (Bl F t)=true:=by
 rcases Ei (l:=F) (t:=t) with e | e
 ·rw[e];rfl
 ·exact(List.all_eq_true.1 h) _ e
section
variable {R Y:Type} {W:R→Ed} {c:Code} {st:St} {ev:D}
end
abbrev cG {α:Type} (e:α→D) (F:List UInt8→α):List UInt8→D:=fun q=>e (F q)
end Go.Av
namespace Go.Av
open Go.RowKit Go.Base
variable {P:Program} {V:Dl} {N:Nat} {γ γ':G} {w w':World} {own:Nat→Prop} {hp:Nat→Option Ob} {live:Nat→Prop}
mutual
def noTok (T:Nat):AV→Bool
 | .ap _ _ _ r=>(match r with | .nl=>true | .tok t _=>!Nat.beq t T)
 | .fn _ c=>L2 T c
 | .agg l=>L2 T l
 | .tup l=>L2 T l
 | _=>true
def L2 (T:Nat):List AV→Bool
 | []=>true
 | x :: l=>noTok T x&&L2 T l
end
mutual
theorem RepA.noTok {T:Nat} (hm:γ'.μ=γ.μ) (hi:γ'.ι=γ.ι) (ht:∀ t,t≠T→γ'.τ t=γ.τ t):∀ {x:AV} {v:Value},noTok T x=true→RepA γ x v→RepA γ' x v
 | .d x,v,_,h=>by simp only[RepA]at h ⊢;rw[hm];exact h
 | .ap sz n f r,v,hn,h=>by
  simp only[RepA]at h ⊢
  rw[hm]
  refine⟨h.1,?_⟩
  cases r with
  | nl=>exact h.2
  | tok t e =>
   simp only[Go.Av.noTok]at hn
   have:=h.2
   simp only[RightOk]at this ⊢
   rw[ht t (Fi hn)];exact this
 | .ptr d o,v,hn,h=>by simp only[RepA]at h ⊢;rw[hi];exact h
 | .ep x o,v,_,h=>by simp only[RepA]at h ⊢;rw[hm];exact h
 | .pa d s i o,v,hn,h=>by simp only[RepA]at h ⊢;rw[hi];exact h
 | .arr d s n,v,hn,h=>by simp only[RepA]at h ⊢;rw[hi];exact h
 | .vec d s n,v,hn,h=>by simp only[RepA]at h ⊢;rw[hi];exact h
 | .pv d s i o,v,hn,h=>by simp only[RepA]at h ⊢;rw[hi];exact h
 | .mp d,v,hn,h=>by simp only[RepA]at h ⊢;rw[hi];exact h
 | .fn f c,v,hn,h=>by
  simp only[RepA]at h ⊢
  obtain⟨vs,e,h2⟩:=h
  exact⟨vs,e,RepAL.noTok hm hi ht (by simpa only[Go.Av.noTok] using hn) h2⟩
 | .nilp,v,_,h=>by simpa only[RepA] using h
 | .nilf,v,_,h=>by simpa only[RepA] using h
 | .raw u,v,_,h=>by simpa only[RepA] using h
 | .agg l,v,hn,h=>by
  simp only[RepA]at h ⊢
  obtain⟨vs,e,h2⟩:=h
  exact⟨vs,e,RepAL.noTok hm hi ht (by simpa only[Go.Av.noTok] using hn) h2⟩
 | .tup l,v,hn,h=>by
  simp only[RepA]at h ⊢
  obtain⟨vs,e,h2⟩:=h
  exact⟨vs,e,RepAL.noTok hm hi ht (by simpa only[Go.Av.noTok] using hn) h2⟩
 | .any,v,_,_=>by simp only[RepA]
theorem RepAL.noTok {T:Nat} (hm:γ'.μ=γ.μ) (hi:γ'.ι=γ.ι) (ht:∀ t,t≠T→γ'.τ t=γ.τ t):∀ {x:List AV} {v:List Value},L2 T x=true→RepAL γ x v→RepAL γ' x v
 | [],v,_,h=>by simpa only[RepAL] using h
 | x :: l,v,hn,h=>by
  simp only[L2,Bool.and_eq_true]at hn
  simp only[RepAL]at h ⊢
  obtain⟨u,t,e,h1,h2⟩:=h
  exact⟨u,t,e,RepA.noTok hm hi ht hn.1 h1,RepAL.noTok hm hi ht hn.2 h2⟩
end
def Pv (T:Nat):Ob→Bool
 | .cells l=>L2 T l
 | .vals _ _ (some (_,a))=>noTok T a
 | _=>true
theorem RepO.noTok {T:Nat} (hm:γ'.μ=γ.μ) (hi:γ'.ι=γ.ι) (ht:∀ t,t≠T→γ'.τ t=γ.τ t) {o:Ob} {x:Go.Obj} (hn:Pv T o=true) (h:RepO γ o x):RepO γ' o x:=by
 cases o with
 | cells l=>obtain⟨vs,e,h1,h2,h3⟩:=h;exact⟨vs,e,h1,RepAL.noTok hm hi ht hn h2,h3⟩
 | arr sz n f =>
  obtain⟨vs,e,h1,h2,h3⟩:=h
  exact⟨vs,e,h1,h2,fun i hi'=>by obtain⟨u,h4,h5⟩:=h3 i hi';exact⟨u,by rw[hm];exact h4,h5⟩⟩
 | vals n vs x =>
  obtain⟨us,e,h1,h2,h3⟩:=h
  refine⟨us,e,h1,h2,fun i hi'=>?_⟩
  obtain⟨u,h4,h5,h6⟩:=h3 i hi'
  refine⟨u,h4,h5,?_⟩
  cases x with
  | none=>exact h6
  | some ja=>exact⟨h6.1,fun e=>(h6.2 e).noTok hm hi ht hn⟩
 | _=>exact h
theorem ObjAt.noTok {T:Nat} (hm:γ'.μ=γ.μ) (hi:γ'.ι=γ.ι) (ht:∀ t,t≠T→γ'.τ t=γ.τ t) {o:Ob} {p:Pl} (hn:Pv T o=true) (h:ObjAt γ w o p):ObjAt γ' w o p:=by
 cases p with
 | blk b=>obtain⟨x,h1,h2⟩:=h;exact⟨x,h1,h2.noTok hm hi ht hn⟩
 | vec v e sz=>obtain⟨n,f,xs,h1,h0,h2,h3⟩:=h;exact⟨n,f,xs,h1,h0,h2,by rw[hm];exact h3⟩
theorem AAE {F:List (Nat×AV)} {T t:Nat} (h:(F.all fun p=>Go.Av.noTok T p.2)=true):Go.Av.noTok T (Bl F t)=true:=by
 rcases Ei (l:=F) (t:=t) with e | e
 ·rw[e];rfl
 ·exact(List.all_eq_true.1 h) _ e
theorem Hp.retok {T:Nat} {O:List (Nat×Ob)} (H:Hp own (Ac O) live γ w) (hm:γ'.μ=γ.μ) (hi:γ'.ι=γ.ι) (ht:∀ t,t≠T→γ'.τ t=γ.τ t) (hO:(O.all fun p=>Pv T p.2)=true) (hT:¬ live T):Hp own (Ac O) live γ' w:=by
 have hne:∀ {t},live t→t≠T:=fun h e=>hT (e ▸ h)
 refine⟨by rw[hm];exact H.fz,fun id o h ho=>?_,by rw[hi];exact H.inj,fun t v e sz hl hq=>?_,fun s t v u hs hl hne' h1 h2=>H.tinj s t v u hs hl hne' (by rw[← ht s (hne hs)];exact h1) (by rw[← ht t (hne hl)];exact h2)⟩
 ·obtain⟨p,h1,h2,h3⟩:=H.obj id o h ho
  exact⟨p,by rw[hi];exact h1,h2.noTok hm hi ht ((List.all_eq_true.1 hO) _ (Dy h)),by rw[hm];exact h3⟩
 ·rw[ht t (hne hl)]at hq
  obtain⟨n,xs,q1,q2⟩:=H.tok t v e sz hl hq
  exact⟨n,xs,q1,by rw[hm,hi];exact q2⟩
theorem Hp.addTok (H:Hp own hp live γ w) {T:Nat} {v:Value} {te sz n:Nat} {xs:List Value} (hτ:γ.τ T=some (v,te,sz)) (ow:w.ownsRow 0 te sz v n xs)
  (h1:∀ g,v.ownBlock=some g→own g∧(∀ k,n * sz≤k→γ.μ g k=none)∧∀ id o p,hp id=some o→o.ok=true→γ.ι id=some p→p.block≠some g)
  (h2:∀ t u,live t→γ.τ t=some u→v.ownBlock=none∨v.ownBlock≠u.1.ownBlock):Hp own hp (fun t=>t=T∨live t) γ w:=by
 refine⟨H.fz,H.obj,H.inj,fun t u e z hl hq=>?_,fun s t u u' hs hl hne hq hq'=>?_⟩
 ·rcases hl with rfl | hl
  ·rw[hτ]at hq
   injection hq with hq
   simp only[Prod.mk.injEq]at hq
   obtain⟨rfl,rfl,rfl⟩:=hq
   exact⟨n,xs,ow,h1⟩
  ·exact H.tok t u e z hl hq
 ·rcases hs with rfl | hs
  ·rcases hl with rfl | hl
   ·exact absurd rfl hne
   ·rw[hτ]at hq;injection hq with hq;subst hq
    exact h2 t u' hl hq'
  ·rcases hl with rfl | hl
   ·rw[hτ]at hq';injection hq' with hq';subst hq'
    rcases h2 s u hs hq with h | h
    ·cases hb:u.1.ownBlock with
     | none=>exact .inl rfl
     | some g=>exact .inr fun e=>by rw[← e]at h;cases h
    ·exact .inr fun e=>h e.symm
   ·exact H.tinj s t u u' hs hl hne hq hq'
theorem Hp.sub (H:Hp own hp live γ w) {hp':Nat→Option Ob} {live':Nat→Prop} (h1:∀ j o,hp' j=some o→hp j=some o) (h2:∀ t,live' t→live t):Hp own hp' live' γ w :=
 ⟨H.fz,fun id o h=>H.obj id o (h1 id o h),fun i j oi oj p q hi hj=>H.inj i j oi oj p q (h1 i oi hi) (h1 j oj hj),fun t v e sz hl hq =>
  let ⟨n,xs,q1,q2⟩:=H.tok t v e sz (h2 t hl) hq
  ⟨n,xs,q1,fun g hg=>⟨(q2 g hg).1,(q2 g hg).2.1,fun id o p h=>(q2 g hg).2.2 id o p (h1 id o h)⟩⟩,fun s t v u hs ht=>H.tinj s t v u (h2 s hs) (h2 t ht)⟩
theorem Hp.frozen (H:Hp own hp live γ w) {b:Nat} (hob:∀ id o p,hp id=some o→o.ok=true→γ.ι id=some p→p.block≠some b) (htk:∀ t u,live t→γ.τ t=some u→u.1.ownBlock≠some b)
  {ν:Nat→Nat→Option Value} (le:LeM γ.μ ν) (hν:∀ c k,c≠b→ν c k=γ.μ c k) (fz:Jw ν w):Hp own hp live ⟨ν,γ.ι,γ.τ⟩ w:=by
 have leG:LeG γ ⟨ν,γ.ι,γ.τ⟩:=⟨le,fun _ _ h=>h,fun _ _ h=>h⟩
 refine⟨fz,fun id o h ho=>?_,H.inj,fun t v e sz hl hq=>?_,H.tinj⟩
 ·obtain⟨p,h1,h2,h3⟩:=H.obj id o h ho
  exact⟨p,h1,h2.kept leG fun _ _=>rfl,fun c hc=>⟨(h3 c hc).1,fun k=>(hν c k (fun e=>hob id o p h ho h1 (by rw[hc,e]))).trans ((h3 c hc).2 k)⟩⟩
 ·obtain⟨n,xs,q1,q2⟩:=H.tok t v e sz hl hq
  exact⟨n,xs,q1,fun g hg=>⟨(q2 g hg).1,fun k hk=>(hν g k (fun e=>htk t _ hl hq (by rw[hg,e]))).trans ((q2 g hg).2.1 k hk),(q2 g hg).2.2⟩⟩
section
variable {α:Type} [Inhabited α] {te sz n:Nat} {e:α→D}
def ownB (V:Dl) (b:Nat) (vs:Nat→Value) (n:Nat):Nat→Prop:=fun g=>V.own g∧g≠b∧∀ i,i < n→(vs i).ownBlock≠some g
def Sb (V:Dl) (vs:Nat→Value) (n j:Nat):Nat→Prop:=fun g=>V.own g∧∀ i,i < n→i≠j→(vs i).ownBlock≠some g
structure Fam (V:Dl) (γ:G) (w:World) (te sz n:Nat) (e:α→D) (b:Nat) (vs:Nat→Value) (rows:List (List α)):Prop where
 cells:∃ us et,w.heap[b]?=some (.cells us et (0,0))∧us.size=n∧∀ i,i < n→us[i]?=some (vs i)∧(vs i).oneCell'=true
 own:V.own b
 mu:∀ k,γ.μ b k=none
 row:∀ i,i < n→∃ xs,w.ownsRow 0 te sz (vs i) (rows.getD i []).length xs∧Rep γ.μ (A0 sz e (rows.getD i [])) (vs i)∧∀ g,(vs i).ownBlock=some g→V.own g∧g≠b∧∀ k,(rows.getD i []).length * sz≤k→γ.μ g k=none
 inj:∀ i j,i < n→j < n→i≠j→(vs i).ownBlock=none∨(vs i).ownBlock≠(vs j).ownBlock
abbrev nv (tl L n te sz T:Nat) (e:α→D) (vs:Nat→Value) (j:Nat) (l:List α) (F:List (Nat×AV)) (O:List (Nat×Ob)) (Lv:List Nat) (nx:Nat):St:=⟨(tl,.arr L 1 n) :: F,(L,.vals n vs (some (j,.ap sz l.length (cF e l) (.tok T te)))) :: O,T :: Lv,nx⟩
structure sd (V:Dl) (N:Nat) (te sz n:Nat) (e:α→D) (L:Nat) (st:St) (rows:List (List α)) (γ:G) (a:Act) (w:World):Prop where
 ex:∃ b vs,γ.ι L=some (.blk b)∧Fam V γ w te sz n e b vs rows∧RS ⟨ownB V b vs n,⟨γ,a.defers⟩,w⟩ N st γ a w
 df:a.defers=V.μ0.df
 base:Base V.own V.w0 w
 big:∀ b,V.w0.heap.size≤b→V.own b
 mu:Keep V.own V.w0 V.μ0 γ
 len:rows.length=n
theorem AAV {tl L:Nat} {F:List (Nat×AV)} {O:List (Nat×Ob)} {Lv:List Nat} {nx:Nat} {a:Act} (hO:(O.all fun p=>!Nat.beq p.1 L)=true) (R:RS V N ⟨(tl,.arr L 1 n) :: F,(L,.vals n (fun _=>.slice none 0 0) none) :: O,Lv,nx⟩ γ a w) :
  sd V N te sz n e L ⟨(tl,.arr L 1 n) :: F,O,Lv,nx⟩ (List.replicate n ([]:List α)) γ a w:=by
 obtain⟨b,x,h1,h2,⟨us,et,rfl,h3,h4⟩,h5,h6⟩:=R.1.hp.blk (id:=L) (o:=.vals n (fun _=>.slice none 0 0) none) (by simp[Ac]) rfl
 have hid:∀ j o,Ac O j=some o→j≠L:=fun j o h=>Fi ((List.all_eq_true.1 hO) _ (Dy h))
 have hold:∀ j o,Ac O j=some o→Ac ((L,Ob.vals n (fun _=>.slice none 0 0) none) :: O) j=some o:=fun j o h=>by rw[Cr,if_neg (hid j o h)];exact h
 have hL:Ac ((L,Ob.vals n (fun _=>.slice none 0 0) none) :: O) L=some (.vals n (fun _=>.slice none 0 0) none):=by simp[Ac]
 have g0:∀ i,i < n→(List.replicate n ([]:List α)).getD i []=[]:=fun i hi=>by simp[List.getD_eq_getElem?_getD,List.getElem?_replicate,hi]
 refine⟨⟨b,fun _=>.slice none 0 0,h1,⟨⟨us,et,h2,h3,fun i hi=>?_⟩,h5,h6,fun i hi=>?_,fun i j _ _ _=>.inl rfl⟩,⟨⟨rfl,R.1.size,R.1.fr,(fun t j want h=>by cases h),?_,Base.refl _ _,fun k hk=>⟨R.1.big k (Nat.le_trans R.1.base.size hk),fun hb=>?_,fun i _ h=>by cases h⟩,Keep.refl _ _ _ _⟩,⟨fun id hid'=>?_⟩⟩⟩,R.1.defers,R.1.base,R.1.big,R.1.mu,by simp⟩
 ·obtain⟨u,q1,q2,q3⟩:=h4 i hi
  have q3:u=.slice none 0 0:=q3
  rw[q3]at q1
  exact⟨q1,rfl⟩
 ·rw[g0 i hi]
  refine⟨[],World.ownsRow_nil w 0 te sz,?_,fun g hg=>by cases hg⟩
  simp only[A0,Rep]
  exact⟨none,0,rfl,Nat.le_refl _,Nat.zero_le _,fun h=>absurd h (by simp)⟩
 ·refine(R.1.hp.sub hold fun t h=>h).own_to (fun id o p b' h ho hp hb=>?_) fun t v g hl hq hg=>?_
  ·obtain⟨p',e1,e2,e3⟩:=R.1.hp.obj id o (hold id o h) ho
   rw[hp]at e1;injection e1 with e1;subst e1
   refine⟨(e3 b' hb).1,fun eb=>?_,fun i _ h=>by cases h⟩
   rcases R.1.hp.inj id L o _ p (.blk b) (hold id o h) hL ho rfl (hid id o h) hp h1 with h' | h'
   ·rw[hb]at h';cases h'
   ·exact h' (by rw[hb,eb];rfl)
  ·obtain⟨m,xs,q1,q2⟩:=R.1.hp.tok t v.1 v.2.1 v.2.2 hl hq
   exact⟨(q2 g hg).1,fun eb=>(q2 g hg).2.2 L _ (.blk b) hL rfl h1 (by rw[eb];rfl),fun i _ h=>by cases h⟩
 ·subst hb
  have:=(Array.getElem?_eq_some_iff.1 h2).1
  have hk':w.heap.size≤k:=hk
  omega
 ·obtain⟨f1,f2,f3,f4⟩:=R.2.ok id hid'
  refine⟨f1,f2,?_,f4⟩
  cases ho:Ac O id with
  | none=>rfl
  | some o=>rw[hold id o ho]at f3;cases f3
theorem ga {c:Code} {tl L T nx nx' j:Nat} {F F':List (Nat×AV)} {O O':List (Nat×Ob)} {Lv Lv':List Nat} {a:Act} {rows:List (List α)} {l':List α} {q:Exit→Bool}
  (hj:j < n) (hF:(F.all fun p=>noTok T p.2)=true) (hO:(O.all fun p=>!Nat.beq p.1 L&&M0 L p.2)=true) (hO2:(O.all fun p=>Pv T p.2)=true) (hT:T ∉ Lv) (hx:L < nx∧T < nx)
  (hO':(O'.all fun p=>!Nat.beq p.1 L&&M0 L p.2)=true) (hT':T ∉ Lv')
  (I:sd V N te sz n e L ⟨(tl,.arr L 1 n) :: F,O,Lv,nx⟩ rows γ a w)
  (hrun:∀ (V1:Dl) (vs:Nat→Value) (γ1:G),RS V1 N (nv tl L n te sz T e vs j (rows.getD j []) F O Lv nx) γ1 a w→c.wp P (Rw V1 N fun ex s=>q ex=true∧Weak s (nv tl L n te sz T e vs j l' F' O' Lv' nx')) a w) :
  c.wp P (fun ex a' w'=>q ex=true∧∃ γ',sd V N te sz n e L ⟨(tl,.arr L 1 n) :: F',O',Lv',nx'⟩ (rows.set j l') γ' a' w') a w:=by
 obtain⟨⟨b,vs,hι,Fm,R⟩,df,base,big,mu,hlen⟩:=I
 obtain⟨xs,ow,rep,blk⟩:=Fm.row j hj
 let γ1:G:=⟨γ.μ,γ.ι,fun t=>if t=T then some (vs j,te,sz)else γ.τ t⟩
 have hτT:γ1.τ T=some (vs j,te,sz):=if_pos rfl
 have hτo:∀ t,t≠T→γ1.τ t=γ.τ t:=fun t h=>if_neg h
 have H1:Hp (ownB V b vs n) (Ac O) (·∈Lv) γ1 w:=R.1.hp.retok (T:=T) rfl rfl hτo hO2 hT
 obtain⟨us,et,hbk,hus,hcell⟩:=Fm.cells
 have H2:Hp (Sb V vs n j) (Ac ((L,.vals n vs (some (j,.ap sz (rows.getD j []).length (cF e (rows.getD j [])) (.tok T te)))) :: O)) (·∈Lv) γ1 w :=
  H1.back rfl rfl (fun _ _=>rfl) hι hO (fun k hk=>⟨⟨hk.1,fun i hi _=>hk.2.2 i hi⟩,hk.2.1⟩)
   ⟨⟨Fm.own,fun i hi _ eb=>by obtain⟨_,_,_,h⟩:=Fm.row i hi;exact(h b eb).2.1 rfl⟩,Fm.mu⟩
   ⟨_,hbk,us,et,rfl,hus,fun i hi=>⟨vs i,(hcell i hi).1,(hcell i hi).2,fun _=>rfl,fun ei=>by
    subst ei
    simp only[RepA]
    exact⟨rep,.inl hτT⟩⟩⟩
 have H3:Hp (Sb V vs n j) (Ac ((L,.vals n vs (some (j,.ap sz (rows.getD j []).length (cF e (rows.getD j [])) (.tok T te)))) :: O)) (·∈T :: Lv) γ1 w:=by
  have:=H2.addTok hτT ow (fun g hg=>⟨⟨(blk g hg).1,fun i hi hne eb=>?_⟩,(blk g hg).2.2,fun id o p hid ho hp eb=>?_⟩) (fun t u hl hq=>?_)
  ·have e2:(fun t=>t=T∨t∈Lv)=(·∈T :: Lv):=by funext t;simp
   rw[e2]at this;exact this
  ·rcases Fm.inj j i hj hi (fun e=>hne e.symm) with h | h
   ·rw[hg]at h;cases h
   ·exact h (by rw[hg,eb])
  ·rw[Cr]at hid
   split at hid
   ·rename_i e1
    subst e1
    rw[show γ1.ι id=some (.blk b) from hι]at hp
    injection hp with hp;subst hp
    simp only[Pl.block,Option.some.injEq]at eb
    exact(blk g hg).2.1 eb.symm
   ·obtain⟨p',e1,e2,e3⟩:=H1.obj id o hid ho
    rw[hp]at e1;injection e1 with e1;subst e1
    exact(e3 g eb).1.2.2 j hj hg
  ·cases hb:(vs j).ownBlock with
   | none=>exact .inl rfl
   | some g =>
    refine .inr fun eb=>?_
    obtain⟨m,ys,q1,q2⟩:=H1.tok t u.1 u.2.1 u.2.2 hl hq
    exact(q2 g eb.symm).1.2.2 j hj hb
 have hlt:∀ i,i < n→∀ g,(vs i).ownBlock=some g→g < w.heap.size:=fun i hi g hg=>by obtain⟨ys,h,_⟩:=Fm.row i hi;exact(h.lt g hg).2
 have R1:RS ⟨Sb V vs n j,⟨γ1,a.defers⟩,w⟩ N (nv tl L n te sz T e vs j (rows.getD j []) F O Lv nx) γ1 a w:=by
  refine⟨⟨rfl,R.1.size,fun t=>?_,(fun t j want h=>by cases h),H3,Base.refl _ _,fun k hk=>⟨big k (Nat.le_trans base.size hk),fun i hi _ eb=>absurd (hlt i hi k eb) (by have:w.heap.size≤k:=hk;omega)⟩,Keep.refl _ _ _ _⟩,⟨fun id hid=>?_⟩⟩
  ·have h:RepA γ (Bl ((tl,.arr L 1 n) :: F) t) (a.tmps.getD t undef):=R.1.fr t
   show RepA γ1 (Bl ((tl,.arr L 1 n) :: F) t) (a.tmps.getD t undef)
   exact RepA.noTok (γ:=γ) (γ':=γ1) (T:=T) rfl rfl hτo (AAE (T:=T) (F:=(tl,.arr L 1 n) :: F) (by simp only[List.all_cons,hF,Bool.and_true];rfl)) h
  ·have hid:nx≤id:=hid
   obtain⟨f1,f2,f3,f4⟩:=R.2.ok id hid
   refine⟨f1,by rw[hτo id (by omega)];exact f2,?_,fun h=>?_⟩
   ·show Ac ((L,_) :: O) id=none
    rw[Cr,if_neg (by omega)];exact f3
   ·rcases List.mem_cons.1 h with h | h
    ·omega
    ·exact f4 h
 refine wp_mono (hrun _ vs γ1 R1) ?_
 rintro ex a' w' ⟨s,γ2,r1,hq,hw⟩
 obtain⟨γ3,R3⟩:=hw _ N γ2 a' w' r1
 refine⟨hq,γ3,?_⟩
 have B1:Base (Sb V vs n j) w w':=R3.1.base
 have K1:Keep (Sb V vs n j) w ⟨γ1,a.defers⟩ γ3:=R3.1.mu
 have le:LeM γ.μ γ3.μ:=K1.le
 have hL:Ac ((L,Ob.vals n vs (some (j,.ap sz l'.length (cF e l') (.tok T te)))) :: O') L=some (.vals n vs (some (j,.ap sz l'.length (cF e l') (.tok T te)))):=by simp[Ac]
 have hid:∀ k o,Ac O' k=some o→k≠L:=fun k o h=>by
  have:=(List.all_eq_true.1 hO') _ (Dy h)
  simp only[Bool.and_eq_true]at this
  exact Fi this.1
 have hold:∀ k o,Ac O' k=some o→Ac ((L,Ob.vals n vs (some (j,.ap sz l'.length (cF e l') (.tok T te)))) :: O') k=some o:=fun k o h=>by rw[Cr,if_neg (hid k o h)];exact h
 obtain⟨b3,x3,i3,hx3,⟨us3,et3,rfl,sz3,cell3⟩,own3,mu3⟩:=R3.1.hp.blk (id:=L) hL rfl
 obtain⟨v3,c1,c2,_,c3⟩:=cell3 j hj
 have c3:=c3 rfl
 simp only[RepA]at c3
 obtain⟨rp3,rt3⟩:=c3
 have rowj:∃ xs,w'.ownsRow 0 te sz v3 l'.length xs∧∀ g,v3.ownBlock=some g→Sb V vs n j g∧(∀ k,l'.length * sz≤k→γ3.μ g k=none)∧(∀ id o p,Ac ((L,Ob.vals n vs (some (j,.ap sz l'.length (cF e l') (.tok T te)))) :: O') id=some o→o.ok=true→γ3.ι id=some p→p.block≠some g)∧∀ t u,t∈Lv'→γ3.τ t=some u→u.1.ownBlock≠some g:=by
  have rp3':=rp3
  simp only[Rep]at rp3'
  obtain⟨A',c',e2,_⟩:=rp3'
  rcases rt3 with h | h
  ·obtain⟨n3,ys,ow3,hg3⟩:=R3.1.hp.tok T v3 te sz (by simp) h
   obtain⟨A,cc,e1,_⟩:=Gj ow3
   have en:n3=l'.length:=by rw[e1]at e2;injection e2
   subst en
   refine⟨ys,ow3,fun g hg=>⟨(hg3 g hg).1,(hg3 g hg).2.1,(hg3 g hg).2.2,fun t u ht hu eb=>?_⟩⟩
   rcases R3.1.hp.tinj T t (v3,te,sz) u (by simp) (by simp[ht]) (fun e=>hT' (e ▸ ht)) h hu with h' | h'
   ·have h':v3.ownBlock=none:=h'
    rw[hg]at h';cases h'
   ·exact h' (by show v3.ownBlock=_;rw[hg,eb])
  ·subst h
   have en:l'.length=0:=by injection e2 with _ e3 _;exact e3.symm
   rw[en]
   exact⟨[],World.ownsRow_nil w' 0 te sz,fun g hg=>by cases hg⟩
 obtain⟨xs3,ow3,hg3⟩:=rowj
 let vs3:Nat→Value:=fun i=>if i=j then v3 else vs i
 have v3j:vs3 j=v3:=if_pos rfl
 have v3o:∀ i,i≠j→vs3 i=vs i:=fun i h=>if_neg h
 have notR:∀ i,i < n→i≠j→∀ g,(vs i).ownBlock=some g→¬ Sb V vs n j g:=fun i hi hne g hg h=>h.2 i hi hne hg
 have keep:∀ i,i < n→i≠j→∀ g,(vs i).ownBlock=some g→w'.heap[g]?=w.heap[g]?:=fun i hi hne g hg=>B1.block g (hlt i hi g hg) (notR i hi hne g hg)
 have lset:(rows.set j l').length=n:=by rw[List.length_set];exact hlen
 have gset:∀ i,i < n→(rows.set j l').getD i []=if i=j then l' else rows.getD i []:=fun i hi=>by
  simp only[List.getD_eq_getElem?_getD,List.getElem?_set]
  by_cases e1:i=j
  ·subst e1;rw[if_pos rfl,if_pos (by omega),if_pos rfl];rfl
  ·rw[if_neg (fun e=>e1 e.symm),if_neg e1]
 refine⟨⟨b3,vs3,i3,⟨⟨us3,et3,hx3,sz3,fun i hi=>?_⟩,own3.1,mu3,fun i hi=>?_,fun i k hi hk hne=>?_⟩,⟨⟨rfl,R3.1.size,R3.1.fr,(fun t j want h=>by cases h),?_,Base.refl _ _,fun k hk=>⟨?_,?_,fun i hi eb=>?_⟩,Keep.refl _ _ _ _⟩,⟨fun id hid'=>?_⟩⟩⟩,R3.1.defers.trans df,?_,big,?_,lset⟩
 ·by_cases e1:i=j
  ·subst e1;rw[v3j];exact⟨c1,c2⟩
  ·obtain⟨u,q1,q2,q3,_⟩:=cell3 i hi
   rw[v3o i e1]
   rw[q3 e1]at q1 q2
   exact⟨q1,q2⟩
 ·rw[gset i hi]
  by_cases e1:i=j
  ·subst e1
   rw[v3j,if_pos rfl]
   exact⟨xs3,ow3,rp3,fun g hg=>⟨(hg3 g hg).1.1,fun eb=>(hg3 g hg).2.2.1 L _ (.blk b3) hL rfl i3 (by rw[eb];rfl),(hg3 g hg).2.1⟩⟩
  ·rw[v3o i e1,if_neg e1]
   obtain⟨ys,q1,q2,q3⟩:=Fm.row i hi
   refine⟨ys,Vm q1 (keep i hi e1),Rep.mono le _ _ q2,fun g hg=>⟨(q3 g hg).1,fun eb=>?_,fun k hk=>?_⟩⟩
   ·exact own3.2 i hi e1 (by rw[← eb];exact hg)
   ·have:=K1.mu g k (hlt i hi g hg) (notR i hi e1 g hg)
    rw[this];exact(q3 g hg).2.2 k hk
 ·by_cases e1:i=j
  ·subst e1
   rw[v3j,v3o k (fun e=>hne e.symm)]
   cases hb:v3.ownBlock with
   | none=>exact .inl rfl
   | some g=>exact .inr fun eb=>(hg3 g hb).1.2 k hk (fun e=>hne e.symm) eb.symm
  ·rw[v3o i e1]
   by_cases e2:k=j
   ·subst e2
    rw[v3j]
    cases hb:(vs i).ownBlock with
    | none=>exact .inl rfl
    | some g=>exact .inr fun eb=>(hg3 g eb.symm).1.2 i hi e1 hb
   ·rw[v3o k e2];exact Fm.inj i k hi hk hne
 ·refine(R3.1.hp.sub hold fun t h=>by simp[h]).own_to (fun id o p b' h ho hp hb=>?_) fun t v g hl hq hg=>?_
  ·obtain⟨p',e1,e2,e3⟩:=R3.1.hp.obj id o (hold id o h) ho
   rw[hp]at e1;injection e1 with e1;subst e1
   refine⟨(e3 b' hb).1.1,fun eb=>?_,fun i hi eb=>?_⟩
   ·rcases R3.1.hp.inj id L o _ p (.blk b3) (hold id o h) hL ho rfl (hid id o h) hp i3 with h' | h'
    ·rw[hb]at h';cases h'
    ·exact h' (by rw[hb,eb];rfl)
   ·by_cases e4:i=j
    ·subst e4
     rw[v3j]at eb
     exact(hg3 b' eb).2.2.1 id o p (hold id o h) ho hp hb
    ·rw[v3o i e4]at eb;exact(e3 b' hb).1.2 i hi e4 eb
  ·obtain⟨m,ys,q1,q2⟩:=R3.1.hp.tok t v.1 v.2.1 v.2.2 (by simp[show t∈Lv' from hl]) hq
   refine⟨(q2 g hg).1.1,fun eb=>(q2 g hg).2.2 L _ (.blk b3) hL rfl i3 (by rw[eb];rfl),fun i hi eb=>?_⟩
   by_cases e4:i=j
   ·subst e4
    rw[v3j]at eb
    exact(hg3 g eb).2.2.2 t v hl hq hg
   ·rw[v3o i e4]at eb;exact(q2 g hg).1.2 i hi e4 eb
 ·exact big k (Nat.le_trans (Nat.le_trans base.size B1.size) hk)
 ·intro eb
  subst eb
  have:=(Array.getElem?_eq_some_iff.1 hx3).1
  have hk':w'.heap.size≤k:=hk
  omega
 ·have hk':w'.heap.size≤k:=hk
  by_cases e4:i=j
  ·subst e4
   rw[v3j]at eb
   have:=(ow3.lt k eb).2;omega
  ·rw[v3o i e4]at eb
   have:=hlt i hi k eb
   have:=B1.size
   omega
 ·obtain⟨f1,f2,f3,f4⟩:=R3.2.ok id hid'
  refine⟨f1,f2,?_,fun h=>f4 (by simp[show id∈Lv' from h])⟩
  cases ho:Ac O' id with
  | none=>rfl
  | some o=>have:=hold id o ho;rw[f3]at this;cases this
 ·exact base.trans (fun k hk=>big k (Nat.le_trans base.size hk)) ⟨B1.os,B1.tape,B1.output,B1.size,fun k hk hn=>B1.block k hk fun h=>hn h.1⟩
 ·exact⟨fun c o hc hn=>(K1.mu c o (Nat.lt_of_lt_of_le hc base.size) fun h=>hn h.1).trans (mu.mu c o hc hn),fun c o u h=>le c o u (mu.le c o u h),fun i p hi h=>K1.pin i p hi (mu.pin i p hi h)⟩
theorem AAU {tl L:Nat} {F:List (Nat×AV)} {O:List (Nat×Ob)} {Lv:List Nat} {nx:Nat} {a:Act} {rows:List (List α)} (I:sd V N te sz n e L ⟨(tl,.arr L 1 n) :: F,O,Lv,nx⟩ rows γ a w) :
  ∃ γ',RS V N ⟨(tl,.d (A0 1 (A0 sz e) rows)) :: F,O,Lv,nx⟩ γ' a w:=by
 obtain⟨⟨b,vs,hι,Fm,R⟩,df,base,big,mu,hlen⟩:=I
 obtain⟨us,et,hbk,hus,hcell⟩:=Fm.cells
 let ν:Nat→Nat→Option Value:=fun c k=>if c=b then us[k]? else γ.μ c k
 have νb:∀ k,ν b k=us[k]?:=fun k=>if_pos rfl
 have νo:∀ c k,c≠b→ν c k=γ.μ c k:=fun c k h=>if_neg h
 have le:LeM γ.μ ν:=fun c k v h=>by
  by_cases ec:c=b
  ·subst ec;rw[Fm.mu k]at h;cases h
  ·rw[νo c k ec];exact h
 have leG:LeG γ ⟨ν,γ.ι,γ.τ⟩:=⟨le,fun _ _ h=>h,fun _ _ h=>h⟩
 have fz:Jw ν w:=fun c k v h=>by
  by_cases ec:c=b
  ·subst ec
   rw[νb k]at h
   simp[World.cell?,hbk,h]
  ·rw[νo c k ec]at h;exact R.1.hp.fz c k v h
 have H1:=R.1.hp.frozen (b:=b) (fun id o p h ho hp eb=>by
   obtain⟨p',e1,e2,e3⟩:=R.1.hp.obj id o h ho
   rw[hp]at e1;injection e1 with e1;subst e1
   exact(e3 b eb).1.2.1 rfl) (fun t u hl hq eb=>by
   obtain⟨m,ys,q1,q2⟩:=R.1.hp.tok t u.1 u.2.1 u.2.2 hl hq
   exact(q2 b eb).1.2.1 rfl) le νo fz
 have H2:Hp V.own (Ac O) (·∈Lv) ⟨ν,γ.ι,γ.τ⟩ w:=H1.own_to (fun id o p b' h ho hp hb=>by
   obtain⟨p',e1,e2,e3⟩:=H1.obj id o h ho
   rw[hp]at e1;injection e1 with e1;subst e1
   exact(e3 b' hb).1.1) fun t v g hl hq hg=>by
   obtain⟨m,ys,q1,q2⟩:=H1.tok t v.1 v.2.1 v.2.2 hl hq
   exact(q2 g hg).1.1
 refine⟨⟨ν,γ.ι,γ.τ⟩,⟨df,R.1.size,fun t=>?_,(fun t j want h=>by cases h),H2,base,big,⟨fun c o hc hn=>?_,fun c o v h=>le c o v (mu.le c o v h),mu.pin⟩⟩,⟨fun id hid=>R.2.ok id hid⟩⟩
 ·have h:RepA γ (Bl ((tl,.arr L 1 n) :: F) t) (a.tmps.getD t undef):=R.1.fr t
  show RepA ⟨ν,γ.ι,γ.τ⟩ (Bl ((tl,.d (A0 1 (A0 sz e) rows)) :: F) t) (a.tmps.getD t undef)
  simp only[Bl]at h ⊢
  split at h
  ·rename_i et'
   rw[if_pos et']
   simp only[RepA]at h ⊢
   obtain⟨b',cc,e1,e2,e3,e4⟩:=h
   rw[hι]at e1;injection e1 with e1;injection e1 with e1;subst e1
   rw[e2]
   simp only[A0,Rep]
   refine⟨some ⟨b,0,none⟩,cc,by rw[hlen],by omega,e4,fun _=>⟨b,0,rfl,fun i hi=>?_⟩⟩
   have hi':i < n:=by omega
   obtain⟨ys,q1,q2,q3⟩:=Fm.row i hi'
   obtain⟨A,c2,s1,_⟩:=Gj q1
   refine⟨vs i,?_,by rw[s1];rfl,fun y hy=>?_,fun k hk=>?_⟩
   ·have:cF (A0 sz e) rows i=A0 sz e (rows.getD i []):=rfl
    rw[this]
    exact Rep.mono le _ _ q2
   ·have hcs:(vs i).cells=#[vs i]:=by rw[s1];rfl
    rw[hcs]at hy
    simp only[List.mem_toArray,List.mem_cons,List.not_mem_nil,or_false]at hy
    rw[hy];exact(hcell i hi').2
   ·obtain rfl:k=0:=by omega
    have hcs:(vs i).cells=#[vs i]:=by rw[s1];rfl
    rw[hcs,νb]
    have:0+i * 1+0=i:=by omega
    rw[this,(hcell i hi').1];rfl
  ·rename_i et'
   rw[if_neg et']
   exact RepA.mono leG _ _ h
 ·exact(νo c o (fun ec=>hn (by rw[ec];exact Fm.own))).trans (mu.mu c o hc hn)
def isE (b:Nat):Exit→Bool
 | .exit j=>Nat.beq j b
 | _=>false
def rwM {Y X:Type} (n:Nat) (jof:Y→Nat) (bm:Y→List α→Option ((Y×List α)⊕(X×List α))) (s:Y×List (List α)):Option ((Y×List (List α))⊕(X×List (List α))) :=
 if jof s.1 < n then(bm s.1 (s.2.getD (jof s.1) [])).bind fun z=>match z with
  | .inl p=>some (.inl (p.1,s.2.set (jof s.1) p.2))
  | .inr p=>some (.inr (p.1,s.2.set (jof s.1) p.2))
 else none
abbrev rwW {Y X:Type} (tl L n te sz T b:Nat) (e:α→D) (F:Y→List (Nat×AV)) (O:Y→List (Nat×Ob)) (Lv:Y→List Nat) (nx:Nat) (Fx:X→List (Nat×AV)) (Ox:X→List (Nat×Ob)) (Lx:X→List Nat) (nxx:Nat) (vs:Nat→Value) (j:Nat):(Y×List α)⊕(X×List α)→Ed :=
 wy (fun p=>nv tl L n te sz T e vs j p.2 (F p.1) (O p.1) (Lv p.1) nx) (fun p ex s=>isE b ex=true∧Weak s (nv tl L n te sz T e vs j p.2 (Fx p.1) (Ox p.1) (Lx p.1) nxx))
noncomputable def JD.rw {R Y X:Type} {W:R→Ed} {c:Code} {st:St} (tl L n te sz T b:Nat) (e:α→D) (F:Y→List (Nat×AV)) (O:Y→List (Nat×Ob)) (Lv:Y→List Nat) (nx:Nat) (jof:Y→Nat) (y0:Y)
  (w0:Weak st ⟨(tl,.arr L 1 n) :: F y0,(L,.vals n (fun _=>.slice none 0 0) none) :: O y0,Lv y0,nx⟩) (Fx:X→List (Nat×AV)) (Ox:X→List (Nat×Ob)) (Lx:X→List Nat) (nxx:Nat)
  (B:∀ (vs:Nat→Value) (y:Y) (l:List α),JD P N (lpC c) (nv tl L n te sz T e vs (jof y) l (F y) (O y) (Lv y) nx) (rwW tl L n te sz T b e F O Lv nx Fx Ox Lx nxx vs (jof y)))
  (cx:List (Nat×List Nat×List Nat)) (C:X→List (List α)→Tr W)
  (hB:∀ vs y l,(B vs y l).m=(B (fun _=>undef) y l).m:=by intro vs y l;rfl)
  (hC:∀ (x:X) (rows:List (List α)) (K:Exit→St→Prop),K (.exit b) (Ep cx (.exit b) ⟨(tl,.d (A0 1 (A0 sz e) rows)) :: Fx x,Ox x,Lx x,nxx⟩)=(C x rows).Hold K:=by intro x rows K;refine id ?_;kernel_rfl)
  (hF:∀ y,((F y).all fun p=>noTok T p.2)=true:=by intro y;refine id ?_;kernel_rfl)
  (hO:∀ y,((O y).all fun p=>!Nat.beq p.1 L&&M0 L p.2)=true:=by intro y;refine id ?_;kernel_rfl) (hO2:∀ y,((O y).all fun p=>Pv T p.2)=true:=by intro y;refine id ?_;kernel_rfl)
  (hL:∀ y,(!(Lv y).contains T)=true:=by intro y;refine id ?_;kernel_rfl) (hOx:∀ x,((Ox x).all fun p=>!Nat.beq p.1 L&&M0 L p.2)=true:=by intro y;refine id ?_;kernel_rfl) (hLx:∀ x,(!(Lx x).contains T)=true:=by intro y;refine id ?_;kernel_rfl)
  (hx:decide (L < nx∧T < nx)=true:=by refine id ?_;kernel_rfl) (hc:AAB c=true:=by refine id ?_;kernel_rfl):JD P N c st W where
 m:=(Ad (rwM n jof fun y l=>(B (fun _=>undef) y l).m) (y0,List.replicate n [])).bind fun p=>(C p.1 p.2).run
 j:=fun V x hm K hk γ0 a0 w00 hr0=>by
  obtain⟨⟨x1,rows1⟩,hp,hxr⟩:=Option.bind_eq_some_iff.1 hm
  have noC:∀ {l:List Nat},(!l.contains T)=true→T ∉ l:=fun h=>by simpa using h
  have hlt:=of_decide_eq_true hx
  cases c with
  | loop c =>
   obtain⟨k,hk2⟩:=H4 hp
   obtain⟨γ1,hr1⟩:=w0 V N γ0 a0 w00 hr0
   have hO0:((O y0).all fun p=>!Nat.beq p.1 L)=true:=by
    have:=hO y0
    simp only[List.all_eq_true,Bool.and_eq_true]at this ⊢
    exact fun p hp=>(this p hp).1
   have I0:=AAV (te:=te) (sz:=sz) (e:=e) hO0 hr1
   refine Vz (X:=Nat×Y×List (List α)) (I:=fun p a w=>D7 (rwM n jof fun y l=>(B (fun _=>undef) y l).m) p.1 p.2=some (x1,rows1)∧∃ γ,sd V N te sz n e L ⟨(tl,.arr L 1 n) :: F p.2.1,O p.2.1,Lv p.2.1,nx⟩ p.2.2 γ a w) (fun p=>p.1) (k,y0,List.replicate n []) ⟨hk2,γ1,I0⟩ ?_
   rintro⟨k,y,rows⟩ a w ⟨hs,γ,I⟩
   cases k with
   | zero=>cases hs
   | succ k =>
    have hs':=hs
    simp only[D7,rwM]at hs
    by_cases hj:jof y < n
    ·rw[if_pos hj]at hs
     cases hz:(B (fun _=>undef) y (rows.getD (jof y) [])).m with
     | none=>rw[hz]at hs;cases hs
     | some z =>
      rw[hz]at hs
      cases z with
      | inl p =>
       have key:=ga (P:=P) (q:=isN) hj (hF y) (hO y) (hO2 y) (noC (hL y)) hlt (hO p.1) (noC (hL p.1)) I (fun V1 vs γ1 R1=>(B vs y (rows.getD (jof y) [])).j V1 (.inl p) (by rw[hB];exact hz) _ (fun ex s h=>h) γ1 a w R1)
       refine wp_mono key ?_
       rintro ex a' w' ⟨hq,γ',I'⟩
       cases ex with
       | normal=>exact⟨(k,p.1,rows.set (jof y) p.2),⟨hs,γ',I'⟩,Nat.lt_succ_self k⟩
       | _=>cases hq
      | inr p =>
       simp only[Option.bind_some,Option.some.injEq,Prod.mk.injEq]at hs
       obtain⟨rfl,rfl⟩:=hs
       have key:=ga (P:=P) (q:=isE b) hj (hF y) (hO y) (hO2 y) (noC (hL y)) hlt (hOx p.1) (noC (hLx p.1)) I (fun V1 vs γ1 R1=>(B vs y (rows.getD (jof y) [])).j V1 (.inr p) (by rw[hB];exact hz) _ (fun ex s h=>h.2) γ1 a w R1)
       refine wp_mono key ?_
       rintro ex a' w' ⟨hq,γ',I'⟩
       cases ex with
       | exit i =>
        obtain rfl:i=b:=Nat.eq_of_beq_eq_true hq
        obtain⟨γ'',h9⟩:=AAU I'
        have h10:K (.exit i) (Ep cx (.exit i) ⟨(tl,.d (A0 1 (A0 sz e) (rows.set (jof y) p.2))) :: Fx p.1,Ox p.1,Lx p.1,nxx⟩):=by
         have h11:=hC p.1 (rows.set (jof y) p.2) K
         rw[h11];exact Tr.hold hk hxr
        exact⟨_,γ'',Hu h9 cx,h10⟩
       | _=>cases hq
    ·rw[if_neg hj]at hs;cases hs
  | _=>cases hc
end
end Go.Av
set_option maxRecDepth 100000
namespace Go.Av
open Go.RowKit Go.Base Go.Proofs Go.ChangeShapes Go.WideShapes
structure Be where
 X:Int
 Y:Int
instance:Inhabited Be:=⟨⟨0,0⟩⟩
noncomputable def C8 (x:Be):D:=.agg [(dI x.X),(dI x.Y)]
structure A7 where
 Lo:Int
 Hi:Int
instance:Inhabited A7:=⟨⟨0,0⟩⟩
noncomputable def Ai (x:A7):D:=.agg [(dI x.Lo),(dI x.Hi)]
structure Lb where
 At:Be
 Dist:Int
 Alt:A7
 Speed:A7
instance:Inhabited Lb:=⟨⟨default,0,default,default⟩⟩
noncomputable def Ef (x:Lb):D:=.agg [(dI x.At.X),(dI x.At.Y),(dI x.Dist),(dI x.Alt.Lo),(dI x.Alt.Hi),(dI x.Speed.Lo),(dI x.Speed.Hi)]
structure B4 where
 Name:List UInt8
 Empty:Int
 MaxFuel:Int
 Alts:List Int
 Masses:List Int
 Climb:List (List Int)
 ClimbFlow:List (List Int)
 Cruise:List (List Int)
 Descent:List Int
 Idle:List Int
 MaxSpeed:List Int
 MinSpeed:List Int
 Ref:Int
 Extra:Int
 Ceiling:Int
instance:Inhabited B4:=⟨⟨[],0,0,[],[],[],[],[],[],[],[],[],0,0,0⟩⟩
noncomputable def D8 (x:B4):D:=.agg [(.str x.Name),(dI x.Empty),(dI x.MaxFuel),(A0 1 dI x.Alts),(A0 1 dI x.Masses),(A0 1 (A0 1 dI) x.Climb),(A0 1 (A0 1 dI) x.ClimbFlow),(A0 1 (A0 1 dI) x.Cruise),(A0 1 dI x.Descent),(A0 1 dI x.Idle),(A0 1 dI x.MaxSpeed),(A0 1 dI x.MinSpeed),(dI x.Ref),(dI x.Extra),(dI x.Ceiling)]
structure Bk where
 East:Int
 North:Int
instance:Inhabited Bk:=⟨⟨0,0⟩⟩
noncomputable def Aw (x:Bk):D:=.agg [(dI x.East),(dI x.North)]
structure Ae where
 Corner:Be
 Cell:Int
 NX:Int
 NY:Int
 Alts:List Int
 Winds:List Bk
 Devs:List Int
 Err:Int
instance:Inhabited Ae:=⟨⟨default,0,0,0,[],[],[],0⟩⟩
noncomputable def He (x:Ae):D:=.agg [(dI x.Corner.X),(dI x.Corner.Y),(dI x.Cell),(dI x.NX),(dI x.NY),(A0 1 dI x.Alts),(A0 2 Aw x.Winds),(A0 1 dI x.Devs),(dI x.Err)]
structure F9 where
 Empty:Int
 Loaded:Int
 Reserve:Int
 Burnt:Int
instance:Inhabited F9:=⟨⟨0,0,0,0⟩⟩
noncomputable def az (x:F9):D:=.agg [(dI x.Empty),(dI x.Loaded),(dI x.Reserve),(dI x.Burnt)]
structure Ap where
 Nodes:List Lb
 Perf:B4
 Grid:Ae
 Fuel:F9
 Level:Int
 CAS:Int
 Mach:Int
 Accel:Int
 Decel:Int
 LimitAlt:Int
 LimitSpeed:Int
instance:Inhabited Ap:=⟨⟨[],default,default,default,0,0,0,0,0,0,0⟩⟩
noncomputable def C2 (x:Ap):D:=.agg [(A0 7 Ef x.Nodes),(.str x.Perf.Name),(dI x.Perf.Empty),(dI x.Perf.MaxFuel),(A0 1 dI x.Perf.Alts),(A0 1 dI x.Perf.Masses),(A0 1 (A0 1 dI) x.Perf.Climb),(A0 1 (A0 1 dI) x.Perf.ClimbFlow),(A0 1 (A0 1 dI) x.Perf.Cruise),(A0 1 dI x.Perf.Descent),(A0 1 dI x.Perf.Idle),(A0 1 dI x.Perf.MaxSpeed),(A0 1 dI x.Perf.MinSpeed),(dI x.Perf.Ref),(dI x.Perf.Extra),(dI x.Perf.Ceiling),(dI x.Grid.Corner.X),(dI x.Grid.Corner.Y),(dI x.Grid.Cell),(dI x.Grid.NX),(dI x.Grid.NY),(A0 1 dI x.Grid.Alts),(A0 2 Aw x.Grid.Winds),(A0 1 dI x.Grid.Devs),(dI x.Grid.Err),(dI x.Fuel.Empty),(dI x.Fuel.Loaded),(dI x.Fuel.Reserve),(dI x.Fuel.Burnt),(dI x.Level),(dI x.CAS),(dI x.Mach),(dI x.Accel),(dI x.Decel),(dI x.LimitAlt),(dI x.LimitSpeed)]
structure A2 where
 Lo:Int
 Hi:Int
instance:Inhabited A2:=⟨⟨0,0⟩⟩
noncomputable def Ee (x:A2):D:=.agg [(dI x.Lo),(dI x.Hi)]
structure Bc where
 Alt:Int
 CAS:Int
 TAS:Int
 Ground:Int
 Tick:Int
 Fuel:Int
 GroundIn:A2
 TickIn:A2
 FuelIn:A2
 Phase:Int
instance:Inhabited Bc:=⟨⟨0,0,0,0,0,0,default,default,default,0⟩⟩
noncomputable def Gs (x:Bc):D:=.agg [(dI x.Alt),(dI x.CAS),(dI x.TAS),(dI x.Ground),(dI x.Tick),(dI x.Fuel),(dI x.GroundIn.Lo),(dI x.GroundIn.Hi),(dI x.TickIn.Lo),(dI x.TickIn.Hi),(dI x.FuelIn.Lo),(dI x.FuelIn.Hi),(.int .u8 x.Phase)]
structure Al where
 I:Int
 J:Int
instance:Inhabited Al:=⟨⟨0,0⟩⟩
noncomputable def D2 (x:Al):D:=.agg [(dI x.I),(dI x.J)]
structure Ga where
 Passages:List Bc
 Trouble:Al
 Speeds:Bool
instance:Inhabited Ga:=⟨⟨[],default,false⟩⟩
noncomputable def tn (x:Ga):D:=.agg [(A0 13 Gs x.Passages),(dI x.Trouble.I),(dI x.Trouble.J),(.bool x.Speeds)]
structure An where
 Up:Int
 Down:Int
instance:Inhabited An:=⟨⟨0,0⟩⟩
noncomputable def Az (x:An):D:=.agg [(dI x.Up),(dI x.Down)]
structure A6 where
 East:A2
 North:A2
instance:Inhabited A6:=⟨⟨default,default⟩⟩
noncomputable def Kt (x:A6):D:=.agg [(dI x.East.Lo),(dI x.East.Hi),(dI x.North.Lo),(dI x.North.Hi)]
structure Aa where
 i:Int
 f:Int
 c:Int
instance:Inhabited Aa:=⟨⟨0,0,0⟩⟩
noncomputable def Bh (x:Aa):D:=.agg [(dI x.i),(dI x.f),(dI x.c)]
structure B3 where
 feet:Int
 value:Int
instance:Inhabited B3:=⟨⟨0,0⟩⟩
noncomputable def Fc (x:B3):D:=.agg [(dI x.feet),(dI x.value)]
structure Bu where
 alt:Int
 course:Int
 phase:Int
 speed:Int
 tas:Int
 w:Bk
instance:Inhabited Bu:=⟨⟨0,0,0,0,0,default⟩⟩
noncomputable def Hm (x:Bu):D:=.agg [(dI x.alt),(dI x.course),(.int .u8 x.phase),(dI x.speed),(dI x.tas),(dI x.w.East),(dI x.w.North)]
noncomputable def B5 (x:Be):List AV:=[(aI x.X),(aI x.Y)]
noncomputable def C6 (x:B4):List AV:=[(aS x.Name),(aI x.Empty),(aI x.MaxFuel),(.d (A0 1 dI x.Alts)),(.d (A0 1 dI x.Masses)),(.d (A0 1 (A0 1 dI) x.Climb)),(.d (A0 1 (A0 1 dI) x.ClimbFlow)),(.d (A0 1 (A0 1 dI) x.Cruise)),(.d (A0 1 dI x.Descent)),(.d (A0 1 dI x.Idle)),(.d (A0 1 dI x.MaxSpeed)),(.d (A0 1 dI x.MinSpeed)),(aI x.Ref),(aI x.Extra),(aI x.Ceiling)]
noncomputable def g69 (x:Bk):List AV:=[(aI x.East),(aI x.North)]
noncomputable def Ub (x:Ae):List AV:=[(aI x.Corner.X),(aI x.Corner.Y),(aI x.Cell),(aI x.NX),(aI x.NY),(.d (A0 1 dI x.Alts)),(.d (A0 2 Aw x.Winds)),(.d (A0 1 dI x.Devs)),(aI x.Err)]
noncomputable def Uc (x:F9):List AV:=[(aI x.Empty),(aI x.Loaded),(aI x.Reserve),(aI x.Burnt)]
noncomputable def Hf (x:A2):List AV:=[(aI x.Lo),(aI x.Hi)]
noncomputable def g39 (x:Al):List AV:=[(aI x.I),(aI x.J)]
noncomputable def Ag (x:Aa):List AV:=[(aI x.i),(aI x.f),(aI x.c)]
def AAJ (x:Be):Prop:=(Lit.int .i64 x.X).wf=true∧(Lit.int .i64 x.Y).wf=true
theorem cells28:Tryz.prog.cellsOf 28=2:=by kernel_rfl
set_option maxRecDepth 100000 in
theorem op28 {W:World} {spare:Nat→Bool}:Fq Tryz.prog W spare 28 (fun x=>[(dI x.X),(dI x.Y)]) AAJ:=fun H enc fuel cs x h=>by
 obtain⟨xs,n,_,_,hl,hx,hf⟩:=DataW.trod_struct Tryz.underlying28 h
 rw[cells28]at hl
 have hx:xs.length=2:=hx
 match cs,hl with
 | [c0,c1],_ =>
  have g0:=hf 0 _ rfl
  rw[List.getElem?_eq_getElem (by omega)]at g0
  obtain⟨z0,g0⟩:∃ z,DataW.trod enc Tryz.prog W 0 spare true n 2 [c0]=some z:=by
   have e:Tryz.prog.cellsOf 2=1:=by kernel_rfl
   exact⟨_,by simpa [e] using g0⟩
  obtain⟨a0,r0,k0⟩:=(Aq Tryz.underlying2) H enc n _ _ g0
  have g1:=hf 1 _ rfl
  rw[List.getElem?_eq_getElem (by omega)]at g1
  obtain⟨z1,g1⟩:∃ z,DataW.trod enc Tryz.prog W 0 spare true n 2 [c1]=some z:=by
   have e:Tryz.prog.cellsOf 2=1:=by kernel_rfl
   exact⟨_,by simpa [e] using g1⟩
  obtain⟨a1,r1,k1⟩:=(Aq Tryz.underlying2) H enc n _ _ g1
  exact⟨⟨a0,a1⟩,Au r0 (r1),⟨k0,k1⟩⟩
def AAK (x:A7):Prop:=(Lit.int .i64 x.Lo).wf=true∧(Lit.int .i64 x.Hi).wf=true
theorem cells65:Tryz.prog.cellsOf 65=2:=by kernel_rfl
set_option maxRecDepth 100000 in
theorem op65 {W:World} {spare:Nat→Bool}:Fq Tryz.prog W spare 65 (fun x=>[(dI x.Lo),(dI x.Hi)]) AAK:=fun H enc fuel cs x h=>by
 obtain⟨xs,n,_,_,hl,hx,hf⟩:=DataW.trod_struct Tryz.underlying65 h
 rw[cells65]at hl
 have hx:xs.length=2:=hx
 match cs,hl with
 | [c0,c1],_ =>
  have g0:=hf 0 _ rfl
  rw[List.getElem?_eq_getElem (by omega)]at g0
  obtain⟨z0,g0⟩:∃ z,DataW.trod enc Tryz.prog W 0 spare true n 2 [c0]=some z:=by
   have e:Tryz.prog.cellsOf 2=1:=by kernel_rfl
   exact⟨_,by simpa [e] using g0⟩
  obtain⟨a0,r0,k0⟩:=(Aq Tryz.underlying2) H enc n _ _ g0
  have g1:=hf 1 _ rfl
  rw[List.getElem?_eq_getElem (by omega)]at g1
  obtain⟨z1,g1⟩:∃ z,DataW.trod enc Tryz.prog W 0 spare true n 2 [c1]=some z:=by
   have e:Tryz.prog.cellsOf 2=1:=by kernel_rfl
   exact⟨_,by simpa [e] using g1⟩
  obtain⟨a1,r1,k1⟩:=(Aq Tryz.underlying2) H enc n _ _ g1
  exact⟨⟨a0,a1⟩,Au r0 (r1),⟨k0,k1⟩⟩
def AAL (x:Lb):Prop:=AAJ x.At∧(Lit.int .i64 x.Dist).wf=true∧AAK x.Alt∧AAK x.Speed
theorem cells67:Tryz.prog.cellsOf 67=7:=by kernel_rfl
set_option maxRecDepth 100000 in
theorem op67 {W:World} {spare:Nat→Bool}:Fq Tryz.prog W spare 67 (fun x=>[(dI x.At.X),(dI x.At.Y),(dI x.Dist),(dI x.Alt.Lo),(dI x.Alt.Hi),(dI x.Speed.Lo),(dI x.Speed.Hi)]) AAL:=fun H enc fuel cs x h=>by
 obtain⟨xs,n,_,_,hl,hx,hf⟩:=DataW.trod_struct Tryz.underlying67 h
 rw[cells67]at hl
 have hx:xs.length=4:=hx
 match cs,hl with
 | [c0,c1,c2,c3,c4,c5,c6],_ =>
  have g0:=hf 0 _ rfl
  rw[List.getElem?_eq_getElem (by omega)]at g0
  obtain⟨z0,g0⟩:∃ z,DataW.trod enc Tryz.prog W 0 spare true n 28 [c0,c1]=some z:=by
   have e:Tryz.prog.cellsOf 28=2:=by kernel_rfl
   exact⟨_,by simpa [e] using g0⟩
  obtain⟨a0,r0,k0⟩:=op28 H enc n _ _ g0
  have g1:=hf 1 _ rfl
  rw[List.getElem?_eq_getElem (by omega)]at g1
  obtain⟨z1,g1⟩:∃ z,DataW.trod enc Tryz.prog W 0 spare true n 2 [c2]=some z:=by
   have e:Tryz.prog.cellsOf 2=1:=by kernel_rfl
   exact⟨_,by simpa [e] using g1⟩
  obtain⟨a1,r1,k1⟩:=(Aq Tryz.underlying2) H enc n _ _ g1
  have g2:=hf 2 _ rfl
  rw[List.getElem?_eq_getElem (by omega)]at g2
  obtain⟨z2,g2⟩:∃ z,DataW.trod enc Tryz.prog W 0 spare true n 65 [c3,c4]=some z:=by
   have e:Tryz.prog.cellsOf 65=2:=by kernel_rfl
   exact⟨_,by simpa [e] using g2⟩
  obtain⟨a2,r2,k2⟩:=op65 H enc n _ _ g2
  have g3:=hf 3 _ rfl
  rw[List.getElem?_eq_getElem (by omega)]at g3
  obtain⟨z3,g3⟩:∃ z,DataW.trod enc Tryz.prog W 0 spare true n 65 [c5,c6]=some z:=by
   have e:Tryz.prog.cellsOf 65=2:=by kernel_rfl
   exact⟨_,by simpa [e] using g3⟩
  obtain⟨a3,r3,k3⟩:=op65 H enc n _ _ g3
  exact⟨⟨a0,a1,a2,a3⟩,Au r0 (Au r1 (Au r2 (r3))),⟨k0,k1,k2,k3⟩⟩
def AAI (x:B4):Prop:=x.Name.length≤maxLen∧(Lit.int .i64 x.Empty).wf=true∧(Lit.int .i64 x.MaxFuel).wf=true∧(x.Alts.length≤maxLen∧∀ b∈x.Alts,(Lit.int .i64 b).wf=true)∧(x.Masses.length≤maxLen∧∀ b∈x.Masses,(Lit.int .i64 b).wf=true)∧(x.Climb.length≤maxLen∧∀ b∈x.Climb,(b.length≤maxLen∧∀ c∈b,(Lit.int .i64 c).wf=true))∧(x.ClimbFlow.length≤maxLen∧∀ b∈x.ClimbFlow,(b.length≤maxLen∧∀ c∈b,(Lit.int .i64 c).wf=true))∧(x.Cruise.length≤maxLen∧∀ b∈x.Cruise,(b.length≤maxLen∧∀ c∈b,(Lit.int .i64 c).wf=true))∧(x.Descent.length≤maxLen∧∀ b∈x.Descent,(Lit.int .i64 b).wf=true)∧(x.Idle.length≤maxLen∧∀ b∈x.Idle,(Lit.int .i64 b).wf=true)∧(x.MaxSpeed.length≤maxLen∧∀ b∈x.MaxSpeed,(Lit.int .i64 b).wf=true)∧(x.MinSpeed.length≤maxLen∧∀ b∈x.MinSpeed,(Lit.int .i64 b).wf=true)∧(Lit.int .i64 x.Ref).wf=true∧(Lit.int .i64 x.Extra).wf=true∧(Lit.int .i64 x.Ceiling).wf=true
theorem cells26:Tryz.prog.cellsOf 26=15:=by kernel_rfl
set_option maxRecDepth 100000 in
theorem op26 {W:World} {spare:Nat→Bool}:Fq Tryz.prog W spare 26 (fun x=>[(.str x.Name),(dI x.Empty),(dI x.MaxFuel),(A0 1 dI x.Alts),(A0 1 dI x.Masses),(A0 1 (A0 1 dI) x.Climb),(A0 1 (A0 1 dI) x.ClimbFlow),(A0 1 (A0 1 dI) x.Cruise),(A0 1 dI x.Descent),(A0 1 dI x.Idle),(A0 1 dI x.MaxSpeed),(A0 1 dI x.MinSpeed),(dI x.Ref),(dI x.Extra),(dI x.Ceiling)]) AAI:=fun H enc fuel cs x h=>by
 obtain⟨xs,n,_,_,hl,hx,hf⟩:=DataW.trod_struct Tryz.underlying26 h
 rw[cells26]at hl
 have hx:xs.length=15:=hx
 match cs,hl with
 | [c0,c1,c2,c3,c4,c5,c6,c7,c8,c9,c10,c11,c12,c13,c14],_ =>
  have g0:=hf 0 _ rfl
  rw[List.getElem?_eq_getElem (by omega)]at g0
  obtain⟨z0,g0⟩:∃ z,DataW.trod enc Tryz.prog W 0 spare true n 9 [c0]=some z:=by
   have e:Tryz.prog.cellsOf 9=1:=by kernel_rfl
   exact⟨_,by simpa [e] using g0⟩
  obtain⟨a0,r0,k0⟩:=(ew Tryz.underlying9) H enc n _ _ g0
  have g1:=hf 1 _ rfl
  rw[List.getElem?_eq_getElem (by omega)]at g1
  obtain⟨z1,g1⟩:∃ z,DataW.trod enc Tryz.prog W 0 spare true n 2 [c1]=some z:=by
   have e:Tryz.prog.cellsOf 2=1:=by kernel_rfl
   exact⟨_,by simpa [e] using g1⟩
  obtain⟨a1,r1,k1⟩:=(Aq Tryz.underlying2) H enc n _ _ g1
  have g2:=hf 2 _ rfl
  rw[List.getElem?_eq_getElem (by omega)]at g2
  obtain⟨z2,g2⟩:∃ z,DataW.trod enc Tryz.prog W 0 spare true n 2 [c2]=some z:=by
   have e:Tryz.prog.cellsOf 2=1:=by kernel_rfl
   exact⟨_,by simpa [e] using g2⟩
  obtain⟨a2,r2,k2⟩:=(Aq Tryz.underlying2) H enc n _ _ g2
  have g3:=hf 3 _ rfl
  rw[List.getElem?_eq_getElem (by omega)]at g3
  obtain⟨z3,g3⟩:∃ z,DataW.trod enc Tryz.prog W 0 spare true n 23 [c3]=some z:=by
   have e:Tryz.prog.cellsOf 23=1:=by kernel_rfl
   exact⟨_,by simpa [e] using g3⟩
  obtain⟨a3,r3,k3⟩:=(Bn (sz:=1) (e:=fun a=>[(dI a)]) (en:=dI) (ok:=fun a=>(Lit.int .i64 a).wf=true) Tryz.underlying23 (by kernel_rfl) (by decide) (Aq Tryz.underlying2) (fun _=>rfl) (fun _=>rfl) (fun _=>.inr ⟨rfl,rfl⟩)) H enc n _ _ g3
  have g4:=hf 4 _ rfl
  rw[List.getElem?_eq_getElem (by omega)]at g4
  obtain⟨z4,g4⟩:∃ z,DataW.trod enc Tryz.prog W 0 spare true n 23 [c4]=some z:=by
   have e:Tryz.prog.cellsOf 23=1:=by kernel_rfl
   exact⟨_,by simpa [e] using g4⟩
  obtain⟨a4,r4,k4⟩:=(Bn (sz:=1) (e:=fun a=>[(dI a)]) (en:=dI) (ok:=fun a=>(Lit.int .i64 a).wf=true) Tryz.underlying23 (by kernel_rfl) (by decide) (Aq Tryz.underlying2) (fun _=>rfl) (fun _=>rfl) (fun _=>.inr ⟨rfl,rfl⟩)) H enc n _ _ g4
  have g5:=hf 5 _ rfl
  rw[List.getElem?_eq_getElem (by omega)]at g5
  obtain⟨z5,g5⟩:∃ z,DataW.trod enc Tryz.prog W 0 spare true n 24 [c5]=some z:=by
   have e:Tryz.prog.cellsOf 24=1:=by kernel_rfl
   exact⟨_,by simpa [e] using g5⟩
  obtain⟨a5,r5,k5⟩:=(Bn (sz:=1) (e:=fun a=>[(A0 1 dI a)]) (en:=(A0 1 dI)) (ok:=fun a=>(a.length≤maxLen∧∀ b∈a,(Lit.int .i64 b).wf=true)) Tryz.underlying24 (by kernel_rfl) (by decide) (Bn (sz:=1) (e:=fun a=>[(dI a)]) (en:=dI) (ok:=fun a=>(Lit.int .i64 a).wf=true) Tryz.underlying23 (by kernel_rfl) (by decide) (Aq Tryz.underlying2) (fun _=>rfl) (fun _=>rfl) (fun _=>.inr ⟨rfl,rfl⟩)) (fun _=>rfl) (fun _=>rfl) (fun _=>.inr ⟨rfl,rfl⟩)) H enc n _ _ g5
  have g6:=hf 6 _ rfl
  rw[List.getElem?_eq_getElem (by omega)]at g6
  obtain⟨z6,g6⟩:∃ z,DataW.trod enc Tryz.prog W 0 spare true n 24 [c6]=some z:=by
   have e:Tryz.prog.cellsOf 24=1:=by kernel_rfl
   exact⟨_,by simpa [e] using g6⟩
  obtain⟨a6,r6,k6⟩:=(Bn (sz:=1) (e:=fun a=>[(A0 1 dI a)]) (en:=(A0 1 dI)) (ok:=fun a=>(a.length≤maxLen∧∀ b∈a,(Lit.int .i64 b).wf=true)) Tryz.underlying24 (by kernel_rfl) (by decide) (Bn (sz:=1) (e:=fun a=>[(dI a)]) (en:=dI) (ok:=fun a=>(Lit.int .i64 a).wf=true) Tryz.underlying23 (by kernel_rfl) (by decide) (Aq Tryz.underlying2) (fun _=>rfl) (fun _=>rfl) (fun _=>.inr ⟨rfl,rfl⟩)) (fun _=>rfl) (fun _=>rfl) (fun _=>.inr ⟨rfl,rfl⟩)) H enc n _ _ g6
  have g7:=hf 7 _ rfl
  rw[List.getElem?_eq_getElem (by omega)]at g7
  obtain⟨z7,g7⟩:∃ z,DataW.trod enc Tryz.prog W 0 spare true n 24 [c7]=some z:=by
   have e:Tryz.prog.cellsOf 24=1:=by kernel_rfl
   exact⟨_,by simpa [e] using g7⟩
  obtain⟨a7,r7,k7⟩:=(Bn (sz:=1) (e:=fun a=>[(A0 1 dI a)]) (en:=(A0 1 dI)) (ok:=fun a=>(a.length≤maxLen∧∀ b∈a,(Lit.int .i64 b).wf=true)) Tryz.underlying24 (by kernel_rfl) (by decide) (Bn (sz:=1) (e:=fun a=>[(dI a)]) (en:=dI) (ok:=fun a=>(Lit.int .i64 a).wf=true) Tryz.underlying23 (by kernel_rfl) (by decide) (Aq Tryz.underlying2) (fun _=>rfl) (fun _=>rfl) (fun _=>.inr ⟨rfl,rfl⟩)) (fun _=>rfl) (fun _=>rfl) (fun _=>.inr ⟨rfl,rfl⟩)) H enc n _ _ g7
  have g8:=hf 8 _ rfl
  rw[List.getElem?_eq_getElem (by omega)]at g8
  obtain⟨z8,g8⟩:∃ z,DataW.trod enc Tryz.prog W 0 spare true n 23 [c8]=some z:=by
   have e:Tryz.prog.cellsOf 23=1:=by kernel_rfl
   exact⟨_,by simpa [e] using g8⟩
  obtain⟨a8,r8,k8⟩:=(Bn (sz:=1) (e:=fun a=>[(dI a)]) (en:=dI) (ok:=fun a=>(Lit.int .i64 a).wf=true) Tryz.underlying23 (by kernel_rfl) (by decide) (Aq Tryz.underlying2) (fun _=>rfl) (fun _=>rfl) (fun _=>.inr ⟨rfl,rfl⟩)) H enc n _ _ g8
  have g9:=hf 9 _ rfl
  rw[List.getElem?_eq_getElem (by omega)]at g9
  obtain⟨z9,g9⟩:∃ z,DataW.trod enc Tryz.prog W 0 spare true n 23 [c9]=some z:=by
   have e:Tryz.prog.cellsOf 23=1:=by kernel_rfl
   exact⟨_,by simpa [e] using g9⟩
  obtain⟨a9,r9,k9⟩:=(Bn (sz:=1) (e:=fun a=>[(dI a)]) (en:=dI) (ok:=fun a=>(Lit.int .i64 a).wf=true) Tryz.underlying23 (by kernel_rfl) (by decide) (Aq Tryz.underlying2) (fun _=>rfl) (fun _=>rfl) (fun _=>.inr ⟨rfl,rfl⟩)) H enc n _ _ g9
  have g10:=hf 10 _ rfl
  rw[List.getElem?_eq_getElem (by omega)]at g10
  obtain⟨z10,g10⟩:∃ z,DataW.trod enc Tryz.prog W 0 spare true n 23 [c10]=some z:=by
   have e:Tryz.prog.cellsOf 23=1:=by kernel_rfl
   exact⟨_,by simpa [e] using g10⟩
  obtain⟨a10,r10,k10⟩:=(Bn (sz:=1) (e:=fun a=>[(dI a)]) (en:=dI) (ok:=fun a=>(Lit.int .i64 a).wf=true) Tryz.underlying23 (by kernel_rfl) (by decide) (Aq Tryz.underlying2) (fun _=>rfl) (fun _=>rfl) (fun _=>.inr ⟨rfl,rfl⟩)) H enc n _ _ g10
  have g11:=hf 11 _ rfl
  rw[List.getElem?_eq_getElem (by omega)]at g11
  obtain⟨z11,g11⟩:∃ z,DataW.trod enc Tryz.prog W 0 spare true n 23 [c11]=some z:=by
   have e:Tryz.prog.cellsOf 23=1:=by kernel_rfl
   exact⟨_,by simpa [e] using g11⟩
  obtain⟨a11,r11,k11⟩:=(Bn (sz:=1) (e:=fun a=>[(dI a)]) (en:=dI) (ok:=fun a=>(Lit.int .i64 a).wf=true) Tryz.underlying23 (by kernel_rfl) (by decide) (Aq Tryz.underlying2) (fun _=>rfl) (fun _=>rfl) (fun _=>.inr ⟨rfl,rfl⟩)) H enc n _ _ g11
  have g12:=hf 12 _ rfl
  rw[List.getElem?_eq_getElem (by omega)]at g12
  obtain⟨z12,g12⟩:∃ z,DataW.trod enc Tryz.prog W 0 spare true n 2 [c12]=some z:=by
   have e:Tryz.prog.cellsOf 2=1:=by kernel_rfl
   exact⟨_,by simpa [e] using g12⟩
  obtain⟨a12,r12,k12⟩:=(Aq Tryz.underlying2) H enc n _ _ g12
  have g13:=hf 13 _ rfl
  rw[List.getElem?_eq_getElem (by omega)]at g13
  obtain⟨z13,g13⟩:∃ z,DataW.trod enc Tryz.prog W 0 spare true n 2 [c13]=some z:=by
   have e:Tryz.prog.cellsOf 2=1:=by kernel_rfl
   exact⟨_,by simpa [e] using g13⟩
  obtain⟨a13,r13,k13⟩:=(Aq Tryz.underlying2) H enc n _ _ g13
  have g14:=hf 14 _ rfl
  rw[List.getElem?_eq_getElem (by omega)]at g14
  obtain⟨z14,g14⟩:∃ z,DataW.trod enc Tryz.prog W 0 spare true n 2 [c14]=some z:=by
   have e:Tryz.prog.cellsOf 2=1:=by kernel_rfl
   exact⟨_,by simpa [e] using g14⟩
  obtain⟨a14,r14,k14⟩:=(Aq Tryz.underlying2) H enc n _ _ g14
  exact⟨⟨a0,a1,a2,a3,a4,a5,a6,a7,a8,a9,a10,a11,a12,a13,a14⟩,Au r0 (Au r1 (Au r2 (Au r3 (Au r4 (Au r5 (Au r6 (Au r7 (Au r8 (Au r9 (Au r10 (Au r11 (Au r12 (Au r13 (r14)))))))))))))),⟨k0,k1,k2,k3,k4,k5,k6,k7,k8,k9,k10,k11,k12,k13,k14⟩⟩
def AAM (x:Bk):Prop:=(Lit.int .i64 x.East).wf=true∧(Lit.int .i64 x.North).wf=true
theorem cells69:Tryz.prog.cellsOf 69=2:=by kernel_rfl
set_option maxRecDepth 100000 in
theorem op69 {W:World} {spare:Nat→Bool}:Fq Tryz.prog W spare 69 (fun x=>[(dI x.East),(dI x.North)]) AAM:=fun H enc fuel cs x h=>by
 obtain⟨xs,n,_,_,hl,hx,hf⟩:=DataW.trod_struct Tryz.underlying69 h
 rw[cells69]at hl
 have hx:xs.length=2:=hx
 match cs,hl with
 | [c0,c1],_ =>
  have g0:=hf 0 _ rfl
  rw[List.getElem?_eq_getElem (by omega)]at g0
  obtain⟨z0,g0⟩:∃ z,DataW.trod enc Tryz.prog W 0 spare true n 2 [c0]=some z:=by
   have e:Tryz.prog.cellsOf 2=1:=by kernel_rfl
   exact⟨_,by simpa [e] using g0⟩
  obtain⟨a0,r0,k0⟩:=(Aq Tryz.underlying2) H enc n _ _ g0
  have g1:=hf 1 _ rfl
  rw[List.getElem?_eq_getElem (by omega)]at g1
  obtain⟨z1,g1⟩:∃ z,DataW.trod enc Tryz.prog W 0 spare true n 2 [c1]=some z:=by
   have e:Tryz.prog.cellsOf 2=1:=by kernel_rfl
   exact⟨_,by simpa [e] using g1⟩
  obtain⟨a1,r1,k1⟩:=(Aq Tryz.underlying2) H enc n _ _ g1
  exact⟨⟨a0,a1⟩,Au r0 (r1),⟨k0,k1⟩⟩
def ok31 (x:Ae):Prop:=AAJ x.Corner∧(Lit.int .i64 x.Cell).wf=true∧(Lit.int .i64 x.NX).wf=true∧(Lit.int .i64 x.NY).wf=true∧(x.Alts.length≤maxLen∧∀ b∈x.Alts,(Lit.int .i64 b).wf=true)∧(x.Winds.length≤maxLen∧∀ b∈x.Winds,AAM b)∧(x.Devs.length≤maxLen∧∀ b∈x.Devs,(Lit.int .i64 b).wf=true)∧(Lit.int .i64 x.Err).wf=true
theorem cells31:Tryz.prog.cellsOf 31=9:=by kernel_rfl
set_option maxRecDepth 100000 in
theorem op31 {W:World} {spare:Nat→Bool}:Fq Tryz.prog W spare 31 (fun x=>[(dI x.Corner.X),(dI x.Corner.Y),(dI x.Cell),(dI x.NX),(dI x.NY),(A0 1 dI x.Alts),(A0 2 Aw x.Winds),(A0 1 dI x.Devs),(dI x.Err)]) ok31:=fun H enc fuel cs x h=>by
 obtain⟨xs,n,_,_,hl,hx,hf⟩:=DataW.trod_struct Tryz.underlying31 h
 rw[cells31]at hl
 have hx:xs.length=8:=hx
 match cs,hl with
 | [c0,c1,c2,c3,c4,c5,c6,c7,c8],_ =>
  have g0:=hf 0 _ rfl
  rw[List.getElem?_eq_getElem (by omega)]at g0
  obtain⟨z0,g0⟩:∃ z,DataW.trod enc Tryz.prog W 0 spare true n 28 [c0,c1]=some z:=by
   have e:Tryz.prog.cellsOf 28=2:=by kernel_rfl
   exact⟨_,by simpa [e] using g0⟩
  obtain⟨a0,r0,k0⟩:=op28 H enc n _ _ g0
  have g1:=hf 1 _ rfl
  rw[List.getElem?_eq_getElem (by omega)]at g1
  obtain⟨z1,g1⟩:∃ z,DataW.trod enc Tryz.prog W 0 spare true n 2 [c2]=some z:=by
   have e:Tryz.prog.cellsOf 2=1:=by kernel_rfl
   exact⟨_,by simpa [e] using g1⟩
  obtain⟨a1,r1,k1⟩:=(Aq Tryz.underlying2) H enc n _ _ g1
  have g2:=hf 2 _ rfl
  rw[List.getElem?_eq_getElem (by omega)]at g2
  obtain⟨z2,g2⟩:∃ z,DataW.trod enc Tryz.prog W 0 spare true n 3 [c3]=some z:=by
   have e:Tryz.prog.cellsOf 3=1:=by kernel_rfl
   exact⟨_,by simpa [e] using g2⟩
  obtain⟨a2,r2,k2⟩:=(Aq Tryz.underlying3) H enc n _ _ g2
  have g3:=hf 3 _ rfl
  rw[List.getElem?_eq_getElem (by omega)]at g3
  obtain⟨z3,g3⟩:∃ z,DataW.trod enc Tryz.prog W 0 spare true n 3 [c4]=some z:=by
   have e:Tryz.prog.cellsOf 3=1:=by kernel_rfl
   exact⟨_,by simpa [e] using g3⟩
  obtain⟨a3,r3,k3⟩:=(Aq Tryz.underlying3) H enc n _ _ g3
  have g4:=hf 4 _ rfl
  rw[List.getElem?_eq_getElem (by omega)]at g4
  obtain⟨z4,g4⟩:∃ z,DataW.trod enc Tryz.prog W 0 spare true n 23 [c5]=some z:=by
   have e:Tryz.prog.cellsOf 23=1:=by kernel_rfl
   exact⟨_,by simpa [e] using g4⟩
  obtain⟨a4,r4,k4⟩:=(Bn (sz:=1) (e:=fun a=>[(dI a)]) (en:=dI) (ok:=fun a=>(Lit.int .i64 a).wf=true) Tryz.underlying23 (by kernel_rfl) (by decide) (Aq Tryz.underlying2) (fun _=>rfl) (fun _=>rfl) (fun _=>.inr ⟨rfl,rfl⟩)) H enc n _ _ g4
  have g5:=hf 5 _ rfl
  rw[List.getElem?_eq_getElem (by omega)]at g5
  obtain⟨z5,g5⟩:∃ z,DataW.trod enc Tryz.prog W 0 spare true n 29 [c6]=some z:=by
   have e:Tryz.prog.cellsOf 29=1:=by kernel_rfl
   exact⟨_,by simpa [e] using g5⟩
  obtain⟨a5,r5,k5⟩:=(Bn (sz:=2) (e:=fun a=>[(dI a.East),(dI a.North)]) (en:=Aw) (ok:=fun a=>AAM a) Tryz.underlying29 (by kernel_rfl) (by decide) op69 (fun _=>rfl) (fun _=>rfl) (fun _=>.inl rfl)) H enc n _ _ g5
  have g6:=hf 6 _ rfl
  rw[List.getElem?_eq_getElem (by omega)]at g6
  obtain⟨z6,g6⟩:∃ z,DataW.trod enc Tryz.prog W 0 spare true n 23 [c7]=some z:=by
   have e:Tryz.prog.cellsOf 23=1:=by kernel_rfl
   exact⟨_,by simpa [e] using g6⟩
  obtain⟨a6,r6,k6⟩:=(Bn (sz:=1) (e:=fun a=>[(dI a)]) (en:=dI) (ok:=fun a=>(Lit.int .i64 a).wf=true) Tryz.underlying23 (by kernel_rfl) (by decide) (Aq Tryz.underlying2) (fun _=>rfl) (fun _=>rfl) (fun _=>.inr ⟨rfl,rfl⟩)) H enc n _ _ g6
  have g7:=hf 7 _ rfl
  rw[List.getElem?_eq_getElem (by omega)]at g7
  obtain⟨z7,g7⟩:∃ z,DataW.trod enc Tryz.prog W 0 spare true n 2 [c8]=some z:=by
   have e:Tryz.prog.cellsOf 2=1:=by kernel_rfl
   exact⟨_,by simpa [e] using g7⟩
  obtain⟨a7,r7,k7⟩:=(Aq Tryz.underlying2) H enc n _ _ g7
  exact⟨⟨a0,a1,a2,a3,a4,a5,a6,a7⟩,Au r0 (Au r1 (Au r2 (Au r3 (Au r4 (Au r5 (Au r6 (r7))))))),⟨k0,k1,k2,k3,k4,k5,k6,k7⟩⟩
def ok33 (x:F9):Prop:=(Lit.int .i64 x.Empty).wf=true∧(Lit.int .i64 x.Loaded).wf=true∧(Lit.int .i64 x.Reserve).wf=true∧(Lit.int .i64 x.Burnt).wf=true
theorem cells33:Tryz.prog.cellsOf 33=4:=by kernel_rfl
set_option maxRecDepth 100000 in
theorem op33 {W:World} {spare:Nat→Bool}:Fq Tryz.prog W spare 33 (fun x=>[(dI x.Empty),(dI x.Loaded),(dI x.Reserve),(dI x.Burnt)]) ok33:=fun H enc fuel cs x h=>by
 obtain⟨xs,n,_,_,hl,hx,hf⟩:=DataW.trod_struct Tryz.underlying33 h
 rw[cells33]at hl
 have hx:xs.length=4:=hx
 match cs,hl with
 | [c0,c1,c2,c3],_ =>
  have g0:=hf 0 _ rfl
  rw[List.getElem?_eq_getElem (by omega)]at g0
  obtain⟨z0,g0⟩:∃ z,DataW.trod enc Tryz.prog W 0 spare true n 2 [c0]=some z:=by
   have e:Tryz.prog.cellsOf 2=1:=by kernel_rfl
   exact⟨_,by simpa [e] using g0⟩
  obtain⟨a0,r0,k0⟩:=(Aq Tryz.underlying2) H enc n _ _ g0
  have g1:=hf 1 _ rfl
  rw[List.getElem?_eq_getElem (by omega)]at g1
  obtain⟨z1,g1⟩:∃ z,DataW.trod enc Tryz.prog W 0 spare true n 2 [c1]=some z:=by
   have e:Tryz.prog.cellsOf 2=1:=by kernel_rfl
   exact⟨_,by simpa [e] using g1⟩
  obtain⟨a1,r1,k1⟩:=(Aq Tryz.underlying2) H enc n _ _ g1
  have g2:=hf 2 _ rfl
  rw[List.getElem?_eq_getElem (by omega)]at g2
  obtain⟨z2,g2⟩:∃ z,DataW.trod enc Tryz.prog W 0 spare true n 2 [c2]=some z:=by
   have e:Tryz.prog.cellsOf 2=1:=by kernel_rfl
   exact⟨_,by simpa [e] using g2⟩
  obtain⟨a2,r2,k2⟩:=(Aq Tryz.underlying2) H enc n _ _ g2
  have g3:=hf 3 _ rfl
  rw[List.getElem?_eq_getElem (by omega)]at g3
  obtain⟨z3,g3⟩:∃ z,DataW.trod enc Tryz.prog W 0 spare true n 2 [c3]=some z:=by
   have e:Tryz.prog.cellsOf 2=1:=by kernel_rfl
   exact⟨_,by simpa [e] using g3⟩
  obtain⟨a3,r3,k3⟩:=(Aq Tryz.underlying2) H enc n _ _ g3
  exact⟨⟨a0,a1,a2,a3⟩,Au r0 (Au r1 (Au r2 (r3))),⟨k0,k1,k2,k3⟩⟩
def eo (x:Ap):Prop:=(x.Nodes.length≤maxLen∧∀ b∈x.Nodes,AAL b)∧AAI x.Perf∧ok31 x.Grid∧ok33 x.Fuel∧(Lit.int .i64 x.Level).wf=true∧(Lit.int .i64 x.CAS).wf=true∧(Lit.int .i64 x.Mach).wf=true∧(Lit.int .i64 x.Accel).wf=true∧(Lit.int .i64 x.Decel).wf=true∧(Lit.int .i64 x.LimitAlt).wf=true∧(Lit.int .i64 x.LimitSpeed).wf=true
theorem Ao {α:Type} {n:Nat}:∀ {l:List α},l.length=n+1→∃ c t,l=c :: t∧t.length=n
 | c :: t,h=>⟨c,t,rfl,Nat.succ.inj h⟩
theorem cells35:Tryz.prog.cellsOf 35=36:=by kernel_rfl
set_option maxRecDepth 100000 in
theorem op35 {W:World} {spare:Nat→Bool}:Fq Tryz.prog W spare 35 (fun x=>[(A0 7 Ef x.Nodes),(.str x.Perf.Name),(dI x.Perf.Empty),(dI x.Perf.MaxFuel),(A0 1 dI x.Perf.Alts),(A0 1 dI x.Perf.Masses),(A0 1 (A0 1 dI) x.Perf.Climb),(A0 1 (A0 1 dI) x.Perf.ClimbFlow),(A0 1 (A0 1 dI) x.Perf.Cruise),(A0 1 dI x.Perf.Descent),(A0 1 dI x.Perf.Idle),(A0 1 dI x.Perf.MaxSpeed),(A0 1 dI x.Perf.MinSpeed),(dI x.Perf.Ref),(dI x.Perf.Extra),(dI x.Perf.Ceiling),(dI x.Grid.Corner.X),(dI x.Grid.Corner.Y),(dI x.Grid.Cell),(dI x.Grid.NX),(dI x.Grid.NY),(A0 1 dI x.Grid.Alts),(A0 2 Aw x.Grid.Winds),(A0 1 dI x.Grid.Devs),(dI x.Grid.Err),(dI x.Fuel.Empty),(dI x.Fuel.Loaded),(dI x.Fuel.Reserve),(dI x.Fuel.Burnt),(dI x.Level),(dI x.CAS),(dI x.Mach),(dI x.Accel),(dI x.Decel),(dI x.LimitAlt),(dI x.LimitSpeed)]) eo:=fun H enc fuel cs x h=>by
 obtain⟨xs,n,_,_,hl,hx,hf⟩:=DataW.trod_struct Tryz.underlying35 h
 rw[cells35]at hl
 have hx:xs.length=11:=hx
 obtain⟨c0,cs,rfl,hl0⟩:=Ao (n:=35) hl
 obtain⟨c1,cs,rfl,hl1⟩:=Ao (n:=34) hl0
 obtain⟨c2,cs,rfl,hl2⟩:=Ao (n:=33) hl1
 obtain⟨c3,cs,rfl,hl3⟩:=Ao (n:=32) hl2
 obtain⟨c4,cs,rfl,hl4⟩:=Ao (n:=31) hl3
 obtain⟨c5,cs,rfl,hl5⟩:=Ao (n:=30) hl4
 obtain⟨c6,cs,rfl,hl6⟩:=Ao (n:=29) hl5
 obtain⟨c7,cs,rfl,hl7⟩:=Ao (n:=28) hl6
 obtain⟨c8,cs,rfl,hl8⟩:=Ao (n:=27) hl7
 obtain⟨c9,cs,rfl,hl9⟩:=Ao (n:=26) hl8
 obtain⟨c10,cs,rfl,hl10⟩:=Ao (n:=25) hl9
 obtain⟨c11,cs,rfl,hl11⟩:=Ao (n:=24) hl10
 obtain⟨c12,cs,rfl,hl12⟩:=Ao (n:=23) hl11
 obtain⟨c13,cs,rfl,hl13⟩:=Ao (n:=22) hl12
 obtain⟨c14,cs,rfl,hl14⟩:=Ao (n:=21) hl13
 obtain⟨c15,cs,rfl,hl15⟩:=Ao (n:=20) hl14
 obtain⟨c16,cs,rfl,hl16⟩:=Ao (n:=19) hl15
 obtain⟨c17,cs,rfl,hl17⟩:=Ao (n:=18) hl16
 obtain⟨c18,cs,rfl,hl18⟩:=Ao (n:=17) hl17
 obtain⟨c19,cs,rfl,hl19⟩:=Ao (n:=16) hl18
 obtain⟨c20,cs,rfl,hl20⟩:=Ao (n:=15) hl19
 obtain⟨c21,cs,rfl,hl21⟩:=Ao (n:=14) hl20
 obtain⟨c22,cs,rfl,hl22⟩:=Ao (n:=13) hl21
 obtain⟨c23,cs,rfl,hl23⟩:=Ao (n:=12) hl22
 obtain⟨c24,cs,rfl,hl24⟩:=Ao (n:=11) hl23
 obtain⟨c25,cs,rfl,hl25⟩:=Ao (n:=10) hl24
 obtain⟨c26,cs,rfl,hl26⟩:=Ao (n:=9) hl25
 obtain⟨c27,cs,rfl,hl27⟩:=Ao (n:=8) hl26
 obtain⟨c28,cs,rfl,hl28⟩:=Ao (n:=7) hl27
 obtain⟨c29,cs,rfl,hl29⟩:=Ao (n:=6) hl28
 obtain⟨c30,cs,rfl,hl30⟩:=Ao (n:=5) hl29
 obtain⟨c31,cs,rfl,hl31⟩:=Ao (n:=4) hl30
 obtain⟨c32,cs,rfl,hl32⟩:=Ao (n:=3) hl31
 obtain⟨c33,cs,rfl,hl33⟩:=Ao (n:=2) hl32
 obtain⟨c34,cs,rfl,hl34⟩:=Ao (n:=1) hl33
 obtain⟨c35,cs,rfl,hl35⟩:=Ao (n:=0) hl34
 obtain rfl:=List.eq_nil_of_length_eq_zero hl35
 ·skip
  have g0:=hf 0 _ rfl
  rw[List.getElem?_eq_getElem (by omega)]at g0
  obtain⟨z0,g0⟩:∃ z,DataW.trod enc Tryz.prog W 0 spare true n 22 [c0]=some z:=by
   have e:Tryz.prog.cellsOf 22=1:=by kernel_rfl
   exact⟨_,by simpa [e] using g0⟩
  obtain⟨a0,r0,k0⟩:=(Bn (sz:=7) (e:=fun a=>[(dI a.At.X),(dI a.At.Y),(dI a.Dist),(dI a.Alt.Lo),(dI a.Alt.Hi),(dI a.Speed.Lo),(dI a.Speed.Hi)]) (en:=Ef) (ok:=fun a=>AAL a) Tryz.underlying22 (by kernel_rfl) (by decide) op67 (fun _=>rfl) (fun _=>rfl) (fun _=>.inl rfl)) H enc n _ _ g0
  have g1:=hf 1 _ rfl
  rw[List.getElem?_eq_getElem (by omega)]at g1
  obtain⟨z1,g1⟩:∃ z,DataW.trod enc Tryz.prog W 0 spare true n 26 [c1,c2,c3,c4,c5,c6,c7,c8,c9,c10,c11,c12,c13,c14,c15]=some z:=by
   have e:Tryz.prog.cellsOf 26=15:=by kernel_rfl
   exact⟨_,by simpa [e] using g1⟩
  obtain⟨a1,r1,k1⟩:=op26 H enc n _ _ g1
  have g2:=hf 2 _ rfl
  rw[List.getElem?_eq_getElem (by omega)]at g2
  obtain⟨z2,g2⟩:∃ z,DataW.trod enc Tryz.prog W 0 spare true n 31 [c16,c17,c18,c19,c20,c21,c22,c23,c24]=some z:=by
   have e:Tryz.prog.cellsOf 31=9:=by kernel_rfl
   exact⟨_,by simpa [e] using g2⟩
  obtain⟨a2,r2,k2⟩:=op31 H enc n _ _ g2
  have g3:=hf 3 _ rfl
  rw[List.getElem?_eq_getElem (by omega)]at g3
  obtain⟨z3,g3⟩:∃ z,DataW.trod enc Tryz.prog W 0 spare true n 33 [c25,c26,c27,c28]=some z:=by
   have e:Tryz.prog.cellsOf 33=4:=by kernel_rfl
   exact⟨_,by simpa [e] using g3⟩
  obtain⟨a3,r3,k3⟩:=op33 H enc n _ _ g3
  have g4:=hf 4 _ rfl
  rw[List.getElem?_eq_getElem (by omega)]at g4
  obtain⟨z4,g4⟩:∃ z,DataW.trod enc Tryz.prog W 0 spare true n 2 [c29]=some z:=by
   have e:Tryz.prog.cellsOf 2=1:=by kernel_rfl
   exact⟨_,by simpa [e] using g4⟩
  obtain⟨a4,r4,k4⟩:=(Aq Tryz.underlying2) H enc n _ _ g4
  have g5:=hf 5 _ rfl
  rw[List.getElem?_eq_getElem (by omega)]at g5
  obtain⟨z5,g5⟩:∃ z,DataW.trod enc Tryz.prog W 0 spare true n 2 [c30]=some z:=by
   have e:Tryz.prog.cellsOf 2=1:=by kernel_rfl
   exact⟨_,by simpa [e] using g5⟩
  obtain⟨a5,r5,k5⟩:=(Aq Tryz.underlying2) H enc n _ _ g5
  have g6:=hf 6 _ rfl
  rw[List.getElem?_eq_getElem (by omega)]at g6
  obtain⟨z6,g6⟩:∃ z,DataW.trod enc Tryz.prog W 0 spare true n 2 [c31]=some z:=by
   have e:Tryz.prog.cellsOf 2=1:=by kernel_rfl
   exact⟨_,by simpa [e] using g6⟩
  obtain⟨a6,r6,k6⟩:=(Aq Tryz.underlying2) H enc n _ _ g6
  have g7:=hf 7 _ rfl
  rw[List.getElem?_eq_getElem (by omega)]at g7
  obtain⟨z7,g7⟩:∃ z,DataW.trod enc Tryz.prog W 0 spare true n 2 [c32]=some z:=by
   have e:Tryz.prog.cellsOf 2=1:=by kernel_rfl
   exact⟨_,by simpa [e] using g7⟩
  obtain⟨a7,r7,k7⟩:=(Aq Tryz.underlying2) H enc n _ _ g7
  have g8:=hf 8 _ rfl
  rw[List.getElem?_eq_getElem (by omega)]at g8
  obtain⟨z8,g8⟩:∃ z,DataW.trod enc Tryz.prog W 0 spare true n 2 [c33]=some z:=by
   have e:Tryz.prog.cellsOf 2=1:=by kernel_rfl
   exact⟨_,by simpa [e] using g8⟩
  obtain⟨a8,r8,k8⟩:=(Aq Tryz.underlying2) H enc n _ _ g8
  have g9:=hf 9 _ rfl
  rw[List.getElem?_eq_getElem (by omega)]at g9
  obtain⟨z9,g9⟩:∃ z,DataW.trod enc Tryz.prog W 0 spare true n 2 [c34]=some z:=by
   have e:Tryz.prog.cellsOf 2=1:=by kernel_rfl
   exact⟨_,by simpa [e] using g9⟩
  obtain⟨a9,r9,k9⟩:=(Aq Tryz.underlying2) H enc n _ _ g9
  have g10:=hf 10 _ rfl
  rw[List.getElem?_eq_getElem (by omega)]at g10
  obtain⟨z10,g10⟩:∃ z,DataW.trod enc Tryz.prog W 0 spare true n 2 [c35]=some z:=by
   have e:Tryz.prog.cellsOf 2=1:=by kernel_rfl
   exact⟨_,by simpa [e] using g10⟩
  obtain⟨a10,r10,k10⟩:=(Aq Tryz.underlying2) H enc n _ _ g10
  exact⟨⟨a0,a1,a2,a3,a4,a5,a6,a7,a8,a9,a10⟩,Au r0 (Au r1 (Au r2 (Au r3 (Au r4 (Au r5 (Au r6 (Au r7 (Au r8 (Au r9 (r10)))))))))),⟨k0,k1,k2,k3,k4,k5,k6,k7,k8,k9,k10⟩⟩
end Go.Av
