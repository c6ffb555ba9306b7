/- A part of the proof. -/
import Derived.Test.YtaflbimagjafiaaGreatDoorPart2
import Derived.IntWalk
import Derived.RangeFuncFrom
import Derived.RangeFuncLeaves
import Derived.RangeFuncCalls
import Derived.TacticsInMore
import Derived.Maps.RangeWalk
import Derived.KernelRfl
import Derived.Test.YtaflbimagjafiaaGreatDoorProg
import Derived.WalkKit
import Derived.Lib.Walk
import Derived.Lib.Strings
import Derived.Lib.Bytealg
import Derived.BigCall
import Derived.BigGuard
import Derived.Deep.Draws
import Derived.Laws.Strings3
import Derived.Lib.Builder
import Derived.Lib.UnsafeStr
import Derived.Shelf.RegionOpenPlain
import Derived.Shelf.Strconv.Itoa4
import Derived.Shelf.Strconv.ErrVarParseInt
import Derived.Ground.NamesProg
import Derived.Ground.Names2Prog
import Derived.Ground.SlgnProg
import Derived.Lib.ParseIntB
import Derived.Lib.ItoaNum
import Derived.Lib.AtoiErrMem
import Derived.Shelf.Strings.OnBuilder
set_option linter.unusedVariables false
set_option linter.unusedSimpArgs false
set_option linter.unusedSectionVars false
noncomputable section
namespace Go.Av
open Go.RowKit Go.Base
variable {P:Program} {γ γ':G} {w w':World} {own own':Nat→Prop}
structure OF where
 r:AV
 hp:List (Nat×Ob)
 live:List Nat
def Bo (P:Program) (f:FuncId) (A:List AV) (hp:List (Nat×Ob)) (live:List Nat) (t:OF):Prop :=
 Rj P f∧∀ (own:Nat→Prop) (γ:G) (w:World) (vs:List Value),Hp own (Af hp) (·∈live) γ w→Big own w→Ja 16 (Af hp) (·∈live) γ→RepAL γ A vs →
  Calls P f vs.toArray w fun e w'=>∃ v γ',e=.returned v∧LeM γ.μ γ'.μ∧(∀ i b,i < 16→γ.ι i=some b→γ'.ι i=some b)∧Hp own (Af t.hp) (·∈t.live) γ' w'∧Base own w w'∧RepA γ' t.r v∧∀ b o,b < w.heap.size→¬ own b→γ'.μ b o=γ.μ b o
theorem Hp.own_to {hp : Nat → Option Ob} {live : Nat → Prop} (H : Hp own hp live γ w) (h1 : ∀ id o p b, hp id = some o → o.ok = true → γ.ι id = some p → p.block = some b → own' b) (h2 : ∀ t v g, live t → γ.τ t = some v → v.1.ownBlock = some g → own' g) : Hp own' hp live γ w :=
  ⟨H.fz, fun id o h ho => let ⟨p, e1, e2, e3⟩ := H.obj id o h ho; ⟨p, e1, e2, fun b hb => ⟨h1 id o p b h ho e1 hb, (e3 b hb).2⟩⟩, H.inj,
   fun t v e sz hl hq => let ⟨n, xs, q1, q2⟩ := H.tok t v e sz hl hq; ⟨n, xs, q1, fun g hg => ⟨h2 t _ g hl hq hg, (q2 g hg).2⟩⟩, H.tinj⟩
def Y6 (rs ts rs' ts':List (Nat×Nat)) (hp0:List (Nat×Ob)) (live1:List Nat) (id:Nat) (t:OT):Bool :=
 (rs'.all fun p=>(decide (id≤p.1)&&decide (p.1 < id+16)&&decide (16≤p.2)) || (decide (p.1 < id)&&Au rs p.2==some p.1))&&decide ((rs'.map (·.2)).Nodup) &&
 (ts'.all fun p=>decide (id≤p.1)&&decide (p.1 < id+16)&&live1.contains p.2)&&decide ((ts'.map (·.2)).Nodup) &&
 (t.ups.all fun p=>(Au rs' p.1).isSome)&&((rs.map (·.2)).all fun c=>(t.ups.map (·.1)).contains c) &&
 (t.toks.all fun q=>(Au ts' q).isSome)&&((rs.map (·.2)).all fun c=>t.ids.contains c)&&((ts.map (·.2)).all fun c=>t.lv.contains c)&&(t.lv.all fun c=>(ts.map (·.2)).contains c)&&(rs.all fun p=>match Af hp0 p.1 with | some o=>o.ok | none=>false)
def Wa:List (Nat×Option Ob)→Nat→Option Ob
 | [],_=>none
 | (i,v) :: l,t=>if i=t then v else Wa l t
theorem Q9 {hp:Nat→Option Ob}:∀ {l:List (Nat×Option Ob)} {i:Nat} {o:Ob},Z0 hp l→Wa l i=some o→hp i=some o
 | (j,p) :: l,i,o,h,hm=>by
  simp only[Wa]at hm
  split at hm
  ·rename_i e;subst e;rw[h.1];exact hm
  ·exact Q9 h.2 hm
theorem hp_give {own:Nat→Prop} {hp:Nat→Option Ob} {live:Nat→Prop} (rs ts:List (Nat×Nat)) {hl:List (Nat×Option Ob)} {hp':List (Nat×Ob)} {lv live':List Nat} {nx':Nat} (hn:Hg rs ts hp' lv live' nx'=true)
  (ho:Dy (fun p:Nat×Ob=>∃ b o,Au rs p.1=some b∧Wa hl b=some o∧Oble rs ts o p.2) hp') (H:Hp own hp live γ w) (hth:Z0 hp hl) (hlv:∀ s∈lv,live s) :
  Hp own (Af hp') (·∈live') (K7 rs ts (fun _=>none) γ) w∧Ja nx' (Af hp') (·∈live') (K7 rs ts (fun _=>none) γ):=by
 unfold Hg at hn
 simp only[Bool.and_eq_true,decide_eq_true_eq,List.all_eq_true,List.contains_eq_mem]at hn
 obtain⟨⟨⟨⟨⟨n1,n2⟩,n3⟩,n4⟩,n5⟩,n6⟩:=hn
 have re:=Vd rs ts (fun _=>none) γ
 have obj':∀ id o,Af hp' id=some o→∃ b o0,Au rs id=some b∧hp b=some o0∧Oble rs ts o0 o:=fun id o h=>let ⟨b,o0,e1,e2,e3⟩:=G5 ho _ (Fs h);⟨b,o0,e1,Q9 hth e2,e3⟩
 have tok':∀ t v,(K7 rs ts (fun _=>none) γ).τ t=some v→∃ a,Au ts t=some a∧γ.τ a=some v∧live a:=fun t v h=>by
  simp only[K7]at h
  rw[Option.bind_eq_some_iff]at h
  obtain⟨a,h1,h2⟩:=h
  exact⟨a,h1,h2,hlv a (n5 _ (Bn h1)).2⟩
 refine⟨⟨H.fz,fun id o h ho=>?_,fun i j oi oj p q hi hj ho1 ho2 hne hp1 hp2=>?_,fun t v e sz hl hq=>?_,fun s t v u hs ht hne hv hu=>?_⟩,⟨fun id hid=>⟨?_,?_,?_,?_⟩⟩⟩
 ·obtain⟨b,o0,h1,h2,h3⟩:=obj' id o h
  obtain⟨p,e1,e2,e3⟩:=H.obj b o0 h2 (h3.ok ho)
  exact⟨p,by rw[re.ι id b h1];exact e1,e2.le re ho h3,e3⟩
 ·obtain⟨b,o0,h1,h2,h5⟩:=obj' i oi hi
  obtain⟨c,o1,h3,h4,h6⟩:=obj' j oj hj
  rw[re.ι i b h1]at hp1
  rw[re.ι j c h3]at hp2
  exact H.inj b c o0 o1 p q h2 h4 (h5.ok ho1) (h6.ok ho2) (fun e=>hne (Jy n1 h1 (by rw[e];exact h3))) hp1 hp2
 ·obtain⟨c,h1,h2,h3⟩:=tok' t _ hq
  obtain⟨n,xs,q1,q2⟩:=H.tok c v e sz h3 h2
  refine⟨n,xs,q1,fun g hg=>?_⟩
  obtain⟨r1,r2,r3⟩:=q2 g hg
  refine⟨r1,r2,fun id o p h ho hp1=>?_⟩
  obtain⟨b,o0,h4,h5,h6⟩:=obj' id o h
  rw[re.ι id b h4]at hp1
  exact r3 b o0 p h5 (h6.ok ho) hp1
 ·obtain⟨b,h1,h2,h3⟩:=tok' s _ hv
  obtain⟨c,h4,h5,h6⟩:=tok' t _ hu
  exact H.tinj b c v u h3 h6 (fun e=>hne (Jy n4 h1 (by rw[e];exact h4))) h2 h5
 ·cases h:Au rs id with
  | none=>simp only[K7,h]
  | some b=>have:=n2 _ (Bn h);simp only at this;omega
 ·cases h:Au ts id with
  | none=>simp only[K7,h,Option.bind_none]
  | some b=>have:=(n5 _ (Bn h)).1;simp only at this;omega
 ·cases h:Af hp' id with
  | none=>rfl
  | some o =>
   obtain⟨b,o0,h1,_⟩:=obj' id o h
   have:=n2 _ (Bn h1);simp only at this;omega
 ·intro h;have:=n6 _ h;omega
theorem Lk {f:FuncId} {A:List AV} {hp0:List (Nat×Ob)} {live0:List Nat} {t0:OF} (h:Bo P f A hp0 live0 t0) (rs ts rs' ts':List (Nat×Nat)) {xs:List AV} {hl:List (Nat×Option Ob)} {id:Nat} {t:OT}
  (n1:Hg rs ts hp0 t.lv live0 16=true) (hx:Kb rs ts xs A) (ho:Dy (fun p:Nat×Ob=>∃ b o,Au rs p.1=some b∧Wa hl b=some o∧Oble rs ts o p.2) hp0)
  (n2:Y6 rs ts rs' ts' hp0 t0.live id t=true) (hr:Bt rs' ts' t0.r t.r)
  (ho':Dy (fun p:Nat×Ob=>∃ b o,Au rs' p.1=some b∧Af t0.hp b=some o∧Oble rs' ts' o p.2) t.ups):Am P f xs hl id t:=by
 obtain⟨hcb,hf⟩:=h
 refine⟨hcb,fun own hp live γ w vs H hth hlv big F hrep=>?_⟩
 obtain⟨H0,F0⟩:=hp_give rs ts n1 ho H hth hlv
 have re:=Vd rs ts (fun _=>none) γ
 generalize hγ0:K7 rs ts (fun _=>none) γ=γ0 at H0 F0 re
 have hμ0:γ0.μ=γ.μ:=re.μ
 unfold Hg at n1
 simp only[Bool.and_eq_true,decide_eq_true_eq,List.all_eq_true,List.contains_eq_mem]at n1
 obtain⟨⟨⟨⟨⟨a1,a2⟩,a3⟩,a4⟩,a5⟩,a6⟩:=n1
 unfold Y6 at n2
 simp only[Bool.and_eq_true,decide_eq_true_eq,List.all_eq_true,List.contains_eq_mem,Bool.or_eq_true,beq_iff_eq]at n2
 obtain⟨⟨⟨⟨⟨⟨⟨⟨⟨⟨b1,b2⟩,b3⟩,b4⟩,b5⟩,b6⟩,b7⟩,b8⟩,b9⟩,b10⟩,b11⟩:=n2
 have obj0:∀ j o,Af hp0 j=some o→∃ c oc,Au rs j=some c∧hp c=some oc∧Oble rs ts oc o:=fun j o h=>let ⟨b,o0,e1,e2,e3⟩:=G5 ho _ (Fs h);⟨b,o0,e1,Q9 hth e2,e3⟩
 have inR:∀ {j c:Nat},Au rs j=some c→c∈rs.map (·.2):=fun h=>List.mem_map.2 ⟨_,Bn h,rfl⟩
 have inT:∀ {j c:Nat},Au ts j=some c→c∈ts.map (·.2):=fun h=>List.mem_map.2 ⟨_,Bn h,rfl⟩
 have tau0:∀ t v,γ0.τ t=some v→∃ a,Au ts t=some a∧γ.τ a=some v∧live a:=fun t v e=>by
  subst hγ0
  simp only[K7]at e
  rw[Option.bind_eq_some_iff]at e
  obtain⟨a,e1,e2⟩:=e
  exact⟨a,e1,e2,hlv a (a5 _ (Bn e1)).2⟩
 let own0:Nat→Prop:=fun b=>w.heap.size≤b∨(∃ j o p,Af hp0 j=some o∧o.ok=true∧γ0.ι j=some p∧p.block=some b)∨∃ t v,t∈live0∧γ0.τ t=some v∧v.1.ownBlock=some b
 have own0_own:∀ b,own0 b→own b:=by
  rintro b (h1 | ⟨j,o,p,h1,h2,h3,h4⟩ | ⟨t,v,h1,h2,h3⟩)
  ·exact big b h1
  ·obtain⟨c,oc,e1,e2,e3⟩:=obj0 j o h1
   rw[re.ι j c e1]at h3
   obtain⟨p',g1,_,g4⟩:=H.obj c oc e2 (e3.ok h2)
   rw[h3]at g1;injection g1 with g1;subst g1;exact(g4 b h4).1
  ·obtain⟨a,e1,e2,e3⟩:=tau0 t v h2
   obtain⟨n,xs,q1,q2⟩:=H.tok a v.1 v.2.1 v.2.2 e3 e2
   exact(q2 b h3).1
 have H0':Hp own0 (Af hp0) (·∈live0) γ0 w:=H0.own_to (fun j o p b h1 h2 h3 h4=>.inr (.inl ⟨j,o,p,h1,h2,h3,h4⟩)) fun t v g h1 h2 h3=>.inr (.inr ⟨t,v,h1,h2,h3⟩)
 have Xe:∀ j o p b,hp j=some o→o.ok=true→j ∉ rs.map (·.2)→γ.ι j=some p→p.block=some b→¬ own0 b:=by
  rintro j o p b h1 ho h2 h3 hb (k1 | ⟨i,oi,pi,k1,ki,k2,k3⟩ | ⟨t,v,k1,k2,k3⟩)
  ·obtain⟨p',g1,g2,_⟩:=H.obj j o h1 ho
   rw[h3]at g1;injection g1 with g1;subst g1
   have:=g2.lt hb
   omega
  ·obtain⟨c,oc,e1,e2,e3⟩:=obj0 i oi k1
   rw[re.ι i c e1]at k2
   rcases H.inj j c o oc p pi h1 e2 ho (e3.ok ki) (fun e=>h2 (e ▸ inR e1)) h3 k2 with h | h
   ·rw[hb]at h;cases h
   ·exact h (by rw[hb,k3])
  ·obtain⟨a,e1,e2,e3⟩:=tau0 t v k2
   obtain⟨n,xs,q1,q2⟩:=H.tok a v.1 v.2.1 v.2.2 e3 e2
   exact(q2 b k3).2.2 j o p h1 ho h3 hb
 have toks:∀ t v g,live t→t ∉ ts.map (·.2)→γ.τ t=some v→v.1.ownBlock=some g→¬ own0 g:=by
  rintro t v g h1 h2 h3 h4 (k1 | ⟨i,oi,pi,k1,ki,k2,k3⟩ | ⟨t',v',k1,k2,k3⟩)
  ·obtain⟨n,xs,q1,q2⟩:=H.tok t v.1 v.2.1 v.2.2 h1 h3
   have:=(q1.lt g h4).2
   omega
  ·obtain⟨c,oc,e1,e2,e3⟩:=obj0 i oi k1
   rw[re.ι i c e1]at k2
   obtain⟨n,xs,q1,q2⟩:=H.tok t v.1 v.2.1 v.2.2 h1 h3
   exact(q2 g h4).2.2 c oc pi e2 (e3.ok ki) k2 k3
  ·obtain⟨a,e1,e2,e3⟩:=tau0 t' v' k2
   rcases H.tinj t a v v' h1 e3 (fun e=>h2 (e ▸ inT e1)) h3 e2 with q | q
   ·rw[h4]at q;cases q
   ·rw[h4,k3]at q;exact q rfl
 refine(hf own0 γ0 w vs H0' ⟨fun b hb=>.inl hb,big.gl.less own0_own⟩ F0 (RepAL.le re hx hrep)).mono ?_
 rintro e w' ⟨v,γ1,rfl,le1,pins,H1,B1,R1,mu1⟩
 rw[hμ0]at le1 mu1
 let γ':G:=⟨γ1.μ,fun j=>match Au rs' j with | some c=>γ1.ι c | none=>γ.ι j,fun j=>match Au ts' j with | some c=>γ1.τ c | none=>γ.τ j⟩
 have re':th rs' ts' γ1 γ':=⟨rfl,fun b a h=>by simp only[γ',h],fun b a h=>by simp only[γ',h]⟩
 have ι_old:∀ j,Au rs' j=none→γ'.ι j=γ.ι j:=fun j h=>by simp only[γ',h]
 have τ_old:∀ j,Au ts' j=none→γ'.τ j=γ.τ j:=fun j h=>by simp only[γ',h]
 have rs'_ok:∀ j c,Au rs' j=some c→(id≤j∧j < id+16∧16≤c)∨(j < id∧Au rs c=some j):=fun j c h=>by
  rcases b1 _ (Bn h) with⟨⟨q1,q2⟩,q3⟩ | ⟨q1,q2⟩
  ·exact .inl ⟨q1,q2,q3⟩
  ·exact .inr ⟨q1,q2⟩
 have ts'_ok:∀ j c,Au ts' j=some c→id≤j∧j < id+16∧c∈t0.live:=fun j c h=>by
  obtain⟨⟨q1,q2⟩,q3⟩:=b3 _ (Bn h)
  exact⟨q1,q2,q3⟩
 have le:LeG γ γ':=⟨le1,fun i b hi=>by
  cases hl:Au rs' i with
  | none=>rw[ι_old i hl];exact hi
  | some c =>
   rcases rs'_ok i c hl with⟨q1,q2,_⟩ | ⟨_,q2⟩
   ·rw[(F i q1 q2).1]at hi;cases hi
   ·rw[re'.ι i c hl]
    exact pins c b (by have:=a2 _ (Bn q2);exact this) (by rw[re.ι c i q2];exact hi),fun i b hi=>by
  cases hl:Au ts' i with
  | none=>rw[τ_old i hl];exact hi
  | some c =>
   have:=ts'_ok i c hl
   rw[(F i this.1 this.2.1).2.1]at hi;cases hi⟩
 have notin:∀ j,Af t.ups j=none→j ∉ rs.map (·.2):=fun j h hm=>by
  have:=b6 j hm
  rw[List.mem_map]at this
  obtain⟨p,hp1,hp2⟩:=this
  have:∀ l:List (Nat×Ob),p∈l→Af l j≠none:=fun l=>by
   induction l with
   | nil=>intro h;cases h
   | cons q l ih =>
    intro hm
    simp only[Af]
    split
    ·exact fun h=>by cases h
    ·rename_i hne
     rcases List.mem_cons.1 hm with e | hm
     ·rw[e]at hp2;exact absurd hp2 hne
     ·exact ih hm
  exact this _ hp1 h
 have objP:∀ j o,Z1 hp t.ups j=some o→(Au rs' j=none∧hp j=some o∧j ∉ rs.map (·.2))∨∃ c oc,Au rs' j=some c∧Af t0.hp c=some oc∧Oble rs' ts' oc o:=fun j o h=>by
  unfold Z1 at h
  split at h
  ·rename_i o' ho1
   injection h with h
   subst h
   obtain⟨c,oc,q1,q2,q3⟩:=G5 ho' _ (Fs ho1)
   exact .inr ⟨c,oc,q1,q2,q3⟩
  ·rename_i hn
   refine .inl ⟨?_,h,notin j hn⟩
   cases hl:Au rs' j with
   | none=>rfl
   | some c =>
    rcases rs'_ok j c hl with⟨q1,q2,_⟩ | ⟨_,q2⟩
    ·rw[(F j q1 q2).2.2.1]at h;cases h
    ·exact absurd (inR q2) (notin j hn)
 have liveP:∀ q,ta live t.lv t.toks q→(∃ c,Au ts' q=some c∧c∈t0.live)∨(Au ts' q=none∧live q∧q ∉ ts.map (·.2)):=fun q hq=>by
  rcases hq with⟨h1,h2⟩ | h
  ·refine .inr ⟨?_,h1,fun hm=>h2 (b9 q hm)⟩
   cases hl:Au ts' q with
   | none=>rfl
   | some c=>have:=ts'_ok q c hl;exact absurd h1 (F q this.1 this.2.1).2.2.2
  ·have:=b7 q h
   cases hl:Au ts' q with
   | none=>rw[hl]at this;cases this
   | some c=>exact .inl ⟨c,rfl,(ts'_ok q c hl).2.2⟩
 have keep:∀ b,b < w.heap.size→¬ own0 b→w'.heap[b]?=w.heap[b]?:=fun b h1 h2=>B1.block b h1 h2
 have objN:∀ j o,Z1 hp t.ups j=some o→o.ok=true→∃ p,γ'.ι j=some p∧ObjAt γ' w' o p∧∀ b,p.block=some b→own b∧∀ k,γ'.μ b k=none:=fun j o h hok=>by
  rcases objP j o h with⟨q1,q2,q3⟩ | ⟨c,oc,q1,q2,q3⟩
  ·obtain⟨p,e1,e2,e3⟩:=H.obj j o q2 hok
   have nb:∀ b,p.block=some b→¬ own0 b:=fun b hb=>Xe j o p b q2 hok q3 e1 hb
   exact⟨p,by rw[ι_old j q1];exact e1,e2.kept le fun b hb=>keep b (e2.lt hb) (nb b hb),fun b hb=>⟨(e3 b hb).1,fun k=>by rw[show γ'.μ b k=γ1.μ b k from rfl,mu1 b k (e2.lt hb) (nb b hb)];exact(e3 b hb).2 k⟩⟩
  ·obtain⟨p,e1,e2,e3⟩:=H1.obj c oc q2 (q3.ok hok)
   exact⟨p,by rw[re'.ι j c q1];exact e1,e2.le re' hok q3,fun b hb=>⟨own0_own b (e3 b hb).1,(e3 b hb).2⟩⟩
 have tokN:∀ q v e sz,ta live t.lv t.toks q→γ'.τ q=some (v,e,sz)→(∃ n xs,w'.ownsRow 0 e sz v n xs∧∀ g,v.ownBlock=some g→own g∧(∀ k,n * sz≤k→γ'.μ g k=none)∧(∀ j o p,Z1 hp t.ups j=some o→o.ok=true→γ'.ι j=some p→p.block≠some g)∧((Au ts' q).isSome↔own0 g)):=fun q v e sz hq hv=>by
  rcases liveP q hq with⟨c,q1,q2⟩ | ⟨q1,q2,q3⟩
  ·rw[re'.τ q c q1]at hv
   obtain⟨n,xs,o1,o2⟩:=H1.tok c v e sz q2 hv
   refine⟨n,xs,o1,fun g hg=>?_⟩
   obtain⟨p1,p2,p3⟩:=o2 g hg
   refine⟨own0_own g p1,p2,fun j o p hj hok hp1=>?_,⟨fun _=>p1,fun _=>by rw[q1];rfl⟩⟩
   rcases objP j o hj with⟨r1,r2,r3⟩ | ⟨c',oc,r1,r2,r4⟩
   ·rw[ι_old j r1]at hp1
    exact fun e=>Xe j o p g r2 hok r3 hp1 e p1
   ·rw[re'.ι j c' r1]at hp1;exact p3 c' oc p r2 (r4.ok hok) hp1
  ·rw[τ_old q q1]at hv
   obtain⟨n,xs,o1,o2⟩:=H.tok q v e sz q2 hv
   have ng:∀ g,v.ownBlock=some g→¬ own0 g:=fun g hg=>toks q _ g q2 q3 hv hg
   refine⟨n,xs,cm o1 fun g hg=>keep g (o1.lt g hg).2 (ng g hg),fun g hg=>?_⟩
   obtain⟨p1,p2,p3⟩:=o2 g hg
   refine⟨p1,fun k hk=>by rw[show γ'.μ g k=γ1.μ g k from rfl,mu1 g k (o1.lt g hg).2 (ng g hg)];exact p2 k hk,fun j o p hj hok hp1=>?_,⟨fun h=>by (rw[q1]at h;cases h),fun h=>absurd h (ng g hg)⟩⟩
   rcases objP j o hj with⟨r1,r2,_⟩ | ⟨c',oc,r1,r2,r4⟩
   ·rw[ι_old j r1]at hp1;exact p3 j o p r2 hok hp1
   ·rw[re'.ι j c' r1]at hp1
    obtain⟨p',g1,_,g4⟩:=H1.obj c' oc r2 (r4.ok hok)
    rw[hp1]at g1;injection g1 with g1;subst g1
    exact fun e=>ng g hg (g4 g e).1
 refine⟨v,γ',rfl,⟨le,⟨H1.fz,objN,fun i j oi oj p q hi hj ok1 ok2 hne hpi hpj=>?_,fun q v e sz hq hv=>?_,fun s q v u hs hq hne hv hu=>?_⟩,?_,RepA.le re' hr R1,fun j hj=>⟨?_,?_⟩,fun b o hb hn=>mu1 b o hb fun h=>hn (own0_own b h)⟩⟩
 ·have key:∀ b,p.block=some b→q.block=some b→False:=fun b hb hb'=>by
   rcases objP i oi hi with⟨q1,q2,q3⟩ | ⟨c,oc,q1,q2,q4⟩<;>rcases objP j oj hj with⟨r1,r2,r3⟩ | ⟨c',oc',r1,r2,r4⟩
   ·rw[ι_old i q1]at hpi
    rw[ι_old j r1]at hpj
    rcases H.inj i j oi oj p q q2 r2 ok1 ok2 hne hpi hpj with h | h
    ·rw[hb]at h;cases h
    ·exact h (by rw[hb,hb'])
   ·rw[ι_old i q1]at hpi
    rw[re'.ι j c' r1]at hpj
    obtain⟨p',g1,_,g4⟩:=H1.obj c' oc' r2 (r4.ok ok2)
    rw[hpj]at g1;injection g1 with g1;subst g1
    exact Xe i oi p b q2 ok1 q3 hpi hb (g4 b hb').1
   ·rw[re'.ι i c q1]at hpi
    rw[ι_old j r1]at hpj
    obtain⟨p',g1,_,g4⟩:=H1.obj c oc q2 (q4.ok ok1)
    rw[hpi]at g1;injection g1 with g1;subst g1
    exact Xe j oj q b r2 ok2 r3 hpj hb' (g4 b hb).1
   ·rw[re'.ι i c q1]at hpi
    rw[re'.ι j c' r1]at hpj
    rcases H1.inj c c' oc oc' p q q2 r2 (q4.ok ok1) (r4.ok ok2) (fun e=>hne (Jy b2 q1 (by rw[e];exact r1))) hpi hpj with h | h
    ·rw[hb]at h;cases h
    ·exact h (by rw[hb,hb'])
  cases hb:p.block with
  | none=>exact .inl rfl
  | some b=>exact .inr fun e=>key b hb e.symm
 ·obtain⟨n,xs,o1,o2⟩:=tokN q v e sz hq hv
  exact⟨n,xs,o1,fun g hg=>⟨(o2 g hg).1,(o2 g hg).2.1,(o2 g hg).2.2.1⟩⟩
 ·obtain⟨n,xs,o1,o2⟩:=tokN s v.1 v.2.1 v.2.2 hs hv
  obtain⟨n',xs',o1',o2'⟩:=tokN q u.1 u.2.1 u.2.2 hq hu
  cases hb:v.1.ownBlock with
  | none=>exact .inl rfl
  | some g =>
   refine .inr fun e=>?_
   have k1:=(o2 g hb).2.2.2
   have k2:=(o2' g e.symm).2.2.2
   rcases liveP s hs with⟨c,q1,q2⟩ | ⟨q1,q2,q3⟩<;>rcases liveP q hq with⟨c',r1,r2⟩ | ⟨r1,r2,r3⟩
   ·rw[re'.τ s c q1]at hv
    rw[re'.τ q c' r1]at hu
    rcases H1.tinj c c' v u q2 r2 (fun e'=>hne (Jy b4 q1 (by rw[e'];exact r1))) hv hu with h | h
    ·rw[hb]at h;cases h
    ·rw[hb]at h;exact h e
   ·have:=k2.2 (k1.1 (by rw[q1];rfl));rw[r1]at this;cases this
   ·have:=k1.2 (k2.1 (by rw[r1];rfl));rw[q1]at this;cases this
   ·rw[τ_old s q1]at hv
    rw[τ_old q r1]at hu
    rcases H.tinj s q v u q2 r2 hne hv hu with h | h
    ·rw[hb]at h;cases h
    ·rw[hb]at h;exact h e
 ·exact⟨B1.os,B1.tape,B1.output,B1.size,fun k hk hn=>B1.block k hk fun h=>hn (own0_own k h)⟩
 ·cases hl:Au rs' j with
  | none=>exact ι_old j hl
  | some c =>
   rcases rs'_ok j c hl with⟨q0,q2,_⟩ | ⟨q1,q2⟩
   ·omega
   ·obtain⟨n1',n2'⟩:=(show c < 16∧True from⟨a2 _ (Bn q2),trivial⟩)
    rw[re'.ι j c hl]
    cases hi:γ.ι j with
    | some b=>exact pins c b n1' (by rw[re.ι c j q2];exact hi)
    | none =>
     -- an object that is given has a block
     have hb:=b11 _ (Bn q2)
     simp only at hb
     cases ho0:Af hp0 c with
     | none=>rw[ho0]at hb;cases hb
     | some o0 =>
      rw[ho0]at hb
      obtain⟨c2,oc,e1,e2,e3⟩:=obj0 c o0 ho0
      rw[q2]at e1
      injection e1 with e1
      subst e1
      obtain⟨p,g1,_⟩:=H.obj j oc e2 (e3.ok hb)
      rw[hi]at g1;cases g1
 ·cases hl:Au ts' j with
  | none=>exact τ_old j hl
  | some c=>have:=ts'_ok j c hl;omega
def Xp:Nat→List AV→List (Nat×AV)
 | _,[]=>[]
 | i,d :: l=>(i,d) :: Xp (i+1) l
theorem jc:∀ (ds:List AV) (i t:Nat),Bp (Xp i ds) t=if i≤t then(match ds[t - i]? with | some d=>d | none=>.any)else .any
 | [],i,t=>by simp[Xp,Bp]
 | d :: l,i,t=>by
  simp only[Xp,Bp]
  by_cases h:i=t
  ·subst h;simp
  ·rw[if_neg h,jc l (i+1) t]
   by_cases h2:i≤t
   ·rw[if_pos (by omega),if_pos h2]
    have:t - i=(t - (i+1))+1:=by omega
    rw[this,List.getElem?_cons_succ]
   ·rw[if_neg (by omega),if_neg h2]
def oneV (us:List Value):Value:=if h:us.toArray.size=1 then us.toArray[0]else .tuple us.toArray
def y7 (hp:List (Nat×Ob)) (live:List Nat) (nx:Nat) (l:List AV) (t:OF):Prop:=∀ (own:Nat→Prop) (γ:G) (w:World),Hp own (Af hp) (·∈live) γ w→Ja nx (Af hp) (·∈live) γ →
  ∃ γ':G,LeM γ.μ γ'.μ∧(∀ c k,¬ own c→γ'.μ c k=γ.μ c k)∧(∀ i b,i < 16→γ.ι i=some b→γ'.ι i=some b)∧Hp own (Af t.hp) (·∈t.live) γ' w∧∀ us:List Value,RepAL γ l us→RepA γ' t.r (oneV us)
def dm (P:Program) (rs:List ResultVar) (st:St) (t:OF):Prop:=∃ l,Na P st rs=some l∧y7 st.hp st.live st.nx l t
def f6:List AV→AV
 | [x]=>x
 | l=>.tup l
theorem retH_of (rs ts:List (Nat×Nat)) (nx':Nat) {l:List AV} {hp:List (Nat×Ob)} {live:List Nat} {nx:Nat} {t:OF} (hn:Hg rs ts t.hp live t.live nx'=true) (hpi:Mm rs nx'=true) (hv:Bt rs ts (f6 l) t.r)
  (ho:Dy (fun p:Nat×Ob=>∃ b o,Au rs p.1=some b∧Af hp b=some o∧Oble rs ts o p.2) t.hp):y7 hp live nx l t:=fun own γ w H F=>by
 obtain⟨h1,h2⟩:=tv rs ts (Ng γ) hn ho H (Uk hpi)
 refine⟨K7 rs ts (Ng γ) γ,LeM.refl _,fun _ _ _=>rfl,fun i b hi e=>Xb hpi hi e,h1,fun us hus=>?_⟩
 refine RepA.le (Vd rs ts _ γ) hv ?_
 unfold oneV
 match l,us,hus with
 | [v],us,h2 =>
  simp only[RepAL]at h2
  obtain⟨u,t,rfl,h5,rfl⟩:=h2
  simpa [f6] using h5
 | [],us,h2 =>
  simp only[RepAL]at h2
  subst h2
  simp only[f6,RepA]
  exact⟨[],by simp,by simp only[RepAL]⟩
 | v :: v2 :: l,us,h2 =>
  have hlen:=h2.length
  rw[dif_neg (by simp at hlen ⊢;omega)]
  simp only[f6,RepA]
  exact⟨us,rfl,h2⟩
theorem Lo (rs ts:List (Nat×Nat)) (nx':Nat) {l:List AV} {rv:List ResultVar} {st:St} {t:OF} (hl:Na P st rv=some l) (hn:Hg rs ts t.hp st.live t.live nx'=true) (hp:Mm rs nx'=true) (hv:Bt rs ts (f6 l) t.r)
  (ho:Dy (fun p:Nat×Ob=>∃ b o,Au rs p.1=some b∧Af st.hp b=some o∧Oble rs ts o p.2) t.hp):dm P rv st t:=⟨l,hl,retH_of rs ts nx' hn hp hv ho⟩
theorem retH_gone (gs:List Nat) {hp:List (Nat×Ob)} {live:List Nat} {nx:Nat} {l:List AV} {r:AV} {hp1:List (Nat×Ob)} {live1:List Nat} (h:y7 hp live nx l ⟨r,hp1,live1⟩):y7 hp live nx l ⟨r,(gs.map fun i=>(i,.gone))++hp1,live1⟩:=fun own γ w H F=>by
 obtain⟨γ',k1,k0,k2,k3,k4⟩:=h own γ w H F
 have key:∀ (gs:List Nat) j o,Af ((gs.map fun i=>(i,Ob.gone))++hp1) j=some o→o.ok=true→Af hp1 j=some o:=fun gs=>by
  induction gs with
  | nil=>intro j o h _;exact h
  | cons g gs ih =>
   intro j o h ho
   simp only[List.map_cons,List.cons_append,Af]at h
   split at h
   ·injection h with h;subst h;cases ho
   ·exact ih j o h ho
 refine⟨γ',k1,k0,k2,⟨k3.fz,fun j o hj ho=>k3.obj j o (key gs j o hj ho) ho,fun i j oi oj p q hi hj c1 c2=>k3.inj i j oi oj p q (key gs i oi hi c1) (key gs j oj hj c2) c1 c2,fun t v e sz hl hq=>?_,k3.tinj⟩,k4⟩
 obtain⟨n,xs,q1,q2⟩:=k3.tok t v e sz hl hq
 exact⟨n,xs,q1,fun g hg=>⟨(q2 g hg).1,(q2 g hg).2.1,fun j o p hj ho=>(q2 g hg).2.2 j o p (key gs j o hj ho) ho⟩⟩
theorem Vi (gs:List Nat) {P:Program} {rs:List ResultVar} {st:St} {r:AV} {hp1:List (Nat×Ob)} {live1:List Nat} (h:dm P rs st ⟨r,hp1,live1⟩):dm P rs st ⟨r,(gs.map fun i=>(i,.gone))++hp1,live1⟩ :=
 let ⟨l,h1,h2⟩:=h;⟨l,h1,retH_gone gs h2⟩
def finO (P:Program) (fn:Func) (t:OF):Fe:=fun ex s=>isR ex=true∧dm P fn.results.toList s t
abbrev JO (P:Program) (fn:Func) (A:List AV) (hp:List (Nat×Ob)) (live:List Nat) {R:Type} (en:R→OF):=JD P fn.ntmps (body fn) ⟨Xp 0 A,hp,live,16⟩ fun x=>finO P fn (en x)
theorem Bc {R:Type} {f:Nat} {fn:Func} {A:List AV} {hp:List (Nat×Ob)} {live:List Nat} {en:R→OF} (d:JO P fn A hp live en) (hf:P.funcs[f]?=some fn) {x:R} (hx:d.m=some x) (hb:fn.body=some (body fn):=by kernel_rfl) (hn:fn.name ≠ "runtime.NumGoroutine" := by decide)
  (hlen:Nat.ble A.length fn.ntmps=true:=by rfl):Bo P f A hp live (en x):=by
 have hlen:=Nat.le_of_ble_eq_true hlen
 refine⟨⟨fn,hf,by rw[hb];rfl,hn⟩,fun own γ w vs H big F hrep=>?_⟩
 refine calls_of_wp hf hb ?_
 let V:Fd:=⟨own,⟨γ,[]⟩,w⟩
 have hvl:=hrep.length
 have rs:RS V fn.ntmps ⟨Xp 0 A,hp,live,16⟩ γ { tmps:=vs.toArray++Array.replicate (fn.ntmps - vs.toArray.size) undef,defers:=[] } w:=by
  refine⟨⟨rfl,by simp;omega,fun t=>?_,(fun t j want h=>by cases h),H,Base.refl _ _,big,Keep.refl _ _ _ _⟩,F⟩
  show RepA γ (Bp (Xp 0 A) t) _
  rw[jc,if_pos (Nat.zero_le _),Nat.sub_zero]
  cases hd:A[t]? with
  | none=>simp only[RepA]
  | some d =>
   obtain⟨v,h1,h2⟩:=hrep.get t d hd
   have hlt:t < vs.length:=(List.getElem?_eq_some_iff.1 h1).1
   have:(vs.toArray++Array.replicate (fn.ntmps - vs.toArray.size) undef).getD t undef=v:=by
    rw[Array.getD_eq_getD_getElem?,Array.getElem?_append_left (by simpa using hlt)]
    simp[h1]
   rw[this]
   exact h2
 refine wp_mono (d.j V x hx (fun ex s=>isR ex=true∧dm P fn.results.toList s (en x)) (fun ex s hs=>hs) γ _ w rs) ?_
 rintro ex a' w' ⟨st',γ',h1,hex,l,hl,hk⟩
 obtain⟨γ2,k1,k0,k2,k3,k4⟩:=hk own γ' w' h1.1.hp h1.2
 obtain⟨us,u1,u2⟩:=Vj h1 hl
 have h3:(fn.results.mapM (Oe a'.tmps)).run P w'=.ok us.toArray w':=by
  rw[Array.mapM_eq_mapM_toList,Sem.run_map,u1]
  rfl
 have h4:(results fn a'.tmps).run P w'=.ok (if h:us.toArray.size=1 then us.toArray[0]else .tuple us.toArray) w':=by
  have e:results fn a'.tmps=(do let vs ← fn.results.mapM (Oe a'.tmps);pure (if h:vs.size=1 then vs[0]else .tuple vs)):=by
   unfold results
   congr 1
  rw[e,Sem.run_bind,h3]
  rfl
 have fin_:bodyPost P fn (fun e w'=>∃ v γ',e=.returned v∧LeM γ.μ γ'.μ∧(∀ i b,i < 16→γ.ι i=some b→γ'.ι i=some b)∧Hp own (Af (en x).hp) (·∈(en x).live) γ' w'∧Base own w w'∧RepA γ' (en x).r v∧∀ b o,b < w.heap.size→¬ own b→γ'.μ b o=γ.μ b o) .ret a' w':=by
  refine⟨h1.1.defers,_,h4,_,γ2,rfl,fun b o v e=>k1 b o v (h1.1.mu.le b o v e),fun i b hi e=>k2 i b hi (h1.1.mu.pin i b hi e),k3,h1.1.base,k4 us u2,fun b o hb hn=>(k0 b o hn).trans (h1.1.mu.mu b o hb hn)⟩
 cases ex<;>first | exact fin_ | cases hex
abbrev B8 (l:List Nat):List (Nat×Nat):=l.map fun i=>(i,i)
theorem wk (rs ts:List (Nat×Nat)) {st st':St} (hn:Qt rs ts st st'=true:=by refine id ?_;kernel_rfl) (hf:Dy (fun p:Nat×AV=>Bt rs ts (Bp st.fr p.1) p.2) st'.fr:=by repeat' (first | exact dr | exact rfl | exact trivial | exact Aa | refine⟨_,_,rfl,rfl,?_⟩ | refine⟨?_,?_⟩))
  (ho:Dy (fun p:Nat×Ob=>∃ b o,Au rs p.1=some b∧Af st.hp b=some o∧Oble rs ts o p.2) st'.hp:=by repeat' (first | exact dr | exact rfl | exact trivial | exact Aa | refine⟨_,_,rfl,rfl,?_⟩ | refine⟨?_,?_⟩)):Weak st st':=fk rs ts hn hf ho
theorem wh (rs ts:List (Nat×Nat)) {st st':St} (hf:Dy (fun p:Nat×AV=>Bt rs ts (Bp st.fr p.1) p.2) st'.fr) (hn:Qt rs ts st st'=true:=by refine id ?_;kernel_rfl)
  (ho:Dy (fun p:Nat×Ob=>∃ b o,Au rs p.1=some b∧Af st.hp b=some o∧Oble rs ts o p.2) st'.hp:=by repeat' (first | exact dr | exact rfl | exact trivial | exact Aa | refine⟨_,_,rfl,rfl,?_⟩ | refine⟨?_,?_⟩)):Weak st st':=fk rs ts hn hf ho
theorem ws (rs ts:List (Nat×Nat)) {st st':St} (ho:Dy (fun p:Nat×Ob=>∃ b o,Au rs p.1=some b∧Af st.hp b=some o∧Oble rs ts o p.2) st'.hp) (hn:Qt rs ts st st'=true:=by refine id ?_;kernel_rfl)
  (hf:Dy (fun p:Nat×AV=>Bt rs ts (Bp st.fr p.1) p.2) st'.fr:=by repeat' (first | exact dr | exact rfl | exact trivial | exact Aa | refine⟨_,_,rfl,rfl,?_⟩ | refine⟨?_,?_⟩)):Weak st st':=fk rs ts hn hf ho
theorem ok (rs ts rs' ts':List (Nat×Nat)) {f:FuncId} {A:List AV} {hp0:List (Nat×Ob)} {live0:List Nat} {t0:OF} (h:Bo P f A hp0 live0 t0) {xs:List AV} {hl:List (Nat×Option Ob)} {id:Nat} {t:OT}
  (n1:Hg rs ts hp0 t.lv live0 16=true:=by refine id ?_;kernel_rfl) (hx:Kb rs ts xs A:=by repeat' (first | exact dr | exact rfl | exact trivial | exact Aa | refine⟨_,_,rfl,rfl,?_⟩ | refine⟨?_,?_⟩)) (ho:Dy (fun p:Nat×Ob=>∃ b o,Au rs p.1=some b∧Wa hl b=some o∧Oble rs ts o p.2) hp0:=by repeat' (first | exact dr | exact rfl | exact trivial | exact Aa | refine⟨_,_,rfl,rfl,?_⟩ | refine⟨?_,?_⟩))
  (n2:Y6 rs ts rs' ts' hp0 t0.live id t=true:=by refine id ?_;kernel_rfl) (hr:Bt rs' ts' t0.r t.r:=by repeat' (first | exact dr | exact rfl | exact trivial | exact Aa | refine⟨_,_,rfl,rfl,?_⟩ | refine⟨?_,?_⟩))
  (ho':Dy (fun p:Nat×Ob=>∃ b o,Au rs' p.1=some b∧Af t0.hp b=some o∧Oble rs' ts' o p.2) t.ups:=by repeat' (first | exact dr | exact rfl | exact trivial | exact Aa | refine⟨_,_,rfl,rfl,?_⟩ | refine⟨?_,?_⟩)):Am P f xs hl id t:=Lk h rs ts rs' ts' n1 hx ho n2 hr ho'
theorem rk (rs ts:List (Nat×Nat)) (nx':Nat) {l:List AV} {rv:List ResultVar} {st:St} {t:OF} (hl:Na P st rv=some l:=by rfl) (hn:Hg rs ts t.hp st.live t.live nx'=true:=by refine id ?_;kernel_rfl) (hp:Mm rs nx'=true:=by refine id ?_;kernel_rfl) (hv:Bt rs ts (f6 l) t.r:=by repeat' (first | exact dr | exact rfl | exact trivial | exact Aa | refine⟨_,_,rfl,rfl,?_⟩ | refine⟨?_,?_⟩))
  (ho:Dy (fun p:Nat×Ob=>∃ b o,Au rs p.1=some b∧Af st.hp b=some o∧Oble rs ts o p.2) t.hp:=by repeat' (first | exact dr | exact rfl | exact trivial | exact Aa | refine⟨_,_,rfl,rfl,?_⟩ | refine⟨?_,?_⟩)):dm P rv st t:=Lo rs ts nx' hl hn hp hv ho
end Go.Av
namespace Go.Av
def Bv (i0 n:Nat) (p:Nat→Bool):Bool:=(List.range' i0 (n - i0)).all p
theorem allR_iff {i0 n:Nat} {p:Nat→Bool}:Bv i0 n p=true↔∀ i,i0≤i→i < n→p i=true:=by
 unfold Bv
 rw[List.all_eq_true]
 constructor
 ·intro h i h1 h2;exact h i (by rw[List.mem_range'_1];omega)
 ·intro h i hi;rw[List.mem_range'_1]at hi;exact h i (by omega) (by omega)
theorem Z3 {i0 n:Nat} {p q:Nat→Bool} (h:∀ i,i0≤i→i < n→p i=q i):Bv i0 n p=Bv i0 n q:=by
 rw[Bool.eq_iff_iff,allR_iff,allR_iff]
 exact⟨fun k i h1 h2=>by rw[← h i h1 h2];exact k i h1 h2,fun k i h1 h2=>by rw[h i h1 h2];exact k i h1 h2⟩
theorem allR_step {i0 n:Nat} {p:Nat→Bool} (h:i0 < n):Bv i0 n p=(p i0&&Bv (i0+1) n p):=by
 rw[Bool.eq_iff_iff,Bool.and_eq_true,allR_iff,allR_iff]
 refine⟨fun k=>⟨k i0 (Nat.le_refl _) h,fun i h1 h2=>k i (by omega) h2⟩,fun⟨k1,k2⟩ i h1 h2=>?_⟩
 rcases Nat.eq_or_lt_of_le h1 with rfl | h3
 ·exact k1
 ·exact k2 i h3 h2
theorem allR_end {i0 n:Nat} {p:Nat→Bool} (h:n≤i0):Bv i0 n p=true:=by rw[allR_iff];intro i h1 h2;omega
theorem Bq {X:Type} {b:Int→Option (Int⊕X)} {n:Nat} (p:Nat→Bool) (bad done:X) (hd:∀ i:Nat,n≤i→b i=some (.inr done)):∀ (k i0:Nat),n - i0=k →
  (∀ i:Nat,i0≤i→i < n→b i=some (if p i=true then .inl ((i:Int)+1)else .inr bad))→Ak b i0=some (if Bv i0 n p=true then done else bad)
 | 0,i0,hk,hb=>by rw[Ek,hd i0 (by omega),allR_end (by omega)];rfl
 | k+1,i0,hk,hb=>by
  rw[Ek,hb i0 (Nat.le_refl _) (by omega),allR_step (by omega)]
  cases hp:p i0 with
  | false=>simp
  | true =>
   simp only[if_true,Option.bind_some,Bool.true_and]
   have:=Bq p bad done hd k (i0+1) (by omega) fun i h1 h2=>hb i (by omega) h2
   simpa using this
theorem loop_inv {S X:Type} {b:S→Option (S⊕X)} (I:Nat→S→Prop) (Q:X→Prop) (step:∀ m s,I m s→(∃ s',b s=some (.inl s')∧∃ m',m' < m∧I m' s')∨∃ x,b s=some (.inr x)∧Q x):∀ (m:Nat) (s:S),I m s→∃ x,Ak b s=some x∧Q x:=by
 intro m
 induction m using Nat.strongRecOn with
 | _ m ih =>
  intro s hs
  rcases step m s hs with⟨s',h1,m',h2,h3⟩ | ⟨x,h1,h2⟩
  ·obtain⟨x,h4,h5⟩:=ih m' h2 s' h3
   exact⟨x,by rw[Ek,h1];exact h4,h5⟩
  ·exact⟨x,by rw[Ek,h1];rfl,h2⟩
theorem Ba {i n:Nat} (h:n≤i):¬ ((i:Int) < (n:Int)):=by omega
theorem B2 {x:Int} (h1 : -9223372036854775808≤x) (h2:x≤9223372036854775807):IntKind.wrap .i64 x=x:=IntWalk.i64_in x ⟨h1,h2⟩
theorem Ay {α:Type} [Inhabited α] {l:List α} {i:Nat} (h:i < l.length):l.getD i default∈l:=by
 rw[List.getD_eq_getElem?_getD,List.getElem?_eq_getElem h,Option.getD_some];exact List.getElem_mem h
theorem Ro (a b:Nat):((a:Int)==(b:Int))=(a==b):=by rw[Bool.eq_iff_iff];simp[Int.natCast_inj]
theorem Xr (a b:Nat):((a:Int) != (b:Int))=(a != b):=by rw[bne,bne,Ro]
theorem Bi {n:Nat} (h:n≤maxLen):(n:Int)≤9223372036854775807:=by unfold maxLen at h;omega
end Go.Av
namespace Go.Av
open Go.RowKit Go.Base
variable {P:Program} {γ γ':G} {w w':World} {own own':Nat→Prop} {hp:Nat→Option Ob} {live:Nat→Prop}
end Go.Av
namespace Go.Av
open Go.RowKit Go.Base
variable {P:Program} {V:Fd} {N:Nat} {γ γ':G} {w w' w0:World} {own:Nat→Prop} {hp:Nat→Option Ob} {live:Nat→Prop}
def opE:Code→Option Oper
 | .region _ ops false=>ops.toList.head?
 | .seq a _=>opE a
 | .block _ c=>opE c
 | _=>none
def EntAt (P:Program) (c:Code) (γ:G) (a:Act) (w:World) (ev:D):Prop :=
 ∃ oe u,opE c=some oe∧oe.guard=none∧(execOp a.eval oe).run P w=.ok (.value u) w∧Rep γ.μ ev u
def vcE (P:Program) (V:Fd) (N:Nat) (cs:List (Nat×Tm)) (c:Code) (st:St) (ev:D) (K:Exit→St→Prop):Prop:=match c with
 | .region id ops false=>(match ops.toList with
  | oe :: os=>if Ku (oe :: os) N=true then exT (l4 cs id) fun cs=>Jk P cs (oe :: os) st.fr st.nx 1 os ⟨Yb oe ⟨none,true,.d ev⟩ [],st.hp,st.live⟩ (fun s=>K .normal (Xv st.fr st.nx (oe :: os).length s))else False
  | []=>False)
 | _=>False
theorem wp1 {ops:Array Oper} {Q:Exit→Act→World→Prop} {rest:List Oper} {o:Oper} {a:Act} {u:Value} (hg:o.guard=none) (hrun:(execOp a.eval o).run P w=.ok (.value u) w') (hk:wpList P ops Q rest (a.put o.dst u) w'):wpList P ops Q (o :: rest) a w :=
 wpList_plain hg fun K hK=>by unfold Oper.wp;rw[hrun];exact hK _ _ hk
theorem vcE_sound {cs:List (Nat×Tm)} {c:Code} {st:St} {ev:D} {K:Exit→St→Prop} (h:vcE P V N cs c st ev K) {a:Act} (hs:RS V N st γ a w) (he:EntAt P c γ a w ev):c.wp P (Xl V N K) a w:=by
 unfold vcE at h
 split at h
 ·rename_i id ops
  obtain⟨oe,u,h1,h2,h3,h4⟩:=he
  simp only[opE]at h1
  split at h
  ·rename_i oe' os hops
   rw[hops]at h1
   simp only[List.head?_cons,Option.some.injEq]at h1
   subst h1
   split at h
   ·rename_i hr
    obtain⟨cs,h⟩:=Xu h
    refine wp_region_list ?_
    rw[hops]
    refine wp1 h2 h3 ?_
    have e:ops=(oe' :: os).toArray:=by rw[← hops]
    have R0:RL V.own V.μ0 V.w0 N (oe' :: os) (· < 0) (fun t=>⟨none,true,Bp st.fr t⟩) (Af st.hp) (·∈st.live) γ a w :=
     ⟨hs.1.defers,hs.1.size,fun t=>hs.1.fr t,(fun t j want h=>by cases h),hs.1.hp,hs.1.base,hs.1.big,hs.1.mu⟩
    have R1:=R0.put (i:=0) (o:=oe') (x:=⟨none,true,.d ev⟩) (u:=u) hr rfl (by omega) (LeG.refl γ) R0.hp (Base.refl _ w) (fun _ _ _ _=>rfl) (by simp only[RepA];exact h4)
    have hdone:(fun k=>k < 0∨k=0)=(fun k=>k < 0+1):=by funext k;simp only[eq_iff_iff];omega
    rw[hdone]at R1
    have e1:B7 st.fr (Yb oe' ⟨none,true,.d ev⟩ [])=Q6 oe' ⟨none,true,.d ev⟩ (fun t=>⟨none,true,Bp st.fr t⟩):=by
     funext t;exact N4 st.fr oe' _ [] t
    rw[e]
    refine Wf (P:=P) (QQ:=Xl V N K) hr (fun s γ a w hk R F=>⟨_,γ,qp R F,hk⟩) os (0+1) _ γ _ w (by simp;omega) (fun k=>by rw[show 0+1+k=k+1 by omega];rfl) (by rw[e1];exact R1) ⟨fun id hid=>hs.2.ok id (by omega)⟩ h
   ·exact h.elim
  ·exact h.elim
 ·exact h.elim
section
variable {R Y:Type} {W:R→Fe} {c:Code} {st:St} {ev:D}
end
mutual
def noId (id:Nat):AV→Bool
 | .ptr d _ | .pa d _ _ _ | .arr d _ _ | .vec d _ _ | .pv d _ _ _ | .mp d=>!Nat.beq d id
 | .fn _ c=>S6 id c
 | .agg l=>S6 id l
 | .tup l=>S6 id l
 | _=>true
def S6 (id:Nat):List AV→Bool
 | []=>true
 | x :: l=>noId id x&&S6 id l
end
theorem look_ok {F:List (Nat×AV)} {id t:Nat} (h:(F.all fun p=>noId id p.2)=true):noId id (Bp F t)=true:=by
 rcases J6 (l:=F) (t:=t) with e | e
 ·rw[e];rfl
 ·exact(List.all_eq_true.1 h) _ e
section
variable {R Y:Type} {W:R→Fe} {c:Code} {st:St} {ev:D}
end
end Go.Av
namespace Go.Av
open Go.RowKit Go.Base
variable {P:Program} {V:Fd} {N:Nat} {γ γ':G} {w w':World} {own:Nat→Prop} {hp:Nat→Option Ob} {live:Nat→Prop}
section
variable {α:Type} [Inhabited α] {te sz n:Nat} {e:α→D}
end
end Go.Av
set_option maxRecDepth 100000
namespace Go.Av
open Go.RowKit Go.Base Go.Proofs Go.ChangeShapes Go.WideShapes
structure Ah where
 Name:List UInt8
 Empty:Int
 MaxFuel:Int
 Alts:List Int
 Masses:List Int
 Climb:List (List Int)
 ClimbFlow:List (List Int)
 Cruise:List (List Int)
 Descent:List Int
 Idle:List Int
 MaxSpeed:List Int
 MinSpeed:List Int
 Ref:Int
 Extra:Int
 Ceiling:Int
instance:Inhabited Ah:=⟨⟨[],0,0,[],[],[],[],[],[],[],[],[],0,0,0⟩⟩
def Br (x:Ah):D:=.agg [(.str x.Name),(dI x.Empty),(dI x.MaxFuel),(A3 1 dI x.Alts),(A3 1 dI x.Masses),(A3 1 (A3 1 dI) x.Climb),(A3 1 (A3 1 dI) x.ClimbFlow),(A3 1 (A3 1 dI) x.Cruise),(A3 1 dI x.Descent),(A3 1 dI x.Idle),(A3 1 dI x.MaxSpeed),(A3 1 dI x.MinSpeed),(dI x.Ref),(dI x.Extra),(dI x.Ceiling)]
structure A5 where
 Line:Int
 Ai:Int
 Code:Int
instance:Inhabited A5:=⟨⟨0,0,0⟩⟩
def Bs (x:A5):D:=.agg [(dI x.Line),(dI x.Ai),(dI x.Code)]
structure Aj where
 Text:List UInt8
 Ai:Int
instance:Inhabited Aj:=⟨⟨[],0⟩⟩
def Ag (x:Aj):D:=.agg [(.str x.Text),(dI x.Ai)]
structure A7 where
 A8:Int
 A2:List Aj
instance:Inhabited A7:=⟨⟨0,[]⟩⟩
def At (x:A7):D:=.agg [(dI x.A8),(A3 2 Ag x.A2)]
structure Ab where
 line:A7
 at_:Int
 last:Int
 diag:A5
 failed:Bool
abbrev P1:=Int×Int×Int×Int×Bool×(List Int)×(List (List Int))×(List (List Int))×(List (List Int))×(List Int)×(List Int)×(List Int)
abbrev P2:=Int×Int×Int×Int×Int
abbrev P3:=Int×(List Aj)×Int×Int×Int×Int×Int×Bool
abbrev P4:=(List UInt8)×Int×Int×(List Int)×(List Int)×(List (List Int))×(List (List Int))×(List (List Int))×(List Int)×(List Int)×(List Int)×(List Int)×Int×Int×Int
abbrev P5:=Int×Int×Int×Int×Bool×(List Int)×(List Int)×(List (List Int))×(List (List Int))×(List (List Int))×(List Int)×(List Int)×(List Int)×(List Int)
abbrev P6:=Int×Int×Int×Bool
abbrev P7:=(List A7)×(List A5)
abbrev P8:=(List Int)×Int×P6
abbrev P9:=Int×Int
abbrev Gw:=Bool×(List UInt8)×P2
abbrev H6:=Bool×(List UInt8)×Int×Int×P6
abbrev Ea:=(List A5)×(List A7)
abbrev Aw:=Int×P2
abbrev L2:=(List UInt8)×(List UInt8)
abbrev Dr:=(List UInt8)×Int
abbrev Et:=Bool×Bool
abbrev Oo:=(List (List UInt8))×Int
abbrev Bk:=Int×P3
abbrev Oq:=(List A7)×(List A5)×Int
abbrev G3:=(List Aj)×P9
abbrev Gh:=Ah×(List A5)
abbrev Wz:=(List UInt8)×Bool
abbrev Sz:=(List A7)×(List A7)×P5
abbrev Mb:=Int×Int×Int×Gw
abbrev Jq:=Int×(List Int)
abbrev Eu:=Int×P9
abbrev Ke:=Bool×Et
abbrev Nj:=(List UInt8)×P2
abbrev X0:=(List Int)×A5×Bool
abbrev Nk:=(List Int)×P2
abbrev U5:=(List UInt8)×Wz
abbrev X1:=(List UInt8)×Unit
abbrev Jr:=Int×Bool
abbrev Js:=Bool×Eu
abbrev Yw:=(List Int)×Bk
abbrev gh:=(List Aj)×Int
abbrev P37:=(List UInt8)×Int×Int×P6
abbrev P38:=(List (List UInt8))×P9
abbrev gi:=Ah×A5×Bool
abbrev tf:=(List UInt8)×Oo
abbrev Yx:=Bool×Ke
abbrev Ot:=Int×P4
abbrev P43:=(List UInt8)×L2
abbrev tg:=(List Int)×P3
abbrev P45:=(List UInt8)×P3
abbrev P46:=Bool×Bool×Int
abbrev P47:=(List Int)×(List Int)×Int
abbrev P48:=Bool×Bool×Bool×Bool×Yx
abbrev P49:=Int×(List UInt8)
abbrev A6 (x:Int):Int:=IntKind.wrap .i64 x
theorem Ae {st:St}:Weak st st:=Weak.refl st
theorem Ao {α β:Type} {o:Option α} {f:α→Option β} {b:β} (h:o.bind f=some b):∃ a,o=some a∧f a=some b:=Option.bind_eq_some_iff.1 h
def Bf {R α:Type} {W:R→Fe} (x:Int) (y:List α) (k:Tr W):Tr W:=nd (0≤x) (nd (x < (y.length:Int)) k)
def D2 {R α:Type} {W:R→Fe} (G:Bool) (x:Int) (y:List α) (k:Tr W):Tr W:=.needG G (0≤x) inferInstance (.needG G (x < (y.length:Int)) inferInstance k)
def Dl {R:Type} {W:R→Fe} (G:Bool) (p:Prop) [d:Decidable p] (k:Tr W):Tr W:=.needG G p d k
instance:Inhabited Ab:=⟨⟨default,0,0,default,false⟩⟩
def By (x:Ah):List AV:=[(aS x.Name),(aI x.Empty),(aI x.MaxFuel),(.d (A3 1 dI x.Alts)),(.d (A3 1 dI x.Masses)),(.d (A3 1 (A3 1 dI) x.Climb)),(.d (A3 1 (A3 1 dI) x.ClimbFlow)),(.d (A3 1 (A3 1 dI) x.Cruise)),(.d (A3 1 dI x.Descent)),(.d (A3 1 dI x.Idle)),(.d (A3 1 dI x.MaxSpeed)),(.d (A3 1 dI x.MinSpeed)),(aI x.Ref),(aI x.Extra),(aI x.Ceiling)]
def B6 (x:A5):List AV:=[(aI x.Line),(aI x.Ai),(aI x.Code)]
def Bj (x:A7):List AV:=[(aI x.A8),(.d (A3 2 Ag x.A2))]
def Kt (x:Ah):Prop:=x.Name.length≤maxLen∧(Lit.int .i64 x.Empty).wf=true∧(Lit.int .i64 x.MaxFuel).wf=true∧(x.Alts.length≤maxLen∧∀ b∈x.Alts,(Lit.int .i64 b).wf=true)∧(x.Masses.length≤maxLen∧∀ b∈x.Masses,(Lit.int .i64 b).wf=true)∧(x.Climb.length≤maxLen∧∀ b∈x.Climb,(b.length≤maxLen∧∀ c∈b,(Lit.int .i64 c).wf=true))∧(x.ClimbFlow.length≤maxLen∧∀ b∈x.ClimbFlow,(b.length≤maxLen∧∀ c∈b,(Lit.int .i64 c).wf=true))∧(x.Cruise.length≤maxLen∧∀ b∈x.Cruise,(b.length≤maxLen∧∀ c∈b,(Lit.int .i64 c).wf=true))∧(x.Descent.length≤maxLen∧∀ b∈x.Descent,(Lit.int .i64 b).wf=true)∧(x.Idle.length≤maxLen∧∀ b∈x.Idle,(Lit.int .i64 b).wf=true)∧(x.MaxSpeed.length≤maxLen∧∀ b∈x.MaxSpeed,(Lit.int .i64 b).wf=true)∧(x.MinSpeed.length≤maxLen∧∀ b∈x.MinSpeed,(Lit.int .i64 b).wf=true)∧(Lit.int .i64 x.Ref).wf=true∧(Lit.int .i64 x.Extra).wf=true∧(Lit.int .i64 x.Ceiling).wf=true
theorem cells41:Tryz.prog.cellsOf 41=15:=by kernel_rfl
set_option maxRecDepth 100000 in
theorem op41 {W:World} {spare:Nat→Bool}:Yv Tryz.prog W spare 41 (fun x=>[(.str x.Name),(dI x.Empty),(dI x.MaxFuel),(A3 1 dI x.Alts),(A3 1 dI x.Masses),(A3 1 (A3 1 dI) x.Climb),(A3 1 (A3 1 dI) x.ClimbFlow),(A3 1 (A3 1 dI) x.Cruise),(A3 1 dI x.Descent),(A3 1 dI x.Idle),(A3 1 dI x.MaxSpeed),(A3 1 dI x.MinSpeed),(dI x.Ref),(dI x.Extra),(dI x.Ceiling)]) Kt:=fun H enc fuel cs x h=>by
 obtain⟨xs,n,_,_,hl,hx,hf⟩:=DataW.trod_struct Tryz.underlying41 h
 rw[cells41]at hl
 have hx:xs.length=15:=hx
 match cs,hl with
 | [c0,c1,c2,c3,c4,c5,c6,c7,c8,c9,c10,c11,c12,c13,c14],_ =>
  have g0:=hf 0 _ rfl
  rw[List.getElem?_eq_getElem (by omega)]at g0
  obtain⟨z0,g0⟩:∃ z,DataW.trod enc Tryz.prog W 0 spare true n 9 [c0]=some z:=by
   have e:Tryz.prog.cellsOf 9=1:=by kernel_rfl
   exact⟨_,by simpa [e] using g0⟩
  obtain⟨a0,r0,k0⟩:=(V5 Tryz.underlying9) H enc n _ _ g0
  have g1:=hf 1 _ rfl
  rw[List.getElem?_eq_getElem (by omega)]at g1
  obtain⟨z1,g1⟩:∃ z,DataW.trod enc Tryz.prog W 0 spare true n 2 [c1]=some z:=by
   have e:Tryz.prog.cellsOf 2=1:=by kernel_rfl
   exact⟨_,by simpa [e] using g1⟩
  obtain⟨a1,r1,k1⟩:=(Ck Tryz.underlying2) H enc n _ _ g1
  have g2:=hf 2 _ rfl
  rw[List.getElem?_eq_getElem (by omega)]at g2
  obtain⟨z2,g2⟩:∃ z,DataW.trod enc Tryz.prog W 0 spare true n 2 [c2]=some z:=by
   have e:Tryz.prog.cellsOf 2=1:=by kernel_rfl
   exact⟨_,by simpa [e] using g2⟩
  obtain⟨a2,r2,k2⟩:=(Ck Tryz.underlying2) H enc n _ _ g2
  have g3:=hf 3 _ rfl
  rw[List.getElem?_eq_getElem (by omega)]at g3
  obtain⟨z3,g3⟩:∃ z,DataW.trod enc Tryz.prog W 0 spare true n 24 [c3]=some z:=by
   have e:Tryz.prog.cellsOf 24=1:=by kernel_rfl
   exact⟨_,by simpa [e] using g3⟩
  obtain⟨a3,r3,k3⟩:=(Cc (sz:=1) (e:=fun a=>[(dI a)]) (en:=dI) (ok:=fun a=>(Lit.int .i64 a).wf=true) Tryz.underlying24 (by kernel_rfl) (by decide) (Ck Tryz.underlying2) (fun _=>rfl) (fun _=>rfl) (fun _=>.inr ⟨rfl,rfl⟩)) H enc n _ _ g3
  have g4:=hf 4 _ rfl
  rw[List.getElem?_eq_getElem (by omega)]at g4
  obtain⟨z4,g4⟩:∃ z,DataW.trod enc Tryz.prog W 0 spare true n 24 [c4]=some z:=by
   have e:Tryz.prog.cellsOf 24=1:=by kernel_rfl
   exact⟨_,by simpa [e] using g4⟩
  obtain⟨a4,r4,k4⟩:=(Cc (sz:=1) (e:=fun a=>[(dI a)]) (en:=dI) (ok:=fun a=>(Lit.int .i64 a).wf=true) Tryz.underlying24 (by kernel_rfl) (by decide) (Ck Tryz.underlying2) (fun _=>rfl) (fun _=>rfl) (fun _=>.inr ⟨rfl,rfl⟩)) H enc n _ _ g4
  have g5:=hf 5 _ rfl
  rw[List.getElem?_eq_getElem (by omega)]at g5
  obtain⟨z5,g5⟩:∃ z,DataW.trod enc Tryz.prog W 0 spare true n 39 [c5]=some z:=by
   have e:Tryz.prog.cellsOf 39=1:=by kernel_rfl
   exact⟨_,by simpa [e] using g5⟩
  obtain⟨a5,r5,k5⟩:=(Cc (sz:=1) (e:=fun a=>[(A3 1 dI a)]) (en:=(A3 1 dI)) (ok:=fun a=>(a.length≤maxLen∧∀ b∈a,(Lit.int .i64 b).wf=true)) Tryz.underlying39 (by kernel_rfl) (by decide) (Cc (sz:=1) (e:=fun a=>[(dI a)]) (en:=dI) (ok:=fun a=>(Lit.int .i64 a).wf=true) Tryz.underlying24 (by kernel_rfl) (by decide) (Ck Tryz.underlying2) (fun _=>rfl) (fun _=>rfl) (fun _=>.inr ⟨rfl,rfl⟩)) (fun _=>rfl) (fun _=>rfl) (fun _=>.inr ⟨rfl,rfl⟩)) H enc n _ _ g5
  have g6:=hf 6 _ rfl
  rw[List.getElem?_eq_getElem (by omega)]at g6
  obtain⟨z6,g6⟩:∃ z,DataW.trod enc Tryz.prog W 0 spare true n 39 [c6]=some z:=by
   have e:Tryz.prog.cellsOf 39=1:=by kernel_rfl
   exact⟨_,by simpa [e] using g6⟩
  obtain⟨a6,r6,k6⟩:=(Cc (sz:=1) (e:=fun a=>[(A3 1 dI a)]) (en:=(A3 1 dI)) (ok:=fun a=>(a.length≤maxLen∧∀ b∈a,(Lit.int .i64 b).wf=true)) Tryz.underlying39 (by kernel_rfl) (by decide) (Cc (sz:=1) (e:=fun a=>[(dI a)]) (en:=dI) (ok:=fun a=>(Lit.int .i64 a).wf=true) Tryz.underlying24 (by kernel_rfl) (by decide) (Ck Tryz.underlying2) (fun _=>rfl) (fun _=>rfl) (fun _=>.inr ⟨rfl,rfl⟩)) (fun _=>rfl) (fun _=>rfl) (fun _=>.inr ⟨rfl,rfl⟩)) H enc n _ _ g6
  have g7:=hf 7 _ rfl
  rw[List.getElem?_eq_getElem (by omega)]at g7
  obtain⟨z7,g7⟩:∃ z,DataW.trod enc Tryz.prog W 0 spare true n 39 [c7]=some z:=by
   have e:Tryz.prog.cellsOf 39=1:=by kernel_rfl
   exact⟨_,by simpa [e] using g7⟩
  obtain⟨a7,r7,k7⟩:=(Cc (sz:=1) (e:=fun a=>[(A3 1 dI a)]) (en:=(A3 1 dI)) (ok:=fun a=>(a.length≤maxLen∧∀ b∈a,(Lit.int .i64 b).wf=true)) Tryz.underlying39 (by kernel_rfl) (by decide) (Cc (sz:=1) (e:=fun a=>[(dI a)]) (en:=dI) (ok:=fun a=>(Lit.int .i64 a).wf=true) Tryz.underlying24 (by kernel_rfl) (by decide) (Ck Tryz.underlying2) (fun _=>rfl) (fun _=>rfl) (fun _=>.inr ⟨rfl,rfl⟩)) (fun _=>rfl) (fun _=>rfl) (fun _=>.inr ⟨rfl,rfl⟩)) H enc n _ _ g7
  have g8:=hf 8 _ rfl
  rw[List.getElem?_eq_getElem (by omega)]at g8
  obtain⟨z8,g8⟩:∃ z,DataW.trod enc Tryz.prog W 0 spare true n 24 [c8]=some z:=by
   have e:Tryz.prog.cellsOf 24=1:=by kernel_rfl
   exact⟨_,by simpa [e] using g8⟩
  obtain⟨a8,r8,k8⟩:=(Cc (sz:=1) (e:=fun a=>[(dI a)]) (en:=dI) (ok:=fun a=>(Lit.int .i64 a).wf=true) Tryz.underlying24 (by kernel_rfl) (by decide) (Ck Tryz.underlying2) (fun _=>rfl) (fun _=>rfl) (fun _=>.inr ⟨rfl,rfl⟩)) H enc n _ _ g8
  have g9:=hf 9 _ rfl
  rw[List.getElem?_eq_getElem (by omega)]at g9
  obtain⟨z9,g9⟩:∃ z,DataW.trod enc Tryz.prog W 0 spare true n 24 [c9]=some z:=by
   have e:Tryz.prog.cellsOf 24=1:=by kernel_rfl
   exact⟨_,by simpa [e] using g9⟩
  obtain⟨a9,r9,k9⟩:=(Cc (sz:=1) (e:=fun a=>[(dI a)]) (en:=dI) (ok:=fun a=>(Lit.int .i64 a).wf=true) Tryz.underlying24 (by kernel_rfl) (by decide) (Ck Tryz.underlying2) (fun _=>rfl) (fun _=>rfl) (fun _=>.inr ⟨rfl,rfl⟩)) H enc n _ _ g9
  have g10:=hf 10 _ rfl
  rw[List.getElem?_eq_getElem (by omega)]at g10
  obtain⟨z10,g10⟩:∃ z,DataW.trod enc Tryz.prog W 0 spare true n 24 [c10]=some z:=by
   have e:Tryz.prog.cellsOf 24=1:=by kernel_rfl
   exact⟨_,by simpa [e] using g10⟩
  obtain⟨a10,r10,k10⟩:=(Cc (sz:=1) (e:=fun a=>[(dI a)]) (en:=dI) (ok:=fun a=>(Lit.int .i64 a).wf=true) Tryz.underlying24 (by kernel_rfl) (by decide) (Ck Tryz.underlying2) (fun _=>rfl) (fun _=>rfl) (fun _=>.inr ⟨rfl,rfl⟩)) H enc n _ _ g10
  have g11:=hf 11 _ rfl
  rw[List.getElem?_eq_getElem (by omega)]at g11
  obtain⟨z11,g11⟩:∃ z,DataW.trod enc Tryz.prog W 0 spare true n 24 [c11]=some z:=by
   have e:Tryz.prog.cellsOf 24=1:=by kernel_rfl
   exact⟨_,by simpa [e] using g11⟩
  obtain⟨a11,r11,k11⟩:=(Cc (sz:=1) (e:=fun a=>[(dI a)]) (en:=dI) (ok:=fun a=>(Lit.int .i64 a).wf=true) Tryz.underlying24 (by kernel_rfl) (by decide) (Ck Tryz.underlying2) (fun _=>rfl) (fun _=>rfl) (fun _=>.inr ⟨rfl,rfl⟩)) H enc n _ _ g11
  have g12:=hf 12 _ rfl
  rw[List.getElem?_eq_getElem (by omega)]at g12
  obtain⟨z12,g12⟩:∃ z,DataW.trod enc Tryz.prog W 0 spare true n 2 [c12]=some z:=by
   have e:Tryz.prog.cellsOf 2=1:=by kernel_rfl
   exact⟨_,by simpa [e] using g12⟩
  obtain⟨a12,r12,k12⟩:=(Ck Tryz.underlying2) H enc n _ _ g12
  have g13:=hf 13 _ rfl
  rw[List.getElem?_eq_getElem (by omega)]at g13
  obtain⟨z13,g13⟩:∃ z,DataW.trod enc Tryz.prog W 0 spare true n 2 [c13]=some z:=by
   have e:Tryz.prog.cellsOf 2=1:=by kernel_rfl
   exact⟨_,by simpa [e] using g13⟩
  obtain⟨a13,r13,k13⟩:=(Ck Tryz.underlying2) H enc n _ _ g13
  have g14:=hf 14 _ rfl
  rw[List.getElem?_eq_getElem (by omega)]at g14
  obtain⟨z14,g14⟩:∃ z,DataW.trod enc Tryz.prog W 0 spare true n 2 [c14]=some z:=by
   have e:Tryz.prog.cellsOf 2=1:=by kernel_rfl
   exact⟨_,by simpa [e] using g14⟩
  obtain⟨a14,r14,k14⟩:=(Ck Tryz.underlying2) H enc n _ _ g14
  exact⟨⟨a0,a1,a2,a3,a4,a5,a6,a7,a8,a9,a10,a11,a12,a13,a14⟩,Cq r0 (Cq r1 (Cq r2 (Cq r3 (Cq r4 (Cq r5 (Cq r6 (Cq r7 (Cq r8 (Cq r9 (Cq r10 (Cq r11 (Cq r12 (Cq r13 (r14)))))))))))))),⟨k0,k1,k2,k3,k4,k5,k6,k7,k8,k9,k10,k11,k12,k13,k14⟩⟩
end Go.Av
namespace Go.Av
open Go.RowKit Go.Base Go.Proofs
def zp (a0 a1:List UInt8):Option Int:=match a1 with
 | [c]=>some (Lib.countByte a0 c)
 | _=>none
set_option maxHeartbeats 1000000 in
set_option maxRecDepth 100000 in
theorem p142 {a0 a1:List UInt8} {r:Int} (h:zp a0 a1=some r):A9 Tryz.prog 142 [(.str a0),(.str a1)] (.int .i64 r):=by
 refine⟨⟨_,Tryz.func142,by kernel_rfl,by decide⟩,fun μ w vs hgl hz hr=>?_⟩
 unfold zp at h
 split at h
 ·rename_i c
  simp only[Option.some.injEq]at h
  simp only[RepL,Rep]at hr
  obtain⟨v,t,rfl,rfl,v2,t2,rfl,rfl,rfl⟩:=hr
  subst h
  suffices hs:Calls Tryz.prog 142 #[.string ⟨⟨a0⟩⟩,.string ⟨#[c]⟩] w fun e w'=>e=.returned (.int .i64 (Lib.countByte a0 c))∧w'=w by
   refine hs.mono ?_
   rintro e w' ⟨rfl,rfl⟩
   exact⟨_,μ,rfl,⟨rfl,rfl,rfl,Nat.le_refl _,fun _ _=>rfl⟩,fun _ _ _=>rfl,hz,by simp only[Rep]⟩
  go_enter Tryz.func142,Tryz.ntmps142
  go_wp2
  rw[run_callFunc_extern Tryz.func162 (by kernel_rfl) (by kernel_rfl) (by kernel_rfl) (e:=Extern.BytealgCount.count) (by kernel_rfl),Lib.run_countString]
  simp only[Result.andThen]
  rw[Oper.upon_value]
  go_wp2
  go_ret
  exact⟨rfl,rfl⟩
 ·cases h
def ew (a0 a1:List UInt8):Option Int:=match a1 with
 | [c]=>some (Lib.indexByte a0 c)
 | _=>none
set_option maxHeartbeats 1000000 in
set_option maxRecDepth 100000 in
theorem p163 {a0 a1:List UInt8} {r:Int} (h:ew a0 a1=some r):A9 Tryz.prog 163 [(.str a0),(.str a1)] (.int .i64 r):=by
 refine⟨⟨_,Tryz.func163,by kernel_rfl,by decide⟩,fun μ w vs hgl hz hr=>?_⟩
 unfold ew at h
 split at h
 ·rename_i c
  simp only[Option.some.injEq]at h
  simp only[RepL,Rep]at hr
  obtain⟨v,t,rfl,rfl,v2,t2,rfl,rfl,rfl⟩:=hr
  subst h
  suffices hs:Calls Tryz.prog 163 #[.string ⟨⟨a0⟩⟩,.string ⟨#[c]⟩] w fun e w'=>e=.returned (.int .i64 (Lib.indexByte a0 c))∧w'=w by
   refine hs.mono ?_
   rintro e w' ⟨rfl,rfl⟩
   exact⟨_,μ,rfl,⟨rfl,rfl,rfl,Nat.le_refl _,fun _ _=>rfl⟩,fun _ _ _=>rfl,hz,by simp only[Rep]⟩
  by_cases hc:[c]=a0
  ·have hcb:([c]==a0)=true:=by simpa using hc
   have hi:Lib.indexByte a0 c=0:=by rw[← hc];simp[Lib.indexByte]
   go_enter Tryz.func163,Tryz.ntmps163
   go_wp2
   all_goals first
    | (exfalso;rename_i h0;rw[h0]at hc;cases hc;done)
    | (go_ret;exact⟨by rw[hi];rfl,rfl⟩)
  ·have hcb:([c]==a0)=false:=by simpa using hc
   go_enter Tryz.func163,Tryz.ntmps163
   go_wp2
   rw[run_callFunc_extern Tryz.func182 (by kernel_rfl) (by kernel_rfl) (by kernel_rfl) (e:=Extern.BytealgIndexByte.indexByte) (by kernel_rfl),Lib.run_indexByteString]
   simp only[Result.andThen]
   rw[Oper.upon_value]
   go_wp2
   go_ret
   exact⟨rfl,rfl⟩
 ·cases h
end Go.Av
namespace Go.Av
open Go.RowKit Go.Base Go.Proofs
set_option maxHeartbeats 1000000 in
set_option maxRecDepth 100000 in
theorem s6 (T:TypeId) (hlies:liesAt Tryz.prog Tryz.prog.depth T (2 / Tryz.prog.cellsOf T) 0 63 1=true) (b:Nat) (w:World) (h0:w.cell? ⟨b,0,none⟩=some (.pointer none)) (hsh:w.shape? b=some (T,2)) (hfz:w.frozen? ⟨b,0,none⟩=false) :
  Calls Tryz.prog 100 #[.pointer (some ⟨b,0,none⟩)] w fun e w'=>e=.returned (.tuple #[])∧w'=w.setCell ⟨b,0,none⟩ (.pointer (some ⟨b,0,none⟩)):=by
 obtain⟨j,hj,hjs⟩:=Option.map_eq_some_iff.1 (show (Tryz.prog.info? 63).map (·.size)=some 2 by kernel_rfl)
 have t1:=Tryz.underlying60
 have t2:=Tryz.underlying185
 go_enter Tryz.func100,Tryz.ntmps100
 go_wp2
 rw[Lib.run_to_unsafe w ⟨b,0,none⟩ t1 t2 hj (by rw[hjs];decide) hsh (Nat.zero_lt_succ 1)]
 simp only[Result.andThen]
 rw[Oper.upon_value]
 go_wp2
 rw[run_callFunc_extern Tryz.func135 (by kernel_rfl) (by kernel_rfl) (by kernel_rfl) (e:=Extern.AbiNoEscape.same) (by kernel_rfl)]
 rw[Lib.run_noEscape]
 simp only[Result.andThen]
 rw[Oper.upon_value]
 go_wp2
 rw[Lib.run_from_unsafe w ⟨b,0,none⟩ t2 t1 hj hsh hlies]
 simp only[Result.andThen]
 rw[Oper.upon_value]
 go_wp2
 go_end0
 exact⟨rfl,rfl⟩
set_option maxHeartbeats 1000000 in
set_option maxRecDepth 100000 in
theorem yl (b:Nat) (w:World) (h0:w.cell? ⟨b,0,none⟩=some (.pointer (some ⟨b,0,none⟩))) :
  Calls Tryz.prog 100 #[.pointer (some ⟨b,0,none⟩)] w fun e w'=>e=.returned (.tuple #[])∧w'=w:=by
 obtain⟨j,hj,_⟩:=Option.map_eq_some_iff.1 (show (Tryz.prog.info? 63).map (·.size)=some 2 by kernel_rfl)
 go_enter Tryz.func100,Tryz.ntmps100
 go_wp2
 rw[Lib.run_neq_ptr_same w _ Tryz.underlying60 hj]
 go_wp2
 go_end0
 exact⟨rfl,rfl⟩
def zw (a0:List Int):Option Unit:=some ()
def qcc1 (a0:List Int) (y:Unit):OF:=⟨.tup [],[(1,.vec 5 1 a0.length (cF (D.int .u8) a0)),(0,.cells [.ptr 0 0,.vec 1 1 a0.length])],[]⟩
theorem pocc1 {a0:List Int} {r:Unit} (h:zw a0=some r):Bo Tryz.prog 100 [.ptr 0 0] [(1,.vec 5 1 a0.length (cF (D.int .u8) a0)),(0,.cells [.ptr 0 0,.vec 1 1 a0.length])] [] (qcc1 a0 r):=by
 refine⟨⟨_,Tryz.func100,by kernel_rfl,by decide⟩,fun own γ w vs H big F hr=>?_⟩
 obtain⟨b,x,e1,e2,e3,e4,e5⟩:=H.blk (id:=0) (o:=.cells [.ptr 0 0,.vec 1 1 a0.length]) rfl rfl
 obtain⟨us,te,rfl,hu,_⟩:=e3
 simp only[RepAL,RepA]at hr hu
 obtain⟨v,t,rfl,⟨b',hb',rfl⟩,rfl⟩:=hr
 obtain⟨v1,t1,rfl,⟨b2,hb2,rfl⟩,v2,t2,rfl,_,rfl⟩:=hu
 rw[e1]at hb' hb2
 injection hb' with hb'
 injection hb' with hb'
 subst hb'
 injection hb2 with hb2
 injection hb2 with hb2
 subst hb2
 refine(yl b w (by simp[World.cell?,e2])).mono ?_
 rintro e w' ⟨rfl,rfl⟩
 exact⟨_,γ,rfl,LeM.refl _,fun _ _ _ h=>h,H,Base.refl _ _,by simp only[qcc1,RepA,RepAL];exact⟨[],rfl,rfl⟩,fun _ _ _ _=>rfl⟩
set_option maxHeartbeats 2000000 in
set_option maxRecDepth 100000 in
theorem AAG (b g cap:Nat) (p:Value) (cur:Array Value) (l:List UInt8) (T:TypeId) (w:World) (hbk:w.heap[b]?=some (.cells #[p,.slice (some ⟨g,0,none⟩) l.length cap] T (0,0))) (h0:l≠[])
  (hg:w.heap[g]?=some (.cells cur 5 (0,0))) (hcap:l.length≤cap) (hcm:cap≤maxLen) (hcs:cur.size=cap) (hcur:∀ (j:Nat) (x:UInt8),l[j]?=some x→cur[j]?=some (.int .u8 x.toNat)) :
  Calls Tryz.prog 26 #[.pointer (some ⟨b,0,none⟩)] w fun e w'=>e=.returned (.string ⟨⟨l⟩⟩)∧w.grownBy w' (some g):=by
 have hl0:l.length≠0:=by simpa using h0
 have c1:w.drew.cell? ⟨b,1,none⟩=some (.slice (some ⟨g,0,none⟩) l.length cap):=by
  have:w.drew.heap[b]?=some (.cells #[p,.slice (some ⟨g,0,none⟩) l.length cap] T (0,0)):=hbk
  rw[Lib.cell_of_heap this];rfl
 have hSD:(Builtin.unsafeSliceData_ #[61] 138 #[.slice (some ⟨g,0,none⟩) l.length cap]).run Tryz.prog w.drew=.ok (.pointer (some ⟨g,0,none⟩)) w.drew :=
  Lib.run_unsafeSliceData_row _ _ _ _ _ _ (by omega)
 have hUS:(Builtin.unsafeString_ #[138,3] 9 #[.pointer (some ⟨g,0,none⟩),.int .i64 l.length]).run Tryz.prog w.drew=.ok (.string ⟨l.toArray⟩) (w.drew.freeze ⟨g,0,none⟩ l.length):=by
  refine Lib.run_unsafeString_row w.drew 138 3 9 5 Tryz.underlying138 (by kernel_rfl) g cur.size (by have hg':w.drew.heap[g]?=some (.cells cur 5 (0,0)):=hg;simp[World.shape?,hg']) l h0 (by omega) (by unfold maxLen at hcm;omega) ?_
  intro j x hx
  have hg':w.drew.heap[g]?=some (.cells cur 5 (0,0)):=hg
  have ha:(⟨g,0,none⟩:Addr).add j=⟨g,j,none⟩:=by unfold Addr.add;split<;>simp_all
  rw[ha,Lib.cell_of_heap hg']
  exact hcur j x hx
 have mixed:Tryz.prog.follows Departure.mixedOrders=true:=by kernel_rfl
 have hgr:w.grownBy (w.drew.freeze ⟨g,0,none⟩ l.length) (some g):=by
  unfold World.freeze
  rw[if_neg hl0]
  exact⟨rfl,rfl,rfl,by simp,fun k _ hk=>by
   simp only[Array.getElem?_modify]
   rw[if_neg (fun e:g=k=>hk (by rw[e]))];rfl⟩
 go_enter Tryz.func26,Tryz.ntmps26
 go_wp2
 go_region_o
 all_goals (go_wp2;go_ret;exact⟨rfl,hgr⟩)
def ey (a0:List Int):Option (List UInt8):=if a0≠[]∧a0.all (fun x=>decide (0≤x∧x < 256))=true then some (a0.map fun x=>x.toNat.toUInt8)else none
def qa (a0:List Int) (y:List UInt8):OF:=⟨.d (.str y),[(1,.gone),(0,.cells [.ptr 0 0,.any])],[]⟩
theorem pobs1 {a0:List Int} {r:List UInt8} (h:ey a0=some r):Bo Tryz.prog 26 [.ptr 0 0] [(1,.vec 5 1 a0.length (cF (D.int .u8) a0)),(0,.cells [.ptr 0 0,.vec 1 1 a0.length])] [] (qa a0 r):=by
 refine⟨⟨_,Tryz.func26,by kernel_rfl,by decide⟩,fun own γ w vs H big F hr=>?_⟩
 unfold ey at h
 split at h
 ·rename_i hc
  obtain⟨hne,hby⟩:=hc
  simp only[Option.some.injEq]at h
  obtain⟨b,x,e1,e2,e3,e4,e5⟩:=H.blk (id:=0) (o:=.cells [.ptr 0 0,.vec 1 1 a0.length]) rfl rfl
  obtain⟨v0,xs,k1,_,ow,hE,kb⟩:=H.vec (id:=1) (e:=5) (sz:=1) (n:=a0.length) (f:=cF (D.int .u8) a0) rfl
  obtain⟨us,te,rfl,hu,hone⟩:=e3
  simp only[RepAL,RepA]at hr hu
  obtain⟨v,t,rfl,⟨b',hb',rfl⟩,rfl⟩:=hr
  obtain⟨v1,t1,rfl,⟨b2,hb2,rfl⟩,v2,t2,rfl,⟨e,A,c,hv,_⟩,rfl⟩:=hu
  rw[e1]at hb' hb2
  injection hb' with hb'
  injection hb' with hb'
  subst hb'
  injection hb2 with hb2
  injection hb2 with hb2
  subst hb2
  rw[k1]at hv
  injection hv with hv
  injection hv with hv _ _
  subst hv
  have hn0:a0.length≠0:=by simpa using hne
  obtain⟨g,cap,cur,hvb,_,hg,h3,h4,h5,h6⟩:∃ g cap cur,v0=.slice (some ⟨g,0,none⟩) a0.length cap∧0≤g∧w.heap[g]?=some (.cells cur 5 (0,0))∧a0.length≤cap∧cap≤maxLen∧cur.size=cap * 1∧cur.toList.take (a0.length * 1)=xs:=by
   rcases ow.2 with⟨_,h0⟩ | h0
   ·exact absurd h0 hn0
   ·exact h0
  have hrl:r.length=a0.length:=by rw[← h];simp
  have e2':=e2
  rw[hvb,← hrl]at e2
  have hb0:=List.all_eq_true.1 hby
  refine(AAG b g cap _ cur r te w e2 (fun e=>hn0 (by rw[← hrl,e];rfl)) hg (by omega) h4 (by omega) (fun j x hx=>?_)).mono ?_
  ·rw[← h,List.getElem?_map]at hx
   cases hj:a0[j]? with
   | none=>rw[hj]at hx;cases hx
   | some y =>
    rw[hj]at hx
    simp only[Option.map_some,Option.some.injEq]at hx
    have hjl:j < a0.length:=(List.getElem?_eq_some_iff.1 hj).1
    obtain⟨u,q1,q2,_,q4⟩:=hE j hjl
    have hy:=hb0 y (List.mem_of_getElem? hj)
    simp only[decide_eq_true_eq]at hy
    have hcf:cF (D.int .u8) a0 j=.int .u8 y:=by simp[cF,hj]
    rw[hcf]at q1
    simp only[Rep]at q1
    subst q1
    have q5:=q4 0 (by omega)
    simp only[Nat.mul_one,Nat.add_zero]at q5
    rw[← h6,List.getElem?_take,if_pos (by omega)]at q5
    have:(x.toNat:Int)=y:=by
     rw[← hx]
     have:y.toNat.toUInt8.toNat=y.toNat:=by
      rw[Nat.toUInt8,UInt8.toNat_ofNat'];omega
     rw[this];omega
    rw[this]
    simpa [Value.cells] using q5
  rintro e w' ⟨rfl,hgr⟩
  have hvo:v0.ownBlock=some g:=by rw[hvb];rfl
  have hbg:b≠g:=by
   rcases H.inj 0 1 _ _ _ _ rfl rfl rfl rfl (by decide) e1 k1 with h' | h'
   ·cases h'
   ·intro e;exact h' (by show some b=v0.ownBlock;rw[hvo,e])
  have hbl:b < w.heap.size:=(Array.getElem?_eq_some_iff.1 e2).1
  refine⟨_,γ,rfl,LeM.refl _,fun _ _ _ h=>h,⟨fun c k y hy=>?_,fun id o ho hok=>?_,fun i j oi oj p q hi hj ho1 ho2 hne _ _=>?_,fun t v e sz ht=>(by cases ht),fun s t v u ht=>(by cases ht)⟩,⟨hgr.os,hgr.tape,hgr.output,hgr.size,fun k hk hn=>hgr.block k hk (fun e=>hn (by injection e with e;rw[e];exact(kb g hvo).1))⟩,by simp only[qa,RepA,Rep],fun _ _ _ _=>rfl⟩
  ·have hc:some c≠some g:=fun e=>by injection e with e;rw[e,(kb g hvo).2 k]at hy;cases hy
   rw[World.cell?_of_block (w:=w) (hgr.block c (Gz H.fz hy) hc)]
   exact H.fz c k y hy
  ·simp only[qa,Af]at ho
   split at ho
   ·injection ho with ho;subst ho;cases hok
   ·split at ho
    ·rename_i h0
     subst h0
     injection ho with ho
     subst ho
     refine⟨.blk b,e1,⟨_,by rw[hgr.block b hbl (fun e=>hbg (by injection e))];exact e2',[_,_],te,rfl,?_,hone⟩,fun c hc=>by injection hc with hc;subst hc;exact⟨e4,e5⟩⟩
     simp only[RepAL,RepA]
     exact⟨_,_,rfl,⟨b,e1,rfl⟩,_,_,rfl,trivial,rfl⟩
    ·cases ho
  ·have only:∀ i o,Af (qa a0 r).hp i=some o→o.ok=true→i=0:=fun i o hi ho=>by
    simp only[qa,Af]at hi
    split at hi
    ·injection hi with hi;subst hi;cases ho
    ·split at hi
     ·rename_i h0;exact h0.symm
     ·cases hi
   exact absurd ((only i oi hi ho1).trans (only j oj hj ho2).symm) hne
 ·cases h
end Go.Av
namespace Go.Proofs
open Go.Shelf
def Tryz.laysM173_ren:Go.Shelf.Ren:=⟨fun | 173=>39 | 246=>99 | 283=>131 | 284=>132 | 285=>133 | 286=>134 | 129=>151 | 317=>150 | 318=>152 | 319=>153 | 320=>154 | 337=>168 | 338=>169 | n=>n,fun | 2=>2 | 3=>3 | 9=>9 | 4=>4 | 171=>179 | 0=>0 | 53=>180 | 37=>61 | 5=>5 | 173=>183 | 212=>202 | 51=>203 | 20=>20 | 213=>204 | 46=>206 | 232=>227 | 233=>228 | n=>n,fun | 17=>0 | 18=>4 | 19=>5 | n=>n⟩
theorem Tryz.laysM173:Go.Proofs.LaysM.n173 Tryz.prog Tryz.laysM173_ren:={
 mixed:=by kernel_rfl
 f129:=Tryz.func151.trans (congrArg some (by kernel_rfl))
 f173:=Tryz.func39.trans (congrArg some (by kernel_rfl))
 f246:=Tryz.func99.trans (congrArg some (by kernel_rfl))
 f283:=Tryz.func131.trans (congrArg some (by kernel_rfl))
 f284:=Tryz.func132.trans (congrArg some (by kernel_rfl))
 f285:=Tryz.func133.trans (congrArg some (by kernel_rfl))
 f286:=Tryz.func134.trans (congrArg some (by kernel_rfl))
 f317:=Tryz.func150.trans (congrArg some (by kernel_rfl))
 f318:=Tryz.func152.trans (congrArg some (by kernel_rfl))
 f319:=Tryz.func153.trans (congrArg some (by kernel_rfl))
 f320:=Tryz.func154.trans (congrArg some (by kernel_rfl))
 f337:=Tryz.func168.trans (congrArg some (by kernel_rfl))
 f338:=Tryz.func169.trans (congrArg some (by kernel_rfl))
 t0:=Tryz.underlying0
 a0:=Tryz.isAgg0
 z0:=Tryz.sizeOf0
 v0:=Tryz.zeroValue0
 t2:=Tryz.underlying2
 a2:=Tryz.isAgg2
 z2:=Tryz.sizeOf2
 v2:=Tryz.zeroValue2
 t3:=Tryz.underlying3
 a3:=Tryz.isAgg3
 z3:=Tryz.sizeOf3
 v3:=Tryz.zeroValue3
 t4:=Tryz.underlying4
 a4:=Tryz.isAgg4
 z4:=Tryz.sizeOf4
 v4:=Tryz.zeroValue4
 t5:=Tryz.underlying5
 a5:=Tryz.isAgg5
 z5:=Tryz.sizeOf5
 v5:=Tryz.zeroValue5
 t9:=Tryz.underlying9
 a9:=Tryz.isAgg9
 z9:=Tryz.sizeOf9
 v9:=Tryz.zeroValue9
 t20:=Tryz.underlying20
 a20:=Tryz.isAgg20
 z20:=Tryz.sizeOf20
 v20:=Tryz.zeroValue20
 t37:=Tryz.underlying61
 a37:=Tryz.isAgg61
 z37:=Tryz.sizeOf61
 v37:=Tryz.zeroValue61
 t46:=Tryz.underlying206
 a46:=Tryz.isAgg206
 z46:=Tryz.sizeOf206
 v46:=Tryz.zeroValue206
 t51:=Tryz.underlying203
 a51:=Tryz.isAgg203
 z51:=Tryz.sizeOf203
 v51:=Tryz.zeroValue203
 t53:=Tryz.underlying180
 a53:=Tryz.isAgg180
 z53:=Tryz.sizeOf180
 v53:=Tryz.zeroValue180
 t171:=Tryz.underlying179
 a171:=Tryz.isAgg179
 z171:=Tryz.sizeOf179
 v171:=Tryz.zeroValue179
 t173:=Tryz.underlying183
 a173:=Tryz.isAgg183
 z173:=Tryz.sizeOf183
 v173:=Tryz.zeroValue183
 t212:=Tryz.underlying202
 a212:=Tryz.isAgg202
 z212:=Tryz.sizeOf202
 v212:=Tryz.zeroValue202
 t213:=Tryz.underlying204
 a213:=Tryz.isAgg204
 z213:=Tryz.sizeOf204
 t232:=Tryz.underlying227
 a232:=Tryz.isAgg227
 z232:=Tryz.sizeOf227
 v232:=Tryz.zeroValue227
 t233:=Tryz.underlying228
 a233:=Tryz.isAgg228
 z233:=Tryz.sizeOf228
 v233:=Tryz.zeroValue228
 g17:=by kernel_rfl
 g18:=by kernel_rfl
 g19:=by kernel_rfl
 i0:=by kernel_rfl
 i2:=by kernel_rfl
 i3:=by kernel_rfl
 i4:=by kernel_rfl
 i5:=by kernel_rfl
 i9:=by kernel_rfl
 i20:=by kernel_rfl
 i37:=by kernel_rfl
 i46:=by kernel_rfl
 i51:=by kernel_rfl
 i53:=by kernel_rfl
 i171:=by kernel_rfl
 i173:=by kernel_rfl
 i212:=by kernel_rfl
 i232:=by kernel_rfl
 i233:=by kernel_rfl
 m17:=by kernel_rfl
 m18:=by kernel_rfl
 m19:=by kernel_rfl }
open Go.RowKit Go.Sort Go.Lib in
theorem Tryz.strconv_FormatInt_10 (n:Int) (h0 : -9223372036854775808≤n) (h1:n≤9223372036854775807) (w:World) (htab:Lib.TabIs Tryz.prog w "internal/strconv.uint64pow10" .u64 Lib.pow10Tab) :
  Calls Tryz.prog 39 #[.int .i64 n,.int .i64 10] w fun e w'=>e=.returned (.string ⟨(Lib.itoa n).toArray⟩)∧∃ k os,w'=grow (w.drewN k) os:=Any.strconv_FormatInt_10 Tryz.laysM173 n h0 h1 w htab
def Tryz.laysC174_ren:Go.Shelf.Ren:=⟨fun | 174=>147 | 247=>165 | 245=>166 | 287=>177 | 279=>178 | 280=>179 | 281=>180 | 282=>181 | 321=>184 | 322=>185 | 316=>186 | 171=>188 | 205=>187 | 243=>189 | 246=>99 | 283=>131 | 284=>132 | 285=>133 | 286=>134 | 129=>151 | 317=>150 | 318=>152 | 319=>153 | 320=>154 | 337=>168 | 338=>169 | n=>n,fun | 9=>9 | 3=>3 | 2=>2 | 75=>91 | 85=>196 | 4=>4 | 167=>221 | 5=>5 | 53=>180 | 175=>222 | 46=>206 | 168=>224 | 37=>61 | 0=>0 | 210=>238 | 21=>21 | 127=>138 | 145=>242 | 143=>240 | 171=>179 | 173=>183 | 212=>202 | 51=>203 | 20=>20 | 213=>204 | 232=>227 | 233=>228 | 80=>66 | n=>n,fun | 15=>8 | 16=>9 | 17=>0 | 18=>4 | 19=>5 | n=>n⟩
theorem Tryz.laysC174:Go.Proofs.LaysC.n174 Tryz.prog Tryz.laysC174_ren:={
 mixed:=by kernel_rfl
 f129:=Tryz.func151.trans (congrArg some (by kernel_rfl))
 f171:=Tryz.func188.trans (congrArg some (by kernel_rfl))
 f174:=Tryz.func147.trans (congrArg some (by kernel_rfl))
 f205:=Tryz.func187.trans (congrArg some (by kernel_rfl))
 f243:=Tryz.func189.trans (congrArg some (by kernel_rfl))
 f245:=Tryz.func166.trans (congrArg some (by kernel_rfl))
 f246:=Tryz.func99.trans (congrArg some (by kernel_rfl))
 f247:=Tryz.func165.trans (congrArg some (by kernel_rfl))
 f279:=Tryz.func178.trans (congrArg some (by kernel_rfl))
 f280:=Tryz.func179.trans (congrArg some (by kernel_rfl))
 f281:=Tryz.func180.trans (congrArg some (by kernel_rfl))
 f282:=Tryz.func181.trans (congrArg some (by kernel_rfl))
 f283:=Tryz.func131.trans (congrArg some (by kernel_rfl))
 f284:=Tryz.func132.trans (congrArg some (by kernel_rfl))
 f285:=Tryz.func133.trans (congrArg some (by kernel_rfl))
 f286:=Tryz.func134.trans (congrArg some (by kernel_rfl))
 f287:=Tryz.func177.trans (congrArg some (by kernel_rfl))
 f316:=Tryz.func186.trans (congrArg some (by kernel_rfl))
 f317:=Tryz.func150.trans (congrArg some (by kernel_rfl))
 f318:=Tryz.func152.trans (congrArg some (by kernel_rfl))
 f319:=Tryz.func153.trans (congrArg some (by kernel_rfl))
 f320:=Tryz.func154.trans (congrArg some (by kernel_rfl))
 f321:=Tryz.func184.trans (congrArg some (by kernel_rfl))
 f322:=Tryz.func185.trans (congrArg some (by kernel_rfl))
 f337:=Tryz.func168.trans (congrArg some (by kernel_rfl))
 f338:=Tryz.func169.trans (congrArg some (by kernel_rfl))
 t0:=Tryz.underlying0
 a0:=Tryz.isAgg0
 z0:=Tryz.sizeOf0
 v0:=Tryz.zeroValue0
 t2:=Tryz.underlying2
 a2:=Tryz.isAgg2
 z2:=Tryz.sizeOf2
 v2:=Tryz.zeroValue2
 t3:=Tryz.underlying3
 a3:=Tryz.isAgg3
 z3:=Tryz.sizeOf3
 v3:=Tryz.zeroValue3
 t4:=Tryz.underlying4
 a4:=Tryz.isAgg4
 z4:=Tryz.sizeOf4
 v4:=Tryz.zeroValue4
 t5:=Tryz.underlying5
 a5:=Tryz.isAgg5
 z5:=Tryz.sizeOf5
 v5:=Tryz.zeroValue5
 t9:=Tryz.underlying9
 a9:=Tryz.isAgg9
 z9:=Tryz.sizeOf9
 v9:=Tryz.zeroValue9
 t20:=Tryz.underlying20
 a20:=Tryz.isAgg20
 z20:=Tryz.sizeOf20
 v20:=Tryz.zeroValue20
 t21:=Tryz.underlying21
 a21:=Tryz.isAgg21
 z21:=Tryz.sizeOf21
 v21:=Tryz.zeroValue21
 t37:=Tryz.underlying61
 a37:=Tryz.isAgg61
 z37:=Tryz.sizeOf61
 v37:=Tryz.zeroValue61
 t46:=Tryz.underlying206
 a46:=Tryz.isAgg206
 z46:=Tryz.sizeOf206
 v46:=Tryz.zeroValue206
 t51:=Tryz.underlying203
 a51:=Tryz.isAgg203
 z51:=Tryz.sizeOf203
 v51:=Tryz.zeroValue203
 t53:=Tryz.underlying180
 a53:=Tryz.isAgg180
 z53:=Tryz.sizeOf180
 v53:=Tryz.zeroValue180
 t75:=Tryz.underlying91
 a75:=Tryz.isAgg91
 z75:=Tryz.sizeOf91
 v75:=Tryz.zeroValue91
 t85:=Tryz.underlying196
 a85:=Tryz.isAgg196
 z85:=Tryz.sizeOf196
 v85:=Tryz.zeroValue196
 t127:=Tryz.underlying138
 a127:=Tryz.isAgg138
 z127:=Tryz.sizeOf138
 v127:=Tryz.zeroValue138
 t143:=Tryz.underlying240
 a143:=Tryz.isAgg240
 z143:=Tryz.sizeOf240
 v143:=Tryz.zeroValue240
 t145:=Tryz.underlying242
 a145:=Tryz.isAgg242
 z145:=Tryz.sizeOf242
 v145:=Tryz.zeroValue242
 t167:=Tryz.underlying221
 a167:=Tryz.isAgg221
 z167:=Tryz.sizeOf221
 v167:=Tryz.zeroValue221
 t168:=Tryz.underlying224
 a168:=Tryz.isAgg224
 z168:=Tryz.sizeOf224
 v168:=Tryz.zeroValue224
 t171:=Tryz.underlying179
 a171:=Tryz.isAgg179
 z171:=Tryz.sizeOf179
 v171:=Tryz.zeroValue179
 t173:=Tryz.underlying183
 a173:=Tryz.isAgg183
 z173:=Tryz.sizeOf183
 v173:=Tryz.zeroValue183
 t175:=Tryz.underlying222
 a175:=Tryz.isAgg222
 z175:=Tryz.sizeOf222
 v175:=Tryz.zeroValue222
 t210:=Tryz.underlying238
 a210:=Tryz.isAgg238
 z210:=Tryz.sizeOf238
 v210:=Tryz.zeroValue238
 t212:=Tryz.underlying202
 a212:=Tryz.isAgg202
 z212:=Tryz.sizeOf202
 v212:=Tryz.zeroValue202
 t213:=Tryz.underlying204
 a213:=Tryz.isAgg204
 z213:=Tryz.sizeOf204
 t232:=Tryz.underlying227
 a232:=Tryz.isAgg227
 z232:=Tryz.sizeOf227
 v232:=Tryz.zeroValue227
 t233:=Tryz.underlying228
 a233:=Tryz.isAgg228
 z233:=Tryz.sizeOf228
 v233:=Tryz.zeroValue228
 g15:=by kernel_rfl
 g16:=by kernel_rfl
 g17:=by kernel_rfl
 g18:=by kernel_rfl
 g19:=by kernel_rfl
 t80:=Tryz.underlying66
 a80:=Tryz.isAgg66
 z80:=Tryz.sizeOf66
 v80:=Tryz.zeroValue66
 i0:=by kernel_rfl
 i2:=by kernel_rfl
 i3:=by kernel_rfl
 i4:=by kernel_rfl
 i5:=by kernel_rfl
 i9:=by kernel_rfl
 i20:=by kernel_rfl
 i21:=by kernel_rfl
 i37:=by kernel_rfl
 i46:=by kernel_rfl
 i51:=by kernel_rfl
 i53:=by kernel_rfl
 i75:=by kernel_rfl
 i80:=by kernel_rfl
 i85:=by kernel_rfl
 i127:=by kernel_rfl
 i143:=by kernel_rfl
 i145:=by kernel_rfl
 i167:=by kernel_rfl
 i168:=by kernel_rfl
 i171:=by kernel_rfl
 i173:=by kernel_rfl
 i175:=by kernel_rfl
 i210:=by kernel_rfl
 i212:=by kernel_rfl
 i232:=by kernel_rfl
 i233:=by kernel_rfl
 m15:=by kernel_rfl
 m16:=by kernel_rfl
 m17:=by kernel_rfl
 m18:=by kernel_rfl
 m19:=by kernel_rfl
 c0:=by kernel_rfl
 c2:=by kernel_rfl
 c3:=by kernel_rfl
 c4:=by kernel_rfl
 c5:=by kernel_rfl
 c9:=by kernel_rfl
 c20:=by kernel_rfl
 c21:=by kernel_rfl
 c37:=by kernel_rfl
 c46:=by kernel_rfl
 c51:=by kernel_rfl
 c53:=by kernel_rfl
 c75:=by kernel_rfl
 c80:=by kernel_rfl
 c85:=by kernel_rfl
 c127:=by kernel_rfl
 c143:=by kernel_rfl
 c145:=by kernel_rfl
 c167:=by kernel_rfl
 c168:=by kernel_rfl
 c171:=by kernel_rfl
 c173:=by kernel_rfl
 c175:=by kernel_rfl
 c210:=by kernel_rfl
 c212:=by kernel_rfl
 c213:=by kernel_rfl
 c232:=by kernel_rfl
 c233:=by kernel_rfl }
open Go.RowKit in
theorem Tryz.strconv_ParseInt_10_at64_ok (s:ByteArray) (hmax:s.size≤9223372036854775806) (v:Int) (h:Lib.parseIntB 64 s.data.toList=.ok v) (w:World) :
  Calls Tryz.prog 147 #[.string s,.int .i64 10,.int .i64 64] w fun e w'=>e=.returned (.tuple #[.int .i64 v,.nilIface])∧(w'=w∨∃ t,w'=Lib.bytesWorld w 5 t):=Any.strconv_ParseInt_10_at64_ok Tryz.laysC174 s hmax v h w
open Go.RowKit in
theorem Tryz.strconv_ParseInt_10_at64_syntax_var (s:ByteArray) (hlim:s.size≤281474976710656) (h:Lib.parseIntB 64 s.data.toList=Lib.parseIntB 64 []) (tp:TypeId) (p:Value) (w:World) (hvar:w.var? Tryz.prog "strconv.ErrSyntax" = some #[.iface tp p]) :
  Calls Tryz.prog 147 #[.string s,.int .i64 10,.int .i64 64] w fun e w'=>∃ N,e=.returned (.tuple #[.int .i64 (0),.iface 224 (.pointer (some ⟨N,0,none⟩))])∧w.heap.size≤N∧w'.heap[N]?=some (.cells #[.string ⟨#[80,97,114,115,101,73,110,116]⟩,.string s,.iface tp p] 238 (0,0))∧Below w.heap.size w w':=Any.strconv_ParseInt_10_at64_syntax_var Tryz.laysC174 s hlim h tp p w hvar
open Go.RowKit in
theorem Tryz.strconv_ParseInt_10_at64_range_var (s:ByteArray) (hlim:s.size≤281474976710656) (h:Lib.parseIntB 64 s.data.toList=.range) (tp:TypeId) (p:Value) (w:World) (hvar:w.var? Tryz.prog "strconv.ErrRange" = some #[.iface tp p]) :
  Calls Tryz.prog 147 #[.string s,.int .i64 10,.int .i64 64] w fun e w'=>∃ N,e=.returned (.tuple #[.int .i64 (Lib.intSat 64 s.data.toList),.iface 224 (.pointer (some ⟨N,0,none⟩))])∧w.heap.size≤N∧w'.heap[N]?=some (.cells #[.string ⟨#[80,97,114,115,101,73,110,116]⟩,.string s,.iface tp p] 238 (0,0))∧Below w.heap.size w w':=Any.strconv_ParseInt_10_at64_range_var Tryz.laysC174 s hlim h tp p w hvar
end Go.Proofs
namespace Go.Av
open Go.RowKit Go.Base Go.Proofs
def Xz:Int:=1099511627776
theorem Zs {μ:Nat→Nat→Option Value} {w w':World} (hz:Kd μ w) (hx:Gv w w'):Kd μ w':=fun b o v h=>by
 rw[World.cell?_of_block (w:=w) (by exact hx.block b (Gz hz h))]
 exact hz b o v h
theorem glob_tab {w:World} (hgl:GlobW w):Lib.TabIs Tryz.prog w "internal/strconv.uint64pow10" .u64 Lib.pow10Tab:=by
 obtain⟨cs,t,z,h1,h2⟩:=hgl _ (List.mem_cons_of_mem _ (List.mem_cons_of_mem _ List.mem_cons_self))
 simp only at h1 h2
 subst h2
 unfold Lib.TabIs World.var?
 rw[show Tryz.prog.globalNamed "internal/strconv.uint64pow10" = some 0 by kernel_rfl]
 simp only[Option.bind_some,h1]
theorem glob_syn {w:World} (hgl:GlobW w):∃ tp p,w.var? Tryz.prog "strconv.ErrSyntax" = some #[.iface tp p]:=by
 obtain⟨cs,t,z,h1,tp,p,h2⟩:=hgl _ List.mem_cons_self
 simp only at h1
 subst h2
 refine⟨tp,p,?_⟩
 unfold World.var?
 rw[show Tryz.prog.globalNamed "strconv.ErrSyntax" = some 8 by kernel_rfl]
 simp only[Option.bind_some,h1]
theorem glob_rng {w:World} (hgl:GlobW w):∃ tp p,w.var? Tryz.prog "strconv.ErrRange" = some #[.iface tp p]:=by
 obtain⟨cs,t,z,h1,tp,p,h2⟩:=hgl _ (List.mem_cons_of_mem _ List.mem_cons_self)
 simp only at h1
 subst h2
 refine⟨tp,p,?_⟩
 unfold World.var?
 rw[show Tryz.prog.globalNamed "strconv.ErrRange" = some 9 by kernel_rfl]
 simp only[Option.bind_some,h1]
def Gk (a0 a1:Int):Option (List UInt8):=if(-9223372036854775808≤a0∧a0≤9223372036854775807)∧a1=10 then some (Lib.itoa a0)else none
theorem cn {a0 a1:Int} {r:List UInt8} (h:Gk a0 a1=some r):A9 Tryz.prog 39 [(dI a0),(dI a1)] (.str r):=by
 refine⟨⟨_,Tryz.func39,by kernel_rfl,by decide⟩,fun μ w vs hgl hz hr=>?_⟩
 unfold Gk at h
 split at h
 ·rename_i hc
  obtain⟨⟨h0,h1⟩,rfl⟩:=hc
  simp only[Option.some.injEq]at h
  subst h
  simp only[RepL,Rep]at hr
  obtain⟨v,t,rfl,rfl,v2,t2,rfl,rfl,rfl⟩:=hr
  refine(Tryz.strconv_FormatInt_10 a0 h0 h1 w (glob_tab hgl)).mono ?_
  rintro e w' ⟨rfl,k,os,rfl⟩
  have hx:Gv w (Go.Sort.grow (w.drewN k) os):=⟨rfl,rfl,rfl,by simp[Go.Sort.grow],fun b hb=>by simp[Go.Sort.grow,Array.getElem?_append_left hb]⟩
  exact⟨_,μ,rfl,hx,fun _ _ _=>rfl,Zs hz hx,by simp only[Rep]⟩
 ·cases h
def jf (l:List UInt8):Jr:=match Lib.parseIntB 64 l with
 | .ok v=>(v,false)
 | .range=>(Lib.intSat 64 l,true)
 | _=>(0,true)
def Ux (a0:List UInt8) (a1 a2:Int):Option (Jr):=if a0.length≤281474976710656∧a1=10∧a2=64 then some (jf a0)else none
theorem p147 {a0:List UInt8} {a1 a2:Int} {r:Int×Bool} (h:Ux a0 a1 a2=some r):A9 Tryz.prog 147 [(.str a0),(dI a1),(dI a2)] (.tup [(dI r.1),(.err r.2)]):=by
 refine⟨⟨_,Tryz.func147,by kernel_rfl,by decide⟩,fun μ w vs hgl hz hr=>?_⟩
 unfold Ux at h
 split at h
 ·rename_i hc
  obtain⟨h0,rfl,rfl⟩:=hc
  simp only[Option.some.injEq]at h
  subst h
  simp only[RepL,Rep]at hr
  obtain⟨v,t,rfl,rfl,v2,t2,rfl,rfl,v3,t3,rfl,rfl,rfl⟩:=hr
  have hs:(⟨⟨a0⟩⟩:ByteArray).size≤281474976710656:=h0
  unfold jf
  cases hp:Lib.parseIntB 64 a0 with
  | ok v =>
   refine(Tryz.strconv_ParseInt_10_at64_ok ⟨⟨a0⟩⟩ (by omega) v hp w).mono ?_
   rintro e w' ⟨rfl,hw⟩
   have hx:Gv w w':=by
    rcases hw with rfl | ⟨t,rfl⟩
    ·exact Below.refl _ _
    ·exact Lib.bytesWorld_below _ _ _
   exact⟨_,μ,rfl,hx,fun _ _ _=>rfl,Zs hz hx,by simp only[Rep];exact⟨[.int .i64 v,.nilIface],rfl,by simp[RepL,Rep]⟩⟩
  | range =>
   obtain⟨tp,p,hv⟩:=glob_rng hgl
   refine(Tryz.strconv_ParseInt_10_at64_range_var ⟨⟨a0⟩⟩ hs hp tp p w hv).mono ?_
   rintro e w' ⟨N,rfl,_,_,hx⟩
   exact⟨_,μ,rfl,hx,fun _ _ _=>rfl,Zs hz hx,by simp only[Rep];exact⟨[_,_],rfl,by simp only[RepL,Rep];exact⟨_,_,rfl,rfl,_,_,rfl,by rw[if_pos trivial];exact⟨_,_,rfl⟩,rfl⟩⟩⟩
  | _ =>
   obtain⟨tp,p,hv⟩:=glob_syn hgl
   refine(Tryz.strconv_ParseInt_10_at64_syntax_var ⟨⟨a0⟩⟩ hs hp tp p w hv).mono ?_
   rintro e w' ⟨N,rfl,_,_,hx⟩
   exact⟨_,μ,rfl,hx,fun _ _ _=>rfl,Zs hz hx,by simp only[Rep];exact⟨[_,_],rfl,by simp only[RepL,Rep];exact⟨_,_,rfl,rfl,_,_,rfl,by rw[if_pos trivial];exact⟨_,_,rfl⟩,rfl⟩⟩⟩
 ·cases h
end Go.Av
namespace Go.Proofs
open Go.Shelf
def Tryz.lays156_ren:Go.Shelf.Ren:=⟨fun | 156=>41 | 165=>101 | 166=>40 | 169=>26 | 240=>100 | 241=>136 | 276=>135 | 277=>155 | n=>n,fun | 31=>88 | 9=>9 | 3=>3 | 4=>4 | 0=>0 | 20=>20 | 72=>63 | 76=>92 | 70=>60 | 37=>61 | 75=>91 | 127=>138 | 164=>185 | 5=>5 | 80=>66 | n=>n,fun | n=>n⟩
theorem Tryz.lays156:Go.Proofs.Lays.n156 Tryz.prog Tryz.lays156_ren:={
 mixed:=by kernel_rfl
 f156:=Tryz.func41.trans (congrArg some (by kernel_rfl))
 f165:=Tryz.func101.trans (congrArg some (by kernel_rfl))
 f166:=Tryz.func40.trans (congrArg some (by kernel_rfl))
 f169:=Tryz.func26.trans (congrArg some (by kernel_rfl))
 f240:=Tryz.func100.trans (congrArg some (by kernel_rfl))
 f241:=Tryz.func136.trans (congrArg some (by kernel_rfl))
 f276:=Tryz.func135.trans (congrArg some (by kernel_rfl))
 f277:=Tryz.func155.trans (congrArg some (by kernel_rfl))
 t0:=Tryz.underlying0
 a0:=Tryz.isAgg0
 z0:=Tryz.sizeOf0
 v0:=Tryz.zeroValue0
 t3:=Tryz.underlying3
 a3:=Tryz.isAgg3
 z3:=Tryz.sizeOf3
 v3:=Tryz.zeroValue3
 t4:=Tryz.underlying4
 a4:=Tryz.isAgg4
 z4:=Tryz.sizeOf4
 v4:=Tryz.zeroValue4
 t9:=Tryz.underlying9
 a9:=Tryz.isAgg9
 z9:=Tryz.sizeOf9
 v9:=Tryz.zeroValue9
 t20:=Tryz.underlying20
 a20:=Tryz.isAgg20
 z20:=Tryz.sizeOf20
 v20:=Tryz.zeroValue20
 t31:=Tryz.underlying88
 a31:=Tryz.isAgg88
 z31:=Tryz.sizeOf88
 v31:=Tryz.zeroValue88
 t37:=Tryz.underlying61
 a37:=Tryz.isAgg61
 z37:=Tryz.sizeOf61
 v37:=Tryz.zeroValue61
 t70:=Tryz.underlying60
 a70:=Tryz.isAgg60
 z70:=Tryz.sizeOf60
 v70:=Tryz.zeroValue60
 t72:=Tryz.underlying63
 a72:=Tryz.isAgg63
 z72:=Tryz.sizeOf63
 v72:=Tryz.zeroValue63
 t75:=Tryz.underlying91
 a75:=Tryz.isAgg91
 z75:=Tryz.sizeOf91
 v75:=Tryz.zeroValue91
 t76:=Tryz.underlying92
 a76:=Tryz.isAgg92
 z76:=Tryz.sizeOf92
 v76:=Tryz.zeroValue92
 t127:=Tryz.underlying138
 a127:=Tryz.isAgg138
 z127:=Tryz.sizeOf138
 v127:=Tryz.zeroValue138
 t164:=Tryz.underlying185
 a164:=Tryz.isAgg185
 z164:=Tryz.sizeOf185
 v164:=Tryz.zeroValue185 }
theorem Tryz.Builder_Extra_156:Builder.Extra Tryz.prog Tryz.lays156_ren where
 sizeBuilder:=by kernel_rfl
 liesBuilder:=by kernel_rfl
 t5:=Tryz.underlying5
 a5:=Tryz.isAgg5
 z5:=Tryz.sizeOf5
 v5:=Tryz.zeroValue5
 infoByte:=by kernel_rfl
 cellsByte:=by kernel_rfl
 sizeByte:=by kernel_rfl
 neB5:=by decide
open Go.RowKit in
theorem Tryz.strings_Join_none (a:Option Addr) (c:Nat) (sep:ByteArray) (w:World) :
  Calls Tryz.prog 41 #[.slice a 0 c,.string sep] w fun e w'=>e=.returned (.string ⟨#[]⟩)∧w'=w:=Any.strings_Join_none Tryz.lays156 Tryz.Builder_Extra_156 a c sep w
open Go.RowKit in
theorem Tryz.strings_Join (bk o c:Nat) (xs:List ByteArray) (sep:ByteArray) (w:World) (hcells:∀ (j:Nat) x,xs[j]?=some x→w.cell? ⟨bk,o+j,none⟩=some (.string x)) (hbk:bk < w.heap.size) (hN:xs.length≤140737488355328) (hcap:xs.length≤c) (hlen:(Lib.join (xs.map (·.data.toList)) sep.data.toList).length≤140737488355328) :
  Calls Tryz.prog 41 #[.slice (some ⟨bk,o,none⟩) xs.length c,.string sep] w fun e w'=>e=.returned (.string ⟨(Lib.join (xs.map (·.data.toList)) sep.data.toList).toArray⟩)∧Below w.heap.size w w':=Any.strings_Join Tryz.lays156 Tryz.Builder_Extra_156 bk o c xs sep w hcells hbk hN hcap hlen
end Go.Proofs
namespace Go.Av
open Go.RowKit Go.Base Go.Proofs
def m41 (a0:List (List UInt8)) (a1:List UInt8):Option (List UInt8):=if a0.length≤1000000∧(Lib.join a0 a1).length≤100000000 then some (Lib.join a0 a1)else none
theorem p41 {a0:List (List UInt8)} {a1 r:List UInt8} (h:m41 a0 a1=some r):A9 Tryz.prog 41 [(A3 1 D.str a0),(.str a1)] (.str r):=by
 refine⟨⟨_,Tryz.func41,by kernel_rfl,by decide⟩,fun μ w vs hgl hz hr=>?_⟩
 unfold m41 at h
 split at h
 ·rename_i hc
  simp only[Option.some.injEq]at h
  subst h
  simp only[A3,RepL,Rep]at hr
  obtain⟨v,t,rfl,⟨A,c,rfl,hnc,hcm,hA⟩,v2,t2,rfl,rfl,rfl⟩:=hr
  rcases Nat.eq_zero_or_pos a0.length with h0 | h0
  ·obtain rfl:=List.length_eq_zero_iff.1 h0
   refine(Tryz.strings_Join_none A c ⟨⟨a1⟩⟩ w).mono ?_
   rintro e w' ⟨rfl,rfl⟩
   exact⟨_,μ,rfl,Below.refl _ _,fun _ _ _=>rfl,hz,by simp only[Rep];rfl⟩
  ·obtain⟨b,o,rfl,k⟩:=hA h0
   have hcell:∀ (j:Nat) (x:ByteArray),(a0.map fun s=>(⟨⟨s⟩⟩:ByteArray))[j]?=some x→w.cell? ⟨b,o+j,none⟩=some (.string x):=fun j x hx=>by
    rw[List.getElem?_map]at hx
    by_cases hj:j < a0.length
    ·rw[List.getElem?_eq_getElem hj,Option.map_some]at hx
     injection hx with hx
     subst hx
     obtain⟨u,h1,h2,h3,h4⟩:=k j hj
     have hcf:cF D.str a0 j=.str a0[j]:=by simp[cF,List.getD_eq_getElem?_getD,List.getElem?_eq_getElem hj]
     rw[hcf]at h1
     simp only[Rep]at h1
     subst h1
     have:=h4 0 (by omega)
     simp only[Nat.mul_one,Nat.add_zero]at this
     refine hz b (o+j) _ (this.trans ?_)
     simp[Value.cells,Value.oneCell']
    ·rw[List.getElem?_eq_none (by omega)]at hx;cases hx
   have hb:b < w.heap.size:=dv (a:=⟨b,o+0,none⟩) (hcell 0 _ (by rw[List.getElem?_map,List.getElem?_eq_getElem h0];rfl))
   have hm:(a0.map fun s=>(⟨⟨s⟩⟩:ByteArray)).map (·.data.toList)=a0:=by rw[List.map_map];exact List.map_id _
   have key:=Tryz.strings_Join b o c (a0.map fun s=>(⟨⟨s⟩⟩:ByteArray)) ⟨⟨a1⟩⟩ w hcell hb (by simp;omega) (by simpa using hnc) (by rw[hm];show (Lib.join a0 a1).length≤_;omega)
   rw[List.length_map,hm]at key
   refine key.mono ?_
   rintro e w' ⟨rfl,bel⟩
   refine⟨_,μ,rfl,bel,fun _ _ _=>rfl,fun c k v e=>?_,by simp only[Rep]⟩
   rw[World.cell?_of_block (w:=w) (bel.block c (Gz hz e))]
   exact hz c k v e
 ·cases h
end Go.Av
namespace Go.Av
open Go.RowKit Go.Base Go.Proofs
def l5:Option Unit:=some ()
def l8 (y:Unit):OF:=⟨.tup [],[(0,.cells [.ptr 0 0,.ap 0 0 (fun _=>.bad) .nl])],[]⟩
theorem pocc0w {r:Unit} (h:l5=some r):Bo Tryz.prog 100 [.ptr 0 0] [(0,.bld0 87)] [] (l8 r):=by
 refine⟨⟨_,Tryz.func100,by kernel_rfl,by decide⟩,fun own γ w vs H big F hr=>?_⟩
 obtain⟨b,x,e1,e2,e3,e4,e5⟩:=H.blk (id:=0) (o:=.bld0 87) rfl rfl
 simp only[RepO]at e3
 subst e3
 simp only[RepAL,RepA]at hr
 obtain⟨v,t,rfl,⟨b',hb',rfl⟩,rfl⟩:=hr
 rw[e1]at hb'
 injection hb' with hb'
 injection hb' with hb'
 subst hb'
 refine(s6 87 (by kernel_rfl) b w (by simp[World.cell?,e2]) (by simp[World.shape?,e2]) (by simp[World.frozen?,e2])).mono ?_
 rintro e w' ⟨rfl,rfl⟩
 have hx:(w.setCell ⟨b,0,none⟩ (.pointer (some ⟨b,0,none⟩))).heap[b]?=some (.cells #[.pointer (some ⟨b,0,none⟩),.slice none 0 0] 87 (0,0)):=by
  simp[World.setCell,Array.getElem?_modify,e2]
 have hg:w.grownBy (w.setCell ⟨b,0,none⟩ (.pointer (some ⟨b,0,none⟩))) (some b) :=
  ⟨rfl,rfl,rfl,by simp[World.setCell],fun k _ hk=>Below.heap_setCell _ _ _ _ (fun e=>hk (by simp[e]))⟩
 have S:=Do H 16 (d:=0) (o:=.bld0 87) (o':=.cells [.ptr 0 0,.ap 0 0 (fun _=>.bad) .nl]) rfl rfl e1 hg hx (by
  refine⟨[.pointer (some ⟨b,0,none⟩),.slice none 0 0],87,rfl,?_,by simp[Value.oneCell']⟩
  simp only[RepAL,RepA,RightOk,Rep]
  exact⟨_,_,rfl,⟨b,e1,rfl⟩,_,_,rfl,⟨⟨none,0,rfl,Nat.le_refl _,Nat.zero_le _,fun h=>absurd h (by omega)⟩,rfl⟩,rfl⟩)
  (v:=.any) (u:=undef) (by simp only[RepA]) { upd:=some (0,.cells [.ptr 0 0,.ap 0 0 (fun _=>.bad) .nl]) } rfl rfl rfl rfl
 refine⟨_,γ,rfl,LeM.refl _,fun _ _ _ h=>h,?_,S.base,by simp only[l8,RepA,RepAL];exact⟨[],rfl,rfl⟩,fun _ _ _ _=>rfl⟩
 have e1:Af (l8 r).hp=Cy 16 { upd:=some (0,.cells [.ptr 0 0,.ap 0 0 (fun _=>.bad) .nl]) } (Af [(0,.bld0 87)]):=by
  funext j
  simp only[l8,Cy,Af,Cb]
  by_cases hj:j=0
  ·subst hj;rfl
  ·rw[if_neg (Ne.symm hj),if_neg hj,if_neg (Ne.symm hj)]
 rw[e1]
 exact S.hp.lives fun t ht=>by cases ht
end Go.Av
