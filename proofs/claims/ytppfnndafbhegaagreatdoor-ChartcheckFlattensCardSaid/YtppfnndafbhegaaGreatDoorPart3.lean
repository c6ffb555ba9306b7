/- A part of the proof. -/
import Derived.Test.YtppfnndafbhegaaGreatDoorPart2
import Derived.RangeFuncFrom
import Derived.RangeFuncLeaves
import Derived.RangeFuncCalls
import Derived.TacticsInMore
import Derived.RangeFuncBox
import Derived.Shelf.Abstract
import Derived.WalkKit
import Derived.OwnWalkIn
import Derived.LoopNIn
import Derived.LoopIn
import Derived.Test.YtppfnndafbhegaaGreatDoorProg
import Derived.Lib.Walk
import Derived.Laws.CopyOwn
import Derived.Deep.RegionLaw
import Derived.Shelf.RegionOpenPlain
import Derived.Shelf.Strconv.Itoa3
import Derived.Shelf.Sort.Plain
import Derived.Shelf.Slices.CompactI
import Derived.Shelf.Slices.In.SortNone
import Derived.Ground.Names2Prog
import Derived.Ground.SlgnProg
import Derived.Sort.OwnSortedInts
import Derived.Lib.RowBridge
import Derived.Lib.ItoaNum
import Derived.Lib.SliceRun
import Derived.Lib.SlicesS
import Derived.Deep.LoopGhost
set_option linter.unusedVariables false
set_option linter.unusedSimpArgs false
namespace Go.Av
open Go.RowKit Go.Base
variable {P:Program} {γ γ':G} {w w':World} {own own':Nat→Prop} {hp:Nat→Option Ob} {live:Nat→Prop}
def dn (len k:Nat):List Nat:=(List.range k).map fun j=>len - 1 - j
theorem qc (len k:Nat):dn len (k+1)=dn len k++[len - 1 - k]:=by simp[dn,List.range_succ]
theorem dc (len k:Nat):(dn len k).length=k:=by simp[dn]
def Le (zs:List Int) (i:Nat):Array Value:=#[.int .i64 (i:Int),.int .i64 (zs.getD i 0)]
def mr (P:Program) (fB:FuncId):Prop:=∀ (n:Nat),1≤n→∀ (A:Option Addr) (b Bs off len cap:Nat) (zs:List Int),len < 4611686018427387904→len≤cap→(0 < len→A=some ⟨b,off,none⟩)→∀ (l:Nat) (J:List Nat→World→Prop) (W:World),
 (∀ pre W,J pre W→W.cell? ⟨Bs,0,none⟩=some (.slice A len cap)∧∀ j,j < len→W.cell? ⟨b,off+j,none⟩=some (.int .i64 (zs.getD j 0))) →
 (∀ pre x W,J pre W→pre.length < len→x=len - 1 - pre.length→YieldAt Fence.wide (n - 1) P l (Le zs x) W fun e W'=>e=.returned (.bool true)∧J (pre++[x]) W')→J [] W →
 CallsIn Fence.wide n P fB #[.func (.yield l) #[] #[],.pointer (some ⟨Bs,0,none⟩)] W fun e W'=>(∃ v,e=.returned v)∧J (dn len len) W'
theorem vr {a:Addr} {v:Value} (h:w.cell? a=some v):∃ cs e z,w.heap[a.block]?=some (.cells cs e z):=by
 unfold World.cell? at h
 cases hh:w.heap[a.block]? with
 | none=>rw[hh]at h;cases h
 | some o=>cases o<;>first | exact⟨_,_,_,rfl⟩ | (rw[hh]at h;cases h)
def V2 (hp:Nat→Option Ob):Prop:=∀ id o,hp id=some o→match o with | .map ..=>False | _=>True
theorem Hp.other (H:Hp own hp live γ w) (hm:V2 hp) {row:Option Nat} (hg:w.grownBy w' row) (hr:∀ r,row=some r→∃ o,w.heap[r]?=some o∧o.isCells=false):Hp own hp live γ w':=by
 have cel:∀ {b:Nat} {cs e z},w.heap[b]?=some (.cells cs e z)→w'.heap[b]?=w.heap[b]?:=fun h=>hg.block _ (Array.getElem?_eq_some_iff.1 h).1 fun e=>by
  obtain⟨o,h1,h2⟩:=hr _ e.symm
  rw[h]at h1;injection h1 with h1;subst h1;cases h2
 have row:∀ {e sz v n xs},w.ownsRow 0 e sz v n xs→∀ g,v.ownBlock=some g→w'.heap[g]?=w.heap[g]?:=fun h g hg=>by
  obtain⟨cur,h1,_⟩:=Qa h hg;exact cel h1
 refine⟨fun b o v h=>?_,fun id o h ho=>?_,H.inj,fun t v e sz hl hq=>?_,H.tinj⟩
 ·obtain⟨cs,e,z,hc⟩:=vr (H.fz b o v h)
  rw[World.cell?_of_block (w:=w) (cel hc)];exact H.fz b o v h
 ·obtain⟨p,h1,h2,h3⟩:=H.obj id o h ho
  refine⟨p,h1,h2.kept (LeG.refl _) fun b hb=>?_,h3⟩
  have hmo:=hm id o h
  cases p with
  | blk b' =>
   simp only[Pl.block,Option.some.injEq]at hb
   subst hb
   obtain⟨x,hx,hrx⟩:=h2
   cases o with
   | cells cs=>obtain⟨vs,e,rfl,_⟩:=hrx;exact cel hx
   | arr sz n f=>obtain⟨vs,e,rfl,_⟩:=hrx;exact cel hx
   | map=>exact hmo.elim
   | vec=>exact hrx.elim
   | gone=>exact hrx.elim
   | bld0 T=>obtain rfl:=hrx;exact cel hx
  | vec v e sz=>obtain⟨n,f,xs,_,_,ow,_⟩:=h2;exact row ow b hb
 ·obtain⟨n,xs,q1,q2⟩:=H.tok t v e sz hl hq
  exact⟨n,xs,jr q1 (row q1),q2⟩
theorem Hp.without (H:Hp own hp live γ w) (hm:V2 hp) {p:Nat→Prop} (hn:∀ b,p b→∀ cs e z,w.heap[b]?≠some (.cells cs e z)):Hp (fun b=>own b∧¬ p b) hp live γ w:=by
 refine H.own_to (fun id o q b h ho hq hb=>?_) fun t v g hl hq hg=>?_
 ·obtain⟨q',h1,h2,h3⟩:=H.obj id o h ho
  rw[hq]at h1;injection h1 with h1;subst h1
  refine⟨(h3 b hb).1,fun hp=>?_⟩
  have hmo:=hm id o h
  cases q with
  | blk b' =>
   simp only[Pl.block,Option.some.injEq]at hb
   subst hb
   obtain⟨x,hx,hrx⟩:=h2
   cases o with
   | cells cs=>obtain⟨vs,e,rfl,_⟩:=hrx;exact hn _ hp _ _ _ hx
   | arr sz n f=>obtain⟨vs,e,rfl,_⟩:=hrx;exact hn _ hp _ _ _ hx
   | map=>exact hmo.elim
   | vec=>exact hrx.elim
   | gone=>exact hrx.elim
   | bld0 T=>obtain rfl:=hrx;exact hn _ hp _ _ _ hx
  | vec v e sz =>
   obtain⟨n,f,xs,_,_,ow,_⟩:=h2
   obtain⟨cur,h1,_⟩:=Qa ow hb
   exact hn _ hp _ _ _ h1
 ·obtain⟨n,xs,q1,q2⟩:=H.tok t v.1 v.2.1 v.2.2 hl hq
  refine⟨(q2 g hg).1,fun hp=>?_⟩
  obtain⟨cur,h1,_⟩:=Qa q1 hg
  exact hn _ hp _ _ _ h1
theorem Hp.more (H:Hp own hp live γ w) (h:∀ b,own b→own' b):Hp own' hp live γ w :=
 H.own_to (fun id o p b h1 ho h2 h3=>h b (let ⟨p',e1,_,e3⟩:=H.obj id o h1 ho;(e3 b (by rw[h2]at e1;injection e1 with e1;rw[← e1];exact h3)).1)) fun t v g h1 h2 h3=>h g (let ⟨_,_,_,q2⟩:=H.tok t v.1 v.2.1 v.2.2 h1 h2;(q2 g h3).1)
mutual
def He (ids:List Nat):AV→Bool
 | .d _=>true
 | .ptr id _=>ids.contains id
 | .fn _ c=>fc ids c
 | .any=>true
 | _=>false
def fc (ids:List Nat):List AV→Bool
 | []=>true
 | x :: l=>He ids x&&fc ids l
end
mutual
theorem RepA.inIds {ids:List Nat} (hm:LeM γ.μ γ'.μ) (hi:∀ i∈ids,γ'.ι i=γ.ι i):∀ {x:AV} {v:Value},He ids x=true→RepA γ x v→RepA γ' x v
 | .d x,v,_,hr=>by simp only[RepA]at hr ⊢;exact Rep.mono hm _ _ hr
 | .ptr id off,v,h,hr=>by
  simp only[He,List.contains_eq_mem,decide_eq_true_eq]at h
  simp only[RepA]at hr ⊢
  rw[hi id h];exact hr
 | .fn f c,v,h,hr=>by
  simp only[He]at h
  simp only[RepA]at hr ⊢
  obtain⟨vs,e,h2⟩:=hr
  exact⟨vs,e,RepAL.inIds hm hi h h2⟩
 | .any,v,_,_=>by simp only[RepA]
 | .ap ..,_,h,_=>by simp[He]at h
 | .ep ..,_,h,_=>by simp[He]at h
 | .pa ..,_,h,_=>by simp[He]at h
 | .arr ..,_,h,_=>by simp[He]at h
 | .vec ..,_,h,_=>by simp[He]at h
 | .pv ..,_,h,_=>by simp[He]at h
 | .mp ..,_,h,_=>by simp[He]at h
 | .nilp,_,h,_=>by simp[He]at h
 | .nilf,_,h,_=>by simp[He]at h
 | .agg ..,_,h,_=>by simp[He]at h
 | .tup ..,_,h,_=>by simp[He]at h
theorem RepAL.inIds {ids:List Nat} (hm:LeM γ.μ γ'.μ) (hi:∀ i∈ids,γ'.ι i=γ.ι i):∀ {x:List AV} {v:List Value},fc ids x=true→RepAL γ x v→RepAL γ' x v
 | [],v,_,hr=>by simpa only[RepAL] using hr
 | x :: l,v,h,hr=>by
  simp only[fc,Bool.and_eq_true]at h
  simp only[RepAL]at hr ⊢
  obtain⟨u,t,e,h1,h2⟩:=hr
  exact⟨u,t,e,RepA.inIds hm hi h.1 h1,RepAL.inIds hm hi h.2 h2⟩
end
def Zm (P:Program) (N:Nat) (asg bod:Code) (ps:Array Tmp) (zs:List Int) (x:Nat) (ids:List Nat) (st st':St):Prop :=
 ∀ (own:Nat→Prop) (γ:G) (W:World) (tmps:Array Value),Hp own (Ae st.hp) (·∈st.live) γ W→Fq st.nx (Ae st.hp) (·∈st.live) γ→(∀ b,W.heap.size≤b→own b)→tmps.size=N→(∀ t,RepA γ (Cg st.fr t) (tmps.getD t undef)) →
 ∀ (l n:Nat),∃ a₁:Act,
  (∀ (W:World) (K:Act→World→Prop),K a₁ W→asg.wpIn (Fence.wide.inRound l) n P (Exit.then K (fun _ _ _=>False)) { tmps:=(ps.zip (Le zs x)).foldl (fun t (p,v)=>t.setIfInBounds p v) tmps,defers:=[] } W) ∧
  bod.wpIn (Fence.wide.inRound l) n P (fun e _ W'=>e=.normal∧∃ γ',Hp own (Ae st'.hp) (·∈st'.live) γ' W'∧Fq st'.nx (Ae st'.hp) (·∈st'.live) γ'∧(∀ id,id < 16∨id∈ids→γ'.ι id=γ.ι id)∧LeM γ.μ γ'.μ∧Base own W W'∧∀ b o,b < W.heap.size→¬ own b→γ'.μ b o=γ.μ b o) a₁ W
def frOk (ids:List Nat) (fr:List (Nat×AV)):Bool:=fr.all fun p=>He ids p.2
theorem pp {ids:List Nat} {fr:List (Nat×AV)} (h:frOk ids fr=true) (t:Nat):He ids (Cg fr t)=true:=by
 rcases H6 (l:=fr) (t:=t) with e | e
 ·rw[e];rfl
 ·exact(List.all_eq_true.1 h) _ e
theorem Hp.drop {hp':Nat→Option Ob} (H:Hp own hp live γ w) {bx bb:Nat} {ob:Ob} (h:hp bx=some ob) (hok:ob.ok=true) (hb:γ.ι bx=some (.blk bb)) (hp1:∀ j o,hp' j=some o→hp j=some o∧j≠bx):Hp (fun b=>own b∧b≠bb) hp' live γ w:=by
 have H':Hp own hp' live γ w:=⟨H.fz,fun j o hj ho=>H.obj j o (hp1 j o hj).1 ho,fun i j oi oj p q hi hj=>H.inj i j oi oj p q (hp1 i oi hi).1 (hp1 j oj hj).1,fun t v e sz hl hq=>by
  obtain⟨n,xs,q1,q2⟩:=H.tok t v e sz hl hq
  exact⟨n,xs,q1,fun g hg=>⟨(q2 g hg).1,(q2 g hg).2.1,fun j o p hj=>(q2 g hg).2.2 j o p (hp1 j o hj).1⟩⟩,H.tinj⟩
 refine H'.own_to (fun id o q b hi ho hq hbb=>⟨?_,fun e=>?_⟩) fun t v g hl hq hg=>?_
 ·obtain⟨q',h1,_,h3⟩:=H'.obj id o hi ho
  rw[hq]at h1;injection h1 with h1;subst h1
  exact(h3 b hbb).1
 ·rcases H.inj id bx o ob q _ (hp1 id o hi).1 h ho hok (hp1 id o hi).2 hq hb with k | k
  ·rw[hbb]at k;cases k
  ·exact k (by rw[hbb,e];rfl)
 ·obtain⟨n,xs,q1,q2⟩:=H.tok t v.1 v.2.1 v.2.2 hl hq
  exact⟨(q2 g hg).1,fun e=>(q2 g hg).2.2 bx ob _ h hok hb (by rw[← e];rfl)⟩
theorem Rv {k:Nat} (hk:own k) (o:Go.Obj):Base own w (w.putObj k o) :=
 ⟨rfl,rfl,rfl,by simp,fun j hj hn=>World.putObj_heap_other fun e=>hn (by rw[e];exact hk)⟩
theorem Pk (k:Nat) (o:Go.Obj):w.grownBy (w.putObj k o) (some k):=⟨rfl,rfl,rfl,by simp,fun j hj hn=>World.putObj_heap_other fun e=>hn (by rw[e])⟩
theorem dn_split (len k m:Nat):dn len (k+m)=dn len k++(List.range m).map fun j=>len - 1 - (k+j):=by
 simp[dn,List.range_add]
theorem Xf {S:Type} {f:S→Nat→Option S} {l k:List Nat} {s e:S} (h:(l++k).foldlM f s=some e):∃ m,l.foldlM f s=some m∧k.foldlM f m=some e:=by
 rw[List.foldlM_append]at h
 exact Option.bind_eq_some_iff.1 h
theorem AA5 {N:Nat} {fB:FuncId} (hB:mr P fB) {S:Type} (head:S→St) {fr:List (Nat×AV)} {nx:Nat} (hfr:∀ s,(head s).fr=fr) (hnx:∀ s,(head s).nx=nx) {g:Tmp} {ps:Array Tmp} {asg bod:Code} {zs:List Int} {ids:List Nat} (hps:ps.size=2)
  (mround:S→Nat→Option S) (hround:∀ s x s',mround s x=some s'→x < zs.length→Zm P N asg bod ps zs x ids (head s) (head s')) (hids:frOk ids fr=true) (hmap:∀ s,V2 (Ae (head s).hp))
  {stp:St} {bx:Nat} (hg:Cg stp.fr g=.fn fB [.ptr bx 0]) (hbx:Ae stp.hp bx=some (.cells [.d (.sl 1 zs.length fun i=>.int .i64 (zs.getD i 0))])) (hlen:zs.length < 4611686018427387904) (hcall:Lo P fB)
  {s0 sE:S} (hfold:(dn zs.length zs.length).foldlM mround s0=some sE) (hst:∀ j o,Ae (head s0).hp j=some o→Ae stp.hp j=some o∧j≠bx) (hlv:(head s0).live=stp.live) (hnx0:stp.nx=nx) (hfr0:∀ t,Cg fr t=Cg stp.fr t∨Cg fr t=.any) {a:Act} (ha:a.defers=[]) (hsz:a.tmps.size=N)
  (H:Hp own (Ae stp.hp) (·∈stp.live) γ w) (F:Fq nx (Ae stp.hp) (·∈stp.live) γ) (big:∀ b,w.heap.size≤b→own b) (hrep0:∀ t,RepA γ (Cg stp.fr t) (a.tmps.getD t undef)) (n:Nat) (hn:2≤n) {Q:Exit→Act→World→Prop}
  (hdone:∀ (D bb:Nat) (γ':G) (W:World),w.heap.size≤D→W.heap[D]?=some (.deferred (some []))→Hp (fun b=>(own b∧b≠bb)∧¬ (b=D∨b=D+1)) (Ae (head sE).hp) (·∈(head sE).live) γ' W→Fq nx (Ae (head sE).hp) (·∈(head sE).live) γ' →
   (∀ id,id < 16∨id∈ids→γ'.ι id=γ.ι id)→LeM γ.μ γ'.μ→Base own w W→(∀ b o,b < w.heap.size→¬ own b→γ'.μ b o=γ.μ b o)→D+1 < W.heap.size→bb < W.heap.size→(∀ t,RepA γ' (Cg fr t) (a.tmps.getD t undef)) →
   Q .normal { a with defers:=[{ target:=.collected D,args:=#[] }] } W) :
  (Code.rangeFunc (.tmp g) ps asg bod).wpIn Fence.wide n P Q a w:=by
 have hgv:=hrep0 g
 rw[hg]at hgv
 simp only[RepA,RepAL]at hgv
 obtain⟨vs,hgv,v1,t1,rfl,⟨bb,hbb,rfl⟩,rfl⟩:=hgv
 obtain⟨bb',xb,e1,e2,e3,e4,e5⟩:=H.blk hbx rfl
 obtain rfl:bb'=bb:=by rw[hbb]at e1;injection e1 with e1;injection e1 with e1;exact e1.symm
 obtain⟨cvs,eb,rfl,hcv,hone⟩:=e3
 simp only[RepAL,RepA]at hcv
 obtain⟨sv,t2,rfl,hsv,rfl⟩:=hcv
 have hsv0:=hsv
 simp only[Rep]at hsv
 obtain⟨A,cap,rfl,hcap,hcm,hel⟩:=hsv
 have hrep:∀ t,RepA γ (Cg fr t) (a.tmps.getD t undef):=fun t=>by
  rcases hfr0 t with e | e
  ·rw[e];exact hrep0 t
  ·rw[e];simp only[RepA]
 refine wpIn_rangeFunc fun fn hfn=>?_
 obtain⟨rec,hrec⟩:∃ rec:LoopState→Option Code→Loop,rec=fun st pe=>{ state:=st,pending:=pe,fn,tmps:=a.tmps,params:=ps,assign:=asg,body:=bod,defers:=w.heap.size }:=⟨_,rfl⟩
 obtain⟨W1,hW1⟩:∃ W1,(w.alloc (.deferred (some []))).alloc (.loop (rec .ready none))=W1:=⟨_,rfl⟩
 have hL1:W1.heap[w.heap.size+1]?=some (.loop (rec .ready none)):=by
  rw[← hW1];have:=World.alloc_heap_new (w.alloc (.deferred (some []))) (.loop (rec .ready none));rwa [World.size_alloc]at this
 have hK1:W1.heap[w.heap.size]?=some (.deferred (some [])):=by
  rw[← hW1];exact(Below.heap_alloc _ _ _ (by simp)).trans (World.alloc_heap_new w _)
 have hsz1:W1.heap.size=w.heap.size+2:=by rw[← hW1];simp
 have hext:Gh w W1:=by rw[← hW1];exact((Below.refl _ w).alloc (Nat.le_refl _) _).alloc (by simp) _
 have hH0:Hp (fun b=>own b∧b≠bb') (Ae (head s0).hp) (·∈(head s0).live) γ w:=by rw[hlv];exact H.drop hbx rfl hbb hst
 have hH1:=hH0.other (hmap s0) (row:=none) (Kd hext none) (fun r e=>by cases e)
 have F0:Fq nx (Ae (head s0).hp) (·∈(head s0).live) γ:=⟨fun id hid=>by
  obtain⟨f1,f2,f3,f4⟩:=F.ok id hid
  refine⟨f1,f2,?_,by rw[hlv];exact f4⟩
  cases e:Ae (head s0).hp id with
  | none=>rfl
  | some o=>rw[(hst id o e).1]at f3;cases f3⟩
 let D:=w.heap.size
 let ow:Nat→Prop:=fun b=>(own b∧b≠bb')∧¬ (b=D∨b=D+1)
 have notc:∀ (W:World),W.heap[D]?=some (.deferred (some []))→(∃ r,W.heap[D+1]?=some (.loop r))→∀ b,(b=D∨b=D+1)→∀ cs e z,W.heap[b]?≠some (.cells cs e z):=by
  rintro W h1 ⟨r,h2⟩ b (rfl | rfl) cs e z h
  ·rw[h1]at h;cases h
  ·rw[h2]at h;cases h
 have bbl:bb' < w.heap.size:=(Array.getElem?_eq_some_iff.1 e2).1
 have hev:a.eval (.tmp g)=.func (.func fB) #[] #[.pointer (some ⟨bb',0,none⟩)]:=hgv
 obtain⟨fnB,cf1,cf2,cf3⟩:=hcall
 have ownD:own D:=big _ (Nat.le_refl _)
 have ownL:own (D+1):=big _ (Nat.le_succ _)
 -- the invariant
 let J:List Nat→World→Prop:=fun pre W=>∃ s γ',(pre=dn zs.length pre.length∧pre.foldlM mround s0=some s)∧Hp ow (Ae (head s).hp) (·∈(head s).live) γ' W∧Fq nx (Ae (head s).hp) (·∈(head s).live) γ'∧(∀ id,id < 16∨id∈ids→γ'.ι id=γ.ι id)∧LeM γ.μ γ'.μ ∧
  Base own w W∧(∀ b o,b < w.heap.size→¬ own b→γ'.μ b o=γ.μ b o)∧W.heap[D]?=some (.deferred (some []))∧W.heap[D+1]?=some (.loop (rec .ready none))∧W.heap[bb']?=w.heap[bb']?∧D+1 < W.heap.size
 have hJ0:J [] W1:=⟨s0,γ,⟨rfl,rfl⟩,hH1.without (hmap s0) (notc W1 hK1 ⟨_,hL1⟩),F0,fun _ _=>rfl,LeM.refl _,Base.of_ext hext,fun _ _ _ _=>rfl,hK1,hL1,hext.block _ bbl,by omega⟩
 -- where the elements lie
 obtain⟨b,off,hA,hcel⟩:∃ b off,(0 < zs.length→A=some ⟨b,off,none⟩)∧∀ j,j < zs.length→γ.μ b (off+j)=some (.int .i64 (zs.getD j 0)):=by
  by_cases hz:0 < zs.length
  ·obtain⟨b,o,rfl,h4⟩:=hel hz
   refine⟨b,o,fun _=>rfl,fun j hj=>?_⟩
   obtain⟨u,h5,h6,h7,h8⟩:=h4 j hj
   subst h5
   have:=h8 0 (by omega)
   simpa [Value.cells] using this
  ·exact⟨0,0,fun h=>absurd h hz,fun j hj=>absurd (Nat.lt_of_le_of_lt (Nat.zero_le _) hj) hz⟩
 refine⟨w.heap.size+1,[{ target:=.collected w.heap.size,args:=#[] }],W1,{ target:=.fn (.func fB) #[.pointer (some ⟨bb',0,none⟩)],args:=#[.func (.yield (w.heap.size+1)) #[] #[]] },W1,fB,
  #[.func (.yield (w.heap.size+1)) #[] #[]]++#[.pointer (some ⟨bb',0,none⟩)],W1,?_,?_,?_,?_,(fun h=>by cases h),?_⟩
 ·rw[← hW1,hrec];exact run_enterLoop_outer _ _ _ _ _
 ·simp only[resolve,hev]
  simp[go_sem]
 ·intro _ _;trivial
 ·have hinv:∀ args:Array Value,(callFunc fB args).run P W1=.ok (.enter fB args) W1:=fun args=>by
   simp only[callFunc,program,Sem.run_bind]
   simp[Sem.run,cf1,cf3,Option.isNone_iff_eq_none]
   intro h;rw[h]at cf2;cases cf2
  simpa only[invoke] using hinv _
 ·refine(hB (n - 1) (by omega) A b bb' off zs.length cap zs hlen hcap hA (w.heap.size+1) J W1 ?_ ?_ hJ0).mono ?_
  ·rintro pre W ⟨s,γ1,_,j2,_,_,j5,_,_,_,_,j10,_⟩
   refine⟨?_,fun j hj=>j2.fz _ _ _ (j5 _ _ _ (hcel j hj))⟩
   rw[World.cell?_of_block (w:=w) (by exact j10)]
   simp[World.cell?,e2]
  · -- one round
   rintro pre x W ⟨s,γ1,⟨j0,j1⟩,j2,j3,j4,j5,j6,j7,j8,j9,j10,j11⟩ hpl hx
   have hpx:pre++[x]=dn zs.length (pre.length+1):=by rw[qc,← j0,hx]
   obtain⟨s',hs'⟩:∃ s',mround s x=some s':=by
    have e:zs.length=(pre.length+1)+(zs.length - (pre.length+1)):=by omega
    have hf:(dn zs.length ((pre.length+1)+(zs.length - (pre.length+1)))).foldlM mround s0=some sE:=by rw[← e];exact hfold
    rw[dn_split,← hpx,List.append_assoc]at hf
    obtain⟨m,h1,h2⟩:=Xf hf
    rw[j1]at h1;injection h1 with h1;subst h1
    obtain⟨m',h3,_⟩:=Xf h2
    rw[List.foldlM_cons]at h3
    obtain⟨m'',h5,_⟩:=Option.bind_eq_some_iff.1 h3
    exact⟨m'',h5⟩
   have hpre':(pre++[x]).foldlM mround s0=some s':=by
    rw[List.foldlM_append,j1]
    show ([x].foldlM mround s:Option S)=some s'
    rw[List.foldlM_cons,hs'];rfl
   let W2:=W.putObj (D+1) (.loop { rec .ready none with state:=.busy })
   have rowD:∀ (W:World) (rr:Loop),W.heap[D+1]?=some (.loop rr)→∀ r,some (D+1)=some r→∃ o,W.heap[r]?=some o∧o.isCells=false:=fun W rr h r e=>by injection e with e;subst e;exact⟨_,h,rfl⟩
   have H2:Hp ow (Ae (head s).hp) (·∈(head s).live) γ1 W2:=j2.other (hmap s) (Pk _ _) (rowD W _ j9)
   have sz2:W2.heap.size=W.heap.size:=by simp[W2]
   have big2:∀ b,W2.heap.size≤b→ow b:=fun b hb=>by
    have hb':W.heap.size≤b:=by rw[← sz2];exact hb
    have:=j6.size
    exact⟨⟨big b (by omega),by omega⟩,by omega⟩
   obtain⟨a₁,r1,r2⟩:=hround s x s' hs' (by omega) ow γ1 W2 a.tmps H2 (by rw[hnx];exact j3) big2 hsz (fun t=>by
    rw[hfr];exact RepA.inIds j5 (fun i hi=>j4 i (.inr hi)) (pp hids t) (hrep t)) (D+1) (n - 1 - 1)
   have hy:=run_yield (P:=P) (args:=Le zs x) j9 (by rw[hrec];exact hps.symm)
   rw[hrec]at hy
   refine⟨fn,_,asg,bod,hy,roundIn_of_wpIn trivial (r1 W _ ⟨W2,run_beginRound j9 (by rw[hrec]),?_⟩)⟩
   refine Code.wpIn_mono ?_ r2
   rintro e a3 W3 ⟨rfl,γ2,k1,k2,k3,k4,k5,k6⟩
   have hl2:W2.heap[D+1]?=some (.loop { rec .ready none with state:=.busy }):=World.putObj_heap_same j11
   have hl3:W3.heap[D+1]?=some (.loop { rec .ready none with state:=.busy }):=(k5.block _ (by omega) (fun h=>h.2 (.inr rfl))).trans hl2
   have hd2:W2.heap[D]?=some (.deferred (some [])):=(World.putObj_heap_other (by omega)).trans j8
   have hd3:W3.heap[D]?=some (.deferred (some [])):=(k5.block _ (by omega) (fun h=>h.2 (.inl rfl))).trans hd2
   have hend:=run_endRound (P:=P) none hl3
   let W4:=W3.putObj (D+1) (.loop (rec .ready none))
   have e4':W3.putObj (D+1) (.loop { { rec .ready none with state:=.busy } with state:=if(none:Option Code).isNone then .ready else .done,pending:=none })=W4:=by
    show _=W3.putObj (D+1) (.loop (rec .ready none))
    rw[hrec];rfl
   rw[e4']at hend
   have sz3:=k5.size
   have B3:Base own W2 W3:=⟨k5.os,k5.tape,k5.output,k5.size,fun k hk hn=>k5.block k hk fun h=>hn h.1.1⟩
   have le0:w.heap.size≤W.heap.size:=j6.size
   have le2:w.heap.size≤W2.heap.size:=by rw[sz2];exact le0
   have le3:w.heap.size≤W3.heap.size:=Nat.le_trans le2 sz3
   have B4:Base own w W4:=Base.trans (fun k hk=>big k (Nat.le_trans le0 hk)) j6 (Base.trans (fun k hk=>big k (Nat.le_trans le2 hk)) (Rv ownL _) (Base.trans (fun k hk=>big k (Nat.le_trans le3 hk)) B3 (Rv ownL _)))
   refine⟨_,W4,hend,rfl,s',γ2,⟨by rw[List.length_append];exact hpx,hpre'⟩,k1.other (hmap s') (Pk _ _) (rowD W3 _ hl3),by rw[← hnx s'];exact k2,fun id hid=>(k3 id hid).trans (j4 id hid),fun b o v h=>k4 b o v (j5 b o v h),B4,fun b o hb hno=>?_,(World.putObj_heap_other (by omega)).trans hd3,World.putObj_heap_same (by omega),?_,by show D+1 < (W3.putObj _ _).heap.size;simp;omega⟩
   ·have:=j6.size
    exact(k6 b o (by omega) fun h=>hno h.1.1).trans (j7 b o hb hno)
   ·have hne:bb'≠D+1:=by omega
    have:=j6.size
    exact(World.putObj_heap_other hne).trans ((k5.block _ (by omega) fun h=>h.1.2 rfl).trans ((World.putObj_heap_other hne).trans j10))
  ·rintro e W2 ⟨⟨v,rfl⟩,s,γ1,⟨j0,j1⟩,j2,j3,j4,j5,j6,j7,j8,j9,j10,j11⟩
   rw[hfold]at j1
   injection j1 with j1
   subst j1
   have hend:(Instr.endLoop (D+1)).run P W2=.ok none (W2.putObj (D+1) (.loop { rec .ready none with state:=.exhausted })):=by
    have h:=run_endLoop (P:=P) j9 (by rw[hrec];simp)
    rw[hrec]at h ⊢;exact h
   refine⟨none,_,hend,?_⟩
   have sz4:(W2.putObj (D+1) (.loop { rec .ready none with state:=.exhausted })).heap.size=W2.heap.size:=by simp
   have:=j6.size
   have hq:=hdone D bb' γ1 (W2.putObj (D+1) (.loop { rec .ready none with state:=.exhausted })) (Nat.le_refl _) ((World.putObj_heap_other (by omega)).trans j8) (j2.other (hmap sE) (Pk _ _) fun r e=>by injection e with e;subst e;exact⟨_,j9,rfl⟩) j3 j4 j5
    (Base.trans (fun k hk=>big k (by omega)) j6 (Rv ownL _)) j7 (by omega) (by omega) (fun t=>RepA.inIds j5 (fun i hi=>j4 i (.inr hi)) (pp hids t) (hrep t))
   simp only[ha,List.append_nil]
   exact hq
theorem N0 {o:Oper} (h:o.guard=none) (f:Nat→Option Bool):Region.wanted o f=true:=by simp[Region.wanted,h]
theorem Ra {F:Fence} {n:Nat} {o:Oper} {a:Act} {l:Nat} {v:Value} {K:Act→World→Prop} {Q:Exit→Act→World→Prop} (hF:F.round=some l) (hw:∀ f,F.fn f) (hd:∀ c,o.op≠.defer c) (h:(execOp a.eval o).run P w=.ok (.value v) w') (hk:K (a.put o.dst v) w') :
  o.wpIn F n P a w K Q:=by
 refine⟨fun f _=>hw f,?_⟩
 rw[hF,Oper.semAt_some l a.eval o hd,h]
 exact hk
theorem vw {N:Nat} {ids:List Nat} {asg bod:Code} {oa o1 o2 o3:Oper} {ia ib ir:Nat} {tp tq td t3 d1 d2:Tmp} {T:TypeId} {fp:FuncId} {ats:Array TypeId}
  (hasg:asg=.region ia #[oa] false) (a1:oa.op=.assign (.tmp tq)) (a2:oa.dst=some td) (a3:oa.guard=none)
  (hbod:bod=.block ib (.region ir #[o1,o2,o3] false)) (b1:o1.op=.load T (.tmp t3)) (b2:o1.dst=some d1) (b3:o1.guard=none) (c1:o2.op=.move (.tmp td)) (c2:o2.dst=some d2) (c3:o2.guard=none)
  (f1:o3.op=.call { callee:=.value (.func fp),args:=#[.tmp d1,.tmp d2],argTypes:=ats }) (f3:o3.guard=none) {dT:TypeDesc} (hT:P.underlying T=some dT)
  (hd:decide (tq < N∧td < N∧d1 < N∧d2 < N∧t3≠tp∧t3≠tq∧t3≠td∧d1≠td∧d2≠d1)=true)
  {zs:List Int} {x:Nat} {st st':St} {bi rid:Nat} (h3:Cg st.fr t3=.ptr bi 0) (hl:Nb P T (Ae st.hp) (.ptr bi 0)=.ret (.ptr rid 0))
  {hls:List (Nat×Option Ob)} {t:OT} {cid:Nat} (hO:Bp P fp [.ptr rid 0,.d (.int .i64 (zs.getD x 0))] hls cid t) (hle:decide (st.nx≤cid)=true) (hth:V0 (Ae st.hp) hls) (hlv:(t.lv.all st.live.contains)=true)
  (rs ts:List (Nat×Nat)) (hid:(rs.all fun p=>p.1==p.2)=true) (hn:H4 rs ts st'.hp (t.toks++st.live.filter (fun s=>!t.lv.contains s)) st'.live st'.nx=true) (hnx:st'.nx=st.nx) (hids:(ids.all fun i=>decide (i < st.nx))=true) (h16:decide (16≤st.nx)=true)
  (ho:E8 (fun p:Nat×Ob=>∃ b o,Bv rs p.1=some b∧Ae (t.ups++st.hp) b=some o∧Oble rs ts o p.2) st'.hp):Zm P N asg bod #[tp,tq] zs x ids st st':=fun own γ W tmps H F big hsz hrep l n=>by
 obtain⟨k1,k2,k3,k4,k5,k6,k7,k8,k9⟩:=of_decide_eq_true hd
 have h16:=of_decide_eq_true h16
 have hle:=of_decide_eq_true hle
 let z:Value:=.int .i64 (zs.getD x 0)
 let T1:Array Value:=(tmps.setIfInBounds tp (.int .i64 (x:Int))).setIfInBounds tq z
 have hT1:((#[tp,tq].zip (Le zs x)).foldl (fun t (p,v)=>t.setIfInBounds p v) tmps)=T1:=by simp[Le,T1,z]
 have sT1:T1.size=N:=by simp[T1,hsz]
 have gq:T1.getD tq undef=z:=by simp only[T1,Array.getD_eq_getD_getElem?];rw[Array.getElem?_setIfInBounds_self_of_lt (by simp[hsz];omega)];rfl
 refine⟨{ tmps:=T1.setIfInBounds td z,defers:=[] },fun W K hK=>?_,?_⟩
 ·rw[hasg,hT1]
  refine wpIn_region_list (wpListIn_step fun K' hK'=>?_)
  rw[if_pos (N0 a3 _)]
  refine Ra (v:=z) (w':=W) rfl (fun _=>trivial) (fun c h=>by rw[a1]at h;cases h) ?_ (hK' _ _ ?_)
  ·unfold execOp
   simp only[a1]
   show Sem.run P (pure (Next.value (T1.getD tq undef))) W=_
   rw[gq];rfl
  ·refine wpListIn_nil ?_
   rw[a2]
   exact hK
 ·have ev:∀ t,t≠tp→t≠tq→t≠td→(T1.setIfInBounds td z).getD t undef=tmps.getD t undef:=fun t n1 n2 n3=>by
   simp only[T1,Array.getD_eq_getD_getElem?]
   rw[Array.getElem?_setIfInBounds_ne (Ne.symm n3),Array.getElem?_setIfInBounds_ne (Ne.symm n2),Array.getElem?_setIfInBounds_ne (Ne.symm n1)]
  rw[hbod]
  refine wpIn_block (wpIn_region_list (wpListIn_step fun K1 hK1=>?_))
  rw[if_pos (N0 b3 _)]
  obtain⟨u,hu1,hu2⟩:=dw (P:=P) (γ:=γ) (w:=W) (ρ:=Act.eval { tmps:=T1.setIfInBounds td z,defers:=[] }) H b1 hT (.ptr bi 0) (by
   show RepA γ _ ((T1.setIfInBounds td z).getD t3 undef)
   rw[ev t3 k5 k6 k7,← h3];exact hrep t3) (by rw[hl];rfl) (by rw[hl];intro x hx;cases hx)
  rw[hl]at hu2
  refine Ra (v:=u) (w':=W) rfl (fun _=>trivial) (fun c h=>by rw[b1]at h;cases h) hu1 ?_
  rw[b2]
  obtain⟨A2,hA2⟩:∃ A2,A2=Act.put { tmps:=T1.setIfInBounds td z,defers:=[] } (some d1) u:=⟨_,rfl⟩
  rw[← hA2]
  have s2:A2.tmps.size=N:=by rw[hA2];simp[Act.put,sT1]
  have gd:A2.tmps.getD td undef=z:=by
   rw[hA2,Og (by simp[sT1];exact k3),if_neg k8]
   simp only[Array.getD_eq_getD_getElem?]
   rw[Array.getElem?_setIfInBounds_self_of_lt (by rw[sT1];exact k2)];rfl
  have gu:A2.tmps.getD d1 undef=u:=by rw[hA2,Og (by simp[sT1];exact k3),if_pos rfl]
  have df2:A2.defers=[]:=by rw[hA2];rfl
  clear hA2
  refine hK1 _ _ (wpListIn_step fun K2 hK2=>?_)
  rw[if_pos (N0 c3 _)]
  have e1:A2.eval (.tmp td)=z:=gd
  refine Ra (v:=z) (w':=W) rfl (fun _=>trivial) (fun c h=>by rw[c1]at h;cases h) (by unfold execOp;simp only[c1];rw[e1];rfl) ?_
  rw[c2]
  obtain⟨A3,hA3⟩:∃ A3,A3=A2.put (some d2) z:=⟨_,rfl⟩
  rw[← hA3]
  have g1:A3.eval (.tmp d1)=u:=by
   show A3.tmps.getD d1 undef=u
   rw[hA3,Og (by rw[s2];exact k4),if_neg k9];exact gu
  have g2:A3.eval (.tmp d2)=z:=by
   show A3.tmps.getD d2 undef=z
   rw[hA3,Og (by rw[s2];exact k4),if_pos rfl]
  clear hA3
  refine hK2 _ _ (wpListIn_step fun K3 hK3=>?_)
  rw[if_pos (N0 f3 _)]
  obtain⟨⟨fn,hf1,hf2,hf3⟩,hcall⟩:=hO
  have hz:RepA γ (.d (.int .i64 (zs.getD x 0))) z:=by simp only[RepA,Rep,z]
  have hreps:RepAL γ [.ptr rid 0,.d (.int .i64 (zs.getD x 0))] [u,z]:=by
   rw[RepAL];exact⟨u,[z],rfl,hu2,by rw[RepAL];exact⟨z,[],rfl,hz,by rw[RepAL]⟩⟩
  have hrun:=hcall own (Ae st.hp) (·∈st.live) γ W [u,z] H hth (fun s hs=>by have:=List.all_eq_true.1 hlv s hs;simpa using this) big (fun j h1 h2=>F.ok j (Nat.le_trans hle h1)) hreps
  refine⟨fun _ _=>trivial,?_⟩
  rw[show (Fence.wide.inRound l).round=some l from rfl,Oper.semAt_some l _ o3 (fun c h=>by rw[f1]at h;cases h)]
  have hex:(execOp A3.eval o3).run P W=.ok (.enter fp #[u,z]) W:=by
   unfold execOp
   simp only[f1]
   have hres:((resolve A3.eval { callee:=.value (.func fp),args:=#[.tmp d1,.tmp d2],argTypes:=ats } o3.type).run P W)=.ok { target:=.fn (.func fp) #[],args:=#[u,z] } W:=by
    have e0:A3.eval (.func fp)=.func (.func fp) #[] #[]:=rfl
    simp[resolve,Deferred.ofValue,g1,g2,e0]
   have hinv:(invoke (.fn (.func fp) #[]) #[u,z]).run P W=.ok (.enter fp #[u,z]) W:=by
    simp only[invoke,callFunc,program,Sem.run_bind,Array.append_empty]
    simp[Sem.run,hf1,hf3,Option.isNone_iff_eq_none]
    intro h;rw[h]at hf2;cases hf2
   rw[Sem.run_bind,hres,Result.andThen_ok,hinv]
  rw[hex]
  refine⟨fun h=>(by cases h),CallsIn.inRound l (callsIn_wide.2 (hrun.mono ?_))⟩
  rintro e W' ⟨v,γ1,rfl,hs⟩
  refine hK3 _ _ (wpListIn_nil ⟨rfl,?_⟩)
  -- told anew
  let q0:Q:={ mo:=some t }
  have H1:Hp own (Ae (t.ups++st.hp)) (·∈t.toks++st.live.filter (fun s=>!t.lv.contains s)) γ1 W':=by
   have e1:Ae (t.ups++st.hp)=cq (Ae st.hp) t.ups:=N1 cid q0 st.hp
   have e2:(fun s=>s∈t.toks++st.live.filter (fun s=>!t.lv.contains s))=wq (·∈st.live) t.lv t.toks:=Rr cid q0 st.live
   rw[e1,e2];exact hs.hp
  obtain⟨h5,h6⟩:=af rs ts (fun i=>if i < st.nx then γ1.ι i else none) hn ho H1 (fun i hi=>if_neg (by rw[hnx]at hi;omega))
  have hι:∀ i,i < st.nx→(Jf rs ts (fun i=>if i < st.nx then γ1.ι i else none) γ1).ι i=γ.ι i:=fun i hi=>by
   rw[← (hs.other i (.inl (Nat.lt_of_lt_of_le hi hle))).1]
   simp only[Jf]
   cases hr:Bv rs i with
   | none=>simp only[if_pos hi]
   | some b =>
    have:=List.all_eq_true.1 hid _ (Cy hr)
    simp only[beq_iff_eq]at this
    simp only[this]
  refine⟨_,h5,h6,fun i hi=>hι i ?_,hs.le.μ,hs.base,hs.mu⟩
  rcases hi with hi | hi
  ·omega
  ·have:=List.all_eq_true.1 hids i hi;simpa using this
theorem fh {V:Gm} {N n:Nat} {Y:Type} {a b:Code} {Q:Exit→Act→World→Prop} {m:Option Y} {st:St} {mid:Y→St} {y:Y} (ja:Judge P V N a st m fun y=>go (mid y)) (hy:m=some y) (h:∀ γ x w,RS V N (mid y) γ x w→b.wpIn Fence.wide n P Q x w)
  {γ:G} {x:Act} {w:World} (hr:RS V N st γ x w):(Code.seq a b).wpIn Fence.wide n P Q x w :=
 wpIn_seq (wpIn_wide.2 (wp_mono (ja y hy (fun ex s=>rq ex=true∧Weak s (mid y)) (fun ex s hs=>hs) γ x w hr) fun ex x' w' ⟨s,γ',h1,h2,h3⟩=>by
  obtain rfl:ex=.normal:=by cases ex<;>first | rfl | cases h2
  obtain⟨γ'',h4⟩:=h3 V N γ' x' w' h1
  exact h γ'' x' w' h4))
theorem yo {Y0 Y1 Y2 X S R:Type} {f:Nat} {fn:Func} {c p0 p1 p2 p3 asg bod post:Code} {bi:Nat} {g:Tmp} {ps:Array Tmp} {A:List AV} {hp0:List (Nat×Ob)} {live0:List Nat} {fB:FuncId} {bx nx:Nat} {ids:List Nat}
  (hf:P.funcs[f]?=some fn) (hb:fn.body=some c) (hn:fn.name ≠ "runtime.NumGoroutine") (hlen:A.length≤fn.ntmps)
  (hc:c=.seq p0 (.seq p1 (.seq p2 (.seq (.seq p3 (.block bi (.rangeFunc (.tmp g) ps asg bod))) post)))) (hps:ps.size=2) (hres:fn.results=#[])
  {m0:Option Y0} {st1:Y0→St} (j0:∀ V:Gm,Judge P V fn.ntmps p0 ⟨O7 0 A,hp0,live0,16⟩ m0 fun y=>go (st1 y))
  {m1:Y0→Option Y1} {st2:Y0→Y1→St} (j1:∀ (V:Gm) y,Judge P V fn.ntmps p1 (st1 y) (m1 y) fun z=>go (st2 y z))
  {m2:Y0→Y1→Option Y2} {st3:Y0→Y1→Y2→St} (j2:∀ (V:Gm) y z,Judge P V fn.ntmps p2 (st2 y z) (m2 y z) fun u=>go (st3 y z u))
  {m3:Y0→Y1→Y2→Option X} {sp:Y0→Y1→Y2→X→St} (j3:∀ (V:Gm) y z u,Judge P V fn.ntmps p3 (st3 y z u) (m3 y z u) fun x=>go (sp y z u x))
  (head:Y0→Y1→Y2→X→S→St) (zs:Y0→Y1→Y2→X→List Int) (s0:Y0→Y1→Y2→X→S) (mround:Y0→Y1→Y2→X→S→Nat→Option S) {mpost:Y0→Y1→Y2→X→S→Option R} {en:R→OF} {φ:Y0→Y1→Y2→X→S→R→R} {fr:Y0→Y1→Y2→X→List (Nat×AV)}
  (hB:mr P fB) (hcall:Lo P fB)
  (hfr:∀ y z u x s,(head y z u x s).fr=fr y z u x) (hnx:∀ y z u x s,(head y z u x s).nx=nx) (hids:∀ y z u x,frOk ids (fr y z u x)=true) (hmap:∀ y z u x s,V2 (Ae (head y z u x s).hp))
  (hround:∀ y z u x s i s',mround y z u x s i=some s'→i < (zs y z u x).length→Zm P fn.ntmps asg bod ps (zs y z u x) i ids (head y z u x s) (head y z u x s'))
  (hg:∀ y z u x,Cg (sp y z u x).fr g=.fn fB [.ptr bx 0]) (hbx:∀ y z u x,Ae (sp y z u x).hp bx=some (.cells [.d (.sl 1 (zs y z u x).length fun i=>.int .i64 ((zs y z u x).getD i 0))]))
  (hst:∀ y z u x j o,Ae (head y z u x (s0 y z u x)).hp j=some o→Ae (sp y z u x).hp j=some o∧j≠bx) (hlv:∀ y z u x,(head y z u x (s0 y z u x)).live=(sp y z u x).live) (hnx0:∀ y z u x,(sp y z u x).nx=nx)
  (hfr0:∀ y z u x t,Cg (fr y z u x) t=Cg (sp y z u x).fr t∨Cg (fr y z u x) t=.any)
  (jpost:∀ (V:Gm) y z u x s,Judge P V fn.ntmps post (head y z u x s) (mpost y z u x s) fun r ex st=>rq ex=true∧Pt P fn.results.toList st (en (φ y z u x s r))) (hrn:∀ r,V2 (Ae (en r).hp)) {r:R}
  (hr:(m0.bind fun y=>(m1 y).bind fun z=>(m2 y z).bind fun u=>(m3 y z u).bind fun x=>if(zs y z u x).length < 4611686018427387904 then((dn (zs y z u x).length (zs y z u x).length).foldlM (mround y z u x) (s0 y z u x)).bind fun s=>(mpost y z u x s).map (φ y z u x s)else none)=some r) :
  Cq P f A hp0 live0 (en r):=by
 obtain⟨y,hy,hr⟩:=Option.bind_eq_some_iff.1 hr
 obtain⟨z,hz,hr⟩:=Option.bind_eq_some_iff.1 hr
 obtain⟨u,hu,hr⟩:=Option.bind_eq_some_iff.1 hr
 obtain⟨x,hx,hr⟩:=Option.bind_eq_some_iff.1 hr
 obtain⟨hlz,hr⟩:=Ak hr
 obtain⟨sE,hfold,hr⟩:=Option.bind_eq_some_iff.1 hr
 obtain⟨q,hq,rfl⟩:=Option.map_eq_some_iff.1 hr
 refine⟨⟨fn,hf,by rw[hb];rfl,hn⟩,fun own γ w vs H big F hrep=>?_⟩
 refine(callsIn_wide (n:=10)).1 (callsIn_of_wp_marks hf hb trivial ?_ rfl)
 let V:Gm:=⟨own,⟨γ,[]⟩,w⟩
 have hvl:=hrep.length
 have rs:RS V fn.ntmps ⟨O7 0 A,hp0,live0,16⟩ γ { tmps:=vs.toArray++Array.replicate (fn.ntmps - vs.toArray.size) undef,defers:=[] } w:=by
  refine⟨⟨rfl,by simp;omega,fun t=>?_,(fun t j want h=>by cases h),H,Base.refl _ _,big,Keep.refl _ _ _ _⟩,F⟩
  show RepA γ (Cg (O7 0 A) t) _
  rw[U6,if_pos (Nat.zero_le _),Nat.sub_zero]
  cases hd:A[t]? with
  | none=>simp only[RepA]
  | some d =>
   obtain⟨v,h1,h2⟩:=hrep.get t d hd
   have hlt:t < vs.length:=(List.getElem?_eq_some_iff.1 h1).1
   have:(vs.toArray++Array.replicate (fn.ntmps - vs.toArray.size) undef).getD t undef=v:=by
    rw[Array.getD_eq_getD_getElem?,Array.getElem?_append_left (by simpa using hlt)]
    simp[h1]
   rw[this]
   exact h2
 rw[hc]
 refine fh (j0 V) hy (fun γ0 x0 w0 r0=>?_) rs
 refine fh (j1 V y) hz (fun γ0 x0 w0 r0=>?_) r0
 refine fh (j2 V y z) hu (fun γ0 x0 w0 r0=>?_) r0
 refine wpIn_seq (fh (j3 V y z u) hx (fun γ1 a1 w1 r1=>?_) r0)
 refine wpIn_block ?_
 obtain⟨R1,F1⟩:=r1
 have sz1:w.heap.size≤w1.heap.size:=R1.base.size
 have big1:∀ b,w1.heap.size≤b→own b:=fun b hb=>big b (Nat.le_trans sz1 hb)
 refine AA5 hB (head y z u x) (hfr y z u x) (hnx y z u x) hps (mround y z u x) (fun s i s' h1 h2=>hround y z u x s i s' h1 h2) (hids y z u x) (hmap y z u x) (stp:=sp y z u x) (hg y z u x) (hbx y z u x) hlz hcall hfold (hst y z u x) (hlv y z u x) (hnx0 y z u x) (hfr0 y z u x) (a:=a1) R1.defers R1.size R1.hp
  (by rw[← hnx0 y z u x];exact F1) big1 (fun t=>R1.fr t) 10 (by omega) ?_
 intro D bb γ2 W hD hDW H2 F2 pin2 le2 B2 mu2 szD szb rep2
 let own':Nat→Prop:=fun b=>(own b∧b≠bb)∧¬ (b=D∨b=D+1)
 let V':Gm:=⟨own',⟨γ2,[{ target:=.collected D,args:=#[] }]⟩,W⟩
 have big':∀ b,W.heap.size≤b→own' b:=fun b hb=>⟨⟨big1 b (Nat.le_trans B2.size hb),by omega⟩,by omega⟩
 have rs':RS V' fn.ntmps (head y z u x sE) γ2 { a1 with defers:=[{ target:=.collected D,args:=#[] }] } W:=by
  refine⟨⟨rfl,R1.size,fun t=>?_,(fun t j want h=>by cases h),H2,Base.refl _ _,big',Keep.refl _ _ _ _⟩,by rw[hnx];exact F2⟩
  show RepA γ2 (Cg (head y z u x sE).fr t) _
  rw[hfr];exact rep2 t
 show post.wpIn Fence.wide 10 P _ { a1 with defers:=[{ target:=.collected D,args:=#[] }] } W
 refine wpIn_wide.2 (wp_mono (jpost V' y z u x sE q hq (fun ex s=>rq ex=true∧Pt P fn.results.toList s (en (φ y z u x sE q))) (fun ex s hs=>hs) γ2 _ W rs') ?_)
 rintro ex a' w' ⟨st',γ3,h1,hex,l,hl,hk⟩
 obtain rfl:ex=.normal:=by cases ex<;>first | rfl | cases hex
 obtain⟨γ4,k1,k0,k2,k3,k4⟩:=hk own' γ3 w' h1.1.hp h1.2
 have hdf:a'.defers=[{ target:=.collected D,args:=#[] }]:=h1.1.defers
 have hnO:¬ own' D:=fun h=>h.2 (.inl rfl)
 have hD':w'.heap[D]?=some (.deferred (some [])):=(h1.1.base.block D (by show D < W.heap.size;omega) hnO).trans hDW
 show LeavesInM Fence.wide 10 P fn a'.tmps _ a'.defers .returning w'
 rw[hdf]
 refine⟨(by intro h;cases h),.inl ⟨D,w'.putObj D (.deferred none),rfl,run_takeDeferred hD',?_⟩⟩
 have hlnil:l=[]:=by
  rw[hres]at hl
  simp only[Kz,Option.some.injEq]at hl
  exact hl.symm
 subst hlnil
 have hown:∀ b,own' b→own b:=fun b h=>h.1.1
 have ownD:own D:=big1 D hD
 have B3:Base own W w':=⟨h1.1.base.os,h1.1.base.tape,h1.1.base.output,h1.1.base.size,fun k hk hn=>h1.1.base.block k hk fun h=>hn (hown k h)⟩
 have s2:w1.heap.size≤W.heap.size:=B2.size
 have s3:W.heap.size≤w'.heap.size:=B3.size
 refine⟨.tuple #[],by simp[results,hres],.tuple #[],γ4,rfl,fun b o v e=>k1 _ _ _ (h1.1.mu.le _ _ _ (le2 _ _ _ (R1.mu.le _ _ _ e))),fun i b hi e=>?_,(k3.more hown).other (hrn _) (Pk D _) fun r e=>(by injection e with e;subst e;exact⟨_,hD',rfl⟩),?_,k4 [] (by simp only[RepAL]),fun b o hb hno=>?_⟩
 ·refine k2 i b hi (h1.1.mu.pin i b hi ?_)
  show γ2.ι i=some b
  rw[pin2 i (.inl hi)]
  exact R1.mu.pin i b hi e
 ·exact Base.trans (fun k hk=>big1 k hk) R1.base (Base.trans (fun k hk=>big1 k (Nat.le_trans s2 hk)) B2 (Base.trans (fun k hk=>big1 k (Nat.le_trans s2 (Nat.le_trans s3 hk))) B3 (Rv ownD _)))
 ·have hno':¬ own' b:=fun h=>hno (hown b h)
  have e1:γ3.μ b o=γ2.μ b o:=h1.1.mu.mu b o (by show b < W.heap.size;omega) hno'
  have e2:γ1.μ b o=γ.μ b o:=R1.mu.mu b o hb hno
  exact(k0 b o hno').trans (e1.trans ((mu2 b o (by omega) hno).trans e2))
def sx:Code→Code
 | .rangeFunc _ _ a _=>a
 | c=>c
def Ze:Code→Code
 | .rangeFunc _ _ _ b=>b
 | c=>c
def opN:Code→Nat→Oper
 | .region _ ops _,i=>ops.getD i default
 | .block _ (.region _ ops _),i=>ops.getD i default
 | _,_=>default
theorem ko {hp:List (Nat×Ob)} (h:(hp.all fun p=>match p.2 with | .map ..=>false | _=>true)=true):V2 (Ae hp):=fun id o ho=>by
 have:=List.all_eq_true.1 h _ (E3 ho)
 cases o with
 | map=>cases this
 | _=>trivial
theorem hst_of {hp hp':List (Nat×Ob)} {bx:Nat} (h:E8 (fun p:Nat×Ob=>Ae hp p.1=some p.2) hp') (hk:(hp'.all fun p=>!(p.1==bx))=true):∀ j o,Ae hp' j=some o→Ae hp j=some o∧j≠bx:=fun j o ho=>by
 have hm:=E3 ho
 refine⟨Ec h _ hm,fun e=>?_⟩
 have:=List.all_eq_true.1 hk _ hm
 simp[e]at this
theorem fr0_of {fr fr':List (Nat×AV)} (h:E8 (fun p:Nat×AV=>Cg fr p.1=p.2) fr') (t:Nat):Cg fr' t=Cg fr t∨Cg fr' t=.any:=by
 rcases H6 (l:=fr') (t:=t) with e | e
 ·exact .inr e
 ·exact .inl (Ec h _ e).symm
end Go.Av
namespace Go.Av
open Go.RowKit Go.Base Go.Proofs Go.Shelf
set_option maxRecDepth 100000 in
set_option maxHeartbeats 2000000 in
theorem back_in (n:Nat) (hn:1≤n) (l Bs b off len cap:Nat) (zs:List Int) (hlen:len < 4611686018427387904) (hb1:len≤cap) (J:List Nat→World→Prop)
  (hJ:∀ pre W,J pre W→W.cell? ⟨Bs,0,none⟩=some (.slice (some ⟨b,off,none⟩) len cap)∧∀ j,j < len→W.cell? ⟨b,off+j,none⟩=some (.int .i64 (zs.getD j 0)))
  (hY:∀ pre x W,J pre W→pre.length < len→x=len - 1 - pre.length→YieldAt Fence.wide (n - 1) Tryz.prog l (Le zs x) W fun e W'=>e=.returned (.bool true)∧J (pre++[x]) W')
  (W:World) (h0:J [] W) :
  CallsIn Fence.wide n Tryz.prog 158 #[.func (.yield l) #[] #[],.pointer (some ⟨Bs,0,none⟩)] W fun e W'=>(∃ v,e=.returned v)∧J (dn len len) W':=by
 have hBs:=(hJ [] W h0).1
 have hsem:∀ (l:Nat) (ρ:Operand→Value) (o:Oper),(∀ c,o.op≠.defer c)→Oper.semAt (some l) ρ o=execOp ρ o:=Oper.semAt_some
 have hw1:IntKind.i64.wrap ((len:Int) - 1)=(len:Int) - 1:=El (by omega) (by omega)
 refine callsIn_of_wp Tryz.func158 rfl trivial ?_ rfl
 simp only[Tryz.ntmps158,List.size_toArray,List.length_cons,List.length_nil,Nat.reduceAdd,Nat.reduceSub,Array.replicate_succ,Array.replicate_zero,List.push_toArray,List.append_toArray,List.nil_append,List.cons_append]
 gi_wp2
 gi_loopw [3] (fun i wr=>∃ k:Nat,k≤len∧i=.int .i64 ((len:Int) - 1 - k)∧J (dn len k) wr)
  (fun i _=>(Go.RowKit.intOf i+1).toNat)
 case atStart=>exact⟨0,Nat.zero_le _,by simp[hw1],h0⟩
 case round =>
  obtain⟨k,hk,rfl,hJs⟩:=hrel
  obtain⟨hBs',hcx⟩:=hJ _ _ hJs
  by_cases hlt:k < len
  ·obtain⟨fn,tmps,assign,body,hy,hR⟩:=hY _ (len - 1 - k) wr hJs (by rw[dc];exact hlt) (by rw[dc])
   have hcx':=hcx (len - 1 - k) (by omega)
   obtain⟨m,hm⟩:∃ m:Nat,m=len - 1 - k:=⟨_,rfl⟩
   have hmi:((len:Int) - 1 - k)=(m:Int):=by omega
   rw[← hm]at hcx' hy hR
   rw[hmi]
   have hml:m < len:=by omega
   simp only[Le,List.getD_eq_getElem?_getD]at hy hcx'
   replace hm:=hide hm
   have hw2:IntKind.i64.wrap ((m:Int) - 1)=(m:Int) - 1:=El (by omega) (by omega)
   gi_wp2
   refine hR.mono ?_
   rintro e W3 ⟨rfl,hJ3⟩
   gi_wp2
   go_roundw
   case rel=>exact⟨k+1,by omega,by simp only[Value.int.injEq,true_and];have:m=len - 1 - k:=hm;omega,by rw[qc];have:m=len - 1 - k:=hm;rw[← this];exact hJ3⟩
   case measure=>simp[Go.RowKit.intOf]
  ·obtain rfl:k=len:=by omega
   have he:((k:Int) - 1 - k) = -1:=by omega
   rw[he]
   gi_wp2
   go_end0
   exact⟨⟨_,rfl⟩,hJs⟩
set_option maxRecDepth 100000 in
set_option maxHeartbeats 1000000 in
theorem back_nil (n:Nat) (l Bs:Nat) (J:List Nat→World→Prop) (W:World) (A:Option Addr) (cap:Nat) (hBs:W.cell? ⟨Bs,0,none⟩=some (.slice A 0 cap)) (h0:J [] W) :
  CallsIn Fence.wide n Tryz.prog 158 #[.func (.yield l) #[] #[],.pointer (some ⟨Bs,0,none⟩)] W fun e W'=>(∃ v,e=.returned v)∧J (dn 0 0) W':=by
 refine callsIn_of_wp Tryz.func158 rfl trivial ?_ rfl
 simp only[Tryz.ntmps158,List.size_toArray,List.length_cons,List.length_nil,Nat.reduceAdd,Nat.reduceSub,Array.replicate_succ,Array.replicate_zero,List.push_toArray,List.append_toArray,List.nil_append,List.cons_append]
 gi_wp2
 gi_loopw [3] (fun i wr=>i=.int .i64 (-1)∧J [] wr) (fun _ _=>0)
 case atStart=>exact⟨rfl,h0⟩
 case round =>
  obtain⟨rfl,hJs⟩:=hrel
  gi_wp2
  go_end0
  exact⟨⟨_,rfl⟩,hJs⟩
theorem vf:mr Tryz.prog 158:=fun n hn A b Bs off len cap zs hlen hcap hA l J W hJ hY h0=>by
 rcases Nat.eq_zero_or_pos len with h | h
 ·subst h;exact back_nil n l Bs J W A cap (hJ [] W h0).1 h0
 ·rw[hA h]at hJ;exact back_in n hn l Bs b off len cap zs hlen hcap J hJ hY W h0
end Go.Av
namespace Go.Av
open Go.RowKit Go.Base Go.Proofs
set_option maxHeartbeats 2000000 in
set_option maxRecDepth 100000 in
theorem mul_one (c:Nat) (hc:c≤64) (w:World):Calls Tryz.prog 110 #[.int .u64 1,.int .u64 c] w fun e w'=>e=.returned (.tuple #[.int .u64 0,.int .u64 c])∧w'=w:=by
 have k1:bits BinOp.and IntKind.u64 1 4294967295=1:=by decide
 have k2:bits BinOp.and IntKind.u64 (c:Int) 4294967295=c:=by
  have:∀ c:Nat,c < 65→bits BinOp.and IntKind.u64 (c:Int) 4294967295=c:=by decide
  exact this c (by omega)
 have k3:(c:Int) / 4294967296=0:=by omega
 have k4:IntKind.u64.wrap (c:Int)=c:=by
  have:∀ c:Nat,c < 65→IntKind.u64.wrap (c:Int)=c:=by decide
  exact this c (by omega)
 have k5:IntKind.u64.wrap 0=0:=by decide
 have k6:bits BinOp.and IntKind.u64 0 4294967295=0:=by decide
 go_enter Tryz.func110,Tryz.ntmps110
 go_wp2
 go_ret2
 refine⟨?_,rfl⟩
 simp only[k1,k2,k3,k4,k5,k6,Int.one_mul,Int.mul_zero,Int.zero_add,Int.zero_ediv]
 rfl
def Dp (x:Int) (N k:Nat):List Value:=List.replicate k (.int .i64 x)++List.replicate (N - k) (.int .i64 0)
theorem f6 (x:Int) (N k m:Nat) (h:k+m≤N):splice (Dp x N k) k (List.replicate m (.int .i64 x))=Dp x N (k+m):=by
 unfold splice Dp
 have e1:(List.replicate k (Value.int .i64 x)++List.replicate (N - k) (Value.int .i64 0)).take k=List.replicate k (.int .i64 x):=by simp
 have e2:(List.replicate k (Value.int .i64 x)++List.replicate (N - k) (Value.int .i64 0)).drop (k+(List.replicate m (Value.int .i64 x)).length)=List.replicate (N - (k+m)) (.int .i64 0):=by
  rw[List.length_replicate,List.drop_append]
  simp[List.drop_eq_nil_of_le]
  omega
 rw[e1,e2,← List.append_assoc,List.replicate_append_replicate]
theorem jh:(Tryz.prog.info? 3).map (·.size)=some 1:=by kernel_rfl
theorem mf {x:Int} {N:Nat} (W:World) (g k m:Nat) (A:Option Addr) (sLen sCap dLen dCap:Nat) (hg:W.heap[g]?=some (.cells (Dp x N k).toArray 3 (0,0))) (hm:m=min sLen dLen) (hkm:k+m≤N)
  (hsrc:0 < m→∃ ad,A=some ad∧∀ j,j < m→W.cell? (ad.add j)=some (.int .i64 x)) :
  ∃ W',(Builtin.copy_ #[35,35] 3 #[.slice (some ⟨g,k,none⟩) dLen dCap,.slice A sLen sCap]).run Tryz.prog W=.ok (.int .i64 m) W'∧W'.heap[g]?=some (.cells (Dp x N (k+m)).toArray 3 (0,0))∧W.grownBy W' (some g):=by
 rcases Nat.eq_zero_or_pos m with h0 | h0
 ·subst h0
  exact⟨W,run_copy_none W 35 35 3 3 _ _ dLen dCap sLen sCap Tryz.underlying35 jh hm.symm,hg,World.grownBy.refl _ _⟩
 ·obtain⟨ad,rfl,hc⟩:=hsrc h0
  have hrun:=run_copy_row (P:=Tryz.prog) W 35 35 3 3 g k dLen dCap ad sLen sCap (Dp x N k).toArray 3 (List.replicate m (.int .i64 x)) Tryz.underlying35 jh hg (by simpa using hm)
   (fun j v hj=>by
    have hjm:j < m:=by have:=(List.getElem?_eq_some_iff.1 hj).1;simpa using this
    rw[List.getElem?_replicate,if_pos hjm]at hj
    injection hj with hj
    rw[← hj];exact hc j hjm) (by simp[Dp];omega) (by simp[Value.oneCell'])
  rw[List.length_replicate]at hrun
  refine⟨_,hrun,?_,⟨rfl,rfl,rfl,by simp[World.setRow],fun j _ hj=>setRow_other W g j _ (fun e=>hj (by rw[e]))⟩⟩
  have hs:=f6 x N k m hkm
  unfold splice at hs
  rw[List.length_replicate,← List.append_assoc]at hs
  have:=setRow_heap W g (Dp x N k).toArray ((Dp x N k).toArray.toList.take k++List.replicate m (Value.int .i64 x)++(Dp x N k).toArray.toList.drop (k+m)).toArray 3 _ hg
  rw[this]
  simp only[hs]
theorem cn {w w1 w2:World} (h:Gh w w1) (hg:w1.grownBy w2 (some w.heap.size)):Gh w w2 :=
 ⟨hg.os.trans h.os,hg.tape.trans h.tape,hg.output.trans h.output,Nat.le_trans h.size hg.size,fun k hk=>(hg.block k (Nat.lt_of_lt_of_le hk h.size) (fun e=>by injection e;omega)).trans (h.block k hk)⟩
set_option maxHeartbeats 2000000 in
set_option maxRecDepth 100000 in
theorem rep_walk (b0 o0 c0:Nat) (x:Int) (N:Nat) (hN:N≤64) (w:World) (hx:w.cell? ⟨b0,o0,none⟩=some (.int .i64 x)) :
  Calls Tryz.prog 64 #[.slice (some ⟨b0,o0,none⟩) 1 c0,.int .i64 N] w fun e w' =>
   e=.returned (.slice (some ⟨w.heap.size,0,none⟩) N N)∧Gh w w'∧w'.heap[w.heap.size]?=some (.cells (Dp x N N).toArray 3 (0,0)):=by
 have m1:=mul_one N hN
 have k1:IntKind.u64.wrap 1=1:=by decide
 have k2:IntKind.u64.wrap (N:Int)=N:=by
  have:∀ c:Nat,c < 65→IntKind.u64.wrap (c:Int)=c:=by decide
  exact this N (by omega)
 have k3:IntKind.i64.wrap (N:Int)=N:=El (by omega) (by omega)
 have mixed:Tryz.prog.follows Departure.mixedOrders=true:=by kernel_rfl
 obtain⟨i0,hi0,hrest⟩:=Option.map_eq_some_iff.1 (show (Tryz.prog.info? 3).map (fun i=>(i.zero,i.size,i.bytes))=some (some (.int .i64 0),1,8) by kernel_rfl)
 obtain⟨hz0,hrest⟩:=Prod.mk.inj hrest
 obtain⟨hs0,hb0⟩:=Prod.mk.inj hrest
 have hsz:(Tryz.prog.info? 3).map (·.size)=some 1:=by rw[hi0];simp[hs0]
 have hmk:∀ w:World,(Instr.makeSlice 35 (.int .i64 N) (.int .i64 N)).run Tryz.prog w=.ok (.slice (some ⟨w.heap.size,0,none⟩) N N) (w.alloc (.cells (Dp x N 0).toArray 3)):=fun w=>by
  have:=run_make (P:=Tryz.prog) w 35 3 i0 (.int .i64 0) Tryz.underlying35 hi0 hz0 .i64 .i64 N N (by omega) (by omega) (by rw[hb0];omega) (by omega)
  rw[this,hs0,Int.toNat_natCast,Nat.mul_one]
  congr 3
  apply Array.ext
  ·simp[Dp,size_madeCells]
  ·intro j h1 h2
   have:j < N:=by simpa [size_madeCells] using h1
   have e:=mh (.int .i64 0) N j this
   have e1:(madeCells (Value.int .i64 0).cells N)[j]=.int .i64 0:=by
    have e2:=Array.getElem?_eq_getElem h1
    exact Option.some.inj (e2.symm.trans e)
   rw[e1]
   simp[Dp]
 go_enter Tryz.func64,Tryz.ntmps64
 go_wp2_with (go_at_call 110;refine(m1 _).mono ?_;rintro e w1 ⟨rfl,rfl⟩)
 obtain⟨m,hm⟩:∃ m,m=min 1 N:=⟨_,rfl⟩
 have hg0:(w1.alloc (.cells (Dp x N 0).toArray 3)).heap[w1.heap.size]?=some (.cells (Dp x N 0).toArray 3 (0,0)):=heap_alloc_new w1 _
 have hx1:(w1.alloc (.cells (Dp x N 0).toArray 3)).cell? ⟨b0,o0,none⟩=some (.int .i64 x):=by
  rw[World.cell?_of_block (w:=w1) (heap_alloc_old w1 _ (World.block_lt_of_cell? _ _ hx))];exact hx
 have hb1:Gh w1 (w1.alloc (.cells (Dp x N 0).toArray 3)):=(Below.refl _ _).alloc (Nat.le_refl _) _
 obtain⟨W2,hr2,hg2,hgr2⟩:=mf (w1.alloc (.cells (Dp x N 0).toArray 3)) w1.heap.size 0 m (some ⟨b0,o0,none⟩) 1 c0 N N hg0 hm (by omega) (fun _=>⟨_,rfl,fun j hj=>by
  obtain rfl:j=0:=by omega
  have:(⟨b0,o0,none⟩:Addr).add 0=⟨b0,o0,none⟩:=by unfold Addr.add;split<;>simp_all
  rw[this];exact hx1⟩)
 rw[hr2]
 simp only[Result.andThen]
 rw[Oper.upon_value]
 have hb2:=cn hb1 hgr2
 clear hr2 hgr2 hb1 hx1 hg0
 rw[Nat.zero_add]at hg2
 have hm1:0 < N→0 < m:=fun h=>by omega
 have hm2:m≤N:=by omega
 clear hm
 go_wp2
 go_loopw [8] (fun i wr=>∃ k:Nat,k≤N∧(0 < N→0 < k)∧i=.int .i64 k∧wr.heap[w1.heap.size]?=some (.cells (Dp x N k).toArray 3 (0,0))∧Gh w1 wr) (fun i _=>N - (Go.RowKit.intOf i).toNat)
 case atStart=>exact⟨m,hm2,hm1,rfl,hg2,hb2⟩
 case round =>
  obtain⟨k,hk,hk0,rfl,hgk,hbk⟩:=hrel
  by_cases hlt:k < N
  ·obtain⟨W3,hr3,hg3,hgr3⟩:=mf wr.drew w1.heap.size k (min k (N - k)) (some ⟨w1.heap.size,0,none⟩) k N (N - k) (N - k) hgk rfl (by omega) (fun _=>⟨_,rfl,fun j hj=>by
    have:(⟨w1.heap.size,0,none⟩:Addr).add j=⟨w1.heap.size,j,none⟩:=by unfold Addr.add;split<;>simp_all
    rw[this]
    have hgk':wr.drew.heap[w1.heap.size]?=some (.cells (Dp x N k).toArray 3 (0,0)):=hgk
    have hjk:j < k:=by omega
    simp[World.cell?,hgk',Dp,List.getElem?_append,hjk]⟩)
   have hw5:IntKind.i64.wrap ((k:Int)+(min k (N - k):Nat))=((k+min k (N - k):Nat):Int):=by rw[El (by omega) (by omega)];omega
   have hb3:=cn (hbk.drew) hgr3
   obtain⟨m3,hm3⟩:∃ m3,m3=min k (N - k):=⟨_,rfl⟩
   rw[← hm3]at hr3 hg3 hw5
   have HM:=hide hm3
   clear hm3
   go_wp2
   go_region_o
   all_goals (
    have hm3:=HM.out
    clear hr3
    go_wp2
    go_roundw
    case rel=>exact⟨k+m3,by omega,fun _=>by omega,by simp,hg3,hb3⟩
    case measure=>simp[Go.RowKit.intOf];omega)
  ·obtain rfl:k=N:=by omega
   go_wp2
   go_ret
   exact⟨rfl,hbk,hgk⟩
noncomputable def m64 (a0:List Int) (a1:Int):Option (List Int):=match a0 with
 | [x]=>if 0≤a1∧a1≤64 then some (List.replicate a1.toNat x)else none
 | _=>none
theorem p64 {a0:List Int} {a1:Int} {r:List Int} (h:m64 a0 a1=some r):Aa Tryz.prog 64 [(A5 1 (D.int .i64) a0),(.int .i64 a1)] (A5 1 (D.int .i64) r):=by
 refine⟨⟨_,Tryz.func64,by kernel_rfl,by decide⟩,fun μ w vs hz hr=>?_⟩
 unfold m64 at h
 split at h
 ·rename_i x
  split at h
  ·rename_i hc
   obtain⟨N,rfl⟩:=Int.eq_ofNat_of_zero_le hc.1
   have hN:N≤64:=by omega
   simp only[Int.toNat_natCast,Option.some.injEq]at h
   subst h
   simp only[A5,RepL,Rep]at hr
   obtain⟨v,t,rfl,⟨A,c,rfl,_,_,hA⟩,v2,t2,rfl,rfl,rfl⟩:=hr
   obtain⟨b,o,rfl,hi⟩:=hA (by simp)
   obtain⟨u,h1,h2,h3,h4⟩:=hi 0 (by simp)
   have hcf:cF (D.int .i64) [x] 0=.int .i64 x:=by simp[cF]
   rw[hcf]at h1
   simp only[Rep]at h1
   subst h1
   have h5:=h4 0 (by omega)
   simp only[Nat.zero_mul,Nat.add_zero]at h5
   have hx:w.cell? ⟨b,o,none⟩=some (.int .i64 x):=hz _ _ _ (by rw[h5];rfl)
   refine(rep_walk b o c x N hN w hx).mono ?_
   rintro e w' ⟨rfl,hext,hg⟩
   let ν:Nat→Nat→Option Value:=fun b k=>if b < w.heap.size then μ b k else w'.cell? ⟨b,k,none⟩
   refine⟨_,ν,rfl,hext,fun b o hb=>by simp only[ν,if_pos hb],fun b k v hv=>?_,?_⟩
   ·simp only[ν]at hv
    split at hv
    ·rename_i hb
     rw[World.cell?_of_block (w:=w) (hext.block b hb)]
     exact hz b k v hv
    ·exact hv
   ·simp only[A5,Rep,List.length_replicate]
    refine⟨_,N,rfl,Nat.le_refl _,by unfold maxLen;omega,fun _=>⟨w.heap.size,0,rfl,fun i hi=>⟨.int .i64 x,?_,rfl,by simp[Value.cells,Value.oneCell'],fun j hj=>?_⟩⟩⟩
    ·have:cF (D.int .i64) (List.replicate N x) i=.int .i64 x:=by simp[cF,hi]
     rw[this];simp only[Rep]
    ·obtain rfl:j=0:=by omega
     simp only[ν,if_neg (Nat.lt_irrefl _)]
     simp[World.cell?,hg,Dp,Value.cells,hi]
  ·cases h
 ·cases h
end Go.Av
namespace Go.Proofs
open Go.Shelf
def Tryz.lays189_ren:Go.Shelf.Ren:=⟨fun | 189=>151 | 125=>174 | 257=>173 | 128=>196 | 129=>197 | 294=>187 | 295=>188 | 296=>189 | 297=>190 | 298=>191 | 299=>192 | 216=>193 | 300=>194 | 301=>195 | 328=>206 | 329=>207 | 330=>208 | 331=>209 | 332=>210 | 215=>211 | 343=>219 | n=>n,fun | 28=>35 | 3=>3 | 46=>163 | 0=>0 | 51=>133 | 53=>212 | 4=>4 | 183=>243 | 182=>242 | 131=>151 | 5=>5 | 9=>9 | 218=>258 | 222=>262 | 228=>264 | 229=>265 | n=>n,fun | n=>n⟩
theorem Tryz.lays189:Go.Proofs.Lays.n189 Tryz.prog Tryz.lays189_ren:={
 mixed:=by kernel_rfl
 f125:=Tryz.func174.trans (congrArg some (by kernel_rfl))
 f128:=Tryz.func196.trans (congrArg some (by kernel_rfl))
 f129:=Tryz.func197.trans (congrArg some (by kernel_rfl))
 f189:=Tryz.func151.trans (congrArg some (by kernel_rfl))
 f215:=Tryz.func211.trans (congrArg some (by kernel_rfl))
 f216:=Tryz.func193.trans (congrArg some (by kernel_rfl))
 f257:=Tryz.func173.trans (congrArg some (by kernel_rfl))
 f294:=Tryz.func187.trans (congrArg some (by kernel_rfl))
 f295:=Tryz.func188.trans (congrArg some (by kernel_rfl))
 f296:=Tryz.func189.trans (congrArg some (by kernel_rfl))
 f297:=Tryz.func190.trans (congrArg some (by kernel_rfl))
 f298:=Tryz.func191.trans (congrArg some (by kernel_rfl))
 f299:=Tryz.func192.trans (congrArg some (by kernel_rfl))
 f300:=Tryz.func194.trans (congrArg some (by kernel_rfl))
 f301:=Tryz.func195.trans (congrArg some (by kernel_rfl))
 f328:=Tryz.func206.trans (congrArg some (by kernel_rfl))
 f329:=Tryz.func207.trans (congrArg some (by kernel_rfl))
 f330:=Tryz.func208.trans (congrArg some (by kernel_rfl))
 f331:=Tryz.func209.trans (congrArg some (by kernel_rfl))
 f332:=Tryz.func210.trans (congrArg some (by kernel_rfl))
 f343:=Tryz.func219.trans (congrArg some (by kernel_rfl))
 t0:=Tryz.underlying0
 a0:=Tryz.isAgg0
 z0:=Tryz.sizeOf0
 v0:=Tryz.zeroValue0
 t3:=Tryz.underlying3
 a3:=Tryz.isAgg3
 z3:=Tryz.sizeOf3
 v3:=Tryz.zeroValue3
 t4:=Tryz.underlying4
 a4:=Tryz.isAgg4
 z4:=Tryz.sizeOf4
 v4:=Tryz.zeroValue4
 t5:=Tryz.underlying5
 a5:=Tryz.isAgg5
 z5:=Tryz.sizeOf5
 v5:=Tryz.zeroValue5
 t9:=Tryz.underlying9
 a9:=Tryz.isAgg9
 z9:=Tryz.sizeOf9
 v9:=Tryz.zeroValue9
 t28:=Tryz.underlying35
 a28:=Tryz.isAgg35
 z28:=Tryz.sizeOf35
 v28:=Tryz.zeroValue35
 t46:=Tryz.underlying163
 a46:=Tryz.isAgg163
 z46:=Tryz.sizeOf163
 v46:=Tryz.zeroValue163
 t51:=Tryz.underlying133
 a51:=Tryz.isAgg133
 z51:=Tryz.sizeOf133
 v51:=Tryz.zeroValue133
 t53:=Tryz.underlying212
 a53:=Tryz.isAgg212
 z53:=Tryz.sizeOf212
 v53:=Tryz.zeroValue212
 t131:=Tryz.underlying151
 a131:=Tryz.isAgg151
 z131:=Tryz.sizeOf151
 v131:=Tryz.zeroValue151
 t182:=Tryz.underlying242
 a182:=Tryz.isAgg242
 z182:=Tryz.sizeOf242
 v182:=Tryz.zeroValue242
 t183:=Tryz.underlying243
 a183:=Tryz.isAgg243
 z183:=Tryz.sizeOf243
 v183:=Tryz.zeroValue243
 t218:=Tryz.underlying258
 a218:=Tryz.isAgg258
 z218:=Tryz.sizeOf258
 v218:=Tryz.zeroValue258
 t222:=Tryz.underlying262
 a222:=Tryz.isAgg262
 z222:=Tryz.sizeOf262
 v222:=Tryz.zeroValue262
 t228:=Tryz.underlying264
 a228:=Tryz.isAgg264
 z228:=Tryz.sizeOf264
 v228:=Tryz.zeroValue264
 t229:=Tryz.underlying265
 a229:=Tryz.isAgg265
 z229:=Tryz.sizeOf265
 v229:=Tryz.zeroValue265 }
open Go.Sort Go.RowKit in
theorem Tryz.slices_Sort_int (blk off cap:Nat) (zs:List Int) (w:World) (hH:Holds (Value.int .i64) w blk off zs.toArray) (hblk:blk < w.heap.size) (hsz:zs.length < 4611686018427387904) :
  Calls Tryz.prog 151 #[.slice (some ⟨blk,off,none⟩) zs.length cap] w fun e w' =>
   e=.returned (.tuple #[])∧∃ n os,w'=grow (putRow (Value.int .i64) (Sort.ahead w n) blk off (zs.mergeSort fun x y=>decide (x≤y)).toArray) os:=Any.slices_Sort_int Tryz.lays189 blk off cap zs w hH hblk hsz
open Go.RowKit Go.Sort in
theorem Tryz.slices_Sort_int_none (p:Option Addr) (cap:Nat) (w:World) :
  Calls Tryz.prog 151 #[.slice p 0 cap] w fun e w'=>e=.returned (.tuple #[])∧w'=w:=Any.slices_Sort_int_none Tryz.lays189 p cap w
def Tryz.laysNm220_ren:Go.Shelf.Ren:=⟨fun | 20=>152 | n=>n,fun | 22=>35 | 3=>3 | 4=>4 | 0=>0 | n=>n,fun | n=>n⟩
theorem Tryz.laysNm220:Go.Proofs.Lays2.n20 Tryz.prog Tryz.laysNm220_ren:={
 mixed:=by kernel_rfl
 f20:=Tryz.func152.trans (congrArg some (by kernel_rfl))
 t0:=Tryz.underlying0
 a0:=Tryz.isAgg0
 z0:=Tryz.sizeOf0
 v0:=Tryz.zeroValue0
 t3:=Tryz.underlying3
 a3:=Tryz.isAgg3
 z3:=Tryz.sizeOf3
 v3:=Tryz.zeroValue3
 t4:=Tryz.underlying4
 a4:=Tryz.isAgg4
 z4:=Tryz.sizeOf4
 v4:=Tryz.zeroValue4
 t22:=Tryz.underlying35
 a22:=Tryz.isAgg35
 z22:=Tryz.sizeOf35
 v22:=Tryz.zeroValue35
 i3:=by kernel_rfl }
open Go.RowKit Go.Lib Go.Sort in
theorem Tryz.slices_Compact_int (blk off cap:Nat) (zs:List Int) (w:World) (hH:Holds (Value.int .i64) w blk off zs.toArray) (hsz:zs.length≤9223372036854775807) (hcap:zs.length≤cap) :
  Calls Tryz.prog 152 #[.slice (some ⟨blk,off,none⟩) zs.length cap] w fun e w'=>e=.returned (.slice (some ⟨blk,off,none⟩) (Lib.compact zs).length cap)∧∃ q,w'=putRow (Value.int .i64) (Sort.ahead w q) blk off (Lib.compact zs++List.replicate (zs.length - (Lib.compact zs).length) 0).toArray:=Any.slices_Compact_int Tryz.laysNm220 blk off cap zs w hH hsz hcap
open Go.RowKit Go.Lib Go.Sort in
theorem Tryz.slices_Compact_int_empty (a:Option Addr) (cap:Nat) (w:World) :
  Calls Tryz.prog 152 #[.slice a 0 cap] w fun e w'=>e=.returned (.slice a 0 cap)∧w'=w:=Any.slices_Compact_int_empty Tryz.laysNm220 a cap w
def Tryz.lays171_ren:Go.Shelf.Ren:=⟨fun | 171=>79 | 243=>127 | 246=>161 | 283=>176 | 284=>177 | 285=>178 | 286=>179 | 129=>197 | 317=>198 | 318=>199 | 319=>200 | 320=>201 | 337=>212 | 338=>213 | n=>n,fun | 3=>3 | 9=>9 | 2=>2 | 4=>4 | 171=>232 | 0=>0 | 53=>212 | 37=>235 | 5=>5 | 173=>236 | 212=>251 | 51=>133 | 20=>20 | 213=>252 | 46=>163 | 232=>267 | 233=>268 | n=>n,fun | 17=>0 | 18=>2 | 19=>3 | n=>n⟩
theorem Tryz.lays171:Go.Proofs.Lays.n171 Tryz.prog Tryz.lays171_ren:={
 mixed:=by kernel_rfl
 f129:=Tryz.func197.trans (congrArg some (by kernel_rfl))
 f171:=Tryz.func79.trans (congrArg some (by kernel_rfl))
 f243:=Tryz.func127.trans (congrArg some (by kernel_rfl))
 f246:=Tryz.func161.trans (congrArg some (by kernel_rfl))
 f283:=Tryz.func176.trans (congrArg some (by kernel_rfl))
 f284:=Tryz.func177.trans (congrArg some (by kernel_rfl))
 f285:=Tryz.func178.trans (congrArg some (by kernel_rfl))
 f286:=Tryz.func179.trans (congrArg some (by kernel_rfl))
 f317:=Tryz.func198.trans (congrArg some (by kernel_rfl))
 f318:=Tryz.func199.trans (congrArg some (by kernel_rfl))
 f319:=Tryz.func200.trans (congrArg some (by kernel_rfl))
 f320:=Tryz.func201.trans (congrArg some (by kernel_rfl))
 f337:=Tryz.func212.trans (congrArg some (by kernel_rfl))
 f338:=Tryz.func213.trans (congrArg some (by kernel_rfl))
 t0:=Tryz.underlying0
 a0:=Tryz.isAgg0
 z0:=Tryz.sizeOf0
 v0:=Tryz.zeroValue0
 t2:=Tryz.underlying2
 a2:=Tryz.isAgg2
 z2:=Tryz.sizeOf2
 v2:=Tryz.zeroValue2
 t3:=Tryz.underlying3
 a3:=Tryz.isAgg3
 z3:=Tryz.sizeOf3
 v3:=Tryz.zeroValue3
 t4:=Tryz.underlying4
 a4:=Tryz.isAgg4
 z4:=Tryz.sizeOf4
 v4:=Tryz.zeroValue4
 t5:=Tryz.underlying5
 a5:=Tryz.isAgg5
 z5:=Tryz.sizeOf5
 v5:=Tryz.zeroValue5
 t9:=Tryz.underlying9
 a9:=Tryz.isAgg9
 z9:=Tryz.sizeOf9
 v9:=Tryz.zeroValue9
 t20:=Tryz.underlying20
 a20:=Tryz.isAgg20
 z20:=Tryz.sizeOf20
 v20:=Tryz.zeroValue20
 t37:=Tryz.underlying235
 a37:=Tryz.isAgg235
 z37:=Tryz.sizeOf235
 v37:=Tryz.zeroValue235
 t46:=Tryz.underlying163
 a46:=Tryz.isAgg163
 z46:=Tryz.sizeOf163
 v46:=Tryz.zeroValue163
 t51:=Tryz.underlying133
 a51:=Tryz.isAgg133
 z51:=Tryz.sizeOf133
 v51:=Tryz.zeroValue133
 t53:=Tryz.underlying212
 a53:=Tryz.isAgg212
 z53:=Tryz.sizeOf212
 v53:=Tryz.zeroValue212
 t171:=Tryz.underlying232
 a171:=Tryz.isAgg232
 z171:=Tryz.sizeOf232
 v171:=Tryz.zeroValue232
 t173:=Tryz.underlying236
 a173:=Tryz.isAgg236
 z173:=Tryz.sizeOf236
 v173:=Tryz.zeroValue236
 t212:=Tryz.underlying251
 a212:=Tryz.isAgg251
 z212:=Tryz.sizeOf251
 v212:=Tryz.zeroValue251
 t213:=Tryz.underlying252
 a213:=Tryz.isAgg252
 z213:=Tryz.sizeOf252
 t232:=Tryz.underlying267
 a232:=Tryz.isAgg267
 z232:=Tryz.sizeOf267
 v232:=Tryz.zeroValue267
 t233:=Tryz.underlying268
 a233:=Tryz.isAgg268
 z233:=Tryz.sizeOf268
 v233:=Tryz.zeroValue268
 g17:=by kernel_rfl
 g18:=by kernel_rfl
 g19:=by kernel_rfl }
open Go.RowKit Go.Sort Go.Lib in
theorem Tryz.strconv_Itoa_small (i:Nat) (hi:i < 100) (w:World) :
  Calls Tryz.prog 79 #[.int .i64 i] w fun e w'=>e=.returned (.string ⟨(Lib.decDigits i).toArray⟩)∧w'=w:=Any.strconv_Itoa_small Tryz.lays171 i hi w
end Go.Proofs
namespace Go.Av
open Go.RowKit Go.Base Go.Proofs Go.Sort
def ai (x:Int):List Int→List Int
 | []=>[x]
 | y :: l=>if x≤y then x :: y :: l else y :: ai x l
def Db:List Int→List Int
 | []=>[]
 | x :: l=>ai x (Db l)
theorem Su (x:Int):∀ l,(ai x l).Perm (x :: l)
 | []=>List.Perm.refl _
 | y :: l=>by
  unfold ai
  split
  ·exact List.Perm.refl _
  ·exact((Su x l).cons y).trans (List.Perm.swap x y l)
theorem N9:∀ l,(Db l).Perm l
 | []=>List.Perm.refl _
 | x :: l=>(Su x _).trans ((N9 l).cons x)
theorem Va (x:Int):∀ l:List Int,l.Pairwise (·≤·)→(ai x l).Pairwise (·≤·)
 | [],_=>List.pairwise_singleton _ _
 | y :: l,h=>by
  unfold ai
  rw[List.pairwise_cons]at h
  split
  ·rename_i hx
   rw[List.pairwise_cons]
   refine⟨fun z hz=>?_,by rw[List.pairwise_cons];exact h⟩
   rcases List.mem_cons.1 hz with rfl | hz
   ·exact hx
   ·exact Int.le_trans hx (h.1 z hz)
  ·rename_i hx
   rw[List.pairwise_cons]
   refine⟨fun z hz=>?_,Va x l h.2⟩
   rcases List.mem_cons.1 ((Su x l).mem_iff.1 hz) with rfl | hz
   ·omega
   ·exact h.1 z hz
theorem O2:∀ l,(Db l).Pairwise (·≤·)
 | []=>List.Pairwise.nil
 | x :: l=>Va x _ (O2 l)
theorem sortI_eq (l:List Int):(l.mergeSort fun x y=>decide (x≤y))=Db l:=by
 have h1:(l.mergeSort fun x y=>decide (x≤y)).Pairwise (fun x y=>decide (x≤y)=true):=List.pairwise_mergeSort (fun a b c h1 h2=>by simp only[decide_eq_true_eq]at *;omega) (fun a b=>by simp only[Bool.or_eq_true,decide_eq_true_eq];omega) l
 refine List.Perm.eq_of_pairwise (le:=fun x y:Int=>x≤y) (fun a b _ _ h1 h2=>by omega) (h1.imp fun h=>by simpa using h) (O2 l) ((List.mergeSort_perm l _).trans (N9 l).symm)
theorem Mm (l:List Int):(Db l).length=l.length:=(N9 l).length_eq
def Ed (l:List Int):List Int:=Lib.compact l
theorem ni {l:List Int}:De (.sl 1 l.length (cF dI (Db l))) (A5 1 dI (Db l)):=by
 rw[← Mm l];exact De.rfl
theorem ei {μ:Nat→Nat→Option Value} {l:List Int} {n:Nat} {xs:List Value} (hn:n=l.length) (hx:xs.length=n) (h:Elems μ 1 n (cF dI l) xs):xs=l.map (Value.int .i64):=by
 subst hn
 apply List.ext_getElem?
 intro i
 by_cases hi:i < l.length
 ·obtain⟨u,h1,h2,h3,h4⟩:=h i hi
  have hc:cF dI l i=.int .i64 l[i]:=by simp[cF,List.getD_eq_getElem?_getD,List.getElem?_eq_getElem hi]
  rw[hc]at h1
  simp only[Rep]at h1
  subst h1
  have:=h4 0 (by omega)
  simp only[Nat.mul_one,Nat.add_zero]at this
  rw[this,List.getElem?_map,List.getElem?_eq_getElem hi]
  rfl
 ·rw[List.getElem?_eq_none (by omega),List.getElem?_eq_none (by simp;omega)]
theorem kt {μ:Nat→Nat→Option Value} {l:List Int}:Elems μ 1 l.length (cF dI l) (l.map (Value.int .i64)):=fun i hi=>by
 have hc:cF dI l i=.int .i64 l[i]:=by simp[cF,List.getD_eq_getElem?_getD,List.getElem?_eq_getElem hi]
 refine⟨.int .i64 l[i],by rw[hc];simp only[Rep],rfl,by simp[Value.cells,Value.oneCell'],fun j hj=>?_⟩
 obtain rfl:j=0:=by omega
 simp only[Nat.mul_one,Nat.add_zero]
 rw[List.getElem?_map,List.getElem?_eq_getElem hi]
 rfl
theorem Vj {own:Nat→Prop} {γ γ':G} {w w':World} {hp':List (Nat×Ob)} {g i:Nat} {o:Ob} {v:Value} (hz:Lb γ.μ w) (hg:w.grownBy w' (some g)) (kb:own g∧∀ k,γ.μ g k=none) (hμ:γ'.μ=γ.μ)
  (ho:∀ j o',Ae hp' j=some o'→o'.ok=true→j=i∧o'=o) (hi:γ'.ι i=some (.vec v 3 1)) (hv:v.ownBlock=some g) (hat:ObjAt γ' w' o (.vec v 3 1)):Hp own (Ae hp') (·∈([]:List Nat)) γ' w':=by
 refine⟨fun c k y hy=>?_,fun j o' h1 h2=>?_,fun a b oa ob p q h1 h2 h3 h4 hne _ _=>?_,fun t v e sz ht=>(by cases ht),fun s t v u ht=>(by cases ht)⟩
 ·rw[hμ]at hy
  have hc:some c≠some g:=fun e=>by injection e with e;rw[e,kb.2 k]at hy;cases hy
  rw[World.cell?_of_block (w:=w) (hg.block c (Jd hz hy) hc)]
  exact hz c k y hy
 ·obtain⟨rfl,rfl⟩:=ho j o' h1 h2
  refine⟨_,hi,hat,fun b hb=>?_⟩
  have:b=g:=by have e:v.ownBlock=some b:=hb;rw[hv]at e;injection e with e;exact e.symm
  subst this
  exact⟨kb.1,fun k=>by rw[hμ];exact kb.2 k⟩
 ·exact absurd ((ho a oa h1 h3).1.trans (ho b ob h2 h4).1.symm) hne
def Qc (γ:G) (p:Pl):G:=⟨γ.μ,fun j=>if j=16 then some p else γ.ι j,γ.τ⟩
theorem P9 {γ:G} {p:Pl}:(Qc γ p).ι 16=some p:=by simp[Qc]
theorem d7 {γ:G} {p:Pl} {i:Nat} (h:i < 16):(Qc γ p).ι i=γ.ι i:=by
 have:i≠16:=by omega
 simp[Qc,this]
noncomputable def Wb (a0:List Int):Option Unit:=if a0.length≤1000000 then some ()else none
noncomputable def je (a0:List Int) (y:Unit):OF:=⟨.tup [],[(0,.vec 3 1 a0.length (cF dI (Db a0)))],[]⟩
theorem posrt {a0:List Int} {r:Unit} (h:Wb a0=some r):Cq Tryz.prog 151 [.vec 0 1 a0.length] [(0,.vec 3 1 a0.length (cF dI a0))] [] (je a0 r):=by
 refine⟨⟨_,Tryz.func151,by kernel_rfl,by decide⟩,fun own γ w vs H big F hr=>?_⟩
 unfold Wb at h
 split at h
 ·rename_i hlen
  obtain⟨v,xs,k1,_,ow,hE,kb⟩:=H.vec (id:=0) (e:=3) (sz:=1) (n:=a0.length) (f:=cF dI a0) rfl
  simp only[RepAL,RepA]at hr
  obtain⟨v1,t1,rfl,⟨e,A,c,hv,hsl,_⟩,rfl⟩:=hr
  rw[k1]at hv
  injection hv with hv
  injection hv with hv _ _
  subst hv
  obtain⟨ow1,ow2⟩:=ow
  have hxs:=ei rfl (by rw[ow1,Nat.mul_one]) hE
  rcases ow2 with⟨hv,hn⟩ | ⟨g,cap,cur,rfl,_,hg,h3,h4,h5,h6⟩
  ·subst hv
   obtain rfl:a0=[]:=List.length_eq_zero_iff.1 hn
   refine(Tryz.slices_Sort_int_none none 0 w).mono ?_
   rintro e w' ⟨rfl,rfl⟩
   have e0:Db []=[]:=List.length_eq_zero_iff.1 (Mm [])
   exact⟨_,γ,rfl,LeM.refl _,fun _ _ _ h=>h,by unfold je;rw[e0];exact H,Base.refl _ _,by simp only[je,RepA,RepAL];exact⟨[],rfl,rfl⟩,fun _ _ _ _=>rfl⟩
  ·rw[Nat.mul_one]at h5 h6
   rw[hxs]at h6
   have hgs:g < w.heap.size:=(Array.getElem?_eq_some_iff.1 hg).1
   have kg:=kb g rfl
   refine(Tryz.slices_Sort_int g 0 cap a0 w (holds_of_blockI hg h6) hgs (by omega)).mono ?_
   rw[sortI_eq]
   rintro e w' ⟨rfl,n,os,rfl⟩
   have hgr:=grownBy_sortedI (w:=w) (g:=g) (n:=n) (os:=os) (Db a0).toArray
   refine⟨_,γ,rfl,LeM.refl _,fun _ _ _ h=>h,Vj (i:=0) (o:=.vec 3 1 a0.length (cF dI (Db a0))) H.fz hgr kg rfl (fun j o' h1 _=>?_) k1 rfl ?_,Kp hgr (fun g' e=>by injection e with e;subst e;exact kg.1),by simp only[je,RepA,RepAL];exact⟨[],rfl,rfl⟩,fun _ _ _ _=>rfl⟩
   ·simp only[je,Ae]at h1
    split at h1
    ·rename_i e;injection h1 with h1;exact⟨e.symm,h1.symm⟩
    ·cases h1
   ·refine⟨a0.length,_,(Db a0).map (Value.int .i64),rfl,by omega,?_,?_⟩
    ·exact ownsRow_sortedI (ss:=a0) (ts:=Db a0) (Mm a0) (Nat.zero_le _) hg h3 h4 (by rw[Nat.mul_one];exact h5)
    ·have:=kt (μ:=γ.μ) (l:=Db a0)
     rw[Mm]at this
     exact this
 ·cases h
noncomputable def Vz (a0:List Int):Option Unit:=if a0.length≤1000000 then some ()else none
noncomputable def kz (a0:List Int) (y:Unit):OF:=⟨.vec 16 1 (Ed a0).length,[(16,.vec 3 1 (Ed a0).length (cF dI (Ed a0))),(0,.gone)],[]⟩
theorem pm (l:List Int):(Ed l).length≤l.length:=Lib.compact_length_le l
theorem pocmp {a0:List Int} {r:Unit} (h:Vz a0=some r):Cq Tryz.prog 152 [.vec 0 1 a0.length] [(0,.vec 3 1 a0.length (cF dI a0))] [] (kz a0 r):=by
 refine⟨⟨_,Tryz.func152,by kernel_rfl,by decide⟩,fun own γ w vs H big F hr=>?_⟩
 unfold Vz at h
 split at h
 ·rename_i hlen
  obtain⟨v,xs,k1,_,ow,hE,kb⟩:=H.vec (id:=0) (e:=3) (sz:=1) (n:=a0.length) (f:=cF dI a0) rfl
  simp only[RepAL,RepA]at hr
  obtain⟨v1,t1,rfl,⟨e,A,c,hv,hsl,_⟩,rfl⟩:=hr
  rw[k1]at hv
  injection hv with hv
  injection hv with hv _ _
  subst hv
  obtain⟨ow1,ow2⟩:=ow
  have hxs:=ei rfl (by rw[ow1,Nat.mul_one]) hE
  have only:∀ (v':Value),∀ j o',Ae (kz a0 r).hp j=some o'→o'.ok=true→j=16∧o'=.vec 3 1 (Ed a0).length (cF dI (Ed a0)):=fun _ j o' h1 h2=>by
   simp only[kz,Ae]at h1
   split at h1
   ·rename_i e;injection h1 with h1;exact⟨e.symm,h1.symm⟩
   ·split at h1
    ·injection h1 with h1;subst h1;cases h2
    ·cases h1
  rcases ow2 with⟨hv,hn⟩ | ⟨g,cap,cur,rfl,_,hg,h3,h4,h5,h6⟩
  ·subst hv
   obtain rfl:a0=[]:=List.length_eq_zero_iff.1 hn
   have hnil:Ed []=[]:=List.length_eq_zero_iff.1 (Nat.le_zero.1 (pm []))
   refine(Tryz.slices_Compact_int_empty none 0 w).mono ?_
   rintro e w' ⟨rfl,rfl⟩
   refine⟨_,Qc γ (.vec (.slice none 0 0) 3 1),rfl,LeM.refl _,fun i b hi hb=>?_,?_,Base.refl _ _,?_,fun _ _ _ _=>rfl⟩
   ·rw[d7 hi];exact hb
   ·refine⟨H.fz,fun j o' h1 h2=>?_,fun a b oa ob p q h1 h2 h3 h4 hne _ _=>?_,fun t v e sz ht=>(by cases ht),fun s t v u ht=>(by cases ht)⟩
    ·obtain⟨rfl,rfl⟩:=only undef j o' h1 h2
     refine⟨.vec (.slice none 0 0) 3 1,P9,⟨0,_,[],by rw[hnil];rfl,by omega,⟨rfl,.inl ⟨rfl,rfl⟩⟩,fun i hi=>absurd hi (by omega)⟩,fun b hb=>by cases hb⟩
    ·exact absurd ((only undef a oa h1 h3).1.trans (only undef b ob h2 h4).1.symm) hne
   ·simp only[kz,RepA]
    rw[hnil]
    exact⟨_,none,0,P9,rfl,Nat.le_refl _,Nat.zero_le _,fun h=>absurd h (by simp)⟩
  ·rw[Nat.mul_one]at h5 h6
   rw[hxs]at h6
   have hgs:g < w.heap.size:=(Array.getElem?_eq_some_iff.1 hg).1
   have kg:=kb g rfl
   have hle:=pm a0
   refine(Tryz.slices_Compact_int g 0 cap a0 w (holds_of_blockI hg h6) (by omega) h3).mono ?_
   rintro e w' ⟨rfl,q,rfl⟩
   let d:Array Int:=(Lib.compact a0++List.replicate (a0.length - (Lib.compact a0).length) 0).toArray
   have hd:d.size=a0.length:=by
    have:(Lib.compact a0).length≤a0.length:=hle
    simp[d];omega
   have hgr:w.grownBy (putRow (Value.int .i64) (Sort.ahead w q) g 0 d) (some g):=by
    refine⟨rfl,rfl,rfl,by simp[putRow,mapBlock,Sort.ahead],fun k hk hne=>?_⟩
    have:g≠k:=fun e=>hne (by rw[e])
    simp[putRow,mapBlock,Sort.ahead,Array.getElem?_modify,this]
   have hcur:(putRow (Value.int .i64) (Sort.ahead w q) g 0 d).heap[g]?=some (.cells (putCells (Value.int .i64) 0 d cur) 3 (0,0)):=by
    simp[putRow,mapBlock,Sort.ahead,Array.getElem?_modify,hg,onCells]
   have htk:(putCells (Value.int .i64) 0 d cur).toList.take (Ed a0).length=(Ed a0).map (Value.int .i64):=by
    have h7:=take_putCellsI cur d.toList (by simp only[Array.length_toList];omega)
    simp only[Array.length_toList,Array.toArray_toList]at h7
    have h8:(putCells (Value.int .i64) 0 d cur).toList.take (Ed a0).length=((putCells (Value.int .i64) 0 d cur).toList.take d.size).take (Ed a0).length:=by
     rw[List.take_take];congr 1;omega
    rw[h8,h7]
    simp only[d,Ed,List.map_append,List.map_toArray]
    rw[List.take_append_of_le_length (by simp),List.take_of_length_le (by simp)]
   let v':Value:=.slice (some ⟨g,0,none⟩) (Ed a0).length cap
   refine⟨v',Qc γ (.vec v' 3 1),rfl,LeM.refl _,fun i b hi hb=>?_,Vj (i:=16) (v:=v') (γ:=γ) (w:=w) (w':=putRow (Value.int .i64) (Sort.ahead w q) g 0 d) H.fz hgr kg rfl (only undef) P9 rfl ?_,Kp hgr (fun g' e=>by injection e with e;subst e;exact kg.1),?_,fun _ _ _ _=>rfl⟩
   ·rw[d7 hi];exact hb
   ·refine⟨(Ed a0).length,_,(Ed a0).map (Value.int .i64),rfl,by omega,⟨by simp,.inr ⟨g,cap,_,rfl,Nat.zero_le _,hcur,by omega,h4,by simp[putCells];omega,by rw[Nat.mul_one];exact htk⟩⟩,kt⟩
   ·simp only[kz,RepA]
    exact⟨_,_,_,P9,rfl,by omega,h4,fun _=>⟨g,rfl⟩⟩
 ·cases h
noncomputable def g8 (a0:Int):Option (List UInt8):=if 0≤a0∧a0 < 100 then some (Lib.decDigits a0.toNat)else none
theorem p79 {a0:Int} {r:List UInt8} (h:g8 a0=some r):Aa Tryz.prog 79 [(dI a0)] (.str r):=by
 refine⟨⟨_,Tryz.func79,by kernel_rfl,by decide⟩,fun μ w vs hz hr=>?_⟩
 unfold g8 at h
 split at h
 ·rename_i hc
  obtain⟨i,rfl⟩:=Int.eq_ofNat_of_zero_le hc.1
  simp only[Option.some.injEq]at h
  subst h
  simp only[RepL,Rep]at hr
  obtain⟨v,t,rfl,rfl,rfl⟩:=hr
  refine(Tryz.strconv_Itoa_small i (by omega) w).mono ?_
  rintro e w' ⟨rfl,rfl⟩
  exact⟨_,μ,rfl,Below.refl _ _,fun _ _ _=>rfl,hz,by simp only[Rep,Int.toNat_natCast]⟩
 ·cases h
end Go.Av
namespace Go.Av
open Go.RowKit Go.Base Go.Proofs
theorem Yd {μ:Nat→Nat→Option Value} {w w':World} (hz:Lb μ w) (hb:Below w.heap.size w w') {v':Value} {te:TypeId} {sz n:Nat} {news:List Value} (hs:0 < sz) (ow:w'.ownsRow w.heap.size te sz v' n news) {f:Nat→D} (he:Elems μ sz n f news) :
  ∃ ν,(∀ b o,b < w.heap.size→ν b o=μ b o)∧Lb ν w'∧Rep ν (.sl sz n f) v':=by
 let ν:Nat→Nat→Option Value:=fun b k=>if b < w.heap.size then μ b k else w'.cell? ⟨b,k,none⟩
 have le:LeM μ ν:=fun b o v h=>by
  have hl:b < w.heap.size:=Jd hz h
  simp only[ν,if_pos hl];exact h
 refine⟨ν,fun b o h=>by simp only[ν,if_pos h],fun b o v h=>?_,?_⟩
 ·simp only[ν]at h
  split at h
  ·rename_i hl
   rw[World.cell?_of_block (w:=w) (hb.block b hl)]
   exact hz b o v h
  ·exact h
 ·simp only[Rep]
  rcases ow.2 with⟨rfl,rfl⟩ | ⟨g,cap,cur,rfl,hg0,hg,h3,h4,h5,h6⟩
  ·exact⟨none,0,rfl,Nat.le_refl _,Nat.zero_le _,fun h=>absurd h (by omega)⟩
  ·refine⟨_,cap,rfl,h3,h4,fun _=>⟨g,0,rfl,fun i hi=>?_⟩⟩
   obtain⟨u,q1,q2,q3,q4⟩:=he i hi
   refine⟨u,Rep.mono le _ _ q1,q2,q3,fun j hj=>?_⟩
   simp only[ν,if_neg (Nat.not_lt.2 hg0)]
   have hlt:i * sz+j < n * sz:=by
    have:(i+1) * sz≤n * sz:=Nat.mul_le_mul_right _ hi
    rw[Nat.add_mul]at this;omega
   have h7:=q4 j hj
   rw[← h6,List.getElem?_take,if_pos hlt]at h7
   rw[← h7,Nat.zero_add]
   simp[World.cell?,hg]
theorem S3 {μ:Nat→Nat→Option Value} {w:World} (hz:Lb μ w) {sz n:Nat} {f:Nat→D} {A:Option Addr} {a:Addr} (ha:A=some a) (h:0 < n→∃ b o,A=some ⟨b,o,none⟩∧∀ i,i < n→∃ u,Rep μ (f i) u∧u.cells.size=sz∧(∀ x∈u.cells,x.oneCell'=true)∧∀ j,j < sz→μ b (o+(i * sz+j))=u.cells[j]?) (hs:0 < sz) :
  ∃ news:List Value,news.length=n * sz∧(∀ j u,news[j]?=some u→w.cell? (a.add j)=some u)∧(∀ u∈news,u.oneCell'=true)∧Elems μ sz n f news:=by
 subst ha
 refine⟨(List.range (n * sz)).map fun k=>(w.cell? (a.add k)).getD undef,by simp,?_⟩
 rcases Nat.eq_zero_or_pos n with h0 | hn
 ·subst h0
  refine⟨fun j u h=>?_,fun u h=>?_,fun i hi=>absurd hi (by omega)⟩
  ·simp at h
  ·simp at h
 ·obtain⟨b,o,e,h'⟩:=h hn
  clear h
  injection e with e
  subst e
  have key:∀ i,i < n→∃ u,Rep μ (f i) u∧u.cells.size=sz∧(∀ x∈u.cells,x.oneCell'=true)∧∀ j,j < sz→w.cell? ((⟨b,o,none⟩:Addr).add (i * sz+j))=u.cells[j]?:=fun i hi=>by
   obtain⟨u,q1,q2,q3,q4⟩:=h' i hi
   refine⟨u,q1,q2,q3,fun j hj=>?_⟩
   have hlt:j < u.cells.size:=by omega
   have q5:=q4 j hj
   rw[Array.getElem?_eq_getElem hlt]at q5 ⊢
   rw[Addr.add_lit]
   exact hz _ _ _ q5
  have all:∀ k,k < n * sz→∃ u,w.cell? ((⟨b,o,none⟩:Addr).add k)=some u∧u.oneCell'=true:=fun k hk=>by
   have h1:k / sz < n:=Nat.div_lt_of_lt_mul (by rw[Nat.mul_comm];exact hk)
   have h2:k % sz < sz:=Nat.mod_lt _ hs
   obtain⟨u,q1,q2,q3,q4⟩:=key _ h1
   have h3:k / sz * sz+k % sz=k:=by rw[Nat.mul_comm];exact Nat.div_add_mod k sz
   have q5:=q4 _ h2
   rw[h3,Array.getElem?_eq_getElem (by omega)]at q5
   exact⟨_,q5,q3 _ (Array.getElem_mem _)⟩
  refine⟨fun j u h=>?_,fun u h=>?_,fun i hi=>?_⟩
  ·obtain⟨hj,h⟩:=List.getElem?_eq_some_iff.1 h
   have hj':j < n * sz:=by simpa using hj
   obtain⟨u',q1,_⟩:=all j hj'
   simp only[List.getElem_map,List.getElem_range,q1,Option.getD_some]at h
   rw[← h];exact q1
  ·obtain⟨k,hk,rfl⟩:=List.mem_map.1 h
   obtain⟨u',q1,q2⟩:=all k (by simpa using hk)
   simp only[q1,Option.getD_some];exact q2
  ·obtain⟨u,q1,q2,q3,q4⟩:=key i hi
   refine⟨u,q1,q2,q3,fun j hj=>?_⟩
   have hlt:i * sz+j < n * sz:=by
    have:(i+1) * sz≤n * sz:=Nat.mul_le_mul_right _ hi
    rw[Nat.add_mul]at this;omega
   rw[List.getElem?_map,List.getElem?_range hlt,Option.map_some,q4 j hj,Array.getElem?_eq_getElem (by omega),Option.getD_some]
set_option maxHeartbeats 1000000 in
set_option maxRecDepth 100000 in
theorem clone_s (a:Addr) (n c:Nat) (news:List Value) (w:World) (hl:news.length=n) (hn:n≤maxLen) (hbig:n * 16≤140737488355328) (hc:∀ j u,news[j]?=some u→w.cell? (a.add j)=some u) (h1:∀ u∈news,u.oneCell'=true) :
  Calls Tryz.prog 77 #[.slice (some a) n c] w fun e w'=>∃ v',e=.returned v'∧w'.ownsRow w.heap.size 9 1 v' n news∧Below w.heap.size w w':=by
 obtain⟨i0,hi,hh⟩:=Option.map_eq_some_iff.1 (show (Tryz.prog.info? 9).map (fun i=>(i.zero,i.size,i.bytes))=some (some (.string ⟨#[]⟩),1,16) by kernel_rfl)
 injection hh with hz0 hh
 injection hh with hz1 hz2
 have q22:∀ (w:World) (a:Option Addr) (n c n' c':Nat),(binOp .eql 22 (.slice a n c) (.slice none n' c')).run Tryz.prog w=.ok (.bool a.isNone) w:=fun w a n c n' c'=>Lib.run_eql_slice_nil w _ _ a n c n' c' Tryz.underlying22
 have A:Aside (∀ j u,news[j]?=some u→w.cell? (a.add j)=some u):=hc
 clear hc
 go_enter Tryz.func77,Tryz.ntmps77
 go_wp2_with (at_builtin;refine wpList_append_own _ rfl _ _ 22 rfl w.heap.size 9 i0 (.string ⟨#[]⟩) 1 16 Tryz.underlying22 hi hz0 hz1 hz2 rfl (by decide) _ _ _ rfl (World.ownsRow_made w #[] 0 (Nat.le_refl _) (Nat.zero_le _) (by simp)) a n c news rfl ?qc1 ?qc2 ?qc3 ?qc4 ?qc5 ?qc6 ?_)
 case qc1=>rw[Nat.mul_one];exact hl
 case qc2 =>
  intro j u hj
  exact Lib.cell?_alloc_some _ (A.out j u hj)
 case qc3=>exact h1
 case qc4=>rw[Nat.zero_add];exact hn
 case qc5=>rw[Nat.zero_add];exact hbig
 case qc6=>simp
 intro v' w1 hown hgrow hnil
 go_wp2
 go_ret
 refine⟨v',rfl,by simpa using hown,?_⟩
 exact((Below.refl _ w).alloc (Nat.le_refl _) _).grown hgrow (by simp) (by intro k hk;simp[Value.ownBlock]at hk;omega)
set_option maxHeartbeats 1000000 in
set_option maxRecDepth 100000 in
theorem ov (n c:Nat) (w:World):Calls Tryz.prog 77 #[.slice none n c] w fun e w'=>e=.returned (.slice none 0 0)∧w'=w:=by
 have q22:∀ (w:World) (a:Option Addr) (n c n' c':Nat),(binOp .eql 22 (.slice a n c) (.slice none n' c')).run Tryz.prog w=.ok (.bool a.isNone) w:=fun w a n c n' c'=>Lib.run_eql_slice_nil w _ _ a n c n' c' Tryz.underlying22
 go_enter Tryz.func77,Tryz.ntmps77
 go_wp2
 go_ret
 exact⟨rfl,rfl⟩
noncomputable def qn (a0:List (List UInt8)):Option (List (List UInt8)):=if a0.length≤1000000 then some a0 else none
theorem p77 {a0 r:List (List UInt8)} (h:qn a0=some r):Aa Tryz.prog 77 [(A5 1 D.str a0)] (A5 1 D.str r):=by
 refine⟨⟨_,Tryz.func77,by kernel_rfl,by decide⟩,fun μ w vs hz hr=>?_⟩
 unfold qn at h
 split at h
 ·rename_i hlen
  simp only[Option.some.injEq]at h
  subst h
  simp only[A5,RepL,Rep]at hr
  obtain⟨v,t,rfl,⟨A,c,rfl,hnc,hc,hA⟩,rfl⟩:=hr
  cases A with
  | none =>
   have h0:a0.length=0:=by
    rcases Nat.eq_zero_or_pos a0.length with h | h
    ·exact h
    ·obtain⟨b,o,e,_⟩:=hA h;cases e
   refine(ov _ c w).mono ?_
   rintro e w' ⟨rfl,rfl⟩
   refine⟨_,μ,rfl,Below.refl _ _,fun _ _ _=>rfl,hz,?_⟩
   simp only[A5,Rep,h0]
   exact⟨none,0,rfl,Nat.le_refl _,Nat.zero_le _,fun h=>absurd h (by omega)⟩
  | some a =>
   obtain⟨news,n1,n2,n3,n4⟩:=S3 (w:=w) hz (sz:=1) (n:=a0.length) (f:=cF D.str a0) (A:=some a) rfl (fun h=>by
    obtain⟨b,o,e,k⟩:=hA h
    exact⟨b,o,e,fun i hi=>by obtain⟨u,q1,q2,q3,q4⟩:=k i hi;exact⟨u,q1,q2,q3,fun j hj=>by rw[← q4 j hj,Nat.add_assoc]⟩⟩) (by omega)
   refine(clone_s a a0.length c news w (by rw[n1,Nat.mul_one]) (by omega) (by omega) n2 n3).mono ?_
   rintro e w' ⟨v',rfl,ow,bel⟩
   obtain⟨ν,k1,k2,k3⟩:=Yd hz bel (by omega) ow n4
   exact⟨_,ν,rfl,bel,k1,k2,k3⟩
 ·cases h
set_option maxHeartbeats 1000000 in
set_option maxRecDepth 100000 in
theorem clone_l (a:Addr) (n c:Nat) (news:List Value) (w:World) (hl:news.length=n * 2) (hn:n≤maxLen) (hbig:n * 16≤140737488355328) (hc:∀ j u,news[j]?=some u→w.cell? (a.add j)=some u) (h1:∀ u∈news,u.oneCell'=true) :
  Calls Tryz.prog 78 #[.slice (some a) n c] w fun e w'=>∃ v',e=.returned v'∧w'.ownsRow w.heap.size 116 2 v' n news∧Below w.heap.size w w':=by
 obtain⟨i0,hi,hh⟩:=Option.map_eq_some_iff.1 (show (Tryz.prog.info? 116).map (fun i=>(i.zero.map (·.cells.size),i.size,i.bytes))=some (some 2,2,16) by kernel_rfl)
 injection hh with hz0 hh
 injection hh with hz1 hz2
 obtain⟨z,hz0,hzs⟩:=Option.map_eq_some_iff.1 hz0
 have q22:∀ (w:World) (a:Option Addr) (n c n' c':Nat),(binOp .eql 83 (.slice a n c) (.slice none n' c')).run Tryz.prog w=.ok (.bool a.isNone) w:=fun w a n c n' c'=>Lib.run_eql_slice_nil w _ _ a n c n' c' Tryz.underlying83
 have A:Aside (∀ j u,news[j]?=some u→w.cell? (a.add j)=some u):=hc
 clear hc
 go_enter Tryz.func78,Tryz.ntmps78
 go_wp2_with (at_builtin;refine wpList_append_own _ rfl _ _ 83 rfl w.heap.size 116 i0 z 2 16 Tryz.underlying83 hi hz0 hz1 hz2 hzs (by decide) _ _ _ rfl (World.ownsRow_made w #[] 0 (Nat.le_refl _) (Nat.zero_le _) (by simp)) a n c news rfl ?qc1 ?qc2 ?qc3 ?qc4 ?qc5 ?qc6 ?_)
 case qc1=>exact hl
 case qc2 =>
  intro j u hj
  exact Lib.cell?_alloc_some _ (A.out j u hj)
 case qc3=>exact h1
 case qc4=>rw[Nat.zero_add];exact hn
 case qc5=>rw[Nat.zero_add];exact hbig
 case qc6=>simp
 intro v' w1 hown hgrow hnil
 go_wp2
 go_ret
 refine⟨v',rfl,by simpa using hown,?_⟩
 exact((Below.refl _ w).alloc (Nat.le_refl _) _).grown hgrow (by simp) (by intro k hk;simp[Value.ownBlock]at hk;omega)
set_option maxHeartbeats 1000000 in
set_option maxRecDepth 100000 in
theorem oo (n c:Nat) (w:World):Calls Tryz.prog 78 #[.slice none n c] w fun e w'=>e=.returned (.slice none 0 0)∧w'=w:=by
 have q22:∀ (w:World) (a:Option Addr) (n c n' c':Nat),(binOp .eql 83 (.slice a n c) (.slice none n' c')).run Tryz.prog w=.ok (.bool a.isNone) w:=fun w a n c n' c'=>Lib.run_eql_slice_nil w _ _ a n c n' c' Tryz.underlying83
 go_enter Tryz.func78,Tryz.ntmps78
 go_wp2
 go_ret
 exact⟨rfl,rfl⟩
noncomputable def Xm {α:Type} (a0:List α):Option (List α):=if a0.length≤1000000 then some a0 else none
theorem clone_lit {α:Type} [Inhabited α] {en:α→D} {a0 r:List α} (h:Xm a0=some r):Aa Tryz.prog 78 [(A5 2 en a0)] (A5 2 en r):=by
 refine⟨⟨_,Tryz.func78,by kernel_rfl,by decide⟩,fun μ w vs hz hr=>?_⟩
 unfold Xm at h
 split at h
 ·rename_i hlen
  simp only[Option.some.injEq]at h
  subst h
  simp only[A5,RepL,Rep]at hr
  obtain⟨v,t,rfl,⟨A,c,rfl,hnc,hc,hA⟩,rfl⟩:=hr
  cases A with
  | none =>
   have h0:a0.length=0:=by
    rcases Nat.eq_zero_or_pos a0.length with h | h
    ·exact h
    ·obtain⟨b,o,e,_⟩:=hA h;cases e
   refine(oo _ c w).mono ?_
   rintro e w' ⟨rfl,rfl⟩
   refine⟨_,μ,rfl,Below.refl _ _,fun _ _ _=>rfl,hz,?_⟩
   simp only[A5,Rep,h0]
   exact⟨none,0,rfl,Nat.le_refl _,Nat.zero_le _,fun h=>absurd h (by omega)⟩
  | some a =>
   obtain⟨news,n1,n2,n3,n4⟩:=S3 (w:=w) hz (sz:=2) (n:=a0.length) (f:=cF en a0) (A:=some a) rfl (fun h=>by
    obtain⟨b,o,e,k⟩:=hA h
    exact⟨b,o,e,fun i hi=>by obtain⟨u,q1,q2,q3,q4⟩:=k i hi;exact⟨u,q1,q2,q3,fun j hj=>by rw[← q4 j hj,Nat.add_assoc]⟩⟩) (by omega)
   refine(clone_l a a0.length c news w n1 (by omega) (by omega) n2 n3).mono ?_
   rintro e w' ⟨v',rfl,ow,bel⟩
   obtain⟨ν,k1,k2,k3⟩:=Yd hz bel (by omega) ow n4
   exact⟨_,ν,rfl,bel,k1,k2,k3⟩
 ·cases h
theorem dec_step {n:Nat} (h:¬ n < 10):Lib.decDigits n=Lib.decDigits (n / 10)++Lib.decDigits (n % 10):=by
 rw[Lib.decDigits,dif_neg h,Lib.decDigits_one (i:=n % 10) (by omega)]
theorem nd_le {n:Nat} (h:n < 1000):Lib.nDigits n≤100:=by
 unfold Lib.nDigits
 split
 ·omega
 ·unfold Lib.nDigits
  split
  ·omega
  ·unfold Lib.nDigits
   split
   ·omega
   ·omega
theorem enc_all:(List.range 10).all (fun m=>(Utf8.encode (48+(m:Int))).data==#[UInt8.ofNat (48+m)])=true:=by kernel_rfl
theorem enc_one {m:Nat} (h:m < 10):Utf8.encode (48+(m:Int))=⟨(Lib.decDigits m).toArray⟩:=by
 have:=enc_all
 simp only[List.all_eq_true]at this
 have h2:=this m (List.mem_range.2 h)
 rw[Lib.decDigits_one h]
 have h3:=eq_of_beq h2
 cases e:Utf8.encode (48+(m:Int)) with
 | mk d=>rw[e]at h3;simp only at h3;rw[h3]
set_option maxHeartbeats 1000000 in
set_option maxRecDepth 100000 in
theorem dig_call:∀ (n:Nat),n < 1000→∀ (w:World),Calls Tryz.prog 81 #[.int .i64 n] w fun e w'=>e=.returned (.string ⟨(Lib.decDigits n).toArray⟩)∧w'=w:=by
 intro n
 induction n using Nat.strongRecOn with
 | _ n ih =>
  intro hn w
  have t1:=Tryz.underlying3
  have t2:=Tryz.underlying21
  have t3:=Tryz.underlying9
  by_cases h10:n < 10
  ·go_enter Tryz.func81,Tryz.ntmps81
   go_wp2
   go_ret
   have e0:=enc_one h10
   refine⟨?_,rfl⟩
   generalize Utf8.encode (48+(n:Int))=s at e0 ⊢
   subst e0
   rfl
  ·obtain⟨s1,hs1⟩:∃ s1,s1=Lib.decDigits (n / 10):=⟨_,rfl⟩
   obtain⟨s2,hs2⟩:∃ s2,s2=Lib.decDigits (n % 10):=⟨_,rfl⟩
   have c1:=ih (n / 10) (by omega) (by omega)
   have c2:=ih (n % 10) (by omega) (by omega)
   rw[show ((n / 10:Nat):Int)=(n:Int) / 10 from by omega,← hs1]at c1
   rw[show ((n % 10:Nat):Int)=(n:Int) % 10 from by omega,← hs2]at c2
   have e3:Lib.decDigits n=s1++s2:=by rw[hs1,hs2];exact dec_step h10
   have l1:s1.length≤100:=by
    rw[hs1,Lib.decDigits_length];exact nd_le (by omega)
   have l2:s2.length≤100:=by
    rw[hs2,Lib.decDigits_length];exact nd_le (by omega)
   rw[e3]
   clear ih e3 hs1 hs2
   go_enter Tryz.func81,Tryz.ntmps81
   go_wp2_with (go_at_call 81;have k1:=c1 w;refine k1.mono ?_;rintro e w1 ⟨rfl,rfl⟩)
   go_wp2_with (go_at_call 81;refine(c2 _).mono ?_;rintro e w1 ⟨rfl,rfl⟩)
   go_ret
   refine⟨?_,rfl⟩
   have e5:(({ data:=s1.toArray }:ByteArray)++({ data:=s2.toArray }:ByteArray))={ data:=(s1++s2).toArray }:=by
    apply ByteArray.ext
    simp
   rw[← e5]
   rfl
noncomputable def ji (a0:Int):Option (List UInt8):=if 0≤a0∧a0 < 1000 then some (Lib.decDigits a0.toNat)else none
theorem p81 {a0:Int} {r:List UInt8} (h:ji a0=some r):Aa Tryz.prog 81 [(dI a0)] (.str r):=by
 refine⟨⟨_,Tryz.func81,by kernel_rfl,by decide⟩,fun μ w vs hz hr=>?_⟩
 unfold ji at h
 split at h
 ·rename_i hc
  obtain⟨i,rfl⟩:=Int.eq_ofNat_of_zero_le hc.1
  simp only[Option.some.injEq]at h
  subst h
  simp only[RepL,Rep]at hr
  obtain⟨v,t,rfl,rfl,rfl⟩:=hr
  have k1:=dig_call i (by omega) w
  refine k1.mono ?_
  rintro e w' ⟨rfl,rfl⟩
  exact⟨_,μ,rfl,Below.refl _ _,fun _ _ _=>rfl,hz,by simp only[Rep,Int.toNat_natCast]⟩
 ·cases h
end Go.Av
namespace Go.Av
open Go.RowKit Go.Base Go.Proofs
noncomputable def cg (a0:List B7):Option (List B7):=Xm a0
theorem p78 {a0:List B7} {r:List B7} (h:cg a0=some r):Aa Tryz.prog 78 [(A5 2 Ax a0)] (A5 2 Ax r):=clone_lit h
end Go.Av
