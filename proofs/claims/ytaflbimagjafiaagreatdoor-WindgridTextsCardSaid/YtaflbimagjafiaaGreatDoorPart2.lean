/- A part of the proof. -/
import Derived.Test.YtaflbimagjafiaaGreatDoorPart1
import Derived.Tactics
import Derived.Orders
import Derived.KernelRfl
import Derived.LoopN
import Derived.Deep.Slices
import Derived.ProofKit
import Derived.OpenShut
set_option linter.unusedVariables false
set_option linter.unusedSimpArgs false
noncomputable section
namespace Go.Av
open Go.RowKit Go.Base
variable {P:Program} {γ γ':G} {w w':World} {own:Nat→Prop} {hp:Nat→Option Ob} {live:Nat→Prop} {ρ:Operand→Value}
theorem jp {μ:Nat→Nat→Option Value} {v:Value} {d:D} (h:S3 v=some d):Rep μ d v:=by
 cases v<;>simp only[S3,Option.some.injEq,reduceCtorEq]at h<;>subst h<;>simp only[Rep]
theorem jq {μ:Nat→Nat→Option Value}:∀ {l:List Value} {ds:List D},Kh l=some ds→RepL μ ds l
 | [],ds,h=>by simp only[Kh,Option.some.injEq]at h;subst h;simp only[RepL]
 | v :: l,ds,h=>by
  simp only[Kh]at h
  split at h
  ·rename_i d r h1 h2
   simp only[Option.some.injEq]at h
   subst h
   simp only[RepL]
   exact⟨v,l,rfl,jp h1,jq h2⟩
  ·cases h
theorem rn {cs:Array Value}:S2 (.agg cs)=(Kh cs.toList).map .agg:=rfl
theorem zx {v:Value} {d:D} (h:S2 v=some d):S3 v=some d∨∃ cs l,v=.agg cs∧Kh cs.toList=some l∧d=.agg l:=by
 cases v with
 | agg cs =>
  rw[rn]at h
  obtain⟨l,h1,rfl⟩:=Option.map_eq_some_iff.1 h
  exact .inr ⟨cs,l,rfl,h1,rfl⟩
 | _=>exact .inl h
theorem rep_unV {μ:Nat→Nat→Option Value} {v:Value} {d:D} (h:S2 v=some d):Rep μ d v:=by
 rcases zx h with h | ⟨cs,l,rfl,h1,rfl⟩
 ·exact jp h
 ·simp only[Rep]
  exact⟨cs.toList,by simp,jq h1⟩
theorem Wm {v:Value} {d:D} (h:S3 v=some d):Fw d=true:=by
 cases v<;>simp only[S3,Option.some.injEq,reduceCtorEq]at h<;>subst h<;>rfl
theorem ao:∀ {l:List Value} {ds:List D},Kh l=some ds→ds.all Fw=true
 | [],ds,h=>by simp only[Kh,Option.some.injEq]at h;subst h;rfl
 | v :: l,ds,h=>by
  simp only[Kh]at h
  split at h
  ·rename_i d r h1 h2
   simp only[Option.some.injEq]at h
   subst h
   rw[List.all_cons,Wm h1,ao h2];rfl
  ·cases h
theorem wa {d:D} (h:Fw d=true):Lr d=true:=by
 cases d<;>first | exact h | cases h
theorem V3 {v:Value} {d:D} (h:S2 v=some d):Lr d=true:=by
 rcases zx h with h | ⟨cs,l,rfl,h1,rfl⟩
 ·exact wa (Wm h)
 ·exact ao h1
theorem ke {μ:Nat→Nat→Option Value} {v:Value} {d:D} (hf:Fw d=true) (h:Rep μ d v):S3 v=some d:=by
 cases d<;>simp only[Fw,Bool.false_eq_true]at hf<;>simp only[Rep]at h<;>subst h<;>rfl
theorem kf {μ:Nat→Nat→Option Value}:∀ {ds:List D} {l:List Value},ds.all Fw=true→RepL μ ds l→Kh l=some ds
 | [],l,_,h=>by simp only[RepL]at h;subst h;rfl
 | d :: ds,l,hf,h=>by
  simp only[RepL]at h
  obtain⟨v,t,rfl,h1,h2⟩:=h
  rw[List.all_cons,Bool.and_eq_true]at hf
  simp only[Kh,ke hf.1 h1,kf hf.2 h2]
theorem unV_rep {μ:Nat→Nat→Option Value} {v:Value} {d:D} (hf:Lr d=true) (h:Rep μ d v):S2 v=some d:=by
 cases d with
 | agg l =>
  simp only[Rep]at h
  obtain⟨vs,rfl,h2⟩:=h
  rw[rn]
  have:Kh vs.toArray.toList=some l:=by simpa using kf hf h2
  rw[this];rfl
 | bool b=>have h1:=ke (d:=.bool b) rfl h;simp only[Rep]at h;subst h;rfl
 | int k n=>simp only[Rep]at h;subst h;rfl
 | str s=>simp only[Rep]at h;subst h;rfl
 | _=>cases hf
theorem af {a b:D} (ha:Fw a=true) (hb:Fw b=true) (h:Ln a=Ln b):a=b:=by
 cases a<;>simp only[Fw,Bool.false_eq_true]at ha<;>cases b<;>simp only[Fw,Bool.false_eq_true]at hb<;>simp only[Ln,DataW.lit.injEq,reduceCtorEq,Lit.bool.injEq,Lit.int.injEq,Lit.string.injEq]at h
 ·rw[h]
 ·rw[h.1,h.2]
 ·rw[h]
theorem ag:∀ {a b:List D},a.all Fw=true→b.all Fw=true→a.map Ln=b.map Ln→a=b
 | [],[],_,_,_=>rfl
 | [],_ :: _,_,_,h=>by simp at h
 | _ :: _,[],_,_,h=>by simp at h
 | x :: a,y :: b,ha,hb,h=>by
  rw[List.all_cons,Bool.and_eq_true]at ha hb
  simp only[List.map_cons,List.cons.injEq]at h
  rw[af ha.1 hb.1 h.1,ag ha.2 hb.2 h.2]
theorem AAB {a b:D} (ha:Lr a=true) (hb:Lr b=true) (h:K8 a=K8 b):a=b:=by
 cases a with
 | agg l =>
  cases b with
  | agg l'=>simp only[K8,DataW.agg.injEq]at h;rw[ag ha hb h]
  | _=>first | (simp only[K8,Ln,reduceCtorEq]at h) | cases hb
 | _=>cases b<;>first | exact af ha hb h | (simp only[K8,Ln,reduceCtorEq]at h) | cases ha | cases hb
theorem Mp {t k e:TypeId} {z:D} (h:fg P t=some (k,e,z)):P.underlying t=some (.map k e)∧P.underlying k=some .string∧∃ i v,P.info? e=some i∧i.zero=some v∧S2 v=some z:=by
 unfold fg at h
 split at h
 ·rename_i k' e' hu
  split at h
  ·rename_i i hk hi
   split at h
   ·rename_i v hv
    obtain⟨d,h1,h2⟩:=Option.map_eq_some_iff.1 h
    simp only[Prod.mk.injEq]at h2
    obtain⟨rfl,rfl,rfl⟩:=h2
    exact⟨hu,hk,i,v,hi,hv,h1⟩
   ·cases h
  ·cases h
 ·cases h
theorem GmIs.at {k e:TypeId} {n:Nat} {h:List UInt8→Bool} {f:List UInt8→D} {o:Go.Obj} (hm:GmIs P k e n h f o) {b:Nat} (hb:w.heap[b]?=some o) :
  ∃ D0 i z z0,w.ownsMap P k Jh b n D0∧Maps.size D0=n∧P.underlying k=some .string∧P.info? e=some i∧i.zero=some z∧S2 z=some z0∧GmV h f z0 D0:=by
 obtain⟨es,clock,i,z,z0,rfl,F,hn,hk,hi,hz,hu,hv⟩:=hm
 refine⟨_,i,z,z0,⟨es,clock,hb,F,Nat.le_of_eq hn,rfl⟩,?_,hk,hi,hz,hu,hv⟩
 simp only[Maps.size,length_sorted,List.length_map,Array.length_toList]
 exact hn
theorem GmIs.of {k e:TypeId} {n m b:Nat} {h:List UInt8→Bool} {f:List UInt8→D} {D0:DataW Unit} {i:TypeInfo} {z:Value} {z0:D} (hm:w.ownsMap P k Jh b m D0) (hs:Maps.size D0=n) (hk:P.underlying k=some .string) (hi:P.info? e=some i) (hz:i.zero=some z) (hu:S2 z=some z0) (hv:GmV h f z0 D0) :
  ∃ o,w.heap[b]?=some o∧GmIs P k e n h f o:=by
 obtain⟨es,clock,hb,F,h1,rfl⟩:=hm
 refine⟨_,hb,es,clock,i,z,z0,rfl,F,?_,hk,hi,hz,hu,hv⟩
 simpa only[Maps.size,length_sorted,List.length_map,Array.length_toList] using hs
theorem kx (H:Hp own hp live γ w) {id:Nat} (h1:γ.ι id=none) (h2:γ.τ id=none) (hid:hp id=none) (hlv:¬ live id) (hown:∀ b,w.heap.size≤b→own b) {o:Oper} {t:TypeId} (ho:o.op=.makeMap t none) (hk:(Sk P id t).quiet.ok=true) :
  Does P own hp live γ w ρ o id (Sk P id t).quiet:=by
 obtain⟨⟨k,e,z0⟩,hm,h3⟩:=Az hk
 unfold Sk at hk ⊢
 rw[h3]at hk ⊢
 obtain⟨hu,hks,i,z,hi,hz,huz⟩:=Mp hm
 have hmade:(w.alloc (.map #[] 0)).ownsMap P k Jh w.heap.size 0 (.map []):=World.ownsMap_made w P k _
 obtain⟨x,hx,his⟩:=GmIs.of (e:=e) (n:=0) (h:=fun _=>false) (f:=fun _=>z0) hmade rfl hks hi hz huz (fun key _=>⟨rfl,V3 huz,rfl⟩)
 have hx':(w.alloc (.map #[] 0)).heap[w.heap.size]?=some (.map #[] 0):=heap_alloc_new w _
 rw[hx']at hx
 injection hx with hx
 subst hx
 obtain⟨γ',h6⟩:=Kf H h1 h2 hid hlv hown (.gm P k e 0 (fun _=>false) fun _=>z0) (.map #[] 0) (fun _ _=>his) (.mp id) (.map (some w.heap.size)) (fun γ' hi=>by simp only[RepA];exact⟨_,hi,rfl⟩)
 refine K9 rfl rfl rfl ⟨_,_,γ',?_,h6⟩
 unfold execOp
 simp only[ho]
 simp[run_makeMap]
theorem Wt (H:Hp own hp live γ w) {id:Nat} {k e:TypeId} {n:Nat} {h:List UInt8→Bool} {f:List UInt8→D} (hid:hp id=some (.gm P k e n h f)) {v:Value} (hm:RepA γ (.mp id) v) :
  ∃ b o,γ.ι id=some (.blk b)∧v=.map (some b)∧w.heap[b]?=some o∧GmIs P k e n h f o:=by
 simp only[RepA]at hm
 obtain⟨b,e1,e2⟩:=hm
 obtain⟨b',o,g1,g2,g3,_⟩:=H.blk hid rfl
 rw[e1]at g1
 injection g1 with g1
 injection g1 with g1
 subst g1
 exact⟨b,o,e1,e2,g2,g3⟩
theorem lg (H:Hp own hp live γ w) {o:Oper} {t:TypeId} {m x:Operand} {ok:Bool} (ho:o.op=.lookup t m x ok) {p q:AV} (hm:RepA γ p (ρ m)) (hx:RepA γ q (ρ x)) (hk:(Hz P t hp p q ok).ok=true) (hob:∀ z∈(Hz P t hp p q ok).ob,z) :
  Stay P γ w ρ o (Hz P t hp p q ok).v:=by
 obtain⟨⟨k,e,zz⟩,hT,h3⟩:=Az hk
 unfold Hz at hk hob ⊢
 rw[h3]at hk hob ⊢
 dsimp only at hk hob ⊢
 obtain⟨hu,hks,_⟩:=Mp hT
 split at hk
 ·rename_i s
  split at hk
  ·rename_i id
   split at hk
   ·rename_i P' k' e' n h f hid
    split at hk
    ·rename_i hc
     obtain⟨rfl,rfl⟩:=hc
     simp only[hid,and_self,if_true,Q.when,List.mem_cons,List.not_mem_nil,or_false,forall_eq_or_imp,forall_eq]at hob ⊢
     obtain⟨rfl,hlen⟩:=hob
     obtain⟨b,ob,e1,e2,g2,g3⟩:=Wt H hid hm
     obtain⟨D0,i,z,z0,hD,_,_,hi,hz,huz,hv⟩:=g3.at g2
     simp only[RepA,Rep]at hx
     obtain⟨f1,f2,f3⟩:=hv s hlen
     have hzr:(zeroValue e').run P' w=.ok z w:=N2 hi hz
     have hkey:keyOf P' k' (.string ⟨⟨s⟩⟩)=some (.string s):=Go.WideMaps.keyOf_string_mk hks (show (⟨⟨s⟩⟩:ByteArray).size≤maxLen from hlen)
     have hzd:Jh z=some (K8 z0,[]):=by simp only[Jh,huz,Option.map_some]
     have fin:∀ {v:Value} {ps:List MemPlace},Jh v=some (D0.atKey (.string s) (K8 z0),ps)→Rep γ.μ (f s) v:=fun {v ps} hv=>by
      unfold Jh at hv
      obtain⟨d,q1,q2⟩:=Option.map_eq_some_iff.1 hv
      simp only[Prod.mk.injEq]at q2
      have:d=f s:=AAB (V3 q1) f2 (q2.1.trans f3)
      subst this
      exact rep_unV q1
     cases ok with
     | true =>
      obtain⟨v,ps,hrun,hv⟩:=hD.look_ok (Go.Maps.string_keyed hks) hu hzr hzd hkey
      rw[f1]at hrun
      refine⟨_,?_,by simp only[RepA,Rep];exact⟨[_,_],rfl,by simp only[RepL,Rep];exact⟨_,_,rfl,fin hv,_,_,rfl,rfl,rfl⟩⟩⟩
      unfold execOp
      simp only[ho,e2,hx]
      rw[Sem.run_bind,hrun]
      rfl
     | false =>
      obtain⟨v,ps,hrun,hv⟩:=hD.lookup (Go.Maps.string_keyed hks) hu hzr hzd hkey
      refine⟨_,?_,by simp only[RepA];exact fin hv⟩
      unfold execOp
      simp only[ho,e2,hx]
      rw[Sem.run_bind,hrun]
      rfl
    ·cases hk
   ·cases hk
  ·cases hk
 ·cases hk
theorem GmV.put {h:List UInt8→Bool} {f:List UInt8→D} {z0 d:D} {D0:DataW Unit} (hv:GmV h f z0 D0) (hm:Maps.IsMap D0) (hd:Lr d=true) {s:List UInt8} (hkl:WideAt.IsKeyLit (.string s)) :
  GmV (fun q=>q==s || h q) (fun q=>if q=s then d else f q) z0 (D0.put (.string s) (K8 d)):=fun key hlen=>by
 by_cases hks:key=s
 ·subst hks
  rw[Maps.has_put_same hm hkl,Maps.atKey_put_same hm hkl]
  simp[hd]
 ·have hne:(Lit.string key)≠.string s:=fun h=>hks (by injection h)
  rw[Maps.has_put_other hne,Maps.atKey_put_other hne]
  have:(key==s)=false:=by simpa using hks
  simpa [this,hks] using hv key hlen
theorem GmV.del {h:List UInt8→Bool} {f:List UInt8→D} {z0:D} {D0:DataW Unit} (hv:GmV h f z0 D0) (hz:Lr z0=true) {s:List UInt8} :
  GmV (fun q=>!(q==s)&&h q) (fun q=>if q=s then z0 else f q) z0 (D0.del (.string s)):=fun key hlen=>by
 by_cases hks:key=s
 ·subst hks
  rw[Maps.has_del_same,Maps.atKey_del_same]
  simp[hz]
 ·have hne:(Lit.string key)≠.string s:=fun h=>hks (by injection h)
  rw[Maps.has_del_other hne,Maps.atKey_del_other hne]
  have:(key==s)=false:=by simpa using hks
  simpa [this,hks] using hv key hlen
theorem We (H:Hp own hp live γ w) (id:Nat) {o:Oper} {t:TypeId} {m x y:Operand} (ho:o.op=.mapUpdate t m x y∨o.op=.insert t m x y) {p q r:AV} (hm:RepA γ p (ρ m)) (hx:RepA γ q (ρ x)) (hy:RepA γ r (ρ y)) (hk:(Er P t hp p q r).ok=true) (hob:∀ z∈(Er P t hp p q r).ob,z) :
  Does P own hp live γ w ρ o id (Er P t hp p q r):=by
 obtain⟨⟨k,e,zz⟩,hT,h3⟩:=Az hk
 unfold Er at hk hob ⊢
 rw[h3]at hk hob ⊢
 dsimp only at hk hob ⊢
 obtain⟨hu,hks,_⟩:=Mp hT
 split at hk
 ·rename_i s d
  split at hk
  ·rename_i mid
   split at hk
   ·rename_i P' k' e' n h f hid
    split at hk
    ·rename_i hc
     obtain⟨rfl,rfl,hd⟩:=hc
     simp only[hid,hd,and_self,if_true,List.mem_cons,List.not_mem_nil,or_false,forall_eq_or_imp,forall_eq]at hob ⊢
     obtain⟨rfl,hlen,hn⟩:=hob
     obtain⟨b,ob,e1,e2,g2,g3⟩:=Wt H hid hm
     obtain⟨D0,i,z,z0,hD,hsz,_,hi,hz,huz,hv⟩:=g3.at g2
     simp only[RepA,Rep]at hx hy
     have hkey:keyOf P' k' (.string ⟨⟨s⟩⟩)=some (.string s):=Go.WideMaps.keyOf_string_mk hks (show (⟨⟨s⟩⟩:ByteArray).size≤maxLen from hlen)
     have hkl:WideAt.IsKeyLit (.string s):=(Go.Maps.string_keyed hks).key hkey
     have hval:Jh (ρ y)=some (K8 d,[]):=by simp only[Jh,unV_rep hd hy,Option.map_some]
     obtain⟨w',hrun,hD',hgr⟩:=hD.update (Go.Maps.string_keyed hks) hu hn hkey hval
     have hsz':Maps.size (D0.put (.string s) (K8 d))=if h s=true then n else n+1:=by
      rw[Maps.size_put (hD.tidy (Go.Maps.string_keyed hks)),(hv s hlen).1,hsz]
     obtain⟨x',hx',his⟩:=GmIs.of (e:=e') hD' hsz' hks hi hz huz (hv.put hD.isMap hd hkl)
     refine⟨undef,w',γ,.inr ⟨rfl,?_⟩,D5 H id hid rfl e1 hgr hx' (by simp only[RepO];exact his) (by simp only[RepA]) _ rfl rfl rfl rfl⟩
     unfold execOp
     rcases ho with ho | ho<;>simp only[ho,e2,hx]<;>rw[Sem.run_bind,hrun]<;>rfl
    ·cases hk
   ·cases hk
  ·cases hk
 ·cases hk
theorem sn (H:Hp own hp live γ w) (id:Nat) {o:Oper} {args:Array Operand} {ts:Array TypeId} (ho:o.op=.call { callee:=.builtin .delete,args:=args,argTypes:=ts }) (e:Operand→AV) (hr:∀ y∈args,RepA γ (e y) (ρ y))
  (hk:(Fk P hp (args.toList.map e) ts.toList).ok=true) (hob:∀ z∈(Fk P hp (args.toList.map e) ts.toList).ob,z) :
  Does P own hp live γ w ρ o id (Fk P hp (args.toList.map e) ts.toList):=by
 unfold Fk at hk hob ⊢
 split at hk
 ·rename_i p q t k2 ha ht
  obtain⟨y1,y2,rfl,rfl,rfl⟩:∃ y1 y2,args=#[y1,y2]∧e y1=p∧e y2=q:=by
   obtain⟨l⟩:=args
   match l,ha with
   | [a,b],ha=>simp at ha;exact⟨a,b,rfl,ha.1,ha.2⟩
  obtain rfl:ts=#[t,k2]:=Array.toList_inj.1 ht
  simp only[List.map_cons,List.map_nil]at hk hob ⊢
  have hm:=hr y1 (by simp)
  have hx:=hr y2 (by simp)
  obtain⟨⟨k,ee,z1⟩,hT,h3⟩:=Az hk
  rw[h3]at hk hob ⊢
  dsimp only at hk hob ⊢
  obtain⟨hu,hks,i1,v1,hi1,hz1,hu1⟩:=Mp hT
  generalize e y1=p at *
  generalize e y2=q at *
  split at hk
  ·rename_i s
   split at hk
   ·rename_i mid
    split at hk
    ·rename_i P' k' e' n h f hid
     split at hk
     ·rename_i hc
      obtain⟨rfl,rfl,rfl⟩:=hc
      simp only[hid,and_self,if_true,List.mem_cons,List.not_mem_nil,or_false,forall_eq_or_imp,forall_eq]at hob ⊢
      obtain⟨rfl,hlen⟩:=hob
      obtain⟨b,ob,e1,e2,g2,g3⟩:=Wt H hid hm
      obtain⟨D0,i,z,z0,hD,hsz,_,hi,hz,huz,hv⟩:=g3.at g2
      obtain rfl:z1=z0:=by
       rw[hi]at hi1;injection hi1 with hi1;subst hi1
       rw[hz]at hz1;injection hz1 with hz1;subst hz1
       rw[huz]at hu1;injection hu1 with hu1;exact hu1.symm
      simp only[RepA,Rep]at hx
      have hkey:keyOf P' k2 (.string ⟨⟨s⟩⟩)=some (.string s):=Go.WideMaps.keyOf_string_mk hks (show (⟨⟨s⟩⟩:ByteArray).size≤maxLen from hlen)
      obtain⟨w',hrun,hD',hgr⟩:=hD.drop (Go.Maps.string_keyed hks) hu hkey o.type
      have hsz':Maps.size (D0.del (.string s))=if h s=true then n - 1 else n:=by
       have:=Maps.size_del (k:=.string s) (hD.tidy (Go.Maps.string_keyed hks))
       rw[(hv s hlen).1,hsz]at this
       split at this<;>rename_i hh<;>simp only[hh,if_true,Bool.false_eq_true,if_false]<;>omega
      obtain⟨x',hx',his⟩:=GmIs.of (e:=e') hD' hsz' hks hi hz huz (hv.del (V3 huz))
      refine⟨.tuple #[],w',γ,.inl ?_,D5 H id hid rfl e1 hgr.grown hx' (by simp only[RepO];exact his) (by simp only[RepA]) _ rfl rfl rfl rfl⟩
      unfold execOp
      simp only[ho]
      simp[resolve,invoke,builtin,e2,hx,hrun,Result.andThen]
     ·cases hk
    ·cases hk
   ·cases hk
  ·cases hk
 ·cases hk
theorem uf (H:Hp own hp live γ w) {o:Oper} {args:Array Operand} {ts:Array TypeId} (ho:o.op=.call { callee:=.builtin .len,args:=args,argTypes:=ts }) (e:Operand→AV) (hr:∀ y∈args,RepA γ (e y) (ρ y))
  (hk:(L1 P hp (args.toList.map e) ts.toList).ok=true) (hob:∀ z∈(L1 P hp (args.toList.map e) ts.toList).ob,z):Stay P γ w ρ o (L1 P hp (args.toList.map e) ts.toList).v:=by
 unfold L1 at hk hob ⊢
 split at hk
 ·rename_i p t ha ht
  obtain⟨y1,rfl,rfl⟩:∃ y1,args=#[y1]∧e y1=p:=by
   obtain⟨l⟩:=args
   match l,ha with
   | [a],ha=>simp at ha;exact⟨a,rfl,ha⟩
  obtain rfl:ts=#[t]:=Array.toList_inj.1 ht
  simp only[List.map_cons,List.map_nil]at hk hob ⊢
  have hm:=hr y1 (by simp)
  obtain⟨⟨k,ee,z1⟩,hT,h3⟩:=Az hk
  rw[h3]at hk hob ⊢
  dsimp only at hk hob ⊢
  obtain⟨hu,hks,_⟩:=Mp hT
  generalize e y1=p at *
  split at hk
  ·rename_i mid
   split at hk
   ·rename_i P' k' e' n h f hid
    split at hk
    ·rename_i hc
     obtain⟨rfl,rfl⟩:=hc
     simp only[hid,and_self,if_true,Q.when,List.mem_cons,List.not_mem_nil,or_false,forall_eq_or_imp,forall_eq]at hob ⊢
     subst hob
     obtain⟨b,ob,e1,e2,g2,g3⟩:=Wt H hid hm
     obtain⟨D0,i,z,z0,hD,hsz,_⟩:=g3.at g2
     have hrun:=hD.len hu o.type
     rw[hsz]at hrun
     refine⟨.int .i64 n,?_,by simp only[RepA,Rep]⟩
     unfold execOp
     simp only[ho]
     simp[resolve,invoke,builtin,e2,hrun,Result.andThen]
    ·cases hk
   ·cases hk
  ·cases hk
 ·cases hk
def E5 (P:Program) (id:Nat) (t:TypeId) (l c:AV):Q :=
 B6 (Jg P t) fun el=>B6 (Lm l) fun n=>B6 (Lm c) fun m=>B6 (O5 P el) fun z=>B6 (Jx z) fun ds=>B6 (P.info? el) fun i =>
  if Es P el=true∧i.size=ds.length∧0 < ds.length∧ds.all D.one=true then { ob:=[0≤n,n=m,n * i.bytes≤140737488355328,n≤9223372036854775807],v:=.vec id i.size n.toNat,new:=some (.vec el i.size n.toNat fun _=>.agg ds) } else .no
theorem made_at (zs:Array Value) (n:Nat) {k j:Nat} (hk:k < n) (hj:j < zs.size):(madeCells zs (n * zs.size))[k * zs.size+j]?=zs[j]?:=by
 have hlt:k * zs.size+j < n * zs.size:=by
  have:(k+1) * zs.size≤n * zs.size:=Nat.mul_le_mul_right _ hk
  rw[Nat.add_mul]at this;omega
 have hm:(k * zs.size+j) % zs.size=j:=by rw[Nat.mul_comm,Nat.mul_add_mod,Nat.mod_eq_of_lt hj]
 simp[madeCells,hlt,hm,hj]
theorem em (H:Hp own hp live γ w) {id:Nat} (h1:γ.ι id=none) (h2:γ.τ id=none) (hid:hp id=none) (hlv:¬ live id) (hown:∀ b,w.heap.size≤b→own b) {o:Oper} {t:TypeId} {l c:Operand}
  (ho:o.op=.makeSlice t l c) {p q:AV} (hl:RepA γ p (ρ l)) (hc:RepA γ q (ρ c)) (hk:(E5 P id t p q).ok=true) (hob:∀ z∈(E5 P id t p q).ob,z):Does P own hp live γ w ρ o id (E5 P id t p q):=by
 unfold E5 at hk hob ⊢
 obtain⟨el,hel,h3⟩:=Az hk
 rw[h3]at hk hob ⊢
 obtain⟨n,hn,h4⟩:=Az hk
 rw[h4]at hk hob ⊢
 obtain⟨m,hm,h5⟩:=Az hk
 rw[h5]at hk hob ⊢
 obtain⟨z,hz,h6⟩:=Az hk
 rw[h6]at hk hob ⊢
 obtain⟨ds,hds,h7⟩:=Az hk
 rw[h7]at hk hob ⊢
 obtain⟨i,hi,h8⟩:=Az hk
 rw[h8]at hk hob ⊢
 have hu:=Dj hel
 obtain⟨i',zv,hi',hzv,rfl⟩:=Gy hz
 obtain rfl:i'=i:=by rw[hi]at hi';injection hi' with hi';exact hi'.symm
 obtain⟨k1,hk1⟩:=Fb hn hl
 obtain⟨k2,hk2⟩:=Fb hm hc
 split at hk
 ·rename_i hcond
  rw[if_pos hcond]at hob ⊢
  obtain⟨c0,c1,c2,c3⟩:=hcond
  simp only[List.mem_cons,List.not_mem_nil,or_false,forall_eq_or_imp,forall_eq]at hob
  obtain⟨o1,rfl,o3,o4⟩:=hob
  obtain⟨nn,rfl⟩:=Int.eq_ofNat_of_zero_le o1
  have hcell:zv.cells.toList.map Df=ds.map .d:=Qm hds
  have hsz:zv.cells.size=i'.size:=by
   have:=congrArg List.length hcell
   simp only[List.length_map,Array.length_toList]at this
   omega
  have hrun:=run_make w t el i' zv hu hi hzv k1 k2 (nn:Int) (nn:Int) (by omega) (by omega) (by rw[Int.mul_comm];omega) (by omega)
  rw[Int.toNat_natCast]at hrun
  have hR:RepL γ.μ ds zv.cells.toList:=by
   have key:∀ (ds:List D) (vs:List Value),vs.map Df=ds.map .d→RepL γ.μ ds vs:=by
    intro ds
    induction ds with
    | nil=>intro vs h;cases vs with
     | nil=>simp only[RepL]
     | cons v vs=>cases h
    | cons d ds ih =>
     intro vs h
     cases vs with
     | nil=>cases h
     | cons v vs =>
      simp only[List.map_cons,List.cons.injEq]at h
      simp only[RepL]
      refine⟨v,vs,rfl,?_,ih vs h.2⟩
      have:=J5 (γ:=γ) v
      rw[h.1]at this
      simpa only[RepA] using this
   exact key ds _ hcell
  have hone:∀ x∈zv.cells,x.oneCell'=true:=by
   have:=Ec (γ:=γ) (RepAL.of_map hR) (by simpa [List.all_map,Function.comp_def,AV.one] using c3)
   exact fun x hx=>this x (by simpa using hx)
  let w':=w.alloc (.cells (madeCells zv.cells (nn * i'.size)) el)
  have ow:w'.ownsRow 0 el i'.size (.slice (some ⟨w.heap.size,0,none⟩) nn nn) nn (madeCells zv.cells (nn * i'.size)).toList :=
   ⟨by simp[size_madeCells],.inr ⟨w.heap.size,nn,_,rfl,Nat.zero_le _,heap_alloc_new w _,Nat.le_refl _,by unfold maxLen;omega,size_madeCells _ _,by rw[List.take_of_length_le (by simp[size_madeCells])]⟩⟩
  have hF:Elems γ.μ i'.size nn (fun _=>.agg ds) (madeCells zv.cells (nn * i'.size)).toList:=fun k hk=>by
   refine⟨.agg zv.cells,?_,hsz,hone,fun j hj=>?_⟩
   ·simp only[Rep]
    exact⟨zv.cells.toList,by simp,hR⟩
   ·have:=made_at zv.cells nn hk (j:=j) (by omega)
    rw[hsz]at this
    simpa [Value.cells] using this
  obtain⟨n1,n2,n3⟩:=Q7 H
  obtain⟨γ',h4⟩:=Me H h1 h2 hid hlv none (by omega) ow hF (Gb ((Below.refl _ w).alloc (Nat.le_refl _) _) _)
   (fun g hg=>by simp[Value.ownBlock]at hg;exact hown g (by omega)) (fun g hg=>by simp[Value.ownBlock]at hg;subst hg;exact n1)
   (fun g j oj q hg hj hok _ hq=>by simp[Value.ownBlock]at hg;subst hg;exact n2 j oj q hj hok hq) (fun g t u hg ht hq=>by simp[Value.ownBlock]at hg;subst hg;exact n3 t u ht hq)
  refine⟨.slice (some ⟨w.heap.size,0,none⟩) nn nn,w',γ',.inl ?_,?_⟩
  ·unfold execOp
   simp only[ho]
   rw[hk1,hk2,Sem.run_bind,hrun];rfl
  ·rw[Eo rfl,Du rfl]
   show Stp own hp live γ w id _ (G6 id false live) _ _ γ' w'
   rw[C5]
   exact h4
 ·cases hk
theorem g9 {P:Program} {id:Nat} {t:TypeId} {l c:AV}:(E5 P id t l c).mo=none∧(E5 P id t l c).kill=none∧(E5 P id t l c).tok=false∧(E5 P id t l c).upd=none:=by
 have o:∀ {α:Type} {x:Option α} {f:α→Q},(∀ a,(f a).mo=none∧(f a).kill=none∧(f a).tok=false∧(f a).upd=none)→(B6 x f).mo=none∧(B6 x f).kill=none∧(B6 x f).tok=false∧(B6 x f).upd=none:=fun {α x f} h=>by
  cases x with
  | none=>exact⟨rfl,rfl,rfl,rfl⟩
  | some a=>exact h a
 unfold E5
 refine o fun el=>o fun n=>o fun m=>o fun z=>o fun ds=>o fun i=>?_
 split<;>exact⟨rfl,rfl,rfl,rfl⟩
def F5 (P:Program) (id:Nat) (t:TypeId) (len:Nat) (parts:List (Nat×Operand)) (e:Operand→AV):Q :=
 match Jg P t with
 | some el=>B6 (Gh e (At P el) 0 parts) fun ds =>
   if ds.length=len∧0 < len∧len * At P el≤16777216∧0 < At P el∧(O5 P el).isSome=true then { v:=.vec id (At P el) len,new:=some (.vec el (At P el) len (Bc ds)) } else .no
 | none=>.no
theorem ky (H:Hp own hp live γ w) {id:Nat} (h1:γ.ι id=none) (h2:γ.τ id=none) (hid:hp id=none) (hlv:¬ live id) (hown:∀ b,w.heap.size≤b→own b) {o:Oper} {t:TypeId} {len:Nat} {parts:Array (Nat×Operand)}
  (ho:o.op=.buildSlice t len parts) (e:Operand→AV) (hr:∀ p∈parts.toList,RepA γ (e p.2) (ρ p.2)) (hk:(F5 P id t len parts.toList e).ok=true):Does P own hp live γ w ρ o id (F5 P id t len parts.toList e):=by
 unfold F5 at hk ⊢
 split at hk
 ·rename_i el hel
  have hu:=Dj hel
  obtain⟨ds,hd,h3⟩:=Az hk
  rw[h3]at hk
  rw[h3]
  split at hk
  ·rename_i hc
   obtain⟨hlen,hl0,hsm,hpos,hzz⟩:=hc
   simp only[hlen,hl0,hsm,hpos,hzz,and_self,if_true]
   obtain⟨cs0,hz⟩:=Option.isSome_iff_exists.1 hzz
   obtain⟨i,z,hi,hz,_⟩:=Gy hz
   have hsz:i.size=At P el:=by simp[At,hi]
   obtain⟨p1,p2,p3⟩:=Oe (γ:=γ) parts.toList 0 ds hd hr
   have vsz:∀ v∈parts.toList.map (fun p=>ρ p.2),v.cells.size=At P el:=by
    intro v hv
    obtain⟨k,hk2,rfl⟩:=List.mem_iff_getElem.1 hv
    have hk3:k < ds.length:=by rw[p2];simpa using hk2
    obtain⟨u,q1,q2,q3,_⟩:=p3 k ds[k] (List.getElem?_eq_getElem hk3)
    rw[List.getElem?_eq_getElem hk2]at q1
    injection q1 with q1
    rw[q1];exact q3
   obtain⟨r,f1,f2,f3⟩:=Great.fill_dense hpos (parts.toList.map fun p=>ρ p.2) 0 ((Array.range (len * i.size)).map (z.cells[· % z.cells.size]!)) vsz (by simp[hsz];rw[show parts.size=len by rw[← hlen,p2];simp];exact Nat.le_refl _)
   have hlp:parts.size=len:=by rw[← hlen,p2];simp
   have f2':r.size=len * At P el:=by rw[f2];simp[hsz]
   let w':=w.alloc (.cells r el)
   have run:(Instr.buildSlice t len (parts.map fun(i,x)=>(i,ρ x))).run P w=.ok (.slice (some ⟨w.heap.size,0,none⟩) len len) w':=by
    refine run_buildSlice w t el len _ r i z hu hi hz (by rw[hsz];omega) ?_ ?_
    ·rw[hsz];exact Nat.mul_ne_zero (by omega) (by omega)
    ·rw[← f1,← p1,hsz];simp
   have hlen63:len≤maxLen:=by
    have:len * 1≤len * At P el:=Nat.mul_le_mul_left _ hpos
    unfold maxLen;omega
   have ow:w'.ownsRow 0 el (At P el) (.slice (some ⟨w.heap.size,0,none⟩) len len) len r.toList :=
    ⟨by simp[f2'],.inr ⟨w.heap.size,len,r,rfl,Nat.zero_le _,heap_alloc_new w _,Nat.le_refl _,hlen63,f2',by rw[List.take_of_length_le (by simp[f2'])]⟩⟩
   have hF:Elems γ.μ (At P el) len (Bc ds) r.toList:=fun k hk=>by
    have hk3:k < ds.length:=by omega
    obtain⟨u,q1,q2,q3,q4⟩:=p3 k ds[k] (List.getElem?_eq_getElem hk3)
    refine⟨u,?_,q3,q4,fun j hj=>?_⟩
    ·have:Bc ds k=ds[k]:=by simp[Bc,hk3]
     rw[this]
     exact q2
    ·have hlt:k * At P el+j < len * At P el:=by
      have:(k+1) * At P el≤len * At P el:=Nat.mul_le_mul_right _ (by omega)
      rw[Nat.add_mul]at this;omega
     have:r.toList[k * At P el+j]?=r[k * At P el+j]?:=by simp
     rw[this,f3,if_pos (by simp[hlp];omega)]
     rw[Nat.mul_comm k,Nat.mul_add_div hpos,Nat.div_eq_of_lt hj,Nat.mul_add_mod,Nat.mod_eq_of_lt hj,Nat.add_zero,Nat.sub_zero,q1]
     rfl
   obtain⟨n1,n2,n3⟩:=Q7 H
   obtain⟨γ',h4⟩:=Me H h1 h2 hid hlv none hpos ow hF (Gb ((Below.refl _ w).alloc (Nat.le_refl _) _) _)
    (fun g hg=>by simp[Value.ownBlock]at hg;exact hown g (by omega)) (fun g hg=>by simp[Value.ownBlock]at hg;subst hg;exact n1)
    (fun g j oj q hg hj hok _ hq=>by simp[Value.ownBlock]at hg;subst hg;exact n2 j oj q hj hok hq) (fun g t u hg ht hq=>by simp[Value.ownBlock]at hg;subst hg;exact n3 t u ht hq)
   refine⟨.slice (some ⟨w.heap.size,0,none⟩) len len,w',γ',.inl ?_,?_⟩
   ·unfold execOp
    simp only[ho]
    rw[Sem.run_bind,run];rfl
   ·rw[Eo rfl,Du rfl]
    show Stp own hp live γ w id _ (G6 id false live) _ _ γ' w'
    rw[C5]
    exact h4
  ·cases hk
 ·cases hk
theorem lk {P:Program} {id:Nat} {t:TypeId} {len:Nat} {parts:List (Nat×Operand)} {e:Operand→AV}:(F5 P id t len parts e).mo=none∧(F5 P id t len parts e).kill=none∧(F5 P id t len parts e).tok=false∧(F5 P id t len parts e).upd=none:=by
 unfold F5
 split
 ·cases Gh e (At P _) 0 parts with
  | none=>exact⟨rfl,rfl,rfl,rfl⟩
  | some ds=>simp only[B6];split<;>exact⟨rfl,rfl,rfl,rfl⟩
 ·exact⟨rfl,rfl,rfl,rfl⟩
end Go.Av
namespace Go.Av
open Go.RowKit Go.Base
variable {P:Program} {γ γ':G} {w w':World} {own:Nat→Prop} {hp:Nat→Option Ob} {live:Nat→Prop} {ρ:Operand→Value}
theorem AAn (H:Hp own hp live γ w) {id:Nat} (h1:γ.ι id=none) (h2:γ.τ id=none) (hid:hp id=none) (hlv:¬ live id) (hown:∀ b,w.heap.size≤b→own b) {o:Oper} (e:Operand→AV)
  (hr:(∀ c a b,o.op≠.pick c a b)→∀ x∈o.op.operands,RepA γ (e x) (ρ x)) (hpick:∀ c a b,o.op=.pick c a b→RepA γ (e c) (ρ c)∧(∀ x,e c=.d (.bool x)→x=true→RepA γ (e a) (ρ a))∧(∀ x,e c=.d (.bool x)→x=false→RepA γ (e b) (ρ b)))
  (hcst:∀ v,ρ (.const v)=v) (hk:(Bw P o.op e hp id).ok=true) (hob:∀ z∈(Bw P o.op e hp id).ob,z) (hkill:∀ tk,(Bw P o.op e hp id).kill=some tk→live tk):Does P own hp live γ w ρ o id (Bw P o.op e hp id):=by
 cases hop:o.op with
 | pick c a b =>
  rw[hop]at hr hk hob
  obtain⟨p1,p2,p3⟩:=hpick c a b hop
  exact(zo (P:=P) (w:=w) hop e hcst p1 p2 p3 hk hob).does H id _ rfl rfl rfl rfl rfl
 | move x=>rw[hop]at hr hk hob;exact(bu (.inl hop) (hr (by intros;simp) x (by simp[Op.operands]))).does H id _ rfl rfl rfl rfl rfl
 | assign x=>rw[hop]at hr hk hob;exact(bu (.inr hop) (hr (by intros;simp) x (by simp[Op.operands]))).does H id _ rfl rfl rfl rfl rfl
 | alloc t=>rw[hop]at hk;exact sm H h1 h2 hid hlv hown hop hk
 | box t x=>rw[hop]at hr hk;exact AAD H h1 h2 hid hlv hown hop (hr (by intros;simp) x (by simp[Op.operands])) hk
 | build t parts =>
  rw[hop]at hr hk
  exact(uc hop e (fun p hp=>hr (by intros;simp) p.2 (by simp[Op.operands];exact⟨p.1,by simpa using hp⟩)) hk).does H id _ rfl rfl rfl rfl rfl
 | buildSlice t len parts =>
  rw[hop]at hr hk
  exact Wd H h1 h2 hid hlv hown hop e (fun p hp=>hr (by intros;simp) p.2 (by simp[Op.operands];exact⟨p.1,by simpa using hp⟩)) hk
 | load t a =>
  rw[hop]at hr hk hob
  simp only[Bw]at hk hob ⊢
  split at hk
  ·rename_i hs
   obtain⟨d,hd⟩:=Option.isSome_iff_exists.1 hs
   simp only[hs,if_true]at hob ⊢
   exact(zn H hop hd (e a) (hr (by intros;simp) a (by simp[Op.operands])) hk hob).does H id _ rfl rfl rfl rfl rfl
  ·cases hk
 | fieldAddr t x i=>rw[hop]at hr hk;exact(Z4 hop (hr (by intros;simp) x (by simp[Op.operands])) hk).does H id _ rfl rfl rfl rfl rfl
 | field t x i=>rw[hop]at hr hk;exact(ue hop (hr (by intros;simp) x (by simp[Op.operands])) hk).does H id _ rfl rfl rfl rfl rfl
 | indexAddr t x i=>rw[hop]at hr hk hob;exact(Z5 hop (hr (by intros;simp) x (by simp[Op.operands])) (hr (by intros;simp) i (by simp[Op.operands])) hk hob).does H id _ rfl rfl rfl rfl rfl
 | index t x i=>rw[hop]at hr hk hob;exact(ug hop (hr (by intros;simp) x (by simp[Op.operands])) (hr (by intros;simp) i (by simp[Op.operands])) hk hob).does H id _ rfl rfl rfl rfl rfl
 | slice t x lo hi mx =>
  rw[hop]at hr hk hob
  cases mx with
  | none=>exact(uh hop e (hr (by intros;simp) x (by simp[Op.operands])) (fun y hy=>hr (by intros;simp) y (by simp[Op.operands,hy])) (fun y hy=>hr (by intros;simp) y (by simp[Op.operands,hy])) hk hob).does H id _ rfl rfl rfl rfl rfl
  | some m=>cases hk
 | extract x i=>rw[hop]at hr hk;exact(k9 hop (hr (by intros;simp) x (by simp[Op.operands])) hk).does H id _ rfl rfl rfl rfl rfl
 | binOp op t x y t2 =>
  rw[hop]at hr hk hob
  by_cases hn:Xh y=true
  ·simp only[Bw,hn,if_true]at hk ⊢
   exact(AAw hop (hr (by intros;simp) x (by simp[Op.operands])) (hr (by intros;simp) y (by simp[Op.operands])) hn hk).does H id _ rfl rfl rfl rfl rfl
  ·simp only[Bw,if_neg hn]at hk hob ⊢
   exact(AAv hop (hr (by intros;simp) x (by simp[Op.operands])) (hr (by intros;simp) y (by simp[Op.operands])) hk hob).does H id _ rfl rfl rfl rfl rfl
 | unOp op t x=>rw[hop]at hr hk;exact(stay_un hop (hr (by intros;simp) x (by simp[Op.operands])) hk).does H id _ rfl rfl rfl rfl rfl
 | convert s t x =>
  rw[hop]at hr hk hob
  by_cases hT:Wb P s t=true
  ·simp only[Bw,hT,if_true]at hk hob ⊢
   exact(ud H.fz hop (hr (by intros;simp) x (by simp[Op.operands])) hT hk hob).does H id _ rfl rfl rfl rfl rfl
  ·simp only[Bw,if_neg hT]at hk hob ⊢
   exact(k8 hop (hr (by intros;simp) x (by simp[Op.operands])) hk).does H id _ rfl rfl rfl rfl rfl
 | makeFunc fn first cap=>rw[hop]at hr hk;exact(cm hop e (fun y hy=>hr (by intros;simp) y (by simp[Op.operands,hy])) hk).does H id _ rfl rfl rfl rfl rfl
 | nilCheck x=>rw[hop]at hr hk;exact(cn hop (hr (by intros;simp) x (by simp[Op.operands])) hk).does H id _ rfl rfl rfl rfl rfl
 | makeSlice t l c=>rw[hop]at hr hk hob;exact Yg H h1 h2 hid hlv hown hop (hr (by intros;simp) l (by simp[Op.operands])) (hr (by intros;simp) c (by simp[Op.operands])) hk hob
 | makeMap t r =>
  rw[hop]at hk
  cases r with
  | none =>
   simp only[Bw]at hk ⊢
   split at hk
   ·rename_i hm;rw[if_pos hm];exact ej H h1 h2 hid hlv hown hop hk
   ·rename_i hm;rw[if_neg hm];exact kx H h1 h2 hid hlv hown hop hk
  | some r=>cases hk
 | lookup t m x b =>
  rw[hop]at hr hk hob
  have a1:=hr (by intros;simp) m (by simp[Op.operands])
  have a2:=hr (by intros;simp) x (by simp[Op.operands])
  simp only[Bw]at hk hob ⊢
  split at hk
  ·rename_i hm;rw[if_pos hm]at hob ⊢;exact(lh H hop a1 a2 hk hob).does H id _ rfl rfl rfl rfl rfl
  ·rename_i hm;rw[if_neg hm]at hob ⊢;exact(lg H hop a1 a2 hk hob).does H id _ rfl rfl rfl rfl rfl
 | mapUpdate t m x y =>
  rw[hop]at hr hk hob
  have a1:=hr (by intros;simp) m (by simp[Op.operands])
  have a2:=hr (by intros;simp) x (by simp[Op.operands])
  have a3:=hr (by intros;simp) y (by simp[Op.operands])
  simp only[Bw]at hk hob ⊢
  split at hk
  ·rename_i hm;rw[if_pos hm]at hob ⊢;exact Om H id (.inl hop) a1 a2 a3 hk hob
  ·rename_i hm;rw[if_neg hm]at hob ⊢;exact We H id (.inl hop) a1 a2 a3 hk hob
 | insert t m x y =>
  rw[hop]at hr hk hob
  have a1:=hr (by intros;simp) m (by simp[Op.operands])
  have a2:=hr (by intros;simp) x (by simp[Op.operands])
  have a3:=hr (by intros;simp) y (by simp[Op.operands])
  simp only[Bw]at hk hob ⊢
  split at hk
  ·rename_i hm;rw[if_pos hm]at hob ⊢;exact Om H id (.inr hop) a1 a2 a3 hk hob
  ·rename_i hm;rw[if_neg hm]at hob ⊢;exact We H id (.inr hop) a1 a2 a3 hk hob
 | store t a x=>rw[hop]at hr hk hob;exact so H id hop (hr (by intros;simp) a (by simp[Op.operands])) (hr (by intros;simp) x (by simp[Op.operands])) hk hob (.inr trivial)
 | call c =>
  rw[hop]at hr hk hob hkill
  obtain⟨callee,args,ts⟩:=c
  cases callee with
  | builtin b =>
   have hr':∀ y∈args,RepA γ (e y) (ρ y):=fun y hy=>hr (by intros;simp) y (by simp[Op.operands,Call.operands,hy])
   cases b with
   | len =>
    simp only[Bw]at hk hob ⊢
    split at hk
    ·rename_i hm;rw[if_pos hm]at hob ⊢;exact(uf H hop e hr' hk hob).does H id _ rfl rfl rfl rfl rfl
    ·rename_i hm;rw[if_neg hm]at hob ⊢;exact(AAx hop e hr' hk).does H id _ rfl rfl rfl rfl rfl
   | delete=>exact sn H id hop e hr' hk hob
   | min=>exact(Uo (mx:=false) hop e hr' hk).does H id _ rfl rfl rfl rfl rfl
   | max=>exact(Uo (mx:=true) hop e hr' hk).does H id _ rfl rfl rfl rfl rfl
   | append=>exact kw H h1 h2 hid hlv hown hop e hr' hk hob hkill
   | copy=>exact vy H id hop e hr' hk hob
   | _=>cases hk
  | _=>cases hk
 | _=>rw[hop]at hk;cases hk
end Go.Av
namespace Go.Av
open Go.RowKit Go.Base
structure LE where
 g:Option (Nat×Bool)
 G:Bool
 v:AV
def Ba (fr:List (Nat×AV)):List (Nat×LE)→Nat→LE
 | [],t=>⟨none,true,Bp fr t⟩
 | (i,x) :: l,t=>if i=t then x else Ba fr l t
def Bf (E:Nat→LE):Operand→AV
 | .tmp t=>(E t).v
 | .const v=>Df v
 | .func f=>.fn f []
 | .global _=>.any
def fh (want:Bool):LE→Option Bool
 | ⟨none,_,.d (.bool b)⟩=>some (if want then b else !b)
 | ⟨some _,G,.d (.bool b)⟩=>some (G&&if want then b else !b)
 | _=>none
def Ea (ops:List Oper) (E:Nat→LE) (g:Nat×Bool):Option Bool :=
 match ops[g.1]? with
 | some o=>match o.dst with
  | some t=>fh g.2 (E t)
  | none=>none
 | none=>none
def F2 (E:Nat→LE) (g:Option (Nat×Bool)):Operand→Bool
 | .tmp t=>(E t).g==none || (E t).g==g
 | _=>true
def AC9 (ops:List Oper) (j:Nat) (c:Operand):Bool :=
 match ops[j]?,c with
 | some o,.tmp t=>o.dst==some t
 | _,_=>false
def Pk (ops:List Oper) (E:Nat→LE) (g:Option (Nat×Bool)) (c:Operand) (want:Bool) (x:Operand):Bool :=
 F2 E g x || match x with
 | .tmp t=>(match (E t).g with | some (j,w)=>w==want&&AC9 ops j c | none=>false)
 | _=>false
def Cf (ops:List Oper) (E:Nat→LE) (o:Oper):Bool :=
 match o.op with
 | .pick c a b=>F2 E o.guard c&&(Pk ops E o.guard c true a&&Pk ops E o.guard c false b)
 | op=>op.operands.toList.all (F2 E o.guard)
def Ui:List Prop→Prop→Prop
 | [],R=>R
 | p :: l,R=>p∧Ui l R
def u0 (G:Bool):List Prop→Prop→Prop
 | [],R=>R
 | p :: l,R=>(G=true→p)∧u0 G l R
def Y6 (id:Nat) (q:Q) (hp:List (Nat×Ob)):List (Nat×Ob) :=
 match q.mo with
 | some t=>t.ups++hp
 | none =>
 let base:=match q.new with | some o=>(id,o) :: hp | none=>hp
 match q.upd with | some (d,o)=>(d,o) :: base | none=>base
def Ww (q:Q) (live:List Nat):List Nat:=match q.kill with | some k=>live.filter (· != k) | none=>live
def Us (id:Nat) (q:Q) (live:List Nat):List Nat:=match q.mo with
 | some t=>t.toks++live.filter (fun s=>!t.lv.contains s)
 | none=>if q.tok then id :: Ww q live else Ww q live
def Hg (hp:Nat→Option Ob):AV→Option D
 | .arr id sz _=>match hp id with
  | some (.arr s k f)=>if s=sz then some (.sl sz k f)else none
  | _=>none
 | .vec id sz _=>match hp id with
  | some (.vec _ s k f)=>if s=sz then some (.sl sz k f)else none
  | _=>none
 | x=>Na x
def Jj (hp:Nat→Option Ob):List AV→Option (List D)
 | []=>some []
 | x :: l=>match Hg hp x with
  | some d=>(Jj hp l).map (d :: ·)
  | none=>none
def Hj (hp:Nat→Option Ob):AV→Option D
 | .agg l=>(Jj hp l).map .agg
 | x=>Hg hp x
def Cv (hp:Nat→Option Ob):List AV→List Prop
 | []=>[]
 | .arr id _ n :: l=>match hp id with
  | some (.arr _ k _)=>(n=k) :: Cv hp l
  | _=>Cv hp l
 | _ :: l=>Cv hp l
def Ge (hp:Nat→Option Ob):List AV→List Prop
 | []=>[]
 | .agg c :: l=>Cv hp c++Ge hp l
 | .arr id sz n :: l=>Cv hp [.arr id sz n]++Ge hp l
 | _ :: l=>Ge hp l
def isRow:AV→Bool
 | .arr ..=>true
 | .vec ..=>true
 | _=>false
def cq:AV→Bool
 | .agg l=>l.any isRow
 | x=>isRow x
def Jd (hp:Nat→Option Ob):List AV→Option (List D)
 | []=>some []
 | x :: l=>match Hj hp x with
  | some d=>(Jd hp l).map (d :: ·)
  | none=>none
mutual
def flat:D→Bool
 | .bool _=>true
 | .int ..=>true
 | .str _=>true
 | .agg l=>Wn l
 | .tup l=>Wn l
 | _=>false
def Wn:List D→Bool
 | []=>true
 | x :: l=>flat x&&Wn l
end
def Mx (e:Operand→AV) (hp:Nat→Option Ob):Op→Option (FuncId×List D×Bool×List Prop)
 | .call { callee:=.value (.func f),args,.. }=>(Jd hp (args.toList.map e)).map fun ds=>(f,ds,(args.toList.map e).any cq,Ge hp (args.toList.map e))
 | _=>none
def wl:Op→Bool
 | .call { callee:=.value _,.. }=>true
 | _=>false
def Q.cold (q:Q):Q:=match q.v with
 | .ap sz n f (.tok ..)=>if q.kill.isNone then { q with v:=.d (.sl sz n f),tok:=false } else q
 | _=>q
def X9:List (Nat×OT)→Nat→Option OT
 | [],_=>none
 | (i,v) :: l,t=>if i=t then some v else X9 l t
structure Cs where
 d:List (Nat×D)
 o:List (Nat×OT)
 /-- appends that make an own row -/
 a:List Nat
def Lc (P:Program) (id:Nat) (e:Operand→AV):Op→Q
 | .call { callee:=.builtin .append,args,argTypes }=>Di P id (args.toList.map e) argTypes.toList
 | _=>.no
def Fi (P:Program) (hp:Nat→Option Ob) (id:Nat) (e:Operand→AV):Op→Q
 | .call { callee:=.builtin .append,args,argTypes }=>N3 P hp id (args.toList.map e) argTypes.toList
 | .buildSlice t len parts=>F5 P id t len parts.toList e
 | .makeSlice t l c=>E5 P id t (e l) (e c)
 | _=>.no
def Ol (e:Operand→AV):Op→Option (FuncId×List AV)
 | .call { callee:=.value (.func f),args,.. }=>some (f,args.toList.map e)
 | .call { callee:=.value (.tmp t),args,.. }=>match e (.tmp t) with
  | .fn f c=>some (f,args.toList.map e++c)
  | _=>none
 | _=>none
def W0 (hp:Nat→Option Ob) (l:List (Nat×Ob)):Nat→Option Ob:=fun j=>match Ak l j with | some o=>some o | none=>hp j
def lq (live:Nat→Prop) (lv toks:List Nat):Nat→Prop:=fun s=>(live s∧¬ s∈lv)∨s∈toks
def Vz (hp:Nat→Option Ob):List (Nat×Option Ob)→Prop
 | []=>True
 | (i,o) :: l=>hp i=o∧Vz hp l
def As (P:Program) (f:FuncId) (xs:List AV) (hl:List (Nat×Option Ob)) (id:Nat) (t:OT):Prop :=
 Pf P f∧∀ (own:Nat→Prop) (hp:Nat→Option Ob) (live:Nat→Prop) (γ:G) (w:World) (vs:List Value),Hp own hp live γ w→Vz hp hl→(∀ s∈t.lv,live s)→Big own w →
  (∀ j,id≤j→j < id+16→γ.ι j=none∧γ.τ j=none∧hp j=none∧¬ live j)→RepAL γ xs vs →
  Calls P f vs.toArray w fun e w'=>∃ v γ',e=.returned v∧Stp own hp live γ w id (W0 hp t.ups) (lq live t.lv t.toks) t.r v γ' w'
def P3 (hp:Nat→Option Ob) (id:Nat) (t:OT):Bool :=
 (t.ids.all fun i=>(hp i).isSome)&&((t.ups.all fun p=>t.ids.contains p.1 || (decide (id≤p.1)&&decide (p.1 < id+16)))&&t.toks.all fun s=>decide (id≤s)&&decide (s < id+16))
def OT.still (t:OT):Bool:=t.ups.isEmpty&&(t.lv.isEmpty&&(t.toks.isEmpty&&!t.ids.isEmpty))
def OT.full (t:OT) (hp:Nat→Option Ob):OT:=if t.still then { t with ups:=t.ids.filterMap fun i=>(hp i).map fun o=>(i,o) } else t
def wd:Op→Bool
 | .call { callee:=.builtin .append,.. }=>true
 | .buildSlice ..=>true
 | .makeSlice ..=>true
 | _=>false
def Bu (P:Program) (cs:Cs) (o:Oper) (e:Operand→AV) (hp:Nat→Option Ob) (id:Nat):Q :=
 if wl o.op then
  match X9 cs.o id with
  | some t=>(match Ol e o.op with
   | some (f,xs)=>{ ok:=P3 hp id t,ob:=[As P f xs (t.ids.map fun i=>(i,hp i)) id (t.full hp)],v:=t.r,mo:=if t.still then none else some t }
   | none=>.no)
  | none =>
  match Mx e hp o.op,o.dst with
  | some (f,ds,b,ob),some t=>if b&&!flat (Sm cs.d t)then .no else .when (ob++[Ah P f ds (Sm cs.d t)]) (.d (Sm cs.d t))
  | _,_=>.no
 else if cs.a.contains id then Lc P id e o.op
 else if cs.a.contains (id+1)&&wd o.op then Fi P hp id e o.op
 else if o.guard.isSome then(Bw P o.op e hp id).cold else Bw P o.op e hp id
theorem dz {P:Program} {el:TypeId} {sz m:Nat} {k:Nat→Nat→Q} (h:∀ a b,(k a b).mo=none∧(k a b).upd=none):(Ee P el sz m k).mo=none∧(Ee P el sz m k).upd=none:=by
 unfold Ee
 split
 ·split
  ·split
   ·exact h _ _
   ·exact⟨rfl,rfl⟩
  ·exact⟨rfl,rfl⟩
 ·exact⟨rfl,rfl⟩
theorem j6 {α:Type} {x:Option α} {f:α→Q} (h:∀ a,(f a).mo=none∧(f a).upd=none):(B6 x f).mo=none∧(B6 x f).upd=none:=by
 cases x with
 | none=>exact⟨rfl,rfl⟩
 | some a=>exact h a
theorem js (P:Program) (id:Nat) (e:Operand→AV) (o:Op):(Lc P id e o).mo=none∧(Lc P id e o).upd=none:=by
 unfold Lc
 split
 ·unfold Di
  split
  ·split
   ·refine j6 fun el=>j6 fun p=>?_
    obtain⟨z,m,g⟩:=p
    dsimp only
    split
    ·split
     ·split
      ·exact dz fun _ _=>⟨rfl,rfl⟩
      ·exact⟨rfl,rfl⟩
     ·split
      ·refine dz fun _ _=>?_
       split<;>exact⟨rfl,rfl⟩
      ·exact⟨rfl,rfl⟩
    ·exact⟨rfl,rfl⟩
   ·exact⟨rfl,rfl⟩
  ·exact⟨rfl,rfl⟩
 ·exact⟨rfl,rfl⟩
theorem dy {P:Program} {el:TypeId} {sz m:Nat} {k:Nat→Nat→Q} {p:Q→Prop} (h:∀ a b,p (k a b)) (h0:p .no):p (Ee P el sz m k):=by
 unfold Ee
 split
 ·split
  ·split
   ·exact h _ _
   ·exact h0
  ·exact h0
 ·exact h0
theorem Vd {α:Type} {x:Option α} {f:α→Q} {p:Q→Prop} (h:∀ a,p (f a)) (h0:p .no):p (B6 x f):=by
 cases x with
 | none=>exact h0
 | some a=>exact h a
theorem S5 (P:Program) (hp:Nat→Option Ob) (id:Nat) (e:Operand→AV) (o:Op):(Fi P hp id e o).mo=none∧(Fi P hp id e o).kill=none∧(Fi P hp id e o).tok=false∧∀ d ob,(Fi P hp id e o).upd=some (d,ob)→∃ o',hp d=some o':=by
 have h0:(Q.no).mo=none∧(Q.no).kill=none∧(Q.no).tok=false∧∀ d ob,(Q.no).upd=some (d,ob)→∃ o',hp d=some o':=⟨rfl,rfl,rfl,fun _ _ h=>by cases h⟩
 unfold Fi
 split
 ·unfold N3
  split
  ·split
   ·refine Vd (p:=fun q=>q.mo=none∧q.kill=none∧q.tok=false∧∀ d ob,q.upd=some (d,ob)→∃ o',hp d=some o') (fun el=>Vd (p:=fun q=>q.mo=none∧q.kill=none∧q.tok=false∧∀ d ob,q.upd=some (d,ob)→∃ o',hp d=some o') (fun p=>?_) h0) h0
    obtain⟨z,m,g⟩:=p
    dsimp only
    split
    ·split
     ·split
      ·exact dy (p:=fun q=>q.mo=none∧q.kill=none∧q.tok=false∧∀ d ob,q.upd=some (d,ob)→∃ o',hp d=some o') (fun _ _=>⟨rfl,rfl,rfl,fun _ _ h=>by cases h⟩) h0
      ·exact h0
     ·exact h0
    ·split
     ·rename_i hd
      refine dy (p:=fun q=>q.mo=none∧q.kill=none∧q.tok=false∧∀ d ob,q.upd=some (d,ob)→∃ o',hp d=some o') (fun _ _=>?_) h0
      split
      ·refine⟨rfl,rfl,rfl,fun d ob h=>?_⟩
       simp only[Option.some.injEq,Prod.mk.injEq]at h
       exact⟨_,by rw[← h.1];exact hd⟩
      ·exact h0
     ·exact h0
    ·exact h0
   ·split
    ·refine Vd (p:=fun q=>q.mo=none∧q.kill=none∧q.tok=false∧∀ d ob,q.upd=some (d,ob)→∃ o',hp d=some o') (fun el=>?_) h0
     split
     ·unfold J7
      split
      ·split
       ·split
        ·exact⟨rfl,rfl,rfl,fun _ _ h=>by cases h⟩
        ·exact h0
       ·exact h0
      ·split
       ·rename_i hd
        split
        ·refine⟨rfl,rfl,rfl,fun d ob h=>?_⟩
         simp only[Option.some.injEq,Prod.mk.injEq]at h
         exact⟨_,by rw[← h.1];exact hd⟩
        ·exact h0
       ·exact h0
      ·exact h0
     ·exact h0
    ·exact h0
  ·exact h0
 ·obtain⟨a1,a2,a3,a4⟩:=lk (P:=P) (id:=id) (t:=_) (len:=_) (parts:=_) (e:=e)
  exact⟨a1,a2,a3,fun d ob h=>by rw[a4]at h;cases h⟩
 ·rename_i t l c
  obtain⟨a1,a2,a3,a4⟩:=g9 (P:=P) (id:=id) (t:=t) (l:=e l) (c:=e c)
  exact⟨a1,a2,a3,fun d ob h=>by rw[a4]at h;cases h⟩
 ·exact h0
theorem r9 (P:Program) (id:Nat) (e:Operand→AV) (o:Op):(Lc P id e o).mo=none:=(js P id e o).1
theorem Q.cold_mo (q:Q):q.cold.mo=q.mo:=by
 unfold Q.cold
 split
 ·split<;>rfl
 ·rfl
theorem Gt {α:Type} {x:Option α} {f:α→Q} (h:∀ a,(f a).mo=none):(B6 x f).mo=none:=by
 cases x with
 | none=>rfl
 | some a=>exact h a
theorem lz {P:Program} {el:TypeId} {sz m:Nat} {k:Nat→Nat→Q} (h:∀ a b,(k a b).mo=none):(Ee P el sz m k).mo=none:=by
 unfold Ee
 split
 ·split
  ·split
   ·exact h _ _
   ·rfl
  ·rfl
 ·rfl
theorem Qs {P:Program} {t:TypeId} {hp:Nat→Option Ob} {m x y:AV}:(C6 P t hp m x y).mo=none:=by
 unfold C6
 refine Gt fun p=>?_
 obtain⟨k,e,b⟩:=p
 refine Gt fun p=>?_
 obtain⟨s,kp⟩:=p
 refine Gt fun p=>?_
 obtain⟨v,vp⟩:=p
 dsimp only
 split
 ·split
  ·split<;>rfl
  ·rfl
 ·rfl
theorem ar {P:Program} {t:TypeId} {hp:Nat→Option Ob} {m x y:AV}:(Er P t hp m x y).mo=none:=by
 unfold Er
 refine Gt fun p=>?_
 obtain⟨k,e,z⟩:=p
 dsimp only
 split
 ·split
  ·split
   ·split<;>rfl
   ·rfl
  ·rfl
 ·rfl
theorem wc {P:Program} {hp:Nat→Option Ob} {args:List AV} {ts:List TypeId}:(Fk P hp args ts).mo=none:=by
 unfold Fk
 split
 ·refine Gt fun p=>?_
  obtain⟨k,e,z⟩:=p
  dsimp only
  split
  ·split
   ·split
    ·split<;>rfl
    ·rfl
   ·rfl
  ·rfl
 ·rfl
theorem zb (P:Program) (o:Op) (e:Operand→AV) (hp:Nat→Option Ob) (id:Nat):(Bw P o e hp id).mo=none:=by
 unfold Bw
 split<;>try rfl
 ·split<;>rfl
 ·unfold Gk
  split
  ·split
   ·split<;>rfl
   ·rfl
  ·split
   ·split
    ·rfl
    ·split<;>rfl
   ·split<;>rfl
   ·rfl
  ·split
   ·split
    ·rfl
    ·split<;>rfl
   ·rfl
  ·rfl
 ·split
  ·exact Qs
  ·exact ar
 ·split
  ·exact Qs
  ·exact ar
 ·exact wc
 ·unfold Jf
  split
  ·refine Gt fun el=>Gt fun p=>?_
   obtain⟨z,m,g⟩:=p
   dsimp only
   split
   ·split
    ·split<;>rfl
    ·rfl
   ·rfl
  ·rfl
 ·unfold Gn
  split
  ·split
   ·refine Gt fun el=>Gt fun p=>?_
    obtain⟨z,m,g⟩:=p
    dsimp only
    split
    ·split
     ·split
      ·exact lz fun _ _=>rfl
      ·rfl
     ·refine lz fun _ _=>?_
      split<;>rfl
    ·rfl
   ·rfl
  ·rfl
theorem gz {hp:Nat→Option Ob} {id:Nat} {t:OT} (h:P3 hp id t=true):(∀ i∈t.ids,∃ o,hp i=some o)∧(∀ p∈t.ups,p.1∈t.ids∨(id≤p.1∧p.1 < id+16))∧∀ s∈t.toks,id≤s∧s < id+16:=by
 unfold P3 at h
 simp only[Bool.and_eq_true,List.all_eq_true,Bool.or_eq_true,List.contains_eq_mem,decide_eq_true_eq]at h
 exact⟨fun i hi=>Option.isSome_iff_exists.1 (h.1 i hi),h.2.1,h.2.2⟩
theorem F9:∀ {l:List (Nat×Ob)} {t:Nat} {o:Ob},Ak l t=some o→(t,o)∈l
 | [],_,_,h=>by cases h
 | (i,v) :: l,t,o,h=>by
  simp only[Ak]at h
  split at h
  ·rename_i e;injection h with h;subst e h;simp
  ·exact List.mem_cons_of_mem _ (F9 h)
theorem kg {hp:Nat→Option Ob} {id j:Nat} {t:OT} (h:P3 hp id t=true) (hj:hp j=none) (hne:j < id∨id+16≤j):W0 hp t.ups j=none:=by
 obtain⟨h1,h2,_⟩:=gz h
 unfold W0
 cases hl:Ak t.ups j with
 | none=>exact hj
 | some o =>
  rcases h2 _ (F9 hl) with h | h
  ·obtain⟨o',ho⟩:=h1 _ h
   rw[hj]at ho;cases ho
  ·simp only at h;omega
theorem ft {live:Nat→Prop} {hp:Nat→Option Ob} {id j:Nat} {t:OT} (h:P3 hp id t=true) (hj:¬ live j) (hne:j < id∨id+16≤j):¬ lq live t.lv t.toks j:=by
 obtain⟨_,_,h3⟩:=gz h
 rintro(⟨h,_⟩ | h)
 ·exact hj h
 ·have:=h3 _ h;omega
theorem Z0 {P:Program} {cs:Cs} {o:Oper} {e:Operand→AV} {hp:Nat→Option Ob} {id:Nat} {t:OT} (hok:(Bu P cs o e hp id).ok=true) (h:(Bu P cs o e hp id).mo=some t):P3 hp id t=true:=by
 unfold Bu at hok h
 split at hok
 ·rename_i hc
  simp only[hc,if_true]at h
  split at hok
  ·rename_i t' ht
   simp only[ht]at h
   split at hok
   ·rename_i f xs hcal
    simp only[hcal]at h
    split at h
    ·cases h
    ·injection h with h;subst h;exact hok
   ·cases hok
  ·rename_i ht
   simp only[ht]at h
   split at h
   ·split at h<;>cases h
   ·cases h
 ·rename_i hc
  rw[if_neg hc]at h
  split at h
  ·rw[r9]at h;cases h
  split at h
  ·rw[(S5 P hp id e o.op).1]at h;cases h
  have hq:(Bw P o.op e hp id).mo=some t:=by
   cases hg:o.guard.isSome
   ·rw[hg]at h;exact h
   ·rw[hg]at h
    simp only[if_true]at h
    rwa [Q.cold_mo]at h
  rw[zb]at hq;cases hq
theorem ji {P:Program} {cs:Cs} {o:Oper} {e:Operand→AV} {hp:Nat→Option Ob} {id tk:Nat} {t:OT} (h:(Bu P cs o e hp id).mo=some t):(Bu P cs o e hp id).kill≠some tk:=by
 unfold Bu at h ⊢
 split at h
 ·rename_i hc
  rw[if_pos hc]
  split at h
  ·rename_i t' ht
   split at h
   ·intro h;cases h
   ·cases h
  ·split at h
   ·split at h<;>cases h
   ·cases h
 ·rename_i hc
  rw[if_neg hc]
  split at h
  ·rw[r9]at h;cases h
  split at h
  ·rw[(S5 P hp id e o.op).1]at h;cases h
  have hq:(Bw P o.op e hp id).mo=some t:=by
   cases hg:o.guard.isSome
   ·rw[hg]at h;exact h
   ·rw[hg]at h
    simp only[if_true]at h
    rwa [Q.cold_mo]at h
  rw[zb]at hq;cases hq
theorem Q.cold_ok (q:Q):q.cold.ok=q.ok:=by
 unfold Q.cold
 split
 ·split<;>rfl
 ·rfl
theorem Q.cold_ob (q:Q):q.cold.ob=q.ob:=by
 unfold Q.cold
 split
 ·split<;>rfl
 ·rfl
theorem Q.cold_kill (q:Q):q.cold.kill=q.kill:=by
 unfold Q.cold
 split
 ·split<;>rfl
 ·rfl
theorem Q.cold_upd (q:Q):q.cold.upd=q.upd:=by
 unfold Q.cold
 split
 ·split<;>rfl
 ·rfl
def L3 (q:Q) (live:List Nat):Bool:=(match q.mo with | some t=>t.lv.all live.contains | none=>true)&&match q.kill with | some k=>live.contains k | none=>true
def Q.plain (q:Q):Bool:=q.new.isNone&&!q.tok&&q.upd.isNone&&q.kill.isNone&&q.mo.isNone
structure LS where
 lf:List (Nat×LE)
 hp:List (Nat×Ob)
 live:List Nat
def Vh (o:Oper) (x:LE) (lf:List (Nat×LE)):List (Nat×LE):=match o.dst with | some t=>(t,x) :: lf | none=>lf
def LS.step (s:LS) (o:Oper) (id:Nat) (q:Q) (g:Option (Nat×Bool)) (G:Bool):LS:=⟨Vh o ⟨g,G,q.v⟩ s.lf,Y6 id q s.hp,Us id q s.live⟩
def LS.skip (s:LS) (o:Oper):LS:=⟨Vh o ⟨none,true,.any⟩ s.lf,s.hp,s.live⟩
def Hn (P:Program) (cs:Cs) (ops:List Oper) (fr:List (Nat×AV)) (nx:Nat):Nat→List Oper→LS→(LS→Prop)→Prop
 | _,[],s,K=>K s
 | i,o :: l,s,K =>
  if(Cf ops (Ba fr s.lf) o&&((Bu P cs o (Bf (Ba fr s.lf)) (Ak s.hp) (nx+16 * i)).ok&&L3 (Bu P cs o (Bf (Ba fr s.lf)) (Ak s.hp) (nx+16 * i)) s.live))=false then
   (match o.guard with
   | none=>False
   | some g=>if g.1 < i then
    match Ea ops (Ba fr s.lf) g with
    | none=>False
    | some G=>(G=true→False)∧(G=false→Hn P cs ops fr nx (i+1) l (s.skip o) K)
    else False)else
  if Cf ops (Ba fr s.lf) o=false then False else
  if(Bu P cs o (Bf (Ba fr s.lf)) (Ak s.hp) (nx+16 * i)).ok=false then False else
  if L3 (Bu P cs o (Bf (Ba fr s.lf)) (Ak s.hp) (nx+16 * i)) s.live=false then False else
  match o.guard with
  | none=>Ui (Bu P cs o (Bf (Ba fr s.lf)) (Ak s.hp) (nx+16 * i)).ob
    (Hn P cs ops fr nx (i+1) l (s.step o (nx+16 * i) (Bu P cs o (Bf (Ba fr s.lf)) (Ak s.hp) (nx+16 * i)) none true) K)
  | some g=>if g.1 < i then
   match Ea ops (Ba fr s.lf) g with
   | none=>False
   | some G =>
    if(Bu P cs o (Bf (Ba fr s.lf)) (Ak s.hp) (nx+16 * i)).plain=true then
     u0 G (Bu P cs o (Bf (Ba fr s.lf)) (Ak s.hp) (nx+16 * i)).ob
      (Hn P cs ops fr nx (i+1) l (s.step o (nx+16 * i) (Bu P cs o (Bf (Ba fr s.lf)) (Ak s.hp) (nx+16 * i)) (some g) G) K)
    else
     (G=true→Ui (Bu P cs o (Bf (Ba fr s.lf)) (Ak s.hp) (nx+16 * i)).ob
      (Hn P cs ops fr nx (i+1) l (s.step o (nx+16 * i) (Bu P cs o (Bf (Ba fr s.lf)) (Ak s.hp) (nx+16 * i)) none true) K)) ∧
     (G=false→Hn P cs ops fr nx (i+1) l (s.skip o) K)
   else False
structure G0 where
 g:G
 df:List Deferred
variable {P:Program} {γ γ':G} {w w' w0:World} {own:Nat→Prop} {hp:Nat→Option Ob} {live:Nat→Prop} {ops:List Oper} {N:Nat} {μ0:G0}
def EOk (ops:List Oper) (γ:G) (tmps:Array Value) (x:LE) (t:Nat):Prop :=
 match x.g with
 | none=>RepA γ x.v (tmps.getD t undef)
 | some (j,want)=>(yielded ops.toArray tmps j=some want∧x.G=true∧RepA γ x.v (tmps.getD t undef))∨(yielded ops.toArray tmps j≠some want∧x.G=false∧tmps.getD t undef=undef)
structure Keep (own:Nat→Prop) (w0:World) (g0:G0) (γ:G):Prop where
 mu:∀ b o,b < w0.heap.size→¬ own b→γ.μ b o=g0.g.μ b o
 le:LeM g0.g.μ γ.μ
 pin:∀ i b,i < 16→g0.g.ι i=some b→γ.ι i=some b
theorem Keep.refl (own:Nat→Prop) (w0:World) (γ:G) (df:List Deferred):Keep own w0 ⟨γ,df⟩ γ:=⟨fun _ _ _ _=>rfl,LeM.refl _,fun _ _ _ h=>h⟩
theorem Keep.step {g0:G0} (h:Keep own w0 g0 γ) (le:LeG γ γ') (hmu:∀ b o,b < w0.heap.size→¬ own b→γ'.μ b o=γ.μ b o):Keep own w0 g0 γ' :=
 ⟨fun b o hb hn=>(hmu b o hb hn).trans (h.mu b o hb hn),fun b o v e=>le.μ b o v (h.le b o v e),fun i b hi e=>le.ι i b (h.pin i b hi e)⟩
structure RL (own:Nat→Prop) (μ0:G0) (w0:World) (N:Nat) (ops:List Oper) (done:Nat→Prop) (E:Nat→LE) (hp:Nat→Option Ob) (live:Nat→Prop) (γ:G) (a:Act) (w:World):Prop where
 defers:a.defers=μ0.df
 size:a.tmps.size=N
 fr:∀ t,EOk ops γ a.tmps (E t) t
 gd:∀ t j want,(E t).g=some (j,want)→done j
 hp:Hp own hp live γ w
 base:Base own w0 w
 big:Big own w0
 mu:Keep own w0 μ0 γ
def Ku (l:List Oper):List Tmp:=l.filterMap (·.dst)
def Jt (ops:List Oper) (N:Nat):Bool:=decide ((Ku ops).Nodup)&&(Ku ops).all (· < N)
theorem AAL {a:Act} {d t:Nat} {v:Value} (h:d < a.tmps.size):(a.put (some d) v).tmps.getD t undef=if d=t then v else a.tmps.getD t undef:=by
 simp only[Act.put,Array.getD_eq_getD_getElem?]
 rw[Array.getElem?_setIfInBounds]
 split
 ·rename_i e;subst e;simp[h]
 ·rfl
theorem lm {a:Act} {d:Option Nat} {v:Value} {j:Nat} (h:∀ o,ops[j]?=some o→∀ t,o.dst=some t→d≠some t):yielded ops.toArray (a.put d v).tmps j=yielded ops.toArray a.tmps j:=by
 unfold yielded
 rw[List.getElem?_toArray]
 cases ho:ops[j]? with
 | none=>rfl
 | some o =>
  simp only[Option.bind_some]
  cases ht:o.dst with
  | none=>rfl
  | some t =>
   simp only[Option.bind_some]
   have:=h o ho t ht
   cases d with
   | none=>rfl
   | some d =>
    have hne:d≠t:=fun e=>this (by rw[e])
    simp only[Act.put]
    rw[Array.getElem?_setIfInBounds_ne hne]
theorem Vc:∀ {l:List Oper},(Ku l).Nodup→∀ {i j:Nat} {o p:Oper} {t:Nat},l[i]?=some o→l[j]?=some p→o.dst=some t→p.dst=some t→i=j
 | [],_,i,_,_,_,_,h,_,_,_=>by simp at h
 | x :: l,hn,i,j,o,p,t,h1,h2,d1,d2=>by
  have hn2:(Ku l).Nodup:=by
   unfold Ku at *
   rw[List.filterMap_cons]at hn
   split at hn
   ·exact hn
   ·exact(List.nodup_cons.1 hn).2
  have hx:x.dst=some t→t ∉ Ku l:=by
   intro e
   unfold Ku at *
   rw[List.filterMap_cons,e]at hn
   exact(List.nodup_cons.1 hn).1
  have hm:∀ (k:Nat) (q:Oper),l[k]?=some q→q.dst=some t→t∈Ku l:=fun k q hk e=>by
   unfold Ku
   exact List.mem_filterMap.2 ⟨q,List.mem_of_getElem? hk,e⟩
  rcases i with _ | i<;>rcases j with _ | j
  ·rfl
  ·simp at h1 h2;subst h1;exact absurd (hm j p h2 d2) (hx d1)
  ·simp at h1 h2;subst h2;exact absurd (hm i o h1 d1) (hx d2)
  ·have:=Vc hn2 (i:=i) (j:=j) (by simpa using h1) (by simpa using h2) d1 d2
   omega
theorem Xn (h:Jt ops N=true):(Ku ops).Nodup∧∀ {i:Nat} {o:Oper} {t:Nat},ops[i]?=some o→o.dst=some t→t < N:=by
 unfold Jt at h
 simp only[Bool.and_eq_true,decide_eq_true_eq,List.all_eq_true]at h
 exact⟨h.1,fun ho hd=>h.2 _ (List.mem_filterMap.2 ⟨_,List.mem_of_getElem? ho,hd⟩)⟩
theorem Hp.live_le {live':Nat→Prop} (h:Hp own hp live γ w) (hl:∀ t,live' t→live t):Hp own hp live' γ w:=⟨h.fz,h.obj,h.inj,fun t v e sz ht=>h.tok t v e sz (hl t ht),fun s t v u hs ht=>h.tinj s t v u (hl s hs) (hl t ht)⟩
theorem Does.cold {ρ:Operand→Value} {o:Oper} {id:Nat} {q:Q} (h:Does P own hp live γ w ρ o id q):Does P own hp live γ w ρ o id q.cold:=by
 unfold Q.cold
 split
 ·rename_i sz n f t e hv
  split
  ·rename_i hk
   obtain⟨u,w',γ',h1,h2⟩:=h
   refine⟨u,w',γ',h1,⟨h2.le,?_,h2.base,?_,h2.other,h2.mu⟩⟩
   ·refine Hp.live_le h2.hp fun t ht=>?_
    unfold E8 at ht ⊢
    cases hm:q.mo with
    | some m=>simp only[hm]at ht ⊢;exact ht
    | none =>
     simp only[hm]at ht ⊢
     rcases ht with ht | ht
     ·exact .inl ht
     ·exact absurd ht.1 (by simp)
   ·have:=h2.rep
    rw[hv]at this
    simp only[RepA]at this ⊢
    exact this.1
  ·exact h
 ·exact h
mutual
theorem Rep.flat {μ ν:Nat→Nat→Option Value}:∀ (d:D) (v:Value),flat d=true→Rep μ d v→Rep ν d v
 | .bool b,v,_,hr=>by simpa only[Rep] using hr
 | .int k n,v,_,hr=>by simpa only[Rep] using hr
 | .str s,v,_,hr=>by simpa only[Rep] using hr
 | .bad,v,_,hr=>by simp only[Rep]at hr
 | .err b,v,_,hr=>by simpa only[Rep] using hr
 | .sl sz n f,v,h,hr=>by cases h
 | .agg cs,v,h,hr=>by
  simp only[Rep]at hr ⊢
  obtain⟨vs,e,hr⟩:=hr
  exact⟨vs,e,RepL.flat cs vs h hr⟩
 | .tup cs,v,h,hr=>by
  simp only[Rep]at hr ⊢
  obtain⟨vs,e,hr⟩:=hr
  exact⟨vs,e,RepL.flat cs vs h hr⟩
theorem RepL.flat {μ ν:Nat→Nat→Option Value}:∀ (d:List D) (v:List Value),Wn d=true→RepL μ d v→RepL ν d v
 | [],_,_,hr=>by simpa only[RepL] using hr
 | d :: l,v,h,hr=>by
  simp only[RepL]at hr ⊢
  simp only[Wn,Bool.and_eq_true]at h
  obtain⟨x,t,e,h1,h2⟩:=hr
  exact⟨x,t,e,Rep.flat d x h.1 h1,RepL.flat l t h.2 h2⟩
end
theorem bn {hp:Nat→Option Ob} {x:AV} {d:D} {v:Value} (h:Hg hp x=some d) (ha:isRow x=false) (hr:RepA γ x v):Rep γ.μ d v:=by
 cases x with
 | arr id sz n=>cases ha
 | vec id sz n=>cases ha
 | _=>simp only[Hg]at h;exact L8 h hr
theorem Xo {hp:Nat→Option Ob}:∀ {l:List AV} {ds:List D} {vs:List Value},Jj hp l=some ds→l.any isRow=false→RepAL γ l vs→RepL γ.μ ds vs
 | [],_,_,h,_,hr=>by simp only[Jj,Option.some.injEq]at h;subst h;simpa only[RepAL,RepL] using hr
 | x :: l,ds,vs,h,ha,hr=>by
  simp only[Jj]at h
  split at h
  ·rename_i d hd
   simp only[Option.map_eq_some_iff]at h
   obtain⟨r,h1,rfl⟩:=h
   simp only[List.any_cons,Bool.or_eq_false_iff]at ha
   simp only[RepAL]at hr
   obtain⟨v,t,rfl,h2,h3⟩:=hr
   simp only[RepL]
   exact⟨v,t,rfl,bn hd ha.1 h2,Xo h1 ha.2 h3⟩
  ·cases h
theorem zg {hp:Nat→Option Ob} {x:AV} {d:D} {v:Value} (h:Hj hp x=some d) (ha:cq x=false) (hr:RepA γ x v):Rep γ.μ d v:=by
 cases x with
 | agg l =>
  simp only[Hj,Option.map_eq_some_iff]at h
  obtain⟨ds,h1,rfl⟩:=h
  simp only[RepA]at hr
  obtain⟨vs,e,h2⟩:=hr
  simp only[Rep]
  exact⟨vs,e,Xo h1 ha h2⟩
 | _=>simp only[Hj]at h;exact bn h ha hr
theorem Ul {hp:Nat→Option Ob}:∀ {l:List AV} {ds:List D} {vs:List Value},Jd hp l=some ds→l.any cq=false→RepAL γ l vs→RepL γ.μ ds vs
 | [],_,_,h,_,hr=>by simp only[Jd,Option.some.injEq]at h;subst h;simpa only[RepAL,RepL] using hr
 | x :: l,ds,vs,h,ha,hr=>by
  simp only[Jd]at h
  split at h
  ·rename_i d hd
   simp only[Option.map_eq_some_iff]at h
   obtain⟨r,h1,rfl⟩:=h
   simp only[List.any_cons,Bool.or_eq_false_iff]at ha
   simp only[RepAL]at hr
   obtain⟨v,t,rfl,h2,h3⟩:=hr
   simp only[RepL]
   exact⟨v,t,rfl,zg hd ha.1 h2,Ul h1 ha.2 h3⟩
  ·cases h
def Ob.isRow:Ob→Bool
 | .arr ..=>true
 | .vec ..=>true
 | _=>false
open Classical in
def Lw (hp:Nat→Option Ob) (γ:G) (w:World) (b o:Nat):Option Value:=if ∃ id ob p,hp id=some ob∧ob.isRow=true∧γ.ι id=some p∧p.block=some b then w.cell? ⟨b,o,none⟩else γ.μ b o
theorem Sl (H:Hp own hp live γ w):LeM γ.μ (Lw hp γ w):=fun b o v h=>by
 unfold Lw
 split
 ·rename_i hx
  obtain⟨id,ob,p,h1,h2,h3,h4⟩:=hx
  obtain⟨p',e1,_,e5⟩:=H.obj id _ h1 (by cases ob<;>first | rfl | cases h2)
  rw[h3]at e1
  injection e1 with e1
  subst e1
  rw[(e5 b h4).2 o]at h;cases h
 ·exact h
theorem lent_fz (H:Hp own hp live γ w):Jc (Lw hp γ w) w:=fun b o v h=>by
 unfold Lw at h
 split at h
 ·exact h
 ·exact H.fz b o v h
theorem Rt (H:Hp own hp live γ w) {x:AV} {d:D} {v:Value} (hd:Hg hp x=some d) (hob:∀ p∈Cv hp [x],p) (h2:RepA γ x v):Rep (Lw hp γ w) d v:=by
 cases x with
 | arr id sz n =>
  simp only[Hg]at hd
  split at hd
  ·rename_i s k f ho
   split at hd
   ·rename_i hsk
    subst hsk
    obtain rfl:n=k:=hob _ (by simp only[Cv,ho];exact List.mem_cons_self)
    simp only[Option.some.injEq]at hd
    subst hd
    simp only[RepA]at h2
    obtain⟨b,c,e1,e2,e3,e4⟩:=h2
    obtain⟨b',x,f1,f2,f3,_,_⟩:=H.blk ho rfl
    rw[e1]at f1
    injection f1 with f1
    injection f1 with f1
    subst f1
    obtain⟨ws,ty,rfl,g1,g2⟩:=f3
    simp only[Rep]
    refine⟨_,c,e2,e3,e4,fun hn=>⟨b,0,rfl,fun i hi=>?_⟩⟩
    obtain⟨u,k1,k2,k3,k4⟩:=g2 i hi
    refine⟨u,Rep.mono (Sl H) _ _ k1,k2,k3,fun j hj=>?_⟩
    unfold Lw
    rw[if_pos ⟨id,_,_,ho,rfl,e1,rfl⟩,← k4 j hj,Nat.zero_add]
    simp[World.cell?,f2]
   ·cases hd
  ·cases hd
 | vec id sz n =>
  simp only[Hg]at hd
  split at hd
  ·rename_i e s k f ho
   split at hd
   ·rename_i hsk
    subst hsk
    simp only[Option.some.injEq]at hd
    subst hd
    simp only[RepA]at h2
    obtain⟨e',A,c,e1,e2,e3,e4,_⟩:=h2
    obtain⟨v',xs,f1,f0,f2,f3,_⟩:=H.vec ho
    rw[e1]at f1
    injection f1 with f1
    injection f1 with f1 f4 _
    subst f1
    simp only[Rep]
    rcases f2.2 with⟨h1,h0⟩ | ⟨b,cap,cur,h1,_⟩
    ·subst h0
     exact⟨none,0,h1,Nat.le_refl _,Nat.zero_le _,fun h=>absurd h (by omega)⟩
    ·obtain⟨A',c',g1,g2,g3,_⟩:=J3 f2
     refine⟨A',c',g1,g2,g3,fun hn=>⟨b,0,?_,fun i hi=>?_⟩⟩
     ·rw[h1]at g1;injection g1 with g1 _ _;exact g1.symm
     ·obtain⟨u,k1,k2,k3,k4⟩:=f3 i hi
      refine⟨u,Rep.mono (Sl H) _ _ k1,k2,k3,fun j hj=>?_⟩
      have hbl:v.ownBlock=some b:=by rw[h1];rfl
      unfold Lw
      rw[if_pos ⟨id,_,_,ho,rfl,e1,hbl⟩,Nat.zero_add]
      have hu:j < u.cells.size:=by rw[k2];exact hj
      have h9:=k4 j hj
      rw[Array.getElem?_eq_getElem hu]at h9 ⊢
      have:=f2.cells (g:=b) hbl _ _ h9
      rwa [C9,Nat.zero_add]at this
   ·cases hd
  ·cases hd
 | _=>simp only[Hg]at hd;exact Rep.mono (Sl H) _ _ (L8 hd h2)
theorem fl {hp:Nat→Option Ob} {x:AV} {l:List AV} (h:∀ p∈Cv hp (x :: l),p):(∀ p∈Cv hp [x],p)∧∀ p∈Cv hp l,p:=by
 cases x with
 | arr id sz n =>
  simp only[Cv]at h ⊢
  split at h
  ·exact⟨fun p hp=>h p (by rcases List.mem_singleton.1 hp with rfl;simp),fun p hp=>h p (List.mem_cons_of_mem _ hp)⟩
  ·exact⟨(fun p hp=>by cases hp),h⟩
 | _=>exact⟨(fun p hp=>by cases hp),h⟩
theorem Xp (H:Hp own hp live γ w):∀ {l:List AV} {ds:List D} {vs:List Value},Jj hp l=some ds→(∀ p∈Cv hp l,p)→RepAL γ l vs→RepL (Lw hp γ w) ds vs
 | [],_,_,h,_,hr=>by simp only[Jj,Option.some.injEq]at h;subst h;simpa only[RepAL,RepL] using hr
 | x :: l,ds,vs,h,hob,hr=>by
  simp only[Jj]at h
  split at h
  ·rename_i d hd
   simp only[Option.map_eq_some_iff]at h
   obtain⟨r,h1,rfl⟩:=h
   simp only[RepAL]at hr
   obtain⟨v,t,rfl,h2,h3⟩:=hr
   simp only[RepL]
   obtain⟨o1,o2⟩:=fl hob
   exact⟨v,t,rfl,Rt H hd o1 h2,Xp H h1 o2 h3⟩
  ·cases h
theorem M1 (H:Hp own hp live γ w):∀ {l:List AV} {ds:List D} {vs:List Value},Jd hp l=some ds→(∀ p∈Ge hp l,p)→RepAL γ l vs→RepL (Lw hp γ w) ds vs
 | [],_,_,h,_,hr=>by simp only[Jd,Option.some.injEq]at h;subst h;simpa only[RepAL,RepL] using hr
 | x :: l,ds,vs,h,hob,hr=>by
  simp only[Jd]at h
  split at h
  ·rename_i d hd
   simp only[Option.map_eq_some_iff]at h
   obtain⟨r,h1,rfl⟩:=h
   simp only[RepAL]at hr
   obtain⟨v,t,rfl,h2,h3⟩:=hr
   simp only[RepL]
   cases x with
   | agg c =>
    simp only[Ge]at hob
    refine⟨v,t,rfl,?_,M1 H h1 (fun p hp=>hob p (List.mem_append_right _ hp)) h3⟩
    simp only[Hj,Option.map_eq_some_iff]at hd
    obtain⟨ds',k1,rfl⟩:=hd
    simp only[RepA]at h2
    obtain⟨us,e,h4⟩:=h2
    simp only[Rep]
    exact⟨us,e,Xp H k1 (fun p hp=>hob p (List.mem_append_left _ hp)) h4⟩
   | arr id sz n =>
    simp only[Ge]at hob
    simp only[Hj]at hd
    exact⟨v,t,rfl,Rt H hd (fun p hp=>hob p (List.mem_append_left _ hp)) h2,M1 H h1 (fun p hp=>hob p (List.mem_append_right _ hp)) h3⟩
   | _=>simp only[Hj]at hd;exact⟨v,t,rfl,Rt H hd (fun p hp=>by cases hp) h2,M1 H h1 hob h3⟩
  ·cases h
theorem Nx {e:Operand→AV} {ρ:Operand→Value}:∀ {l:List Operand},(∀ y∈l,RepA γ (e y) (ρ y))→RepAL γ (l.map e) (l.map ρ)
 | [],_=>by simp[RepAL]
 | x :: l,h=>by simp only[List.map_cons,RepAL];exact⟨_,_,rfl,h x (by simp),Nx fun y hy=>h y (by simp[hy])⟩
theorem Hk {a:Act} {done:Nat→Prop} {E:Nat→LE} (R:RL own μ0 w0 N ops done E hp live γ a w) {o:Oper} (hw:∀ g,o.guard=some g→yielded ops.toArray a.tmps g.1=some g.2) {x:Operand} (h:F2 E o.guard x=true):RepA γ (Bf E x) (a.eval x):=by
 cases x with
 | const v=>exact J5 v
 | global g=>simp only[Bf,RepA]
 | func f=>simp only[Bf,RepA,Act.eval];exact⟨[],rfl,by simp only[RepAL]⟩
 | tmp t =>
  have hf:=R.fr t
  simp only[F2,Bool.or_eq_true,beq_iff_eq]at h
  unfold EOk at hf
  simp only[Bf,Act.eval]
  rcases h with h | h
  ·rw[h]at hf;exact hf
  ·cases hg:o.guard with
   | none=>rw[h,hg]at hf;exact hf
   | some g =>
    rw[h,hg]at hf
    rcases hf with hf | hf
    ·exact hf.2.2
    ·exact absurd (hw g hg) hf.1
theorem AAz (H:Hp own hp live γ w) (id:Nat) (h1:γ.ι id=none) (h2:γ.τ id=none) (hid:hp id=none) (hlv:¬ live id) (hx:Fu w w') {ν:Nat→Nat→Option Value} (hν:∀ b o,b < w.heap.size→ν b o=γ.μ b o) (hf:Jc ν w') {r:D} {u:Value} (hr:Rep ν r u) :
  Stp own hp live γ w id hp live (.d r) u ⟨ν,γ.ι,γ.τ⟩ w':=by
 have le:LeG γ ⟨ν,γ.ι,γ.τ⟩:=cu H.fz hν h1 h2 (fun _ _=>rfl) (fun _ _=>rfl)
 have:=H.grow (γ':=⟨ν,γ.ι,γ.τ⟩) hx hν hf h1 h2 (fun _ _=>rfl) (fun _ _=>rfl) hid hlv none false (fun o h=>by cases h) (fun h=>by cases h)
 rw[N8,C5]at this
 exact⟨le,this,Base.of_ext hx,by simpa only[RepA] using hr,fun _ _=>⟨rfl,rfl⟩,fun b o hb _=>hν b o hb⟩
theorem ka {a:Act} {done:Nat→Prop} {E:Nat→LE} (R:RL own μ0 w0 N ops done E hp live γ a w) {o:Oper} {f:FuncId} {xs:List AV} {R':Value→G→World→Prop}
  (hrd:Cf ops E o=true) (hc:Ol (Bf E) o.op=some (f,xs)) (hcall:∀ vs:List Value,RepAL γ xs vs→Calls P f vs.toArray w fun e w'=>∃ v γ',e=.returned v∧R' v γ' w') (hcb:Pf P f)
  (hw:∀ g,o.guard=some g→yielded ops.toArray a.tmps g.1=some g.2) {K:Act→World→Prop} {QQ:Exit→Act→World→Prop}
  (hK:∀ u w' γ',R' u γ' w'→K (a.put o.dst u) w'):o.wp P a w K QQ:=by
 obtain⟨fn,hf1,hf2,hf3⟩:=hcb
 have hinv:∀ args:Array Value,(callFunc f args).run P w=.ok (.enter f args) w:=fun args=>by
  simp only[callFunc,program,Sem.run_bind]
  simp[Sem.run,hf1,hf3,Option.isNone_iff_eq_none]
  intro h;rw[h]at hf2;cases hf2
 unfold Ol at hc
 split at hc
 ·rename_i f' args ts hop
  simp only[Option.some.injEq,Prod.mk.injEq]at hc
  obtain⟨rfl,rfl⟩:=hc
  have hops:∀ y∈args.toList,F2 E o.guard y=true:=by
   unfold Cf at hrd
   rw[hop]at hrd
   intro y hy
   exact List.all_eq_true.1 hrd y (by simp[Op.operands,Call.operands];exact .inr (by simpa using hy))
  have hreps:RepAL γ (args.toList.map (Bf E)) (args.toList.map a.eval):=Nx fun y hy=>Hk R hw (hops y hy)
  have hrun:=hcall _ hreps
  unfold Oper.wp execOp
  simp only[hop]
  have hres:((resolve a.eval { callee:=.value (.func f'),args:=args,argTypes:=ts } o.type).run P w)=.ok { target:=.fn (.func f') #[],args:=args.map a.eval } w:=by
   simp[resolve,Act.eval,Deferred.ofValue]
  have hi:(invoke (.fn (.func f') #[]) (args.map a.eval)).run P w=.ok (.enter f' (args.map a.eval)) w:=by
   have:=hinv (args.map a.eval)
   simpa only[invoke,Array.append_empty] using this
  rw[Sem.run_bind,hres,Result.andThen_ok,hi]
  simp only[Oper.upon]
  have hm:(args.toList.map a.eval).toArray=args.map a.eval:=by rw[← Array.toList_inj];simp
  rw[hm]at hrun
  refine hrun.mono ?_
  rintro e w' ⟨u,γ',rfl,h1⟩
  exact hK u w' γ' h1
 ·rename_i tt args ts hop
  split at hc
  ·rename_i g c hg
   simp only[Option.some.injEq,Prod.mk.injEq]at hc
   obtain⟨rfl,rfl⟩:=hc
   have hops:∀ y,y∈args.toList∨y=.tmp tt→F2 E o.guard y=true:=by
    unfold Cf at hrd
    rw[hop]at hrd
    intro y hy
    refine List.all_eq_true.1 hrd y ?_
    simp[Op.operands,Call.operands]
    rcases hy with hy | rfl
    ·exact .inr (by simpa using hy)
    ·exact .inl rfl
   have hreps:RepAL γ (args.toList.map (Bf E)) (args.toList.map a.eval):=Nx fun y hy=>Hk R hw (hops y (.inl hy))
   have hfn:=Hk R hw (hops _ (.inr rfl))
   rw[hg]at hfn
   simp only[RepA]at hfn
   obtain⟨cvs,hv,hcap⟩:=hfn
   have hrun:=hcall _ (Rr hreps hcap)
   unfold Oper.wp execOp
   simp only[hop]
   have hres:((resolve a.eval { callee:=.value (.tmp tt),args:=args,argTypes:=ts } o.type).run P w)=.ok { target:=.fn (.func g) cvs.toArray,args:=args.map a.eval } w:=by
    simp only[resolve]
    rw[hv]
    simp[Deferred.ofValue]
   have hi:(invoke (.fn (.func g) cvs.toArray) (args.map a.eval)).run P w=.ok (.enter g (args.map a.eval++cvs.toArray)) w:=by
    have:=hinv (args.map a.eval++cvs.toArray)
    simpa only[invoke] using this
   rw[Sem.run_bind,hres,Result.andThen_ok,hi]
   simp only[Oper.upon]
   have hm:(args.toList.map a.eval++cvs).toArray=args.map a.eval++cvs.toArray:=by rw[← Array.toList_inj];simp
   rw[hm]at hrun
   refine hrun.mono ?_
   rintro e w' ⟨u,γ',rfl,h1⟩
   exact hK u w' γ' h1
  ·cases hc
 ·cases hc
theorem zy {t:OT} (h:t.still=true):W0 hp (t.full hp).ups=hp:=by
 unfold OT.full
 rw[if_pos h]
 funext j
 unfold W0
 cases hl:Ak (t.ids.filterMap fun i=>(hp i).map fun o=>(i,o)) j with
 | none=>rfl
 | some o =>
  obtain⟨i,_,hi⟩:=List.mem_filterMap.1 (F9 hl)
  obtain⟨o',h1,h2⟩:=Option.map_eq_some_iff.1 hi
  injection h2 with h2 h3
  subst h2;subst h3
  exact h1.symm
theorem wt {t:OT} (h:t.still=true):lq live (t.full hp).lv (t.full hp).toks=live:=by
 unfold OT.full
 rw[if_pos h]
 unfold OT.still at h
 simp only[Bool.and_eq_true,List.isEmpty_iff]at h
 funext s
 simp only[lq,h.2.1,h.2.2.1]
 simp
theorem AAJ {t:OT} (h:t.still=false):t.full hp=t:=by unfold OT.full;rw[h];rfl
theorem full_r (t:OT):(t.full hp).r=t.r:=by unfold OT.full;split<;>rfl
theorem ri {a:Act} {done:Nat→Prop} {E:Nat→LE} (R:RL own μ0 w0 N ops done E hp live γ a w) {cs:Cs} {o:Oper} {id:Nat} (hrd:Cf ops E o=true)
  (hok:(Bu P cs o (Bf E) hp id).ok=true) (hob:∀ p∈(Bu P cs o (Bf E) hp id).ob,p) (hkill:∀ tk,(Bu P cs o (Bf E) hp id).kill=some tk→live tk) (hmo:∀ t,(Bu P cs o (Bf E) hp id).mo=some t→∀ s∈t.lv,live s)
  (hfr:∀ j,id≤j→j < id+16→γ.ι j=none∧γ.τ j=none∧hp j=none∧¬ live j) (hw:∀ g,o.guard=some g→yielded ops.toArray a.tmps g.1=some g.2) {K:Act→World→Prop} {QQ:Exit→Act→World→Prop}
  (hK:∀ u w' γ',Stp own hp live γ w id (Ck id (Bu P cs o (Bf E) hp id) hp) (E8 id (Bu P cs o (Bf E) hp id) live) (Bu P cs o (Bf E) hp id).v u γ' w'→K (a.put o.dst u) w'):o.wp P a w K QQ:=by
 have hown:∀ b,w.heap.size≤b→own b:=fun b hb=>R.big b (Nat.le_trans R.base.size hb)
 have hbig:Big own w:=R.big.at R.base
 obtain⟨h1,h2,hid,hlv⟩:=hfr id (Nat.le_refl _) (by omega)
 unfold Bu at hok hob hkill hK hmo
 split at hok
 ·rename_i hc
  simp only[hc,if_true]at hob hkill hK hmo
  split at hok
  ·rename_i t ht
   simp only[ht]at hob hkill hK hmo
   split at hok
   ·rename_i f xs hcal
    simp only[hcal]at hob hkill hK hmo
    obtain⟨⟨fn,hf1,hf2,hf3⟩,hcall⟩:=hob _ (List.mem_singleton.2 rfl)
    have hth:∀ l:List Nat,Vz hp (l.map fun i=>(i,hp i)):=fun l=>by
     induction l with
     | nil=>trivial
     | cons i l ih=>exact⟨rfl,ih⟩
    cases hst:t.still with
    | false =>
     rw[AAJ hst]at hcall
     simp only[hst,Bool.false_eq_true,if_false]at hmo hK
     exact ka R hrd hcal (fun vs hr=>(hcall own hp live γ w vs R.hp (hth _) (hmo t rfl) hbig hfr hr)) ⟨fn,hf1,hf2,hf3⟩ hw fun u w' γ' hs=>hK u w' γ' hs
    | true =>
     simp only[hst,if_true]at hK
     have hlv0:∀ s∈(t.full hp).lv,live s:=fun s hs=>by
      have:=hst
      unfold OT.full at hs
      rw[if_pos hst]at hs
      unfold OT.still at this
      simp only[Bool.and_eq_true,List.isEmpty_iff]at this
      rw[this.2.1]at hs;cases hs
     refine ka R hrd hcal (fun vs hr=>(hcall own hp live γ w vs R.hp (hth _) hlv0 hbig hfr hr)) ⟨fn,hf1,hf2,hf3⟩ hw fun u w' γ' hs=>hK u w' γ' ?_
     rw[zy hst,wt hst,full_r]at hs
     have e1:Ck id { ok:=P3 hp id t,ob:=[As P f xs (t.ids.map fun i=>(i,hp i)) id (t.full hp)],v:=t.r,mo:=(none:Option OT) } hp=hp:=Eo rfl rfl
     have e2:E8 id { ok:=P3 hp id t,ob:=[As P f xs (t.ids.map fun i=>(i,hp i)) id (t.full hp)],v:=t.r,mo:=(none:Option OT) } live=live:=by rw[Du rfl rfl,C5]
     first | (rw[e1,e2];exact hs) | exact hs
   ·cases hok
  rename_i hot
  simp only[hot]at hob hkill hK hmo
  split at hok
  ·rename_i f ds lb lo t hpc hd
   simp only[hpc,hd]at hob hkill hK
   split at hok
   ·cases hok
   rename_i hfl
   simp only[if_neg hfl]at hob hkill hK
   have hp1:Ah P f ds (Sm cs.d t):=hob _ (by simp[Q.when])
   unfold Mx at hpc
   split at hpc
   ·rename_i f' args ts ho
    rw[Option.map_eq_some_iff]at hpc
    obtain⟨ds',ha,he⟩:=hpc
    simp only[Prod.mk.injEq]at he
    obtain⟨rfl,rfl,rfl,rfl⟩:=he
    have hops:∀ y∈args.toList,F2 E o.guard y=true:=by
     unfold Cf at hrd
     rw[ho]at hrd
     intro y hy
     have:=List.all_eq_true.1 hrd y (by simp[Op.operands,Call.operands];exact .inr (by simpa using hy))
     exact this
    have hreps:RepAL γ (args.toList.map (Bf E)) (args.toList.map a.eval):=Nx fun y hy=>Hk R hw (hops y hy)
    obtain⟨⟨fn,hf1,hf2,hf3⟩,hcall⟩:=hp1
    have hrun:Calls P f' (args.toList.map a.eval).toArray w fun e w'=>∃ v ν,e=.returned v∧Fu w w'∧(∀ b o,b < w.heap.size→ν b o=γ.μ b o)∧Jc ν w'∧Rep ν (Sm cs.d t) v:=by
     cases hb:(args.toList.map (Bf E)).any cq with
     | false=>exact hcall γ.μ w _ hbig.gw R.hp.fz (Ul ha hb hreps)
     | true =>
      rw[hb]at hfl
      simp only[Bool.true_and,Bool.not_eq_true',Bool.not_eq_false]at hfl
      refine(hcall _ w _ hbig.gw (lent_fz R.hp) (M1 R.hp ha (fun p hp=>hob p (by simp only[Q.when];exact List.mem_append_left _ hp)) hreps)).mono ?_
      rintro e w' ⟨v,ν,h1,h2,h3,h4,h5⟩
      refine⟨v,fun b o=>if b < w.heap.size then γ.μ b o else ν b o,h1,h2,fun b o hlt=>if_pos hlt,fun b o x hx=>?_,Rep.flat _ _ hfl h5⟩
      by_cases hlt:b < w.heap.size
      ·simp only[hlt,if_true]at hx
       exact h4 b o x (by rw[h3 b o hlt];exact Sl R.hp b o x hx)
      ·simp only[hlt,if_false]at hx
       exact h4 b o x hx
    unfold Oper.wp execOp
    simp only[ho]
    have hres:((resolve a.eval { callee:=.value (.func f'),args:=args,argTypes:=ts } o.type).run P w)=.ok { target:=.fn (.func f') #[],args:=args.map a.eval } w:=by
     simp[resolve,Act.eval,Deferred.ofValue]
    have hinv:(invoke (.fn (.func f') #[]) (args.map a.eval)).run P w=.ok (.enter f' (args.map a.eval)) w:=by
     simp only[invoke,callFunc,program,Sem.run_bind,Array.append_empty]
     simp[Sem.run,hf1,hf3,Option.isNone_iff_eq_none]
     intro h;rw[h]at hf2;cases hf2
    rw[Sem.run_bind,hres,Result.andThen_ok,hinv]
    simp only[Oper.upon]
    have hm:(args.toList.map a.eval).toArray=args.map a.eval:=by rw[← Array.toList_inj];simp
    rw[hm]at hrun
    refine hrun.mono ?_
    rintro e w' ⟨u,ν,rfl,hx,hν,hfz,hr⟩
    show K (a.put o.dst u) w'
    rw[hd]
    exact hK u w' _ (by
     have:=AAz R.hp id h1 h2 hid hlv hx hν hfz hr
     rw[Eo rfl,Du rfl]
     show Stp own hp live γ w id (Cr id none hp) (G6 id false live) _ u _ w'
     rw[N8,C5]
     exact this)
   ·cases hpc
  ·cases hok
 ·rename_i hc
  by_cases hrow:cs.a.contains id=true
  ·rw[if_pos hrow]at hok
   simp only[hc,hrow,if_true,Bool.false_eq_true,if_false]at hob hkill hK
   have hdoes:Does P own hp live γ w a.eval o id (Lc P id (Bf E) o.op):=by
    have cases_:(∃ args ts,o.op=.call { callee:=.builtin .append,args:=args,argTypes:=ts })∨Lc P id (Bf E) o.op=.no:=by
     unfold Lc
     split
     ·rename_i args ts ho;exact .inl ⟨args,ts,ho⟩
     ·exact .inr rfl
    rcases cases_ with⟨args,ts,ho⟩ | hno
    ·have he:Lc P id (Bf E) o.op=Di P id (args.toList.map (Bf E)) ts.toList:=by rw[ho];rfl
     rw[he]at hok hob hkill ⊢
     have hops:∀ y∈args,RepA γ (Bf E y) (a.eval y):=fun y hy=>by
      unfold Cf at hrd
      rw[ho]at hrd
      exact Hk R hw (List.all_eq_true.1 hrd y (by simp[Op.operands,Call.operands];simpa using hy))
     exact Yf R.hp h1 h2 hid hlv hown ho (Bf E) hops hok hob hkill
    ·rw[hno]at hok;cases hok
   obtain⟨u,w',γ',hran,hs⟩:=hdoes
   unfold Oper.wp
   rcases hran with hran | ⟨rfl,hran⟩
   ·rw[hran];exact hK u w' γ' hs
   ·rw[hran];exact hK undef w' γ' hs
  rw[if_neg hrow]at hok
  simp only[hc,if_neg hrow]at hob hkill hK
  by_cases hvec:(cs.a.contains (id+1)&&wd o.op)=true
  ·rw[if_pos hvec]at hok
   simp only[hvec,if_true,Bool.false_eq_true,if_false]at hob hkill hK
   have hdoes:Does P own hp live γ w a.eval o id (Fi P hp id (Bf E) o.op):=by
    have cases_:(∃ args ts,o.op=.call { callee:=.builtin .append,args:=args,argTypes:=ts })∨(∃ t len parts,o.op=.buildSlice t len parts)∨(∃ t l c,o.op=.makeSlice t l c)∨Fi P hp id (Bf E) o.op=.no:=by
     unfold Fi
     split
     ·rename_i args ts ho;exact .inl ⟨args,ts,ho⟩
     ·rename_i t len parts ho;exact .inr (.inl ⟨t,len,parts,ho⟩)
     ·rename_i t l c ho;exact .inr (.inr (.inl ⟨t,l,c,ho⟩))
     ·exact .inr (.inr (.inr rfl))
    rcases cases_ with⟨args,ts,ho⟩ | ⟨t,len,parts,ho⟩ | ⟨t,l,c,ho⟩ | hno
    ·have he:Fi P hp id (Bf E) o.op=N3 P hp id (args.toList.map (Bf E)) ts.toList:=by rw[ho];rfl
     rw[he]at hok hob ⊢
     have hops:∀ y∈args,RepA γ (Bf E y) (a.eval y):=fun y hy=>by
      unfold Cf at hrd
      rw[ho]at hrd
      exact Hk R hw (List.all_eq_true.1 hrd y (by simp[Op.operands,Call.operands];simpa using hy))
     exact AAE R.hp h1 h2 hid hlv hown ho (Bf E) hops hok hob
    ·have he:Fi P hp id (Bf E) o.op=F5 P id t len parts.toList (Bf E):=by rw[ho];rfl
     rw[he]at hok ⊢
     have hops:∀ y∈parts.toList,RepA γ (Bf E y.2) (a.eval y.2):=fun y hy=>by
      unfold Cf at hrd
      rw[ho]at hrd
      exact Hk R hw (List.all_eq_true.1 hrd y.2 (by simp[Op.operands];exact⟨y.1,by simpa using hy⟩))
     exact ky R.hp h1 h2 hid hlv hown ho (Bf E) hops hok
    ·have he:Fi P hp id (Bf E) o.op=E5 P id t (Bf E l) (Bf E c):=by rw[ho];rfl
     rw[he]at hok hob ⊢
     unfold Cf at hrd
     rw[ho]at hrd
     exact em R.hp h1 h2 hid hlv hown ho (Hk R hw (List.all_eq_true.1 hrd l (by simp[Op.operands]))) (Hk R hw (List.all_eq_true.1 hrd c (by simp[Op.operands]))) hok hob
    ·rw[hno]at hok;cases hok
   obtain⟨u,w',γ',hran,hs⟩:=hdoes
   unfold Oper.wp
   rcases hran with hran | ⟨rfl,hran⟩
   ·rw[hran];exact hK u w' γ' hs
   ·rw[hran];exact hK undef w' γ' hs
  rw[if_neg hvec]at hok
  simp only[if_neg hvec]at hob hkill hK
  have hok2:(Bw P o.op (Bf E) hp id).ok=true:=by
   split at hok
   ·rwa [Q.cold_ok]at hok
   ·exact hok
  have hob2:∀ p∈(Bw P o.op (Bf E) hp id).ob,p:=by
   cases hg:o.guard.isSome with
   | true=>rw[hg]at hob;simpa [Q.cold_ob] using hob
   | false=>rw[hg]at hob;simpa using hob
  have hkill2:∀ tk,(Bw P o.op (Bf E) hp id).kill=some tk→live tk:=by
   cases hg:o.guard.isSome with
   | true=>rw[hg]at hkill;simpa [Q.cold_kill] using hkill
   | false=>rw[hg]at hkill;simpa using hkill
  have hdoes:=AAn (P:=P) (ρ:=a.eval) R.hp h1 h2 hid hlv hown (Bf E) (o:=o) (fun hnp x hx=>by
    unfold Cf at hrd
    split at hrd
    ·rename_i c a b ho;exact absurd ho (hnp c a b)
    ·exact Hk R hw (List.all_eq_true.1 hrd x (by simpa using hx)))
   (fun c b1 b2 ho=>by
    unfold Cf at hrd
    rw[ho]at hrd
    simp only[Bool.and_eq_true]at hrd
    obtain⟨r1,r2,r3⟩:=hrd
    have hc1:=Hk R hw r1
    have arm:∀ (x:Operand) (want:Bool),Pk ops E o.guard c want x=true→∀ y,Bf E c=.d (.bool y)→y=want→RepA γ (Bf E x) (a.eval x):=by
     intro x want hx y hy hyw
     simp only[Pk,Bool.or_eq_true]at hx
     rcases hx with hx | hx
     ·exact Hk R hw hx
     ·cases x with
      | tmp t =>
       simp only at hx
       cases hg:(E t).g with
       | none=>simp only[hg]at hx;cases hx
       | some g =>
        obtain⟨j,wj⟩:=g
        simp only[hg,Bool.and_eq_true,beq_iff_eq]at hx
        obtain⟨rfl,hx⟩:=hx
        have hf:=R.fr t
        unfold EOk at hf
        rw[hg]at hf
        rcases hf with hf | hf
        ·exact hf.2.2
        ·exfalso
         apply hf.1
         unfold AC9 at hx
         split at hx
         ·rename_i oj tc hoj
          simp only[beq_iff_eq]at hx
          rw[hy]at hc1
          simp only[RepA,Rep,Act.eval]at hc1
          unfold yielded
          rw[List.getElem?_toArray,hoj,Option.bind_some,hx,Option.bind_some]
          have:a.tmps[tc]?=some (.bool y):=by
           rw[Array.getD_eq_getD_getElem?]at hc1
           cases hh:a.tmps[tc]? with
           | none=>rw[hh]at hc1;cases hc1
           | some z=>rw[hh]at hc1;simpa using hc1
          rw[this,hyw]
         ·cases hx
      | _=>cases hx
    exact⟨hc1,arm b1 true r2,arm b2 false r3⟩)
   (fun _=>rfl) hok2 hob2 hkill2
  obtain⟨u,w',γ',hran,hs⟩:Does P own hp live γ w a.eval o id (if o.guard.isSome=true then(Bw P o.op (Bf E) hp id).cold else Bw P o.op (Bf E) hp id):=by
   split
   ·exact hdoes.cold
   ·exact hdoes
  unfold Oper.wp
  rcases hran with hran | ⟨rfl,hran⟩
  ·rw[hran];exact hK u w' γ' hs
  ·rw[hran];exact hK undef w' γ' hs
end Go.Av
namespace Go.Av
open Go.RowKit Go.Base
variable {P:Program} {γ γ':G} {w w' w0:World} {own:Nat→Prop} {hp:Nat→Option Ob} {live:Nat→Prop} {ops:List Oper} {N:Nat} {μ0:G0}
theorem Ly (fr:List (Nat×AV)) (o:Oper) (x:LE) (lf:List (Nat×LE)) (t:Nat):Ba fr (Vh o x lf) t=if o.dst=some t then x else Ba fr lf t:=by
 unfold Vh
 cases o.dst with
 | none=>simp
 | some d=>simp[Ba]
theorem Dk (i:Nat) (o:Ob) (l:List (Nat×Ob)) (j:Nat):Ak ((i,o) :: l) j=if j=i then some o else Ak l j:=by
 simp only[Ak]
 by_cases h:i=j
 ·rw[if_pos h,if_pos h.symm]
 ·rw[if_neg h,if_neg (Ne.symm h)]
theorem aw:∀ (l l':List (Nat×Ob)) (j:Nat),Ak (l++l') j=match Ak l j with | some o=>some o | none=>Ak l' j
 | [],_,_=>rfl
 | (i,v) :: l,l',j=>by
  simp only[List.cons_append,Ak]
  split
  ·rfl
  ·exact aw l l' j
theorem Pv (id:Nat) (q:Q) (hp:List (Nat×Ob)):Ak (Y6 id q hp)=Ck id q (Ak hp):=by
 funext j
 unfold Y6 Ck Cr
 cases q.mo with
 | some t =>
  show Ak (t.ups++hp) j=_
  exact aw t.ups hp j
 | none =>
 cases q.new with
 | none=>cases q.upd with
  | none=>rfl
  | some x=>exact Dk x.1 x.2 hp j
 | some y=>cases q.upd with
  | none=>exact Dk id y hp j
  | some x =>
   show Ak ((x.1,x.2) :: (id,y) :: hp) j=if j=x.1 then some x.2 else if j=id then some y else Ak hp j
   rw[Dk,Dk]
theorem V9 (id:Nat) (q:Q) (live:List Nat):(fun t=>t∈Us id q live)=E8 id q (fun t=>t∈live):=by
 funext t
 unfold Us E8
 cases hm:q.mo with
 | some m =>
  simp only[List.mem_append,List.mem_filter,eq_iff_iff]
  constructor
  ·rintro(h | ⟨h1,h2⟩)
   ·exact .inr h
   ·exact .inl ⟨h1,by simpa using h2⟩
  ·rintro(⟨h1,h2⟩ | h)
   ·exact .inr ⟨h1,by simpa using h2⟩
   ·exact .inl h
 | none =>
 simp only
 have key:(t∈Ww q live)=(t∈live∧q.kill≠some t):=by
  unfold Ww
  cases q.kill with
  | none=>simp
  | some k =>
   simp only[List.mem_filter,bne_iff_ne,ne_eq,Option.some.injEq,eq_iff_iff]
   exact⟨fun⟨a,b⟩=>⟨a,fun h=>b h.symm⟩,fun⟨a,b⟩=>⟨a,fun h=>b h.symm⟩⟩
 cases q.tok with
 | true =>
  simp only[if_true,List.mem_cons,true_and,eq_iff_iff]
  rw[key]
  exact⟨fun h=>h.elim .inr .inl,fun h=>h.elim .inr .inl⟩
 | false =>
  simp only[Bool.false_eq_true,if_false,false_and,or_false]
  exact key
theorem AAU {hp:Nat→Option Ob} {id:Nat} {q:Q} {live:List Nat} {id':Nat} (h:id' ∉ live) (hne:id' < id∨id+16≤id') (hmo:∀ t,q.mo=some t→P3 hp id t=true):id' ∉ Us id q live:=by
 intro hm
 have:(fun t=>t∈Us id q live) id':=hm
 rw[V9]at this
 have hne':id'≠id:=by omega
 unfold E8 at this
 cases hq:q.mo with
 | some t =>
  simp only[hq]at this
  exact ft (live:=fun s=>s∈live) (hmo t hq) h hne this
 | none =>
 simp only[hq]at this
 rcases this with⟨h2,_⟩ | ⟨_,h2⟩
 ·exact h h2
 ·exact hne' h2
theorem ca {tmps:Array Value} {t:Nat} {b:Bool} (h:tmps.getD t undef=.bool b):tmps[t]?=some (.bool b):=by
 rw[Array.getD_eq_getD_getElem?]at h
 cases hh:tmps[t]? with
 | none=>rw[hh]at h;cases h
 | some z=>rw[hh]at h;simpa using h
theorem un {tmps:Array Value} {t:Nat} (h:tmps.getD t undef=undef) (b:Bool):tmps[t]?≠some (.bool b):=fun e=>by
 rw[Array.getD_eq_getD_getElem?,e]at h;cases h
theorem uq {tmps:Array Value} {j:Nat} {o:Oper} {t:Nat} (ho:ops[j]?=some o) (ht:o.dst=some t):(∀ b,tmps[t]?=some (.bool b)→yielded ops.toArray tmps j=some b)∧((∀ b,tmps[t]?≠some (.bool b))→yielded ops.toArray tmps j=none):=by
 unfold yielded
 have e:ops.toArray[j]?=some o:=by simpa using ho
 rw[e,Option.bind_some,ht,Option.bind_some]
 refine⟨fun b hb=>by rw[hb],fun hb=>?_⟩
 split
 ·rename_i b h;exact absurd h (hb b)
 ·rfl
theorem kl (want b G:Bool):(some b=some want→(if want then b else !b)=true)∧(some b≠some want→(if want then b else !b)=false):=by
 cases want<;>cases b<;>simp
theorem Pu {a:Act} {done:Nat→Prop} {E:Nat→LE} (R:RL own μ0 w0 N ops done E hp live γ a w) {g:Nat×Bool} {G:Bool} (h:Ea ops E g=some G) :
  (yielded ops.toArray a.tmps g.1=some g.2→G=true)∧(yielded ops.toArray a.tmps g.1≠some g.2→G=false):=by
 unfold Ea at h
 split at h
 ·rename_i o ho
  split at h
  ·rename_i t ht
   have hf:=R.fr t
   have hy:=uq (ops:=ops) (tmps:=a.tmps) ho ht
   unfold fh at h
   unfold EOk at hf
   split at h
   ·rename_i b hE
    injection h with h
    rw[hE]at hf
    simp only[RepA,Rep]at hf
    rw[hy.1 _ (ca hf),← h]
    exact kl g.2 b true
   ·rename_i gj G' b hE
    injection h with h
    rw[hE]at hf
    obtain⟨j,wj⟩:=gj
    simp only[RepA,Rep]at hf
    rcases hf with⟨_,hG,hv⟩ | ⟨_,hG,hv⟩
    ·rw[hy.1 _ (ca hv),← h,hG]
     exact kl g.2 b true
    ·rw[hy.2 (un hv),← h,hG]
     exact⟨(fun e=>by cases e),fun _=>rfl⟩
   ·cases h
  ·cases h
 ·cases h
def Og (o:Oper) (x:LE) (E:Nat→LE):Nat→LE:=fun t=>if o.dst=some t then x else E t
theorem jf {a:Act} {o:Oper} {v:Value} (hd:∀ t,o.dst=some t→t < a.tmps.size) (t:Nat):(a.put o.dst v).tmps.getD t undef=if o.dst=some t then v else a.tmps.getD t undef:=by
 cases h:o.dst with
 | none=>simp[Act.put]
 | some d=>rw[AAL (hd d h)];simp
theorem EOk.mono {γ γ':G} (le:LeG γ γ') {tmps:Array Value} {x:LE} {t:Nat} (h:EOk ops γ tmps x t):EOk ops γ' tmps x t:=by
 unfold EOk at *
 split
 ·rename_i hg;rw[hg]at h;exact h.mono le
 ·rename_i j want hg;rw[hg]at h;exact h.imp (fun⟨a,b,c⟩=>⟨a,b,c.mono le⟩) id
theorem RL.put {a:Act} {done:Nat→Prop} {E:Nat→LE} (R:RL own μ0 w0 N ops done E hp live γ a w) (hr:Jt ops N=true) {i:Nat} {o:Oper} (hi:ops[i]?=some o) (hd:¬ done i) {x:LE} {u:Value} {hp':Nat→Option Ob} {live':Nat→Prop}
  (le:LeG γ γ') (hH:Hp own hp' live' γ' w') (hb:Base own w w') (hmu:∀ b o,b < w.heap.size→¬ own b→γ'.μ b o=γ.μ b o)
  (hx:match x.g with
   | none=>RepA γ' x.v u
   | some (j,want)=>done j∧((yielded ops.toArray a.tmps j=some want∧x.G=true∧RepA γ' x.v u)∨(yielded ops.toArray a.tmps j≠some want∧x.G=false∧u=undef))) :
  RL own μ0 w0 N ops (fun k=>done k∨k=i) (Og o x E) hp' live' γ' (a.put o.dst u) w':=by
 obtain⟨hn,hN⟩:=Xn hr
 have hdt:∀ t,o.dst=some t→t < a.tmps.size:=fun t h=>by rw[R.size];exact hN hi h
 have hy:∀ j,done j→yielded ops.toArray (a.put o.dst u).tmps j=yielded ops.toArray a.tmps j:=fun j hj=>lm fun oj hoj t ht e=>hd (by
  have:=Vc hn hoj hi ht e
  exact this ▸ hj)
 have hbig:∀ b,w.heap.size≤b→own b:=fun b hb'=>R.big b (Nat.le_trans R.base.size hb')
 refine⟨by cases h:o.dst<;>simp[Act.put,h,R.defers],by cases h:o.dst<;>simp[Act.put,h,R.size],fun t=>?_,fun t j want h=>?_,hH,R.base.trans hbig hb,R.big,R.mu.step le fun b o hb' hn=>hmu b o (Nat.lt_of_lt_of_le hb' R.base.size) hn⟩
 ·unfold Og
  by_cases ht:o.dst=some t
  ·rw[if_pos ht]
   unfold EOk
   rw[jf hdt,if_pos ht]
   split
   ·rename_i hg;rw[hg]at hx;exact hx
   ·rename_i j want hg
    rw[hg]at hx
    rw[hy j hx.1]
    exact hx.2
  ·rw[if_neg ht]
   have:=(R.fr t).mono le
   unfold EOk at *
   rw[jf hdt,if_neg ht]
   split
   ·rename_i hg;rw[hg]at this;exact this
   ·rename_i j want hg
    rw[hg]at this
    rw[hy j (R.gd t j want hg)]
    exact this
 ·unfold Og at h
  split at h
  ·rw[h]at hx;exact .inl hx.1
  ·exact .inl (R.gd t j want h)
structure He (nx:Nat) (hp:Nat→Option Ob) (live:Nat→Prop) (γ:G):Prop where
 ok:∀ id,nx≤id→γ.ι id=none∧γ.τ id=none∧hp id=none∧¬ live id
theorem Qa:∀ {l:List Prop} {R:Prop},Ui l R→(∀ p∈l,p)∧R
 | [],_,h=>⟨(fun p hp=>by cases hp),h⟩
 | p :: l,R,h=>by
  obtain⟨h1,h2⟩:=h
  obtain⟨h3,h4⟩:=Qa h2
  exact⟨(fun q hq=>by rcases List.mem_cons.1 hq with rfl | hq;exact h1;exact h3 q hq),h4⟩
theorem Rl {G:Bool}:∀ {l:List Prop} {R:Prop},u0 G l R→(G=true→∀ p∈l,p)∧R
 | [],_,h=>⟨(fun _ p hp=>by cases hp),h⟩
 | p :: l,R,h=>by
  obtain⟨h1,h2⟩:=h
  obtain⟨h3,h4⟩:=Rl h2
  exact⟨(fun hG q hq=>by rcases List.mem_cons.1 hq with rfl | hq;exact h1 hG;exact h3 hG q hq),h4⟩
theorem Uf {q:Q} {live:List Nat} (h:L3 q live=true):∀ tk,q.kill=some tk→tk∈live:=fun tk hk=>by
 unfold L3 at h
 rw[Bool.and_eq_true,hk]at h
 simpa using h.2
theorem au {q:Q} {live:List Nat} (h:L3 q live=true):∀ t,q.mo=some t→∀ s∈t.lv,s∈live:=fun t ht s hs=>by
 unfold L3 at h
 rw[Bool.and_eq_true,ht]at h
 have:=h.1
 simp only[List.all_eq_true,List.contains_eq_mem,decide_eq_true_eq]at this
 exact this s hs
theorem ss {nx i:Nat} {s:LS} (o:Oper) (q:Q) (g:Option (Nat×Bool)) (G':Bool) {v:AV} {u:Value} (hf:He (nx+16 * i) (Ak s.hp) (·∈s.live) γ)
  (hu:∀ d ob,q.upd=some (d,ob)→∃ o',Ak s.hp d=some o') (hmo:∀ t,q.mo=some t→P3 (Ak s.hp) (nx+16 * i) t=true) (hs:Stp own (Ak s.hp) (·∈s.live) γ w (nx+16 * i) (Ck (nx+16 * i) q (Ak s.hp)) (E8 (nx+16 * i) q (·∈s.live)) v u γ' w') :
  He (nx+16 * (i+1)) (Ak (s.step o (nx+16 * i) q g G').hp) (·∈(s.step o (nx+16 * i) q g G').live) γ':=⟨fun id hid=>by
 obtain⟨h1,h2,h3,h4⟩:=hf.ok id (by omega)
 have hne:id≠nx+16 * i:=by omega
 obtain⟨h5,h6⟩:=hs.other id (by omega)
 refine⟨by rw[h5,h1],by rw[h6,h2],?_,AAU h4 (by omega) hmo⟩
 show Ak (Y6 (nx+16 * i) q s.hp) id=none
 rw[Pv]
 unfold Ck Cr
 cases hq:q.mo with
 | some t=>exact kg (hmo t hq) h3 (by omega)
 | none =>
 simp only
 split
 ·rename_i d ob hupd
  obtain⟨o',ho'⟩:=hu d ob hupd
  rw[if_neg (fun h=>by rw[h,ho']at h3;cases h3)]
  split
  ·rw[if_neg hne];exact h3
  ·exact h3
 ·split
  ·rw[if_neg hne];exact h3
  ·exact h3⟩
theorem Fe {α:Type} {x:Option α} {f:α→Q} {r:Nat×Ob} (h:(B6 x f).upd=some r):∃ a,x=some a∧(f a).upd=some r:=by
 cases x with
 | none=>cases h
 | some a=>exact⟨a,rfl,h⟩
theorem Oy {P:Program} {t:TypeId} {hp:Nat→Option Ob} {m x y:AV} {d:Nat} {ob:Ob} (h:(C6 P t hp m x y).upd=some (d,ob)):∃ o',hp d=some o':=by
 unfold C6 at h
 obtain⟨⟨k,e,b⟩,_,h⟩:=Fe h
 obtain⟨⟨s,kp⟩,_,h⟩:=Fe h
 obtain⟨⟨v,vp⟩,_,h⟩:=Fe h
 dsimp only at h
 split at h
 ·split at h
  ·rename_i hm
   split at h
   ·simp only[Option.some.injEq,Prod.mk.injEq]at h
    exact⟨_,by rw[← h.1];exact hm⟩
   ·cases h
  ·cases h
 ·cases h
theorem Ws {P:Program} {t:TypeId} {hp:Nat→Option Ob} {m x y:AV} {d:Nat} {ob:Ob} (h:(Er P t hp m x y).upd=some (d,ob)):∃ o',hp d=some o':=by
 unfold Er at h
 obtain⟨⟨k,e,z⟩,_,h⟩:=Fe h
 dsimp only at h
 split at h
 ·split at h
  ·split at h
   ·rename_i hm
    split at h
    ·simp only[Option.some.injEq,Prod.mk.injEq]at h
     exact⟨_,by rw[← h.1];exact hm⟩
    ·cases h
   ·cases h
  ·cases h
 ·cases h
theorem sw {P:Program} {hp:Nat→Option Ob} {args:List AV} {ts:List TypeId} {d:Nat} {ob:Ob} (h:(Fk P hp args ts).upd=some (d,ob)):∃ o',hp d=some o':=by
 unfold Fk at h
 split at h
 ·obtain⟨⟨k,e,z⟩,_,h⟩:=Fe h
  dsimp only at h
  split at h
  ·split at h
   ·split at h
    ·rename_i hm
     split at h
     ·simp only[Option.some.injEq,Prod.mk.injEq]at h
      exact⟨_,by rw[← h.1];exact hm⟩
     ·cases h
    ·cases h
   ·cases h
  ·cases h
 ·cases h
theorem cb {P:Program} {cs:Cs} {o:Oper} {e:Operand→AV} {hp:Nat→Option Ob} {id d:Nat} {ob:Ob} (h:(Bu P cs o e hp id).upd=some (d,ob)):∃ o',hp d=some o':=by
 unfold Bu at h
 split at h
 ·split at h
  ·split at h<;>cases h
  ·split at h
   ·split at h<;>cases h
   ·cases h
 ·split at h
  ·rw[(js P id e o.op).2]at h;cases h
  split at h
  ·exact(S5 P hp id e o.op).2.2.2 d ob h
  have h:(Bw P o.op e hp id).upd=some (d,ob):=by
   split at h
   ·rwa [Q.cold_upd]at h
   ·exact h
  unfold Bw at h
  split at h<;>try (cases h;done)
  ·split at h<;>cases h
  ·rename_i t a x
   unfold Gk at h
   split at h
   ·split at h
    ·rename_i d' off cs' hcs
     split at h
     ·simp only[Option.some.injEq,Prod.mk.injEq]at h
      exact⟨_,by rw[← h.1];exact hcs⟩
     ·cases h
    ·cases h
   ·split at h
    ·rename_i d' sz i off z n f y hcs _
     split at h
     ·simp only[Option.some.injEq,Prod.mk.injEq]at h
      exact⟨_,by rw[← h.1];exact hcs⟩
     ·split at h
      ·simp only[Option.some.injEq,Prod.mk.injEq]at h
       exact⟨_,by rw[← h.1];exact hcs⟩
      ·cases h
    ·rename_i hcs
     split at h
     ·simp only[Option.some.injEq,Prod.mk.injEq]at h
      exact⟨_,by rw[← h.1];exact hcs⟩
     ·cases h
    ·cases h
   ·split at h
    ·rename_i d' sz i off e' z n f y hcs _
     split at h
     ·simp only[Option.some.injEq,Prod.mk.injEq]at h
      exact⟨_,by rw[← h.1];exact hcs⟩
     ·split at h
      ·simp only[Option.some.injEq,Prod.mk.injEq]at h
       exact⟨_,by rw[← h.1];exact hcs⟩
      ·cases h
    ·cases h
   ·cases h
  ·split at h
   ·exact Oy h
   ·exact Ws h
  ·split at h
   ·exact Oy h
   ·exact Ws h
  ·exact sw h
  ·unfold Jf at h
   split at h
   ·obtain⟨el,_,h⟩:=Fe h
    obtain⟨⟨z,m,g⟩,_,h⟩:=Fe h
    dsimp only at h
    split at h
    ·split at h
     ·rename_i d' sz n s' k f hcs
      split at h
      ·simp only[Option.some.injEq,Prod.mk.injEq]at h
       exact⟨_,by rw[← h.1];exact hcs⟩
      ·cases h
     ·cases h
    ·cases h
   ·cases h
  ·unfold Gn at h
   split at h
   ·split at h
    ·obtain⟨el,_,h⟩:=Fe h
     obtain⟨⟨z,m,g⟩,_,h⟩:=Fe h
     dsimp only at h
     split at h
     ·split at h
      ·split at h
       ·unfold Ee at h
        split at h
        ·split at h
         ·split at h<;>cases h
         ·cases h
        ·cases h
       ·cases h
      ·unfold Ee at h
       split at h
       ·split at h
        ·split at h
         ·dsimp only at h
          split at h<;>cases h
         ·cases h
        ·cases h
       ·cases h
     ·cases h
    ·cases h
   ·cases h
theorem Kx {QQ:Exit→Act→World→Prop} {o:Oper} {l:List Oper} {a:Act} (h1:Region.wanted o (yielded ops.toArray a.tmps)=true→o.wp P a w (wpList P ops.toArray QQ l) QQ)
  (h2:Region.wanted o (yielded ops.toArray a.tmps)=false→wpList P ops.toArray QQ l (a.put o.dst undef) w):wpList P ops.toArray QQ (o :: l) a w:=by
 unfold wpList
 split
 ·rename_i h;exact .inl (h1 h)
 ·rename_i h;exact h2 (by simpa using h)
theorem Uq {o:Oper} {y:Nat→Option Bool} (h:o.guard=none):Region.wanted o y=true:=by simp[Region.wanted,h]
theorem Dt {o:Oper} {y:Nat→Option Bool} {g:Nat×Bool} (h:o.guard=some g):(Region.wanted o y=true↔y g.1=some g.2):=by simp[Region.wanted,h]
theorem Sq (hr:Jt ops N=true) {cs:Cs} {fr:List (Nat×AV)} {nx:Nat} {K:LS→Prop} {QQ:Exit→Act→World→Prop}
  (hQ:∀ (s:LS) (γ:G) (a:Act) (w:World),K s→RL own μ0 w0 N ops (· < ops.length) (Ba fr s.lf) (Ak s.hp) (·∈s.live) γ a w→He (nx+16 * ops.length) (Ak s.hp) (·∈s.live) γ→QQ .normal a w) :
  ∀ (l:List Oper) (i:Nat) (s:LS) (γ:G) (a:Act) (w:World),i+l.length=ops.length→(∀ k,l[k]?=ops[i+k]?)→RL own μ0 w0 N ops (· < i) (Ba fr s.lf) (Ak s.hp) (·∈s.live) γ a w →
   He (nx+16 * i) (Ak s.hp) (·∈s.live) γ→Hn P cs ops fr nx i l s K→wpList P ops.toArray QQ l a w
 | [],i,s,γ,a,w,hl,_,R,F,h=>by
  simp only[List.length_nil,Nat.add_zero]at hl
  subst hl
  exact hQ s γ a w h R F
 | o :: l,i,s,γ,a,w,hl,hops,R,F,h=>by
  have hi:ops[i]?=some o:=by have:=hops 0;simpa using this.symm
  have hnd:¬ (i < i):=Nat.lt_irrefl i
  have hops':∀ k,l[k]?=ops[i+1+k]?:=fun k=>by have:=hops (k+1);rw[show i+1+k=i+(k+1) by omega];simpa using this
  have hl':i+1+l.length=ops.length:=by simp at hl;omega
  have hdone:(fun k=>k < i∨k=i)=(fun k=>k < i+1):=by funext k;simp only[eq_iff_iff];omega
  obtain⟨f1,f2,f3,f4⟩:=F.ok (nx+16 * i) (Nat.le_refl _)
  unfold Hn at h
  -- it does not run
  have skip:∀ (x:LE) (s':LS),s'.lf=Vh o x s.lf→s'.hp=s.hp→s'.live=s.live→(match x.g with
    | none=>x.v=.any
    | some (j,want)=>j < i∧yielded ops.toArray a.tmps j≠some want∧x.G=false)→Hn P cs ops fr nx (i+1) l s' K→wpList P ops.toArray QQ l (a.put o.dst undef) w:=fun x s' h1 h2 h3 hx hrest=>by
   have R':=R.put (i:=i) (x:=x) (u:=undef) hr hi hnd (LeG.refl γ) R.hp (Base.refl own w) (fun _ _ _ _=>rfl) (by
    cases hg:x.g with
    | none=>rw[hg]at hx;simp only at hx;rw[hx];simp only[RepA]
    | some jw=>obtain⟨j,want⟩:=jw;rw[hg]at hx;exact⟨hx.1,.inr ⟨hx.2.1,hx.2.2,rfl⟩⟩)
   rw[hdone]at R'
   refine Sq hr hQ l (i+1) s' γ _ w hl' hops' ?_ ?_ hrest
   ·have e1:Ba fr s'.lf=Og o x (Ba fr s.lf):=by
     funext t;rw[h1];exact Ly fr o _ s.lf t
    rw[e1,h2,h3]
    exact R'
   ·rw[h2,h3]
    exact⟨fun id hid=>F.ok id (by omega)⟩
  split at h
  ·cases hg:o.guard with
   | none=>rw[hg]at h;exact h.elim
   | some g =>
    rw[hg]at h
    simp only at h
    split at h
    ·rename_i hgi
     split at h
     ·exact h.elim
     ·rename_i G' hG
      obtain⟨gs1,gs2⟩:=Pu R hG
      refine Kx (fun hw=>(h.1 (gs1 ((Dt hg).1 hw))).elim) (fun hn=>?_)
      have hy:yielded ops.toArray a.tmps g.1≠some g.2:=fun e=>by
       rw[(Dt hg).2 e]at hn;cases hn
      exact skip ⟨none,true,.any⟩ (s.skip o) rfl rfl rfl rfl (h.2 (gs2 hy))
    ·exact h.elim
  split at h
  ·exact h.elim
  rename_i hrd
  split at h
  ·exact h.elim
  rename_i hok
  split at h
  ·exact h.elim
  rename_i hkl
  generalize hq:Bu P cs o (Bf (Ba fr s.lf)) (Ak s.hp) (nx+16 * i)=q at *
  have hrd':Cf ops (Ba fr s.lf) o=true:=by simpa using hrd
  have hok':q.ok=true:=by simpa using hok
  have hkl':∀ tk,q.kill=some tk→tk∈s.live:=Uf (by simpa using hkl)
  -- it runs,and the rest follows
  have run:∀ (g:Option (Nat×Bool)) (G':Bool),(∀ p∈q.ob,p)→(∀ g',o.guard=some g'→yielded ops.toArray a.tmps g'.1=some g'.2)→(∀ j want,g=some (j,want)→j < i∧yielded ops.toArray a.tmps j=some want∧G'=true) →
    Hn P cs ops fr nx (i+1) l (s.step o (nx+16 * i) q g G') K→o.wp P a w (wpList P ops.toArray QQ l) QQ:=fun g G' hob hw hg hrest=>by
   refine ri R hrd' (cs:=cs) (id:=nx+16 * i) (by rw[hq];exact hok') (by rw[hq];exact hob) (by rw[hq];exact hkl') (by rw[hq];exact au (by simpa using hkl)) (fun j hj _=>F.ok j hj) hw ?_
   rw[hq]
   intro u w' γ' hs
   have R':=R.put (i:=i) (x:=⟨g,G',q.v⟩) hr hi hnd hs.le hs.hp hs.base hs.mu (by
    cases g with
    | none=>exact hs.rep
    | some jw=>obtain⟨j,want⟩:=jw;obtain⟨g1,g2,g3⟩:=hg j want rfl;exact⟨g1,.inl ⟨g2,g3,hs.rep⟩⟩)
   rw[hdone]at R'
   have F':=ss o q g G' F (fun d ob hd=>cb (by rw[hq];exact hd)) (fun t ht=>Z0 (by rw[hq];exact hok') (by rw[hq];exact ht)) hs
   refine Sq hr hQ l (i+1) _ γ' _ w' hl' hops' ?_ F' hrest
   have e1:Ba fr (s.step o (nx+16 * i) q g G').lf=Og o ⟨g,G',q.v⟩ (Ba fr s.lf):=by
    funext t;exact Ly fr o _ s.lf t
   have e2:Ak (s.step o (nx+16 * i) q g G').hp=Ck (nx+16 * i) q (Ak s.hp):=Pv _ _ _
   have e3:(fun t=>t∈(s.step o (nx+16 * i) q g G').live)=E8 (nx+16 * i) q (fun t=>t∈s.live):=V9 _ _ _
   rw[e1,e2,e3]
   exact R'
  cases hg:o.guard with
  | none =>
   rw[hg]at h
   simp only at h
   obtain⟨hob,hrest⟩:=Qa h
   refine Kx (fun _=>run none true hob (fun g' hg'=>by rw[hg]at hg';cases hg') (fun j want hj=>by cases hj) hrest) (fun hn=>?_)
   rw[Uq hg]at hn;cases hn
  | some g =>
   rw[hg]at h
   simp only at h
   split at h
   ·rename_i hgi
    split at h
    ·exact h.elim
    ·rename_i G' hG
     obtain⟨gs1,gs2⟩:=Pu R hG
     split at h
     ·obtain⟨hob,hrest⟩:=Rl h
      refine Kx (fun hw=>?_) (fun hn=>?_)
      ·have hy:=(Dt hg).1 hw
       have hGt:=gs1 hy
       refine run (some g) G' (hob hGt) (fun g' hg'=>by rw[hg]at hg';injection hg' with hg';rw[← hg'];exact hy) (fun j want hj=>?_) hrest
       injection hj with hj
       rw[hj]at hgi hy
       exact⟨hgi,hy,hGt⟩
      ·have hy:yielded ops.toArray a.tmps g.1≠some g.2:=fun e=>by
        rw[(Dt hg).2 e]at hn;cases hn
       rename_i hplain
       unfold Q.plain at hplain
       simp only[Bool.and_eq_true,Option.isNone_iff_eq_none,Bool.not_eq_true']at hplain
       obtain⟨⟨⟨⟨p1,p2⟩,p3⟩,p4⟩,p5⟩:=hplain
       refine skip ⟨some g,G',q.v⟩ _ rfl ?_ ?_ ⟨hgi,hy,gs2 hy⟩ hrest
       ·show Y6 _ q s.hp=s.hp
        simp only[Y6,p1,p3,p5]
       ·show Us _ q s.live=s.live
        simp only[Us,Ww,p2,p4,p5,Bool.false_eq_true,if_false]
     ·obtain⟨ht,hf⟩:=h
      refine Kx (fun hw=>?_) (fun hn=>?_)
      ·have hy:=(Dt hg).1 hw
       obtain⟨hob,hrest⟩:=Qa (ht (gs1 hy))
       exact run none true hob (fun g' hg'=>by rw[hg]at hg';injection hg' with hg';rw[← hg'];exact hy) (fun j want hj=>by cases hj) hrest
      ·have hy:yielded ops.toArray a.tmps g.1≠some g.2:=fun e=>by
        rw[(Dt hg).2 e]at hn;cases hn
       exact skip ⟨none,true,.any⟩ (s.skip o) rfl rfl rfl rfl (hf (gs2 hy))
   ·exact h.elim
end Go.Av
namespace Go.Av
open Go.RowKit Go.Base
variable {P:Program} {γ γ':G} {w w' w0:World} {own:Nat→Prop} {hp:Nat→Option Ob} {live:Nat→Prop} {ops:List Oper} {N:Nat} {μ0:G0}
structure Rec where
 o:Oper
 id:Nat
 q:Q
 g:Option (Nat×Bool)
 gv:Bool
 rd:List Nat
def Kw:AV→List Nat
 | .arr d _ _=>[d]
 | .vec d _ _=>[d]
 | _=>[]
def Bb:AV→List Nat
 | .ptr d _=>[d]
 | .pa d _ _ _=>[d]
 | .arr d _ _=>[d]
 | .mp d=>[d]
 | .vec d _ _=>[d]
 | .pv d _ _ _=>[d]
 | .agg l=>l.flatMap Kw
 | _=>[]
def tz:AV→List Nat
 | .mp d=>[d]
 | _=>[]
def Gu (o:Op) (e:Operand→AV):List Nat :=
 match o with
 | .load _ a=>Bb (e a)
 | .store _ a _=>Bb (e a)
 | .lookup _ m _ _=>Bb (e m)
 | .mapUpdate _ m _ _=>Bb (e m)
 | .insert _ m _ _=>Bb (e m)
 | .call { callee:=.builtin .delete,args,.. }=>(args.toList.map e).flatMap Bb
 | .call { callee:=.builtin .len,args,.. }=>(args.toList.map e).flatMap tz
 | .call { callee:=.builtin .copy,args,.. }=>(args.toList.map e).flatMap Bb
 | .call { callee:=.builtin .append,args,.. }=>(args.toList.map e).flatMap Bb
 | .call { callee:=.value _,args,.. }=>(args.toList.map e).flatMap Bb
 | _=>[]
def Fg (cs:Cs) (o:Op) (id:Nat) (e:Operand→AV):List Nat:=Gu o e++(if wl o then(match X9 cs.o id with | some t=>t.ids | none=>[])else[])
def Rec.wr (r:Rec):List Nat:=match r.q.mo with
 | some t=>t.ups.map (·.1)++(t.lv++t.toks)
 | none =>
 (match r.q.upd with | some (d,_)=>[d] | none=>[])++((match r.q.kill with | some k=>[k] | none=>[])++(if r.q.new.isSome || r.q.tok then[r.id]else[]))
def Vk (P:Program) (cs:Cs) (ops:List Oper) (fr:List (Nat×AV)) (nx:Nat):Nat→List Oper→LS→Option (List Rec×LS)
 | _,[],s=>some ([],s)
 | i,o :: l,s =>
  if Cf ops (Ba fr s.lf) o&&((Bu P cs o (Bf (Ba fr s.lf)) (Ak s.hp) (nx+16 * i)).ok&&L3 (Bu P cs o (Bf (Ba fr s.lf)) (Ak s.hp) (nx+16 * i)) s.live)then
   match o.guard with
   | none=>(Vk P cs ops fr nx (i+1) l (s.step o (nx+16 * i) (Bu P cs o (Bf (Ba fr s.lf)) (Ak s.hp) (nx+16 * i)) none true)).map
     fun r=>(⟨o,nx+16 * i,Bu P cs o (Bf (Ba fr s.lf)) (Ak s.hp) (nx+16 * i),none,true,Fg cs o.op (nx+16 * i) (Bf (Ba fr s.lf))⟩ :: r.1,r.2)
   | some g =>
    if decide (g.1 < i)&&(Bu P cs o (Bf (Ba fr s.lf)) (Ak s.hp) (nx+16 * i)).plain then
     match Ea ops (Ba fr s.lf) g with
     | some G=>(Vk P cs ops fr nx (i+1) l (s.step o (nx+16 * i) (Bu P cs o (Bf (Ba fr s.lf)) (Ak s.hp) (nx+16 * i)) (some g) G)).map
       fun r=>(⟨o,nx+16 * i,Bu P cs o (Bf (Ba fr s.lf)) (Ak s.hp) (nx+16 * i),some g,G,Fg cs o.op (nx+16 * i) (Bf (Ba fr s.lf))⟩ :: r.1,r.2)
     | none=>none
    else none
  else none
def Rk:List Rec→Prop→Prop
 | [],R=>R
 | r :: l,R=>match r.g with
  | none=>Ui r.q.ob (Rk l R)
  | some _=>u0 r.gv r.q.ob (Rk l R)
def Hr (acc:List Nat) (m:Nat) (e:Edge):Nat:=if Region.binds .any e then m ||| (2 ^ e.on ||| acc.getD e.on 0)else m
def Cy:List Oper→List Nat→List Nat
 | [],acc=>acc
 | o :: l,acc=>Cy l (acc++[o.after.toList.foldl (Hr acc) 0])
def G1 (ops:List Oper) (o:Oper):List Tmp:=Oper.looksAt ops.toArray o
def Kv (a b:List Nat):Bool:=a.any b.contains
def apart (ops:List Oper) (x y:Rec):Bool :=
 (match x.o.dst with | some d=>!(G1 ops y.o).contains d | none=>true)&&((match y.o.dst with | some d=>!(G1 ops x.o).contains d | none=>true) &&
 (!Kv x.wr y.wr&&(!Kv x.wr y.rd&&!Kv x.rd y.wr)))
def Wf (ops:List Oper) (rs:List Rec):Bool :=
 let ms:=Cy ops []
 (List.range ops.length).all fun j=>(List.range j).all fun i=>(ms.getD j 0).testBit i || match rs[i]?,rs[j]? with
  | some x,some y=>apart ops x y
  | _,_=>false
def W8 (ops:List Oper):Bool:=(List.range ops.length).all fun i=>match ops[i]? with
 | some o=>o.after.toList.all fun e=>!Region.binds .any e || decide (e.on < i)
 | none=>true
def kj (P:Program) (cs:Cs) (ops:List Oper) (fr:List (Nat×AV)) (nx:Nat) (s:LS) (K:LS→Prop):Prop :=
 match Vk P cs ops fr nx 0 ops s with
 | some (rs,s')=>if W8 ops&&Wf ops rs then Rk rs (K s')else False
 | none=>False
structure Fx where
 E:Nat→LE
 hp:Nat→Option Ob
 live:Nat→Prop
def Rec.ap (r:Rec) (F:Fx):Fx:=⟨Og r.o ⟨r.g,r.gv,r.q.v⟩ F.E,Ck r.id r.q F.hp,E8 r.id r.q F.live⟩
def Ht (fr:List (Nat×AV)) (s:LS):Fx:=⟨Ba fr s.lf,Ak s.hp,fun t=>t∈s.live⟩
theorem wb (fr:List (Nat×AV)) (s:LS) (r:Rec):Ht fr (s.step r.o r.id r.q r.g r.gv)=r.ap (Ht fr s):=by
 unfold Ht Rec.ap LS.step
 simp only[Fx.mk.injEq]
 refine⟨?_,Pv _ _ _,V9 _ _ _⟩
 funext t;exact Ly fr r.o _ s.lf t
def Bd (p:Nat→Bool):Nat→List Rec→Fx→Fx
 | _,[],F=>F
 | i,r :: l,F=>Bd p (i+1) l (if p i then r.ap F else F)
theorem Yh (id:Nat) (q:Q) (h h':Nat→Option Ob) (x:Nat) (e:h x=h' x):Ck id q h x=Ck id q h' x:=by
 unfold Ck Cr
 cases q.mo with
 | some t=>simp only;split<;>first | rfl | exact e
 | none =>
 simp only
 cases q.upd with
 | none=>cases q.new with
  | none=>exact e
  | some o=>simp only;split<;>first | rfl | exact e
 | some y=>cases q.new with
  | none=>simp only;split<;>first | rfl | exact e
  | some o=>simp only;split<;>first | rfl | (split<;>first | rfl | exact e)
theorem Ka (r:Rec) (h:Nat→Option Ob) (x:Nat) (hx:x ∉ r.wr):Ck r.id r.q h x=h x:=by
 unfold Rec.wr at hx
 unfold Ck Cr
 cases hm:r.q.mo with
 | some t =>
  simp only[hm,List.mem_append,not_or,List.mem_map,not_exists,not_and]at hx ⊢
  cases hl:Ak t.ups x with
  | none=>rfl
  | some o=>exact absurd rfl (hx.1 _ (F9 hl))
 | none =>
 simp only[hm,List.mem_append,not_or]at hx
 simp only
 obtain⟨h1,h2,h3⟩:=hx
 cases hu:r.q.upd with
 | none =>
  simp only
  cases hn:r.q.new with
  | none=>rfl
  | some o =>
   simp only
   rw[if_neg]
   intro e
   apply h3
   simp[hn,e]
 | some y =>
  simp only
  rw[hu]at h1
  rw[if_neg (fun e=>h1 (by rw[e];simp))]
  cases hn:r.q.new with
  | none=>rfl
  | some o =>
   simp only
   rw[if_neg]
   intro e
   apply h3
   simp[hn,e]
theorem Kb (r:Rec) (L:Nat→Prop) (x:Nat) (hx:x ∉ r.wr):E8 r.id r.q L x=L x:=by
 unfold Rec.wr at hx
 unfold E8
 cases hm:r.q.mo with
 | some t =>
  simp only[hm,List.mem_append,not_or]at hx ⊢
  exact propext ⟨fun h=>h.elim (fun h=>h.1) (fun h=>absurd h hx.2.2),fun h=>.inl ⟨h,hx.2.1⟩⟩
 | none =>
 simp only[hm,List.mem_append,not_or]at hx
 simp only
 obtain⟨h1,h2,h3⟩:=hx
 apply propext
 constructor
 ·rintro(⟨h,_⟩ | ⟨h,e⟩)
  ·exact h
  ·exact absurd (by simp[h,e]) h3
 ·intro h
  refine .inl ⟨h,fun e=>?_⟩
  rw[e]at h2
  simp at h2
theorem Yi (id:Nat) (q:Q) (L L':Nat→Prop) (x:Nat) (e:L x=L' x):E8 id q L x=E8 id q L' x:=by
 unfold E8;rw[e]
theorem l9 {a b:List Nat} (h:Kv a b=false):∀ x∈a,x ∉ b:=by
 unfold Kv at h
 intro x hx hb
 rw[List.any_eq_false]at h
 exact h x hx (by simpa using hb)
theorem ap_comm {x y:Rec} (F:Fx) (hd:∀ t,x.o.dst=some t→y.o.dst≠some t) (hw:Kv x.wr y.wr=false):x.ap (y.ap F)=y.ap (x.ap F):=by
 have m:=l9 hw
 unfold Rec.ap
 simp only[Fx.mk.injEq]
 refine⟨?_,?_,?_⟩
 ·funext t
  unfold Og
  by_cases h1:x.o.dst=some t
  ·rw[if_pos h1,if_neg (hd t h1),if_pos h1]
  ·rw[if_neg h1]
   by_cases h2:y.o.dst=some t
   ·rw[if_pos h2,if_pos h2]
   ·rw[if_neg h2,if_neg h2,if_neg h1]
 ·funext t
  by_cases h1:t∈x.wr
  ·rw[Ka y _ t (m t h1)]
   exact Yh _ _ _ _ t (Ka y _ t (m t h1))
  ·rw[Ka x _ t h1]
   exact(Yh _ _ _ _ t (Ka x _ t h1)).symm
 ·funext t
  by_cases h1:t∈x.wr
  ·rw[Kb y _ t (m t h1)]
   exact Yi _ _ _ _ t (Kb y _ t (m t h1))
  ·rw[Kb x _ t h1]
   exact(Yi _ _ _ _ t (Kb x _ t h1)).symm
theorem aq:∀ (rs:List Rec) (k:Nat) (p:Nat→Bool) (i:Nat) (r:Rec) (F:Fx),k≤i→rs[i - k]?=some r→p i=false →
  (∀ j y,k≤j→rs[j - k]?=some y→i < j→p j=true→∀ F,y.ap (r.ap F)=r.ap (y.ap F)) →
  Bd (fun n=>p n || n==i) k rs F=r.ap (Bd p k rs F)
 | [],k,p,i,r,F,_,h,_,_=>by simp at h
 | x :: l,k,p,i,r,F,hk,h,hp,hc=>by
  simp only[Bd]
  by_cases hki:k=i
  ·subst hki
   simp only[Nat.sub_self,List.getElem?_cons_zero,Option.some.injEq]at h
   subst h
   simp only[hp,Bool.false_or,beq_self_eq_true,if_true,Bool.false_eq_true,if_false]
   -- the rest does not see it
   have rest:∀ (l':List Rec) (k':Nat) (F:Fx),k < k'→(∀ j y,k'≤j→l'[j - k']?=some y→p j=true→∀ F,y.ap (x.ap F)=x.ap (y.ap F)) →
     Bd (fun n=>p n || n==k) k' l' (x.ap F)=x.ap (Bd p k' l' F):=by
    intro l'
    induction l' with
    | nil=>intro k' F _ _;rfl
    | cons y l' ih =>
     intro k' F hlt hc'
     simp only[Bd]
     have hne:(k'==k)=false:=by simp;omega
     simp only[hne,Bool.or_false]
     cases hpk:p k'
     ·simp only[Bool.false_eq_true,if_false]
      exact ih (k'+1) F (by omega) (fun j z hj hz hpj=>hc' j z (by omega) (by rw[show j - k'=(j - (k'+1))+1 by omega,List.getElem?_cons_succ];exact hz) hpj)
     ·simp only[if_true]
      rw[hc' k' y (Nat.le_refl _) (by simp) hpk F]
      exact ih (k'+1) (y.ap F) (by omega) (fun j z hj hz hpj=>hc' j z (by omega) (by rw[show j - k'=(j - (k'+1))+1 by omega,List.getElem?_cons_succ];exact hz) hpj)
   exact rest l (k+1) F (by omega) (fun j y hj hy hpj=>hc j y (by omega) (by rw[show j - k=(j - (k+1))+1 by omega,List.getElem?_cons_succ];exact hy) (by omega) hpj)
  ·have hne:(k==i)=false:=by simpa using hki
   simp only[hne,Bool.or_false]
   exact aq l (k+1) p i r _ (by omega) (by rw[show i - k=(i - (k+1))+1 by omega,List.getElem?_cons_succ]at h;exact h) hp
    (fun j y hj hy hij hpj=>hc j y (by omega) (by rw[show j - k=(j - (k+1))+1 by omega,List.getElem?_cons_succ];exact hy) hij hpj)
theorem Ls (sel:Fx→Fx→Prop) (h1:∀ (r:Rec) (F F':Fx),sel F F'→sel (r.ap F) (r.ap F')):∀ (rs:List Rec) (k:Nat) (p p':Nat→Bool) (F F':Fx),sel F F' →
  (∀ j y,k≤j→rs[j - k]?=some y→p j≠p' j→(∀ F F',sel F F'→sel (y.ap F) F')∧(∀ F F',sel F F'→sel F (y.ap F')))→sel (Bd p k rs F) (Bd p' k rs F')
 | [],_,_,_,_,_,h,_=>h
 | x :: l,k,p,p',F,F',h,hc=>by
  simp only[Bd]
  refine Ls sel h1 l (k+1) p p' _ _ ?_ (fun j y hj hy hne=>hc j y (by omega) (by rw[show j - k=(j - (k+1))+1 by omega,List.getElem?_cons_succ];exact hy) hne)
  cases hp:p k<;>cases hp':p' k<;>simp only[Bool.false_eq_true,if_false,if_true]
  ·exact h
  ·exact(hc k x (Nat.le_refl _) (by simp) (by rw[hp,hp'];simp)).2 F F' h
  ·exact(hc k x (Nat.le_refl _) (by simp) (by rw[hp,hp'];simp)).1 F F' h
  ·exact h1 x F F' h
end Go.Av
namespace Go.Base
open Go.RowKit
def W7 (l:List Oper):Bool:=(List.range l.length).all fun i=>((l[i]?).map fun o=>o.after.toList.all fun e=>!Region.binds .any e || decide (e.on < i)).getD true
theorem ae {p q:Nat→Bool}:∀ (l:List Nat),(∀ x∈l,q x=true→p x=true)→(∃ x∈l,p x=true∧q x=false)→l.countP q < l.countP p
 | [],_,⟨x,h,_⟩=>by cases h
 | y :: l,h,⟨x,hx,hp,hq⟩=>by
  have hle:l.countP q≤l.countP p:=List.countP_mono_left fun z hz=>h z (by simp[hz])
  rw[List.countP_cons,List.countP_cons]
  rcases List.mem_cons.1 hx with rfl | hx
  ·rw[hp,hq];simp;omega
  ·have:=ae l (fun z hz=>h z (by simp[hz])) ⟨x,hx,hp,hq⟩
   have hy:=h y (by simp)
   cases hqy:q y
   ·simp;omega
   ·rw[hy hqy];simp;omega
theorem Nw {l:List Oper} {listed:Array Bool} {k:Nat} {o:Oper} (hs:listed.size=l.length) (hk:l[k]?=some o) :
  k∈Region.ready .any l.toArray listed↔listed.getD k false=false∧∀ e∈o.after,Region.binds .any e=true→listed.getD e.on false=true:=by
 have hlt:k < l.length:=(List.getElem?_eq_some_iff.1 hk).1
 unfold Region.ready
 rw[List.mem_filter,List.mem_range,List.getElem?_toArray,hk]
 simp only[List.size_toArray,hlt,true_and,Option.map_some,Option.getD_some,Bool.and_eq_true,Bool.not_eq_true']
 have h1:listed.getD k true=listed.getD k false:=by simp[Array.getD,hs,hlt]
 rw[h1,Array.all_eq_true']
 constructor
 ·rintro⟨a,b⟩
  refine⟨a,fun e he hb=>?_⟩
  have:=b e he
  rw[hb]at this
  simpa using this
 ·rintro⟨a,b⟩
  refine⟨a,fun e he=>?_⟩
  cases hb:Region.binds .any e
  ·simp
  ·simp[b e he hb]
theorem Y8 {l:List Oper} (h:W7 l=true) {k:Nat} {o:Oper} (hk:l[k]?=some o):∀ e∈o.after,Region.binds .any e=true→e.on < k:=by
 have hlt:k < l.length:=(List.getElem?_eq_some_iff.1 hk).1
 unfold W7 at h
 rw[List.all_eq_true]at h
 have:=h k (List.mem_range.2 hlt)
 rw[hk]at this
 simp only[Option.map_some,Option.getD_some,List.all_eq_true,Bool.or_eq_true,Bool.not_eq_true',decide_eq_true_eq]at this
 intro e he hb
 rcases this e (Array.mem_toList_iff.2 he) with h2 | h2
 ·rw[hb]at h2;cases h2
 ·exact h2
theorem ry {l:List Oper} {listed:Array Bool} (hb:W7 l=true) (hs:listed.size=l.length) (hr:Region.ready .any l.toArray listed=[]) :
  ∀ n k,k≤n→k < l.length→listed.getD k false=true:=by
 intro n
 induction n with
 | zero =>
  intro k hk hl
  obtain rfl:k=0:=by omega
  cases h:listed.getD 0 false
  ·have ho:l[0]?=some l[0]:=List.getElem?_eq_getElem hl
   have:=(Nw hs ho).2 ⟨h,fun e he hbb=>absurd (Y8 hb ho e he hbb) (by omega)⟩
   rw[hr]at this
   cases this
  ·rfl
 | succ n ih =>
  intro k hk hl
  cases h:listed.getD k false
  ·have ho:l[k]?=some l[k]:=List.getElem?_eq_getElem hl
   have:=(Nw hs ho).2 ⟨h,fun e he hbb=>ih e.on (by have:=Y8 hb ho e he hbb;omega) (by have:=Y8 hb ho e he hbb;omega)⟩
   rw[hr]at this
   cases this
  ·rfl
theorem fd (listed:Array Bool) (i k:Nat) (b:Bool):(listed.setIfInBounds i true).getD k b=if i=k∧k < listed.size then true else listed.getD k b:=by
 simp only[Array.getD_eq_getD_getElem?]
 rw[Array.getElem?_setIfInBounds]
 by_cases h:i=k
 ·subst h
  by_cases h2:i < listed.size
  ·simp[h2]
  ·simp[h2]
 ·simp[h]
end Go.Base
namespace Go.Av
open Go.RowKit Go.Base
variable {P:Program} {γ γ':G} {w w' w0:World} {own:Nat→Prop} {hp:Nat→Option Ob} {live:Nat→Prop} {ops:List Oper} {N:Nat} {μ0:G0}
theorem Mk {places:Nat→Option (Nat×Nat)} {e e':Operand→AV}:∀ (l:List (Nat×Operand)) (cs:List AV),(∀ p∈l,e p.2=e' p.2)→Je places e l cs=Je places e' l cs
 | [],_,_=>rfl
 | (i,x) :: l,cs,h=>by
  simp only[Je]
  rw[h (i,x) (by simp)]
  split
  ·split
   ·exact Mk l _ fun p hp=>h p (by simp[hp])
   ·rfl
  ·rfl
theorem Mw {e e':Operand→AV} {sz:Nat}:∀ (l:List (Nat×Operand)) (i:Nat),(∀ p∈l,e p.2=e' p.2)→Gh e sz i l=Gh e' sz i l
 | [],_,_=>rfl
 | (j,x) :: l,i,h=>by
  simp only[Gh]
  rw[h (j,x) (by simp),Mw l (i+1) fun p hp=>h p (by simp[hp])]
theorem Rn {e e':Operand→AV} {x:Option Operand} (h:∀ y,x=some y→e y=e' y):F1 e x=F1 e' x:=by
 cases x with
 | none=>rfl
 | some y=>simp only[F1,h y rfl]
theorem Mn {α β:Type} {f g:α→Option β}:∀ {l:List α},(∀ x∈l,f x=g x)→l.filterMap f=l.filterMap g
 | [],_=>rfl
 | x :: l,h=>by simp only[List.filterMap_cons];rw[h x (by simp),Mn fun y hy=>h y (by simp[hy])]
theorem C7 {e e':Operand→AV} {l:List Operand} (h:∀ y∈l,e y=e' y):l.map e=l.map e':=List.map_congr_left h
theorem l8 {t:TypeId} {h h':Nat→Option Ob} {p:AV} (hh:∀ x∈Bb p,h x=h' x):Nk P t h p=Nk P t h' p:=by
 unfold Nk
 split
 ·rw[hh _ (by simp[Bb])]
 ·rfl
 ·rw[hh _ (by simp[Bb])]
 ·rw[hh _ (by simp[Bb])]
 ·rfl
theorem kc {t:TypeId} {h h':Nat→Option Ob} {p x:AV} (hh:∀ y∈Bb p,h y=h' y):Gk P t h p x=Gk P t h' p x:=by
 unfold Gk
 split
 ·rw[hh _ (by simp[Bb])]
 ·rw[hh _ (by simp[Bb])]
 ·rw[hh _ (by simp[Bb])]
 ·rfl
theorem cj {t:TypeId} {h h':Nat→Option Ob} {m x:AV} {b:Bool} (hh:∀ y∈Bb m,h y=h' y):J2 P t h m x b=J2 P t h' m x b:=by
 unfold J2
 congr 1
 funext p
 obtain⟨k,e,b⟩:=p
 simp only
 congr 1
 funext p
 obtain⟨s,kp⟩:=p
 simp only
 split
 ·rw[hh _ (by simp[Bb])]
 ·rfl
theorem Mu {t:TypeId} {h h':Nat→Option Ob} {m x z:AV} (hh:∀ y∈Bb m,h y=h' y):C6 P t h m x z=C6 P t h' m x z:=by
 unfold C6
 congr 1
 funext p
 obtain⟨k,e,b⟩:=p
 simp only
 congr 1
 funext p
 obtain⟨s,kp⟩:=p
 simp only
 congr 1
 funext p
 obtain⟨v,vp⟩:=p
 simp only
 split
 ·rw[hh _ (by simp[Bb])]
 ·rfl
theorem cg {t:TypeId} {h h':Nat→Option Ob} {m x:AV} {b:Bool} (hh:∀ y∈Bb m,h y=h' y):Hz P t h m x b=Hz P t h' m x b:=by
 unfold Hz
 congr 1
 funext p
 obtain⟨k,e,z⟩:=p
 simp only
 split
 ·split
  ·rw[hh _ (by simp[Bb])]
  ·rfl
 ·rfl
theorem R4 {t:TypeId} {h h':Nat→Option Ob} {m x z:AV} (hh:∀ y∈Bb m,h y=h' y):Er P t h m x z=Er P t h' m x z:=by
 unfold Er
 congr 1
 funext p
 obtain⟨k,e,z⟩:=p
 simp only
 split
 ·split
  ·rw[hh _ (by simp[Bb])]
  ·rfl
 ·rfl
theorem fe {h h':Nat→Option Ob} {args:List AV} {ts:List TypeId} (hh:∀ y∈args.flatMap Bb,h y=h' y):Fk P h args ts=Fk P h' args ts:=by
 unfold Fk
 split
 ·congr 1
  funext p
  obtain⟨k,e,z⟩:=p
  simp only
  split
  ·split
   ·rw[hh _ (by simp[Bb])]
   ·rfl
  ·rfl
 ·rfl
theorem ff {h h':Nat→Option Ob} {args:List AV} {ts:List TypeId} (hh:∀ y∈args.flatMap tz,h y=h' y):L1 P h args ts=L1 P h' args ts:=by
 unfold L1
 split
 ·congr 1
  funext p
  obtain⟨k,e,z⟩:=p
  simp only
  split
  ·rw[hh _ (by simp[tz])]
  ·rfl
 ·rfl
theorem kv {h h':Nat→Option Ob} {args:List AV} {ts:List TypeId} (hh:∀ y∈args.flatMap Bb,h y=h' y):Jf P h args ts=Jf P h' args ts:=by
 unfold Jf
 split
 ·congr 1
  funext el
  congr 1
  funext p
  obtain⟨z,m,g⟩:=p
  simp only
  split
  ·rw[hh _ (by simp[Bb])]
  ·rfl
 ·rfl
theorem yz {o:Op} {e e':Operand→AV} {h h':Nat→Option Ob} {id:Nat} (he:∀ x∈o.operands,e x=e' x) (hh:∀ x∈Gu o e,h x=h' x):Bw P o e h id=Bw P o e' h' id:=by
 cases o with
 | move x=>simp only[Bw];rw[he x (by simp[Op.operands])]
 | assign x=>simp only[Bw];rw[he x (by simp[Op.operands])]
 | pick c a b=>simp only[Bw];rw[he c (by simp[Op.operands]),he a (by simp[Op.operands]),he b (by simp[Op.operands])]
 | alloc t=>rfl
 | box t x=>simp only[Bw];rw[he x (by simp[Op.operands])]
 | build t parts =>
  simp only[Bw,Qv]
  have hp:∀ p∈parts.toList,e p.2=e' p.2:=fun p hp=>he p.2 (by simp[Op.operands];exact⟨p.1,by simpa using hp⟩)
  congr 2
  funext z
  split
  ·split
   ·rw[Mk _ _ hp]
   ·rfl
  ·split
   ·rw[Mk _ _ hp]
   ·rfl
  ·rfl
 | buildSlice t len parts =>
  simp only[Bw,H6]
  have hp:∀ p∈parts.toList,e p.2=e' p.2:=fun p hp=>he p.2 (by simp[Op.operands];exact⟨p.1,by simpa using hp⟩)
  split
  ·rw[Mw _ _ hp]
  ·rfl
 | load t a =>
  simp only[Bw]
  have hh':∀ x∈Bb (e a),h x=h' x:=fun x hx=>hh x hx
  rw[l8 hh',he a (by simp[Op.operands])]
 | fieldAddr t x i=>simp only[Bw];rw[he x (by simp[Op.operands])]
 | field t x i=>simp only[Bw];rw[he x (by simp[Op.operands])]
 | indexAddr t x i=>simp only[Bw];rw[he x (by simp[Op.operands]),he i (by simp[Op.operands])]
 | index t x i=>simp only[Bw];rw[he x (by simp[Op.operands]),he i (by simp[Op.operands])]
 | slice t x lo hi mx =>
  cases mx with
  | none=>simp only[Bw];rw[he x (by simp[Op.operands]),Rn (x:=lo) fun y hy=>he y (by simp[Op.operands,hy]),Rn (x:=hi) fun y hy=>he y (by simp[Op.operands,hy])]
  | some m=>rfl
 | extract x i=>simp only[Bw];rw[he x (by simp[Op.operands])]
 | binOp op t x y t2=>simp only[Bw];rw[he x (by simp[Op.operands]),he y (by simp[Op.operands])]
 | unOp op t x=>simp only[Bw];rw[he x (by simp[Op.operands])]
 | convert s t x=>simp only[Bw];rw[he x (by simp[Op.operands])]
 | makeFunc fn first cap =>
  simp only[Bw]
  rw[C7 (l:=first.toList) fun y hy=>he y (by simp[Op.operands];exact .inl (by simpa using hy)),C7 (l:=cap.toList) fun y hy=>he y (by simp[Op.operands];exact .inr (by simpa using hy))]
 | nilCheck x=>simp only[Bw];rw[he x (by simp[Op.operands])]
 | makeSlice t l c=>simp only[Bw];rw[he l (by simp[Op.operands]),he c (by simp[Op.operands])]
 | makeMap t r=>cases r<;>rfl
 | insert t m x y =>
  simp only[Bw]
  have hh':∀ y∈Bb (e m),h y=h' y:=fun y hy=>hh y hy
  rw[Mu hh',R4 hh',he m (by simp[Op.operands]),he x (by simp[Op.operands]),he y (by simp[Op.operands])]
 | lookup t m x b =>
  simp only[Bw]
  have hh':∀ y∈Bb (e m),h y=h' y:=fun y hy=>hh y hy
  rw[cj hh',cg hh',he m (by simp[Op.operands]),he x (by simp[Op.operands])]
 | mapUpdate t m x y =>
  simp only[Bw]
  have hh':∀ y∈Bb (e m),h y=h' y:=fun y hy=>hh y hy
  rw[Mu hh',R4 hh',he m (by simp[Op.operands]),he x (by simp[Op.operands]),he y (by simp[Op.operands])]
 | store t a x =>
  simp only[Bw]
  have hh':∀ y∈Bb (e a),h y=h' y:=fun y hy=>hh y hy
  rw[kc hh',he a (by simp[Op.operands]),he x (by simp[Op.operands])]
 | call c =>
  obtain⟨callee,args,ts⟩:=c
  cases callee with
  | builtin b =>
   have ha:args.toList.map e=args.toList.map e':=C7 fun y hy=>he y (by simp[Op.operands,Call.operands];simpa using hy)
   cases b<;>simp only[Bw]<;>try rfl
   all_goals try rw[ha]
   ·have hh':∀ y∈(args.toList.map e').flatMap Bb,h y=h' y:=fun y hy=>hh y (by simp only[Gu];rw[ha];exact hy)
    rw[kv hh']
   ·have hh':∀ y∈(args.toList.map e').flatMap Bb,h y=h' y:=fun y hy=>hh y (by simp only[Gu];rw[ha];exact hy)
    rw[fe hh']
   ·have hh':∀ y∈(args.toList.map e').flatMap tz,h y=h' y:=fun y hy=>hh y (by simp only[Gu];rw[ha];exact hy)
    rw[ff hh']
  | _=>rfl
 | _=>rfl
theorem ay {o:Oper} {t:Nat} (h:Operand.tmp t∈o.op.operands):t∈G1 ops o:=by
 unfold G1 Oper.looksAt
 rw[List.mem_append]
 refine .inl (List.mem_filterMap.2 ⟨.tmp t,by simpa using h,rfl⟩)
theorem w7 {E E':Nat→LE} {o:Oper} (h:∀ t∈G1 ops o,E t=E' t):∀ x∈o.op.operands,Bf E x=Bf E' x:=fun x hx=>by
 cases x with
 | tmp t=>simp only[Bf];rw[h t (ay hx)]
 | _=>rfl
theorem uo {h h':Nat→Option Ob} {id:Nat} {args:List AV} {ts:List TypeId} (hh:∀ y∈args.flatMap Bb,h y=h' y):N3 P h id args ts=N3 P h' id args ts:=by
 unfold N3
 split
 ·rename_i s x t u
  split
  ·have e2:Se h x=Se h' x:=by
    cases x with
    | vec d a b=>simp only[Se];rw[hh d (by simp[Bb])]
    | _=>rfl
   rw[e2]
   congr 1;funext el;congr 1;funext p
   obtain⟨z,m,g⟩:=p
   dsimp only
   cases s with
   | vec d a b=>dsimp only;rw[hh d (by simp[Bb])]
   | _=>rfl
  ·split
   ·congr 1;funext el
    split
    ·unfold J7
     cases s with
     | vec d a b=>dsimp only;rw[hh d (by simp[Bb])]
     | _=>rfl
    ·rfl
   ·rfl
 ·rfl
theorem O6 {h h':Nat→Option Ob} {x:AV} (hh:∀ y∈Kw x,h y=h' y):Hg h x=Hg h' x:=by
 cases x with
 | arr id sz n=>simp only[Hg];rw[hh id (by simp[Kw])]
 | vec id sz n=>simp only[Hg];rw[hh id (by simp[Kw])]
 | _=>rfl
theorem Ug {h h':Nat→Option Ob}:∀ {l:List AV},(∀ y∈l.flatMap Kw,h y=h' y)→Jj h l=Jj h' l
 | [],_=>rfl
 | x :: l,hh=>by
  simp only[Jj]
  rw[O6 fun y hy=>hh y (by simp only[List.flatMap_cons,List.mem_append];exact .inl hy),Ug fun y hy=>hh y (by simp only[List.flatMap_cons,List.mem_append];exact .inr hy)]
theorem l7 {h h':Nat→Option Ob} {x:AV} (hh:∀ y∈Bb x,h y=h' y):Hj h x=Hj h' x:=by
 cases x with
 | arr id sz n=>simp only[Hj];exact O6 fun y hy=>hh y (by simpa [Bb,Kw] using hy)
 | vec id sz n=>simp only[Hj];exact O6 fun y hy=>hh y (by simpa [Bb,Kw] using hy)
 | agg l=>simp only[Hj];rw[Ug fun y hy=>hh y (by simpa only[Bb] using hy)]
 | _=>rfl
theorem La {h h':Nat→Option Ob}:∀ {l:List AV},(∀ y∈l.flatMap Kw,h y=h' y)→Cv h l=Cv h' l
 | [],_=>rfl
 | x :: l,hh=>by
  have ih:=La (l:=l) fun y hy=>hh y (by simp only[List.flatMap_cons,List.mem_append];exact .inr hy)
  cases x with
  | arr id sz n=>simp only[Cv];rw[hh id (by simp[Kw]),ih]
  | _=>exact ih
theorem Ra {h h':Nat→Option Ob}:∀ {l:List AV},(∀ y∈l.flatMap Bb,h y=h' y)→Ge h l=Ge h' l
 | [],_=>rfl
 | x :: l,hh=>by
  have ih:=Ra (l:=l) fun y hy=>hh y (by simp only[List.flatMap_cons,List.mem_append];exact .inr hy)
  cases x with
  | arr id sz n=>simp only[Ge];rw[La (l:=[.arr id sz n]) fun y hy=>hh y (by simp[Kw]at hy;simp[Bb,hy]),ih]
  | agg c=>simp only[Ge];rw[La (l:=c) fun y hy=>hh y (by simp only[List.flatMap_cons,List.mem_append,Bb];exact .inl hy),ih]
  | _=>exact ih
theorem U7 {h h':Nat→Option Ob}:∀ {l:List AV},(∀ y∈l.flatMap Bb,h y=h' y)→Jd h l=Jd h' l
 | [],_=>rfl
 | x :: l,hh=>by
  simp only[Jd]
  rw[l7 fun y hy=>hh y (by simp only[List.flatMap_cons,List.mem_append];exact .inl hy),U7 fun y hy=>hh y (by simp only[List.flatMap_cons,List.mem_append];exact .inr hy)]
theorem u5 {cs:Cs} {o:Oper} {e e':Operand→AV} {h h':Nat→Option Ob} {id:Nat} (he:∀ x∈o.op.operands,e x=e' x) (hh:∀ x∈Fg cs o.op id e,h x=h' x):Bu P cs o e h id=Bu P cs o e' h' id:=by
 unfold Bu
 have hh0:∀ x∈Gu o.op e,h x=h' x:=fun x hx=>hh x (List.mem_append_left _ hx)
 split
 ·rename_i hc
  cases ht:X9 cs.o id with
  | some t =>
   have hh1:∀ x∈t.ids,h x=h' x:=fun x hx=>hh x (List.mem_append_right _ (by rw[if_pos hc,ht];exact hx))
   have hcal:Ol e o.op=Ol e' o.op:=by
    unfold Ol
    split
    ·rename_i f args ts ho
     rw[ho]at he
     have hm:args.toList.map e=args.toList.map e':=C7 fun y hy=>he y (by simp[Op.operands,Call.operands];exact .inr (by simpa using hy))
     rw[hm]
    ·rename_i tt args ts ho
     rw[ho]at he
     have hm:args.toList.map e=args.toList.map e':=C7 fun y hy=>he y (by simp[Op.operands,Call.operands];exact .inr (by simpa using hy))
     rw[hm,he (.tmp tt) (by simp[Op.operands,Call.operands])]
    ·rfl
   have hok:P3 h id t=P3 h' id t:=by
    unfold P3
    congr 1
    rw[Bool.eq_iff_iff,List.all_eq_true,List.all_eq_true]
    exact⟨fun k x hx=>by rw[← hh1 x hx];exact k x hx,fun k x hx=>by rw[hh1 x hx];exact k x hx⟩
   have hids:(t.ids.map fun i=>(i,h i))=t.ids.map fun i=>(i,h' i):=List.map_congr_left fun x hx=>by rw[hh1 x hx]
   have hfull:t.full h=t.full h':=by
    unfold OT.full
    split
    ·congr 1
     exact Mn fun x hx=>by rw[hh1 x hx]
    ·rfl
   simp only[hcal,hok,hids,hfull]
  | none =>
  simp only
  have:Mx e h o.op=Mx e' h' o.op:=by
   unfold Mx
   split
   ·rename_i f args ts ho
    rw[ho]at he hh0
    have hm:args.toList.map e=args.toList.map e':=C7 fun y hy=>he y (by simp[Op.operands,Call.operands];exact .inr (by simpa using hy))
    rw[U7 (h:=h) (h':=h') (fun y hy=>hh0 y hy),Ra (h:=h) (h':=h') (fun y hy=>hh0 y hy),hm]
   ·rfl
  rw[this]
 ·have hrow:Lc P id e o.op=Lc P id e' o.op:=by
   unfold Lc
   split
   ·rename_i args ts ho
    rw[ho]at he
    rw[C7 (e:=e) (e':=e') (l:=args.toList) fun y hy=>he y (by simp[Op.operands,Call.operands];simpa using hy)]
   ·rfl
  have hvec:Fi P h id e o.op=Fi P h' id e' o.op:=by
   unfold Fi
   split
   ·rename_i args ts ho
    rw[ho]at he hh0
    have hm:args.toList.map e=args.toList.map e':=C7 fun y hy=>he y (by simp[Op.operands,Call.operands];simpa using hy)
    rw[← hm]
    exact uo fun y hy=>hh0 y hy
   ·rename_i t len parts ho
    rw[ho]at he
    have hp:∀ p∈parts.toList,e p.2=e' p.2:=fun p hp=>he p.2 (by simp[Op.operands];exact⟨p.1,by simpa using hp⟩)
    unfold F5
    split
    ·rw[Mw _ _ hp]
    ·rfl
   ·rename_i t l c ho
    rw[ho]at he
    rw[he l (by simp[Op.operands]),he c (by simp[Op.operands])]
   ·rfl
  rw[yz he hh0,hrow,hvec]
theorem cl {o:Op} {e e':Operand→AV} (he:∀ x∈o.operands,e x=e' x):Gu o e=Gu o e':=by
 unfold Gu
 split
 ·rw[he _ (by simp[Op.operands])]
 ·rename_i t a x;rw[he a (by simp[Op.operands])]
 ·rename_i t m x b;rw[he m (by simp[Op.operands])]
 ·rename_i t m x y;rw[he m (by simp[Op.operands])]
 ·rename_i t m x y;rw[he m (by simp[Op.operands])]
 ·rename_i args ts
  rw[C7 fun y hy=>he y (by simp[Op.operands,Call.operands];simpa using hy)]
 ·rename_i args ts
  rw[C7 fun y hy=>he y (by simp[Op.operands,Call.operands];simpa using hy)]
 ·rename_i args ts
  rw[C7 fun y hy=>he y (by simp[Op.operands,Call.operands];simpa using hy)]
 ·rename_i args ts
  rw[C7 fun y hy=>he y (by simp[Op.operands,Call.operands];simpa using hy)]
 ·rename_i c args ts
  rw[C7 fun y hy=>he y (by simp[Op.operands,Call.operands];exact .inr (by simpa using hy))]
 ·rfl
theorem Z1 {cs:Cs} {o:Op} {id:Nat} {e e':Operand→AV} (he:∀ x∈o.operands,e x=e' x):Fg cs o id e=Fg cs o id e':=by
 unfold Fg;rw[cl he]
theorem Hl {E E':Nat→LE} {g:Option (Nat×Bool)} {x:Operand} (h:∀ t,x=.tmp t→E t=E' t):F2 E g x=F2 E' g x:=by
 cases x with
 | tmp t=>simp only[F2];rw[h t rfl]
 | _=>rfl
theorem U8 {E E':Nat→LE} {g:Option (Nat×Bool)} {c:Operand} {b:Bool} {x:Operand} (h:∀ t,x=.tmp t→E t=E' t):Pk ops E g c b x=Pk ops E' g c b x:=by
 unfold Pk
 rw[Hl h]
 cases x with
 | tmp t=>simp only;rw[h t rfl]
 | _=>rfl
theorem jj {E E':Nat→LE} {o:Oper} (h:∀ t∈G1 ops o,E t=E' t):Cf ops E o=Cf ops E' o:=by
 have ht:∀ x∈o.op.operands,∀ t,x=.tmp t→E t=E' t:=fun x hx t e=>h t (ay (by rw[← e];exact hx))
 unfold Cf
 split
 ·rename_i c a b ho
  rw[ho]at ht
  rw[Hl (ht c (by simp[Op.operands])),U8 (ht a (by simp[Op.operands])),U8 (ht b (by simp[Op.operands]))]
 ·rw[Bool.eq_iff_iff,List.all_eq_true,List.all_eq_true]
  constructor
  ·intro hh x hx;rw[← Hl (ht x (by simpa using hx))];exact hh x hx
  ·intro hh x hx;rw[Hl (ht x (by simpa using hx))];exact hh x hx
theorem ci {E E':Nat→LE} {o:Oper} {g:Nat×Bool} (hg:o.guard=some g) (h:∀ t∈G1 ops o,E t=E' t):Ea ops E g=Ea ops E' g:=by
 unfold Ea
 cases ho:ops[g.1]? with
 | none=>rfl
 | some oj =>
  simp only
  cases ht:oj.dst with
  | none=>rfl
  | some t =>
   simp only
   rw[h t]
   unfold G1 Oper.looksAt
   rw[List.mem_append]
   refine .inr ?_
   rw[hg]
   simp only
   have e:ops.toArray[g.1]?=some oj:=by simpa using ho
   rw[e,Option.bind_some,ht]
   simp
structure Y4 (P:Program) (cs:Cs) (ops:List Oper) (nx:Nat) (F:Fx) (j:Nat) (r:Rec):Prop where
 op:ops[j]?=some r.o
 id:r.id=nx+16 * j
 q:r.q=Bu P cs r.o (Bf F.E) F.hp r.id
 rdOk:Cf ops F.E r.o=true
 ok:r.q.ok=true
 kill:∀ tk,r.q.kill=some tk→F.live tk
 rd:r.rd=Fg cs r.o.op r.id (Bf F.E)
 mo:∀ t,r.q.mo=some t→∀ s∈t.lv,F.live s
 g0:r.o.guard=none→r.g=none∧r.gv=true
 g1:∀ g,r.o.guard=some g→r.g=some g∧g.1 < j∧r.q.plain=true∧Ea ops F.E g=some r.gv
theorem Ps (p:Nat→Bool):∀ (rs:List Rec) (i:Nat) (F:Fx),(∀ n,i≤n→p n=false)→Bd p i rs F=F
 | [],_,_,_=>rfl
 | r :: l,i,F,h=>by
  simp only[Bd,h i (Nat.le_refl _),Bool.false_eq_true,if_false]
  exact Ps p l (i+1) F fun n hn=>h n (by omega)
theorem Ub {p p':Nat→Bool}:∀ (rs:List Rec) (i:Nat) (F:Fx),(∀ n,i≤n→n < i+rs.length→p n=p' n)→Bd p i rs F=Bd p' i rs F
 | [],_,_,_=>rfl
 | r :: l,i,F,h=>by
  simp only[Bd]
  rw[h i (Nat.le_refl _) (by simp)]
  exact Ub l (i+1) _ fun n hn hl=>h n (by omega) (by simp;omega)
theorem bp {cs:Cs} {fr:List (Nat×AV)} {nx:Nat}:∀ (l:List Oper) (i:Nat) (s s':LS) (rs:List Rec),(∀ k,l[k]?=ops[i+k]?)→Vk P cs ops fr nx i l s=some (rs,s') →
  rs.length=l.length∧(∀ k r,rs[k]?=some r→Y4 P cs ops nx (Bd (fun n=>decide (n < i+k)) i rs (Ht fr s)) (i+k) r)∧Ht fr s'=Bd (fun _=>true) i rs (Ht fr s)
 | [],i,s,s',rs,_,h=>by
  simp only[Vk,Option.some.injEq,Prod.mk.injEq]at h
  obtain⟨rfl,rfl⟩:=h
  exact⟨rfl,fun k r hk=>by simp at hk,rfl⟩
 | o :: l,i,s,s',rs,hops,h=>by
  have hi:ops[i]?=some o:=by have:=hops 0;simpa using this.symm
  have hops':∀ k,l[k]?=ops[i+1+k]?:=fun k=>by have:=hops (k+1);rw[show i+1+k=i+(k+1) by omega];simpa using this
  -- one operation,then the rest
  have step:∀ (g:Option (Nat×Bool)) (G':Bool) (q:Q),q=Bu P cs o (Bf (Ba fr s.lf)) (Ak s.hp) (nx+16 * i)→Cf ops (Ba fr s.lf) o=true→q.ok=true→L3 q s.live=true →
    (o.guard=none→g=none∧G'=true)→(∀ g',o.guard=some g'→g=some g'∧g'.1 < i∧q.plain=true∧Ea ops (Ba fr s.lf) g'=some G') →
    (Vk P cs ops fr nx (i+1) l (s.step o (nx+16 * i) q g G')).map (fun r=>(⟨o,nx+16 * i,q,g,G',Fg cs o.op (nx+16 * i) (Bf (Ba fr s.lf))⟩ :: r.1,r.2))=some (rs,s') →
    rs.length=(o :: l).length∧(∀ k r,rs[k]?=some r→Y4 P cs ops nx (Bd (fun n=>decide (n < i+k)) i rs (Ht fr s)) (i+k) r)∧Ht fr s'=Bd (fun _=>true) i rs (Ht fr s):=by
   intro g G' q hq h1 h2 h3 h4 h5 hm
   rw[Option.map_eq_some_iff]at hm
   obtain⟨⟨rs',s2⟩,hr,he⟩:=hm
   simp only[Prod.mk.injEq]at he
   obtain⟨rfl,rfl⟩:=he
   obtain⟨a,b,c⟩:=bp l (i+1) _ _ rs' hops' hr
   let r0:Rec:=⟨o,nx+16 * i,q,g,G',Fg cs o.op (nx+16 * i) (Bf (Ba fr s.lf))⟩
   have hs:Ht fr (s.step o (nx+16 * i) q g G')=r0.ap (Ht fr s):=wb fr s r0
   refine⟨by simp[a],fun k r hk=>?_,by rw[c,hs];rfl⟩
   cases k with
   | zero =>
    simp only[List.getElem?_cons_zero,Option.some.injEq]at hk
    subst hk
    rw[Ps _ _ _ _ (fun n hn=>by simp;omega)]
    exact⟨hi,rfl,hq,h1,h2,Uf h3,rfl,au h3,h4,h5⟩
   | succ k =>
    simp only[List.getElem?_cons_succ]at hk
    have:=b k r hk
    rw[hs]at this
    have e:i+1+k=i+(k+1):=by omega
    rw[e]at this
    have e2:Bd (fun n=>decide (n < i+(k+1))) i (r0 :: rs') (Ht fr s)=Bd (fun n=>decide (n < i+(k+1))) (i+1) rs' (r0.ap (Ht fr s)):=by
     simp only[Bd]
     rw[if_pos (by simp)]
    rw[e2]
    exact this
  unfold Vk at h
  split at h
  ·rename_i hc
   simp only[Bool.and_eq_true]at hc
   obtain⟨c1,c2,c3⟩:=hc
   split at h
   ·rename_i hg
    exact step none true _ rfl c1 c2 c3 (fun _=>⟨rfl,rfl⟩) (fun g' hg'=>by rw[hg]at hg';cases hg') h
   ·rename_i g hg
    split at h
    ·rename_i hp
     simp only[Bool.and_eq_true,decide_eq_true_eq]at hp
     split at h
     ·rename_i G' hG
      exact step (some g) G' _ rfl c1 c2 c3 (fun hn=>by rw[hg]at hn;cases hn) (fun g' hg'=>by rw[hg]at hg';injection hg' with hg';subst hg';exact⟨rfl,hp.1,hp.2,hG⟩) h
     ·cases h
    ·cases h
  ·cases h
theorem Oc:∀ {rs:List Rec} {R:Prop},Rk rs R→(∀ r∈rs,(r.g=none→∀ p∈r.q.ob,p)∧(r.g≠none→r.gv=true→∀ p∈r.q.ob,p))∧R
 | [],_,h=>⟨(fun r hr=>by cases hr),h⟩
 | r :: l,R,h=>by
  unfold Rk at h
  cases hg:r.g with
  | none =>
   rw[hg]at h
   obtain⟨h1,h2⟩:=Qa h
   obtain⟨h3,h4⟩:=Oc h2
   refine⟨fun x hx=>?_,h4⟩
   rcases List.mem_cons.1 hx with rfl | hx
   ·exact⟨fun _=>h1,fun hn=>absurd hg hn⟩
   ·exact h3 x hx
  | some g =>
   rw[hg]at h
   obtain⟨h1,h2⟩:=Rl h
   obtain⟨h3,h4⟩:=Oc h2
   refine⟨fun x hx=>?_,h4⟩
   rcases List.mem_cons.1 hx with rfl | hx
   ·exact⟨(fun hn=>by rw[hg]at hn;cases hn),fun _=>h1⟩
   ·exact h3 x hx
theorem Xe:∀ (l:List Oper) (acc:List Nat),(Cy l acc).length=acc.length+l.length∧(∀ j,j < acc.length→(Cy l acc).getD j 0=acc.getD j 0) ∧
  ∀ k o,l[k]?=some o→(Cy l acc).getD (acc.length+k) 0=o.after.toList.foldl (Hr ((Cy l acc).take (acc.length+k))) 0
 | [],acc=>⟨by simp[Cy],fun _ _=>rfl,fun k o h=>by simp at h⟩
 | o :: l,acc=>by
  obtain⟨h1,h2,h3⟩:=Xe l (acc++[o.after.toList.foldl (Hr acc) 0])
  simp only[Cy]
  simp only[List.length_append,List.length_cons,List.length_nil]at h1 h2 h3
  refine⟨by simp only[List.length_cons];omega,fun j hj=>?_,fun k x hk=>?_⟩
  ·rw[h2 j (by omega)]
   simp[List.getD,List.getElem?_append_left hj]
  ·cases k with
   | zero =>
    simp only[List.getElem?_cons_zero,Option.some.injEq]at hk
    subst hk
    rw[Nat.add_zero,h2 acc.length (by omega)]
    have e:(Cy l (acc++[o.after.toList.foldl (Hr acc) 0])).take acc.length=acc:=by
     apply List.ext_getElem?
     intro j
     rw[List.getElem?_take]
     split
     ·rename_i hj
      have:=h2 j (by omega)
      simp only[List.getD_eq_getElem?_getD]at this
      have hl:j < (Cy l (acc++[o.after.toList.foldl (Hr acc) 0])).length:=by omega
      rw[List.getElem?_eq_getElem hl,List.getElem?_eq_getElem hj]
      rw[List.getElem?_eq_getElem hl,List.getElem?_append_left hj,List.getElem?_eq_getElem hj]at this
      simpa using this
     ·rename_i hj;rw[List.getElem?_eq_none (by omega)]
    rw[e]
    simp[List.getD]
   | succ k =>
    have:=h3 k x (by simpa using hk)
    rw[show acc.length+1+k=acc.length+(k+1) by omega]at this
    exact this
theorem Qz {S:Nat→Prop} {acc:List Nat} (ha:∀ j,j < acc.length→S j→∀ i,(acc.getD j 0).testBit i=true→S i):∀ (l:List Edge) (m:Nat),(∀ e∈l,Region.binds .any e=true→S e.on)→(∀ i,m.testBit i=true→S i)→∀ i,(l.foldl (Hr acc) m).testBit i=true→S i
 | [],m,_,hm,i,h=>hm i h
 | e :: l,m,he,hm,i,h=>by
  refine Qz ha l _ (fun x hx=>he x (by simp[hx])) (fun k hk=>?_) i h
  unfold Hr at hk
  split at hk
  ·rename_i hb
   have hS:=he e (by simp) hb
   rw[Nat.testBit_or,Nat.testBit_or,Bool.or_eq_true,Bool.or_eq_true]at hk
   rcases hk with hk | hk | hk
   ·exact hm k hk
   ·rw[Nat.testBit_two_pow]at hk
    have:e.on=k:=by simpa using hk
    exact this ▸ hS
   ·by_cases hl:e.on < acc.length
    ·exact ha e.on hl hS k hk
    ·rw[List.getD_eq_getElem?_getD,List.getElem?_eq_none (by omega)]at hk
     simp at hk
  ·exact hm k hk
theorem Oa {S:Nat→Prop} (hS:∀ j o,ops[j]?=some o→S j→∀ e∈o.after.toList,Region.binds .any e=true→S e.on):∀ j o,ops[j]?=some o→(∀ e∈o.after.toList,Region.binds .any e=true→S e.on) →
  ∀ i,((Cy ops []).getD j 0).testBit i=true→S i:=by
 obtain⟨h1,_,h3⟩:=Xe ops []
 simp only[List.length_nil,Nat.zero_add]at h1 h3
 have all:∀ n j,j < n→S j→∀ i,((Cy ops []).getD j 0).testBit i=true→S i:=by
  intro n
  induction n with
  | zero=>intro j hj;omega
  | succ n ih =>
   intro j hj hSj i hi
   cases ho:ops[j]? with
   | none =>
    have:ops.length≤j:=List.getElem?_eq_none_iff.1 ho
    rw[List.getD_eq_getElem?_getD,List.getElem?_eq_none (by omega)]at hi
    simp at hi
   | some o =>
    rw[h3 j o ho]at hi
    refine Qz (fun k hk hSk i' hi'=>?_) _ _ (hS j o ho hSj) (fun i' h=>by simp at h) i hi
    have hkj:k < j:=by simp at hk;omega
    have:((Cy ops []).take j).getD k 0=(Cy ops []).getD k 0:=by
     simp only[List.getD_eq_getElem?_getD,List.getElem?_take,if_pos hkj]
    rw[this]at hi'
    exact ih k (by omega) hSk i' hi'
 intro j o ho he i hi
 rw[h3 j o ho]at hi
 refine Qz (fun k hk hSk i' hi'=>?_) _ _ he (fun i' h=>by simp at h) i hi
 have hkj:k < j:=by simp at hk;omega
 have:((Cy ops []).take j).getD k 0=(Cy ops []).getD k 0:=by
  simp only[List.getD_eq_getElem?_getD,List.getElem?_take,if_pos hkj]
 rw[this]at hi'
 exact all (k+1) k (by omega) hSk i' hi'
theorem W3 {r:Rec} {F:Fx} {t:Nat} (h:r.o.dst≠some t):(r.ap F).E t=F.E t:=if_neg h
def co (ops:List Oper) (hi:Nat):Bool:=(List.range ops.length).all fun j=>decide (j < hi) || (List.range hi).all fun i=>((Cy ops []).getD j 0).testBit i
def Sg (ops:List Oper) (rs:List Rec) (lo:Nat):Bool :=
 let ms:=Cy ops []
 (List.range rs.length).all fun j=>(List.range j).all fun i=>(ms.getD (lo+j) 0).testBit (lo+i) || match rs[i]?,rs[j]? with
  | some x,some y=>apart ops x y
  | _,_=>false
structure Mid (lo hi:Nat) (γ0:G) (P:Program) (cs:Cs) (own:Nat→Prop) (μ0:G0) (w0:World) (N:Nat) (ops:List Oper) (nx:Nat) (rs:List Rec) (F0:Fx) (listed:Array Bool) (a:Act) (w:World):Prop where
 lsize:listed.size=ops.length
 low:∀ j,j < lo→listed.getD j false=true
 high:∀ j,hi≤j→listed.getD j false=false
 closed:∀ j o,ops[j]?=some o→listed.getD j false=true→∀ e∈o.after.toList,Region.binds .any e=true→listed.getD e.on false=true
 st:∃ γ,LeG γ0 γ∧RL own μ0 w0 N ops (fun k=>listed.getD k false=true) (Bd (fun n=>listed.getD n false) lo rs F0).E (Bd (fun n=>listed.getD n false) lo rs F0).hp (Bd (fun n=>listed.getD n false) lo rs F0).live γ a w ∧
  ∀ id,((∃ j,j < ops.length∧listed.getD j false=false∧nx+16 * j≤id∧id < nx+16 * j+16)∨nx+16 * ops.length≤id)→γ.ι id=none∧γ.τ id=none∧(Bd (fun n=>listed.getD n false) lo rs F0).hp id=none∧¬ (Bd (fun n=>listed.getD n false) lo rs F0).live id
theorem AAG {lo hi:Nat} (hlo:lo≤hi) (hhi:hi≤ops.length) {γ0:G} {cs:Cs} {nx:Nat} {rs:List Rec} {F0:Fx} (hreg:Jt ops N=true) (hback:W8 ops=true) (hdraw:Sg ops rs lo=true) (hbar:co ops hi=true) (hlen:rs.length=hi - lo)
  (hgood:∀ k r,rs[k]?=some r→Y4 P cs ops nx (Bd (fun n=>decide (n < lo+k)) lo rs F0) (lo+k) r) (hobs:∀ r∈rs,(r.g=none→∀ p∈r.q.ob,p)∧(r.g≠none→r.gv=true→∀ p∈r.q.ob,p)) {QQ:Exit→Act→World→Prop}
  (hQ:∀ (fuel:Nat) (listed:Array Bool) (γ:G) (a:Act) (w:World),listed.size=ops.length→(∀ j,listed.getD j false=decide (j < hi))→(List.range ops.length).countP (fun i=>!listed.getD i true)≤fuel→LeG γ0 γ →
   RL own μ0 w0 N ops (fun k=>k < hi) (Bd (fun _=>true) lo rs F0).E (Bd (fun _=>true) lo rs F0).hp (Bd (fun _=>true) lo rs F0).live γ a w →
   He (nx+16 * ops.length) (Bd (fun _=>true) lo rs F0).hp (Bd (fun _=>true) lo rs F0).live γ→wpAny P .any ops.toArray QQ fuel listed a w) :
  ∀ (fuel:Nat) (listed:Array Bool) (a:Act) (w:World),Mid lo hi γ0 P cs own μ0 w0 N ops nx rs F0 listed a w→(List.range ops.length).countP (fun i=>!listed.getD i true)≤fuel→wpAny P .any ops.toArray QQ fuel listed a w:=by
 obtain⟨hnd,hN⟩:=Xn hreg
 have hb:∀ k (o:Oper),ops[k]?=some o→∀ e∈o.after.toList,Region.binds .any e=true→e.on < k:=fun k o hk e he hbd=>by
  unfold W8 at hback
  rw[List.all_eq_true]at hback
  have:=hback k (List.mem_range.2 (List.getElem?_eq_some_iff.1 hk).1)
  rw[hk]at this
  simp only[List.all_eq_true,Bool.or_eq_true,Bool.not_eq_true',decide_eq_true_eq]at this
  rcases this e he with h | h
  ·rw[hbd]at h;cases h
  ·exact h
 -- two that may come either way
 have pair:∀ (i j:Nat) (x y:Rec),lo≤i→i < j→rs[i - lo]?=some x→rs[j - lo]?=some y→((Cy ops []).getD j 0).testBit i=true∨Av.apart ops x y=true:=fun i j x y hli hij hx hy=>by
  unfold Sg at hdraw
  simp only[List.all_eq_true,List.mem_range,Bool.or_eq_true]at hdraw
  have hj:j - lo < rs.length:=(List.getElem?_eq_some_iff.1 hy).1
  have:=hdraw (j - lo) hj (i - lo) (by omega)
  rw[hx,hy,show lo+(j - lo)=j by omega,show lo+(i - lo)=i by omega]at this
  exact this
 have good:∀ (j:Nat) (r:Rec),lo≤j→rs[j - lo]?=some r→Y4 P cs ops nx (Bd (fun n=>decide (n < j)) lo rs F0) j r:=fun j r hl hr=>by
  have:=hgood (j - lo) r hr
  rw[show lo+(j - lo)=j by omega]at this
  exact this
 have recAt:∀ (j:Nat) (o:Oper),lo≤j→j < hi→ops[j]?=some o→∃ r:Rec,rs[j - lo]?=some r∧r.o=o:=fun j o hl hh ho=>by
  have hj:j - lo < rs.length:=by rw[hlen];omega
  refine⟨rs[j - lo],List.getElem?_eq_getElem hj,?_⟩
  have:=(good j _ hl (List.getElem?_eq_getElem hj)).op
  rw[ho]at this
  injection this with this
  exact this.symm
 have backB_:W7 ops=true:=by
  unfold W7
  rw[List.all_eq_true]
  intro i hi
  cases ho:ops[i]? with
  | none=>rfl
  | some o =>
   simp only[Option.map_some,Option.getD_some,List.all_eq_true,Bool.or_eq_true,Bool.not_eq_true',decide_eq_true_eq]
   intro e he
   cases hbd:Region.binds .any e
   ·exact .inl rfl
   ·exact .inr (hb i o ho e he hbd)
 have done:∀ fuel listed a w,Mid lo hi γ0 P cs own μ0 w0 N ops nx rs F0 listed a w→(List.range ops.length).countP (fun i=>!listed.getD i true)≤fuel→(∀ k,k < hi→listed.getD k false=true)→wpAny P .any ops.toArray QQ fuel listed a w:=by
  intro fuel listed a w hm hc hall
  have hl:∀ j,listed.getD j false=decide (j < hi):=fun j=>by
   rcases Nat.lt_or_ge j hi with h | h
   ·rw[hall j h,decide_eq_true h]
   ·rw[hm.high j h,decide_eq_false (by omega)]
  obtain⟨γ,le0,R,Fr⟩:=hm.st
  have e1:Bd (fun n=>listed.getD n false) lo rs F0=Bd (fun _=>true) lo rs F0:=Ub rs lo F0 fun n _ hn=>hall n (by omega)
  rw[e1]at R Fr
  refine hQ fuel listed γ a w hm.lsize hl hc le0 ⟨R.defers,R.size,R.fr,fun t j want h=>?_,R.hp,R.base,R.big,R.mu⟩ ⟨fun id hid=>Fr id (.inr hid)⟩
  have:=R.gd t j want h
  rw[hl]at this
  exact of_decide_eq_true this
 intro fuel
 induction fuel with
 | zero =>
  intro listed a w hm hc
  refine done 0 listed a w hm hc fun k hk=>?_
  apply Classical.byContradiction
  intro hne
  have:0 < (List.range ops.length).countP (fun i=>!listed.getD i true):=List.countP_pos_iff.2 ⟨k,List.mem_range.2 (by omega),by
   have h1:listed.getD k true=listed.getD k false:=by simp[Array.getD,hm.lsize,show k < ops.length by omega]
   rw[h1];simpa using hne⟩
  omega
 | succ fuel ih =>
  intro listed a w hm hc
  by_cases hall:∀ k,k < hi→listed.getD k false=true
  ·exact done _ listed a w hm hc hall
  have notall:∀ i,i∈Region.ready .any ops.toArray listed→lo≤i∧i < hi:=fun i hir=>by
   have hlt:i < ops.length:=by
    unfold Region.ready at hir
    rw[List.mem_filter]at hir
    simpa using hir.1
   obtain⟨hun,hpre⟩:=(Nw hm.lsize (List.getElem?_eq_getElem hlt)).1 hir
   refine⟨?_,?_⟩
   ·rcases Nat.lt_or_ge i lo with h | h
    ·rw[hm.low i h]at hun;cases hun
    ·exact h
   ·rcases Nat.lt_or_ge i hi with h | h
    ·exact h
    ·exfalso
     apply hall
     intro k hk
     have hpre':∀ e∈(ops[i]).after.toList,Region.binds .any e=true→listed.getD e.on false=true:=fun e he hbd=>hpre e (Array.mem_toList_iff.1 he) hbd
     refine Oa (S:=fun j=>listed.getD j false=true) hm.closed i _ (List.getElem?_eq_getElem hlt) hpre' k ?_
     unfold co at hbar
     simp only[List.all_eq_true,List.mem_range,Bool.or_eq_true,decide_eq_true_eq]at hbar
     rcases hbar i hlt with h2 | h2
     ·omega
     ·exact h2 k hk
  refine⟨fun hr=>absurd (fun k hk=>ry backB_ hm.lsize hr k k (Nat.le_refl _) (by omega)) hall,fun i hi'=>?_⟩
  obtain⟨hli,hih⟩:=notall i hi'
  have hlt:i < ops.length:=by omega
  obtain⟨o,ho⟩:∃ o,ops[i]?=some o:=⟨_,List.getElem?_eq_getElem hlt⟩
  obtain⟨hun,hpre⟩:=(Nw hm.lsize ho).1 hi'
  obtain⟨r,hri,hro⟩:=recAt i o hli hih ho
  have hg:=good i r hli hri
  have hpre':∀ e∈o.after.toList,Region.binds .any e=true→listed.getD e.on false=true:=fun e he hbd=>hpre e (Array.mem_toList_iff.1 he) hbd
  -- what comes ahead of it has come;what comes behind it has not
  have ahead:∀ j,((Cy ops []).getD i 0).testBit j=true→listed.getD j false=true:=Oa (S:=fun j=>listed.getD j false=true) hm.closed i o ho hpre'
  have behind:∀ (j:Nat) (oj:Oper),ops[j]?=some oj→((Cy ops []).getD j 0).testBit i=true→listed.getD j false=true→False:=fun j oj hoj hbit hj=>by
   have:=Oa (S:=fun j=>listed.getD j false=true) hm.closed j oj hoj (hm.closed j oj hoj hj) i hbit
   rw[hun]at this;cases this
  let C:=Bd (fun n=>decide (n < i)) lo rs F0
  let FS_:=Bd (fun n=>listed.getD n false) lo rs F0
  have hgC:Y4 P cs ops nx C i r:=hg
  -- an operation j that touches what i touches is listed just if it comes before i
  have agree:∀ (j:Nat) (y:Rec),lo≤j→rs[j - lo]?=some y→j≠i→(j < i→Av.apart ops y r=false)→(i < j→Av.apart ops r y=false)→decide (j < i)=listed.getD j false:=fun j y hlj hy hne h1 h2=>by
   have hoj:=(good j y hlj hy).op
   rcases Nat.lt_or_gt_of_ne hne with hji | hij
   ·rcases pair j i y r hlj hji hy hri with h | h
    ·rw[ahead j h];simp[hji]
    ·rw[h1 hji]at h;cases h
   ·rcases pair i j r y hli hij hri hy with h | h
    ·have:listed.getD j false=false:=by
      cases hl:listed.getD j false
      ·rfl
      ·exact(behind j _ hoj h hl).elim
     rw[this];simp;omega
    ·rw[h2 hij]at h;cases h
  have hE:∀ t∈G1 ops r.o,FS_.E t=C.E t:=fun t ht=>by
   refine(Ls (fun F F'=>F.E t=F'.E t) (fun r F F' h=>by unfold Rec.ap Og;simp only;split<;>first | rfl | exact h) rs lo (fun n=>decide (n < i)) (fun n=>listed.getD n false) F0 F0 rfl ?_).symm
   intro j y hlj hy' hne
   have hdt:y.o.dst≠some t:=fun hdt=>by
    apply hne
    by_cases hji:j=i
    ·subst hji
     show decide (j < j)=listed.getD j false
     rw[hun];simp
    ·refine agree j y hlj hy' hji (fun _=>?_) (fun _=>?_)
     ·unfold Av.apart
      simp only[hdt]
      have:(G1 ops r.o).contains t=true:=by simpa using ht
      rw[this];rfl
     ·unfold Av.apart
      simp only[hdt]
      have:(G1 ops r.o).contains t=true:=by simpa using ht
      rw[this];simp
   exact⟨fun F F' h=>by rw[W3 hdt];exact h,fun F F' h=>by rw[W3 hdt];exact h⟩
  have touch:∀ (j:Nat) (y:Rec) (x:Nat),lo≤j→rs[j - lo]?=some y→j≠i→x∈y.wr→(x∈r.rd∨x∈r.wr)→decide (j < i)=listed.getD j false:=fun j y x hlj hy hne hx hxr=>by
   have m:∀ (b:List Nat),x∈b→Kv y.wr b=true:=fun b hb=>by
    unfold Kv;rw[List.any_eq_true];exact⟨x,hx,by simpa using hb⟩
   have m':∀ (b:List Nat),x∈b→Kv b y.wr=true:=fun b hb=>by
    unfold Kv;rw[List.any_eq_true];exact⟨x,hb,by simpa using hx⟩
   refine agree j y hlj hy hne (fun _=>?_) (fun _=>?_)
   ·unfold Av.apart
    rcases hxr with h | h
    ·rw[m _ h];simp
    ·rw[m _ h];simp
   ·unfold Av.apart
    rcases hxr with h | h
    ·rw[m' _ h];simp
    ·rw[m' _ h];simp
  have hH:∀ x∈r.rd,FS_.hp x=C.hp x:=fun x hx=>by
   refine(Ls (fun F F'=>F.hp x=F'.hp x) (fun r F F' h=>Yh _ _ _ _ x h) rs lo (fun n=>decide (n < i)) (fun n=>listed.getD n false) F0 F0 rfl ?_).symm
   intro j y hlj hy' hne
   have hxw:x ∉ y.wr:=fun hxw=>by
    apply hne
    by_cases hji:j=i
    ·subst hji
     show decide (j < j)=listed.getD j false
     rw[hun];simp
    ·exact touch j y x hlj hy' hji hxw (.inl hx)
   exact⟨fun F F' h=>(Ka y F.hp x hxw).trans h,fun F F' h=>h.trans (Ka y F'.hp x hxw).symm⟩
  have hL:∀ x,x∈r.wr→FS_.live x=C.live x:=fun x hx=>by
   refine(Ls (fun F F'=>F.live x=F'.live x) (fun r F F' h=>Yi _ _ _ _ x h) rs lo (fun n=>decide (n < i)) (fun n=>listed.getD n false) F0 F0 rfl ?_).symm
   intro j y hlj hy' hne
   have hxw:x ∉ y.wr:=fun hxw=>by
    apply hne
    by_cases hji:j=i
    ·subst hji
     show decide (j < j)=listed.getD j false
     rw[hun];simp
    ·exact touch j y x hlj hy' hji hxw (.inr hx)
   exact⟨fun F F' h=>(Kb y F.live x hxw).trans h,fun F F' h=>h.trans (Kb y F'.live x hxw).symm⟩
  have hev:∀ x∈r.o.op.operands,Bf FS_.E x=Bf C.E x:=w7 hE
  have hqS:Bu P cs r.o (Bf FS_.E) FS_.hp r.id=r.q:=by
   rw[hgC.q]
   refine u5 hev fun x hx=>hH x ?_
   rw[hgC.rd,← Z1 hev];exact hx
  have hkill:∀ tk,r.q.kill=some tk→FS_.live tk:=fun tk hk=>by
   rw[hL tk (by unfold Rec.wr;cases hm_:r.q.mo with | some t=>exact absurd hk (by rw[← hqS];exact ji (by rw[hqS];exact hm_)) | none=>simp[hk])]
   exact hgC.kill tk hk
  obtain⟨γ,le0,R,Fr⟩:=hm.st
  have hfr:∀ j,r.id≤j→j < r.id+16→γ.ι j=none∧γ.τ j=none∧FS_.hp j=none∧¬ FS_.live j:=fun j h1 h2=>Fr j (.inl ⟨i,hlt,hun,by rw[hgC.id]at h1;omega,by rw[hgC.id]at h2;omega⟩)
  -- the state behind it
  have next:∀ (u:Value) (γ':G) (w':World),LeG γ γ'→RL own μ0 w0 N ops (fun k=>listed.getD k false=true∨k=i) (r.ap FS_).E (r.ap FS_).hp (r.ap FS_).live γ' (a.put o.dst u) w' →
    (∀ id,(id < r.id∨r.id+16≤id)→γ'.ι id=γ.ι id∧γ'.τ id=γ.τ id)→wpAny P .any ops.toArray QQ fuel (listed.setIfInBounds i true) (a.put o.dst u) w':=fun u γ' w' hle R' hoth=>by
   have hset:∀ k,(listed.setIfInBounds i true).getD k false=(listed.getD k false || k==i):=fun k=>by
    rw[fd]
    by_cases hki:i=k
    ·subst hki;simp[hm.lsize,hlt]
    ·rw[if_neg (fun h=>hki h.1)]
     have:(k==i)=false:=by simpa using Ne.symm hki
     rw[this,Bool.or_false]
   have hfold:Bd (fun n=>(listed.setIfInBounds i true).getD n false) lo rs F0=r.ap FS_:=by
    have e1:(fun n=>(listed.setIfInBounds i true).getD n false)=(fun n=>listed.getD n false || n==i):=funext hset
    rw[e1]
    refine aq rs lo _ i r F0 hli hri hun fun j y hlj hy' hij hj F=>?_
    have hap:Av.apart ops r y=true:=by
     rcases pair i j r y hli hij hri hy' with h | h
     ·exact(behind j _ (good j y hlj hy').op h hj).elim
     ·exact h
    unfold Av.apart at hap
    simp only[Bool.and_eq_true,Bool.not_eq_true']at hap
    obtain⟨_,_,h3,_,_⟩:=hap
    refine(ap_comm F (fun t ht ht'=>?_) h3).symm
    have:=Vc hnd hgC.op (good j y hlj hy').op ht ht'
    omega
   refine ih _ _ _ ⟨by rw[Array.size_setIfInBounds,hm.lsize],fun j hj=>by rw[hset,hm.low j hj];rfl,fun j hj=>by rw[hset,hm.high j hj];simpa using (by omega:j≠i),fun j oj hoj hl e he hbd=>?_,⟨γ',le0.trans hle,?_,?_⟩⟩ ?_
   ·rw[hset]at hl ⊢
    rw[Bool.or_eq_true]at hl ⊢
    rcases hl with hl | hl
    ·exact .inl (hm.closed j oj hoj hl e he hbd)
    ·have hji:j=i:=by simpa using hl
     subst hji
     rw[ho]at hoj;injection hoj with hoj;subst hoj
     exact .inl (hpre' e he hbd)
   ·rw[hfold]
    have e2:(fun k=>(listed.setIfInBounds i true).getD k false=true)=(fun k=>listed.getD k false=true∨k=i):=by
     funext k;rw[hset,Bool.or_eq_true];simp
    rw[e2];exact R'
   ·rw[hfold]
    intro id hid
    have hid':((∃ j,j < ops.length∧listed.getD j false=false∧nx+16 * j≤id∧id < nx+16 * j+16)∨nx+16 * ops.length≤id)∧(id < r.id∨r.id+16≤id):=by
     rcases hid with⟨j,h1,h2,h3,h3'⟩ | h
     ·rw[hset,Bool.or_eq_false_iff]at h2
      refine⟨.inl ⟨j,h1,h2.1,h3,h3'⟩,?_⟩
      have:j≠i:=by simpa using h2.2
      rw[hgC.id];omega
     ·exact⟨.inr h,by rw[hgC.id];omega⟩
    obtain⟨g1,g2,g3,g4⟩:=Fr id hid'.1
    obtain⟨g5,g6⟩:=hoth id hid'.2
    refine⟨by rw[g5,g1],by rw[g6,g2],?_,?_⟩
    ·show Ck r.id r.q FS_.hp id=none
     have hne':id≠r.id:=by have:=hid'.2;omega
     unfold Ck Cr
     cases hm_:r.q.mo with
     | some t=>exact kg (Z0 (by rw[hqS];exact hgC.ok) (by rw[hqS];exact hm_)) g3 hid'.2
     | none =>
     simp only
     split
     ·rename_i d ob hupd
      obtain⟨o',ho'⟩:=cb (by rw[hqS];exact hupd)
      rw[if_neg (fun h=>by rw[h]at g3;exact absurd (g3.symm.trans ho') (by simp))]
      split
      ·rw[if_neg hne'];exact g3
      ·exact g3
     ·split
      ·rw[if_neg hne'];exact g3
      ·exact g3
    ·show ¬ E8 r.id r.q FS_.live id
     unfold E8
     cases hm_:r.q.mo with
     | some t=>exact ft (Z0 (by rw[hqS];exact hgC.ok) (by rw[hqS];exact hm_)) g4 hid'.2
     | none =>
     simp only
     rintro(⟨h,_⟩ | ⟨_,h⟩)
     ·exact g4 h
     ·have:=hid'.2;omega
   ·have:=ae (p:=fun i=>!listed.getD i true) (q:=fun k=>!(listed.setIfInBounds i true).getD k true) (List.range ops.length) (fun x _ hx=>by
      simp only[fd]at hx
      split at hx
      ·simp at hx
      ·exact hx) ⟨i,List.mem_range.2 hlt,by
       have h1:listed.getD i true=listed.getD i false:=by simp[Array.getD,hm.lsize,hlt]
       simp[h1,hun],by simp[hm.lsize,hlt]⟩
    omega
  have hnd_:¬ (listed.getD i false=true):=by rw[hun];simp
  have hguard:∀ g,o.guard=some g→listed.getD g.1 false=true:=fun g hgd=>by
   -- the guard's temporary is looked at: it has been written
   obtain⟨_,q2,_,q4⟩:=hgC.g1 g (by rw[hro];exact hgd)
   rcases Nat.lt_or_ge g.1 lo with hgl | hgl
   ·exact hm.low _ hgl
   unfold Ea at q4
   cases hoj:ops[g.1]? with
   | none=>rw[hoj]at q4;cases q4
   | some oj =>
    rw[hoj]at q4
    simp only at q4
    cases hdj:oj.dst with
    | none=>rw[hdj]at q4;cases q4
    | some t =>
     obtain⟨y,hy,hyo⟩:=recAt g.1 oj hgl (by omega) hoj
     have:t∈G1 ops r.o:=by
      unfold G1 Oper.looksAt
      rw[List.mem_append]
      refine .inr ?_
      rw[hro,hgd]
      simp only
      have e:ops.toArray[g.1]?=some oj:=by simpa using hoj
      rw[e,Option.bind_some,hdj]
      simp
     have hag:=agree g.1 y hgl hy (by omega) (fun _=>by
      unfold Av.apart
      have h1:y.o.dst=some t:=by rw[hyo];exact hdj
      simp only[h1]
      have:(G1 ops r.o).contains t=true:=by simpa using this
      rw[this];rfl) (fun h=>by omega)
     rw[← hag];simp[q2]
  unfold wpOp
  have hoA:ops.toArray[i]?=some o:=by simpa using ho
  rw[hoA]
  simp only
  have stepW:∀ (g:Option (Nat×Bool)) (G':Bool),r.g=g→r.gv=G'→(∀ p∈r.q.ob,p)→(∀ g',o.guard=some g'→yielded ops.toArray a.tmps g'.1=some g'.2)→(∀ j want,g=some (j,want)→listed.getD j false=true∧yielded ops.toArray a.tmps j=some want∧G'=true) →
    o.wp P a w (wpAny P .any ops.toArray QQ fuel (listed.setIfInBounds i true)) QQ:=fun g G' hgg hgv hob hw hj=>by
   rw[← hro]at hw ⊢
   refine ri R (cs:=cs) (id:=r.id) (by rw[jj hE];exact hgC.rdOk) (by rw[hqS];exact hgC.ok) (by rw[hqS];exact hob) (by rw[hqS];exact hkill) (by rw[hqS];intro t ht s hs;rw[hL s (by unfold Rec.wr;rw[ht];simp[hs])];exact hgC.mo t ht s hs) hfr hw ?_
   rw[hqS]
   intro u w' γ' hs
   have R':=R.put (i:=i) (x:=⟨r.g,r.gv,r.q.v⟩) hreg hgC.op hnd_ hs.le hs.hp hs.base hs.mu (by
    rw[hgg,hgv]
    cases g with
    | none=>exact hs.rep
    | some jw=>obtain⟨j,want⟩:=jw;obtain⟨q1,q2,q3⟩:=hj j want rfl;exact⟨q1,.inl ⟨q2,q3,hs.rep⟩⟩)
   rw[hro]
   refine next u γ' w' hs.le ?_ (fun id hid=>hs.other id hid)
   rw[← hro]
   exact R'
  cases hgd:o.guard with
  | none =>
   obtain⟨q1,q2⟩:=hgC.g0 (by rw[hro];exact hgd)
   rw[if_pos (Uq hgd)]
   exact .inl (stepW none true q1 q2 ((hobs r (List.mem_of_getElem? hri)).1 q1) (fun g' hg'=>by rw[hgd]at hg';cases hg') (fun j want h=>by cases h))
  | some g =>
   obtain⟨q1,q2,q3,q4⟩:=hgC.g1 g (by rw[hro];exact hgd)
   have hGS:Ea ops FS_.E g=some r.gv:=by rw[ci (o:=r.o) (by rw[hro];exact hgd) hE];exact q4
   obtain⟨gs1,gs2⟩:=Pu R hGS
   have hgl:=hguard g hgd
   by_cases hy:yielded ops.toArray a.tmps g.1=some g.2
   ·rw[if_pos ((Dt hgd).2 hy)]
    refine .inl (stepW (some g) r.gv q1 rfl ((hobs r (List.mem_of_getElem? hri)).2 (by rw[q1];simp) (gs1 hy)) (fun g' hg'=>by rw[hgd]at hg';injection hg' with hg';rw[← hg'];exact hy) (fun j want h=>?_))
    injection h with h
    rw[h]at hgl hy
    exact⟨hgl,hy,gs1 (by rw[h];exact hy)⟩
   ·rw[if_neg (fun h=>hy ((Dt hgd).1 h))]
    unfold Q.plain at q3
    simp only[Bool.and_eq_true,Option.isNone_iff_eq_none,Bool.not_eq_true']at q3
    obtain⟨⟨⟨⟨p1,p2⟩,p3⟩,p4⟩,p5⟩:=q3
    have hap:r.ap FS_=⟨Og r.o ⟨r.g,r.gv,r.q.v⟩ FS_.E,FS_.hp,FS_.live⟩:=by
     unfold Rec.ap
     rw[Eo p3 p5,Du p4 p5,p1,p2,N8,C5]
    have R':=R.put (i:=i) (x:=⟨r.g,r.gv,r.q.v⟩) (u:=undef) hreg hgC.op hnd_ (LeG.refl γ) R.hp (Base.refl own w) (fun _ _ _ _=>rfl) (by
     rw[q1]
     exact⟨hgl,.inr ⟨hy,gs2 hy,rfl⟩⟩)
    refine next undef γ w (LeG.refl γ) ?_ (fun id _=>⟨rfl,rfl⟩)
    rw[hap,← hro]
    exact R'
theorem sp {rs:List Rec} (h:Wf ops rs=true) (hl:rs.length=ops.length):Sg ops rs 0=true:=by
 unfold Wf at h
 unfold Sg
 simp only[Nat.zero_add,hl]
 exact h
theorem vf:co ops ops.length=true:=by
 unfold co
 simp only[List.all_eq_true,List.mem_range,Bool.or_eq_true,decide_eq_true_eq]
 exact fun j hj=>.inl hj
theorem AA1 {QQ:Exit→Act→World→Prop} {fuel:Nat} {listed:Array Bool} {a:Act} (hs:listed.size=ops.length) (h:∀ j,listed.getD j false=decide (j < ops.length)) (hq:QQ .normal a w):wpAny P .any ops.toArray QQ fuel listed a w:=by
 have hr:Region.ready .any ops.toArray listed=[]:=by
  apply Classical.byContradiction
  intro hne
  obtain⟨k,hk⟩:=List.exists_mem_of_ne_nil _ hne
  unfold Region.ready at hk
  rw[List.mem_filter]at hk
  simp only[List.size_toArray,Bool.and_eq_true,Bool.not_eq_true',List.mem_range]at hk
  have h1:listed.getD k true=listed.getD k false:=by simp[Array.getD,hs,hk.1]
  rw[h1,h,decide_eq_true hk.1]at hk
  cases hk.2.1
 cases fuel with
 | zero=>exact⟨hr,hq⟩
 | succ n=>exact⟨fun _=>hq,fun i hi=>by rw[hr]at hi;cases hi⟩
theorem AAF {γ0:G} {cs:Cs} {nx:Nat} {rs:List Rec} {F0:Fx} (hreg:Jt ops N=true) (hback:W8 ops=true) (hdraw:Wf ops rs=true) (hlen:rs.length=ops.length)
  (hgood:∀ k r,rs[k]?=some r→Y4 P cs ops nx (Bd (fun n=>decide (n < k)) 0 rs F0) k r) (hobs:∀ r∈rs,(r.g=none→∀ p∈r.q.ob,p)∧(r.g≠none→r.gv=true→∀ p∈r.q.ob,p)) {QQ:Exit→Act→World→Prop}
  (hQ:∀ (γ:G) (a:Act) (w:World),LeG γ0 γ→RL own μ0 w0 N ops (fun k=>k < ops.length) (Bd (fun _=>true) 0 rs F0).E (Bd (fun _=>true) 0 rs F0).hp (Bd (fun _=>true) 0 rs F0).live γ a w →
   He (nx+16 * ops.length) (Bd (fun _=>true) 0 rs F0).hp (Bd (fun _=>true) 0 rs F0).live γ→QQ .normal a w) :
  ∀ (fuel:Nat) (listed:Array Bool) (a:Act) (w:World),Mid 0 ops.length γ0 P cs own μ0 w0 N ops nx rs F0 listed a w→(List.range ops.length).countP (fun i=>!listed.getD i true)≤fuel→wpAny P .any ops.toArray QQ fuel listed a w :=
 AAG (Nat.zero_le _) (Nat.le_refl _) hreg hback (sp hdraw hlen) vf (by rw[hlen,Nat.sub_zero]) (fun k r h=>by rw[Nat.zero_add];exact hgood k r h) hobs fun fuel listed γ a w h1 h2 _ le R F=>AA1 h1 h2 (hQ γ a w le R F)
end Go.Av
namespace Go.Av
open Go.RowKit Go.Base
structure Ei where
 own:Nat→Prop
 μ0:G0
 w0:World
def RS (V:Ei) (N:Nat) (st:St) (γ:G) (a:Act) (w:World):Prop :=
 RL V.own V.μ0 V.w0 N [] (fun _=>False) (fun t=>⟨none,true,Bp st.fr t⟩) (Ak st.hp) (·∈st.live) γ a w∧He st.nx (Ak st.hp) (·∈st.live) γ
def Ur (V:Ei) (N:Nat) (K:Exit→St→Prop):Exit→Act→World→Prop:=fun ex a w=>∃ st γ,RS V N st γ a w∧K ex st
def Tri (P:Program) (V:Ei) (N:Nat) (c:Code) (st:St) (K:Exit→St→Prop):Prop:=∀ γ a w,RS V N st γ a w→c.wp P (Ur V N K) a w
def Wl:List (Nat×LE)→List (Nat×AV)→List (Nat×AV)
 | [],fr=>fr
 | (t,x) :: l,fr=>(t,match x.g with | none=>x.v | some _=>.any) :: Wl l fr
def V2 (fr:List (Nat×AV)) (nx n:Nat) (s:LS):St:=⟨Wl s.lf fr,s.hp,s.live,nx+16 * n⟩
def ey (st:St):Operand→AV
 | .tmp t=>Bp st.fr t
 | .const v=>Df v
 | _=>.any
def andThen (K:Exit→St→Prop) (next:St→Prop):Exit→St→Prop
 | .normal,st=>next st
 | ex,st=>K ex st
def inBlock (id:Nat) (K:Exit→St→Prop):Exit→St→Prop
 | .exit j,st=>if j=id then K .normal st else K (.exit j) st
 | ex,st=>K ex st
def ABI (x:AV) (a b:Prop):Prop:=match x with
 | .d (.bool c)=>(c=true→a)∧(c=false→b)
 | _=>False
def Ga:Code→Nat
 | .region id _ _=>id
 | .seq a b=>match a with | .skip=>Ga b | .label _=>Ga b | a=>Ga a
 | .block _ c=>Ga c
 | .loop c=>Ga c
 | .scope c=>Ga c
 | .cond _ a _=>Ga a
 | _=>0
def Sf (ts:List Nat) (st:St):St:={ st with fr:=ts.map fun t=>(t,Bp st.fr t) }
def lookN:List (Nat×List Nat)→Nat→Option (List Nat)
 | [],_=>none
 | (i,v) :: l,t=>if i=t then some v else lookN l t
def cut (lv:List (Nat×List Nat)) (c:Code) (st:St):St:=match lookN lv (Ga c) with | some ts=>Sf ts st | none=>st
structure Tm where
 α:Type
 f:α→List (Nat×D)
 o:α→List (Nat×OT)
 a:List Nat:=[]
def dh:List (Nat×Tm)→Nat→Option Tm
 | [],_=>none
 | (i,v) :: l,t=>if i=t then some v else dh l t
def w8 (o:Option Tm) (p:Cs→Prop):Prop:=match o with
 | none=>p ⟨[],[],[]⟩
 | some t=>∃ x:t.α,p ⟨t.f x,t.o x,t.a⟩
theorem Uz {o:Option Tm} {p:Cs→Prop} (h:w8 o p):∃ cs,p cs:=by
 unfold w8 at h
 split at h
 ·exact⟨_,h⟩
 ·obtain⟨x,h⟩:=h;exact⟨_,h⟩
def Kc:Code→Bool
 | .seq a b=>Kc a || Kc b
 | .cond _ a b=>Kc a || Kc b
 | .block _ c=>Kc c
 | .loop _=>true
 | .scope c=>Kc c
 | .rangeFunc ..=>true
 | _=>false
def vc (P:Program) (V:Ei) (N:Nat) (cs:List (Nat×Tm)) (lv:List (Nat×List Nat)):Code→St→(Exit→St→Prop)→Prop
 | .skip,st,K=>K .normal st
 | .label _,st,K=>K .normal st
 | .seq a b,st,K=>if Kc a=true then vc P V N cs lv a st (andThen K fun st'=>Tri P V N b st' K)else vc P V N cs lv a st (andThen K fun st'=>vc P V N cs lv b st' K)
 | .cond c x y,st,K=>ABI (ey st c) (vc P V N cs lv x st K) (vc P V N cs lv y st K)
 | .block id c,st,K=>vc P V N cs lv c st (inBlock id K)
 | .exit id,st,K=>K (.exit id) st
 | .ret,st,K=>K .ret st
 | .region id ops false,st,K=>if Jt ops.toList N=true then w8 (dh cs id) fun cs=>Hn P cs ops.toList st.fr st.nx 0 ops.toList ⟨[],st.hp,st.live⟩ (fun s=>K .normal (V2 st.fr st.nx ops.toList.length s))else False
 | .region id ops true,st,K=>if Jt ops.toList N=true then w8 (dh cs id) fun cs=>kj P cs ops.toList st.fr st.nx ⟨[],st.hp,st.live⟩ (fun s=>K .normal (V2 st.fr st.nx ops.toList.length s))else False
 | .loop c,st,K=>Tri P V N (.loop c) (cut lv c st) K
 | c,st,K=>Tri P V N c st K
variable {P:Program} {V:Ei} {N:Nat} {γ γ':G} {w w':World}
theorem Xb (fr:List (Nat×AV)):∀ (lf:List (Nat×LE)) (t:Nat),Bp (Wl lf fr) t=match (Ba fr lf t).g with | none=>(Ba fr lf t).v | some _=>.any
 | [],t=>rfl
 | (i,x) :: l,t=>by
  simp only[Wl,Bp,Ba]
  split
  ·rfl
  ·exact Xb fr l t
theorem ju {ops:List Oper} {fr:List (Nat×AV)} {s:LS} {nx n:Nat} {a:Act} {done:Nat→Prop} (R:RL V.own V.μ0 V.w0 N ops done (Ba fr s.lf) (Ak s.hp) (·∈s.live) γ a w) (F:He (nx+16 * n) (Ak s.hp) (·∈s.live) γ):RS V N (V2 fr nx n s) γ a w:=by
 refine⟨⟨R.defers,R.size,fun t=>?_,(fun t j want h=>by cases h),R.hp,R.base,R.big,R.mu⟩,F⟩
 show RepA γ (Bp (Wl s.lf fr) t) (a.tmps.getD t undef)
 rw[Xb]
 have:=R.fr t
 unfold EOk at this
 split
 ·rename_i h;rw[h]at this;exact this
 ·simp only[RepA]
theorem Tri.mono {c:Code} {st:St} {K K':Exit→St→Prop} (h:Tri P V N c st K) (hk:∀ ex st',K ex st'→K' ex st'):Tri P V N c st K' :=
 fun γ a w hr=>wp_mono (h γ a w hr) fun _ _ _ ⟨st',γ',h1,h2⟩=>⟨st',γ',h1,hk _ _ h2⟩
theorem Tri.seq {a b:Code} {st:St} {K:Exit→St→Prop} (h:Tri P V N a st (andThen K fun st'=>Tri P V N b st' K)):Tri P V N (.seq a b) st K:=fun γ x w hr=>by
 refine wp_seq (wp_mono (h γ x w hr) ?_)
 rintro ex a' w' ⟨st',γ',h1,h2⟩
 cases ex with
 | normal=>exact h2 γ' a' w' h1
 | _=>exact⟨st',γ',h1,h2⟩
theorem Tri.block {id:Nat} {c:Code} {st:St} {K:Exit→St→Prop} (h:Tri P V N c st (inBlock id K)):Tri P V N (.block id c) st K:=fun γ x w hr=>by
 refine wp_block (wp_mono (h γ x w hr) ?_)
 rintro ex a' w' ⟨st',γ',h1,h2⟩
 cases ex with
 | exit j =>
  simp only[inBlock]at h2
  simp only[Exit.inBlock]
  split
  ·rename_i hj;rw[if_pos hj]at h2;exact⟨st',γ',h1,h2⟩
  ·rename_i hj;rw[if_neg hj]at h2;exact⟨st',γ',h1,h2⟩
 | _=>exact⟨st',γ',h1,h2⟩
theorem Tri.cond {c:Operand} {x y:Code} {st:St} {K:Exit→St→Prop} {b:Bool} (hc:ey st c=.d (.bool b)) (h1:b=true→Tri P V N x st K) (h2:b=false→Tri P V N y st K):Tri P V N (.cond c x y) st K:=fun γ a w hr=>by
 have hv:a.eval c=.bool b:=by
  cases c with
  | tmp t =>
   have:=hr.1.fr t
   simp only[ey]at hc
   simp only[EOk,hc,RepA,Rep]at this
   exact this
  | const v =>
   simp only[ey]at hc
   have:=J5 (γ:=γ) v
   rw[hc]at this
   simp only[RepA,Rep]at this
   exact this
  | _=>cases hc
 exact wp_cond_split hv (fun h=>h1 h γ a w hr) (fun h=>h2 h γ a w hr)
theorem Tri.region {id:Nat} {ops:Array Oper} {st:St} {K:Exit→St→Prop} {cs:Cs} (hr:Jt ops.toList N=true)
  (h:Hn P cs ops.toList st.fr st.nx 0 ops.toList ⟨[],st.hp,st.live⟩ (fun s=>K .normal (V2 st.fr st.nx ops.toList.length s))):Tri P V N (.region id ops false) st K:=fun γ a w hs=>by
 refine wp_region_list ?_
 have:=Sq (P:=P) (QQ:=Ur V N K) hr (fun s γ a w hk R F=>⟨_,γ,ju R F,hk⟩) ops.toList 0 ⟨[],st.hp,st.live⟩ γ a w (by simp) (by simp)
  ⟨hs.1.defers,hs.1.size,fun t=>hs.1.fr t,(fun t j want h=>by cases h),hs.1.hp,hs.1.base,hs.1.big,hs.1.mu⟩ hs.2 h
 simpa using this
theorem Tri.draw (hm:P.follows .mixedOrders=true) {id:Nat} {ops:Array Oper} {st:St} {K:Exit→St→Prop} {cs:Cs} (hr:Jt ops.toList N=true)
  (h:kj P cs ops.toList st.fr st.nx ⟨[],st.hp,st.live⟩ (fun s=>K .normal (V2 st.fr st.nx ops.toList.length s))):Tri P V N (.region id ops true) st K:=fun γ a w hs=>by
 refine wp_region_any hm ?_
 unfold kj at h
 split at h
 ·rename_i rs s' hrun
  split at h
  ·rename_i hok
   simp only[Bool.and_eq_true]at hok
   obtain⟨h1,h2,h3⟩:=bp ops.toList 0 ⟨[],st.hp,st.live⟩ s' rs (by simp) hrun
   obtain⟨o1,o2⟩:=Oc h
   have R:RL V.own V.μ0 V.w0 N ops.toList (fun _=>False) (fun t=>⟨none,true,Bp st.fr t⟩) (Ak st.hp) (·∈st.live) γ a { w with drawn:=w.drawn+1 } :=
    ⟨hs.1.defers,hs.1.size,fun t=>hs.1.fr t,(fun t j want h=>by cases h),⟨hs.1.hp.fz,hs.1.hp.obj,hs.1.hp.inj,hs.1.hp.tok,hs.1.hp.tinj⟩,⟨hs.1.base.os,hs.1.base.tape,hs.1.base.output,hs.1.base.size,hs.1.base.block⟩,hs.1.big,hs.1.mu⟩
   have no:∀ n,(Array.replicate ops.toList.length false).getD n false=false:=fun n=>by
    rw[Array.getD_eq_getD_getElem?,Array.getElem?_replicate];split<;>rfl
   have e0:Bd (fun n=>(Array.replicate ops.toList.length false).getD n false) 0 rs (Ht st.fr ⟨[],st.hp,st.live⟩)=Ht st.fr ⟨[],st.hp,st.live⟩:=Ps _ _ _ _ fun n _=>no n
   have:=AAF (γ0:=γ) (P:=P) (cs:=cs) (nx:=st.nx) (QQ:=Ur V N K) (own:=V.own) (μ0:=V.μ0) (w0:=V.w0) hr hok.1 hok.2 h1 (fun k r hk=>by have:=h2 k r hk;simpa using this) o1
    (fun γ a w _ R F=>⟨V2 st.fr st.nx ops.toList.length s',γ,ju (fr:=st.fr) (s:=s') (nx:=st.nx) (n:=ops.toList.length) (by rw[← h3]at R;exact R) (by rw[← h3]at F;exact F),o2⟩)
    ops.toList.length (Array.replicate ops.toList.length false) a { w with drawn:=w.drawn+1 }
    ⟨by simp,fun j hj=>(by omega),fun j _=>no j,fun j o _ hl=>(by rw[no]at hl;cases hl),⟨γ,LeG.refl γ,by
     rw[e0]
     have ed:(fun k=>(Array.replicate ops.toList.length false).getD k false=true)=(fun _=>False):=by funext k;rw[no];simp
     rw[ed];exact R,by
     rw[e0]
     intro id hid
     refine hs.2.ok id ?_
     rcases hid with⟨j,_,_,h⟩ | h<;>omega⟩⟩ (Nat.le_trans (List.countP_le_length) (by simp))
   simpa using this
  ·exact h.elim
 ·exact h.elim
theorem jt {ts:List Nat} {st:St} {a:Act} (h:RS V N st γ a w):RS V N (Sf ts st) γ a w:=by
 refine⟨⟨h.1.defers,h.1.size,fun t=>?_,(fun t j want h=>by cases h),h.1.hp,h.1.base,h.1.big,h.1.mu⟩,h.2⟩
 show RepA γ (Bp (Sf ts st).fr t) (a.tmps.getD t undef)
 have key:∀ l:List Nat,Bp (l.map fun t=>(t,Bp st.fr t)) t=.any∨Bp (l.map fun t=>(t,Bp st.fr t)) t=Bp st.fr t:=by
  intro l
  induction l with
  | nil=>exact .inl rfl
  | cons x l ih =>
   simp only[List.map_cons,Bp]
   split
   ·rename_i e;subst e;exact .inr rfl
   ·exact ih
 rcases key ts with e | e
 ·simp only[Sf];rw[e];simp only[RepA]
 ·simp only[Sf];rw[e];exact h.1.fr t
theorem rs_cut {lv:List (Nat×List Nat)} {c:Code} {st:St} {a:Act} (h:RS V N st γ a w):RS V N (cut lv c st) γ a w:=by
 unfold cut
 split
 ·exact jt h
 ·exact h
theorem Gl (hm:P.follows .mixedOrders=true) {cs:List (Nat×Tm)} {lv:List (Nat×List Nat)}:∀ (c:Code) (st:St) (K:Exit→St→Prop),vc P V N cs lv c st K→Tri P V N c st K
 | .skip,st,K,h=>fun γ a w hr=>wp_skip ⟨st,γ,hr,h⟩
 | .label _,st,K,h=>fun γ a w hr=>wp_label ⟨st,γ,hr,h⟩
 | .exit id,st,K,h=>fun γ a w hr=>wp_exit ⟨st,γ,hr,h⟩
 | .ret,st,K,h=>fun γ a w hr=>wp_ret ⟨st,γ,hr,h⟩
 | .seq a b,st,K,h=>by
  unfold vc at h
  split at h
  ·exact Tri.seq (Gl hm a st _ h)
  ·refine Tri.seq ((Gl hm a st _ h).mono fun ex st' hk=>?_)
   cases ex with
   | normal=>exact Gl hm b st' K hk
   | _=>exact hk
 | .block id c,st,K,h=>Tri.block (Gl hm c st _ h)
 | .cond c x y,st,K,h=>by
  unfold vc ABI at h
  split at h
  ·rename_i b hb
   exact Tri.cond hb (fun hb=>Gl hm x st K (h.1 hb)) (fun hb=>Gl hm y st K (h.2 hb))
  ·exact h.elim
 | .region id ops false,st,K,h=>by
  unfold vc at h
  split at h
  ·rename_i hr;obtain⟨cs,h⟩:=Uz h;exact Tri.region hr h
  ·exact h.elim
 | .region id ops true,st,K,h=>by
  unfold vc at h
  split at h
  ·rename_i hr;obtain⟨cs,h⟩:=Uz h;exact Tri.draw hm hr h
  ·exact h.elim
 | .loop c,st,K,h=>fun γ a w hr=>h γ a w (rs_cut hr)
 | .rangeFunc ..,st,K,h=>h
 | .scope _,st,K,h=>h
 | .goto _,st,K,h=>h
 | .refuse _,st,K,h=>h
end Go.Av
namespace Go.Av
open Go.RowKit Go.Base
variable {P:Program} {V:Ei} {N:Nat} {γ γ':G} {w w':World}
mutual
def Jb:D→D→Prop
 | .sl sz n f,.sl sz' m g=>n=m∧∀ i,i < n→sz=sz'∧(f i=g i∨Jb (f i) (g i))
 | .agg xs,.agg ys=>Pg xs ys
 | .tup xs,.tup ys=>Pg xs ys
 | .bool a,.bool b=>a=b
 | .int k a,.int k' b=>k=k'∧a=b
 | .str a,.str b=>a=b
 | .err a,.err b=>a=b
 | _,_=>False
def Pg:List D→List D→Prop
 | [],[]=>True
 | x :: xs,y :: ys=>(x=y∨Jb x y)∧Pg xs ys
 | _,_=>False
end
mutual
theorem Rep.deq {μ:Nat→Nat→Option Value}:∀ {x y:D} {v:Value},Jb x y→Rep μ x v→Rep μ y v
 | .sl sz n f,y,v,h,hr=>by
  cases y with
  | sl sz' m g =>
   simp only[Jb]at h
   obtain⟨rfl,h⟩:=h
   simp only[Rep]at hr ⊢
   obtain⟨A,c,e,h1,h2,h3⟩:=hr
   refine⟨A,c,e,h1,h2,fun hn=>?_⟩
   obtain⟨b,o,e2,h4⟩:=h3 hn
   refine⟨b,o,e2,fun i hi=>?_⟩
   obtain⟨rfl,hd⟩:=h i hi
   obtain⟨u,h5,h6⟩:=h4 i hi
   exact⟨u,hd.elim (fun e=>e ▸ h5) (fun hd=>Rep.deq hd h5),h6⟩
  | _=>simp only[Jb]at h
 | .agg xs,y,v,h,hr=>by
  cases y with
  | agg ys=>simp only[Jb]at h;simp only[Rep]at hr ⊢;obtain⟨vs,e,hr⟩:=hr;exact⟨vs,e,RepL.deq h hr⟩
  | _=>simp only[Jb]at h
 | .tup xs,y,v,h,hr=>by
  cases y with
  | tup ys=>simp only[Jb]at h;simp only[Rep]at hr ⊢;obtain⟨vs,e,hr⟩:=hr;exact⟨vs,e,RepL.deq h hr⟩
  | _=>simp only[Jb]at h
 | .bool a,y,v,h,hr=>by
  cases y with
  | bool b=>simp only[Jb]at h;subst h;exact hr
  | _=>simp only[Jb]at h
 | .int k a,y,v,h,hr=>by
  cases y with
  | int k' b=>simp only[Jb]at h;obtain⟨rfl,rfl⟩:=h;exact hr
  | _=>simp only[Jb]at h
 | .str a,y,v,h,hr=>by
  cases y with
  | str b=>simp only[Jb]at h;subst h;exact hr
  | _=>simp only[Jb]at h
 | .bad,y,v,h,hr=>by simp only[Rep]at hr
 | .err a,y,v,h,hr=>by
  cases y with
  | err b=>simp only[Jb]at h;subst h;exact hr
  | _=>simp only[Jb]at h
theorem RepL.deq {μ:Nat→Nat→Option Value}:∀ {x y:List D} {v:List Value},Pg x y→RepL μ x v→RepL μ y v
 | [],y,v,h,hr=>by
  cases y with
  | nil=>exact hr
  | cons _ _=>simp only[Pg]at h
 | x :: xs,y,v,h,hr=>by
  cases y with
  | nil=>simp only[Pg]at h
  | cons y ys =>
   simp only[Pg]at h
   simp only[RepL]at hr ⊢
   obtain⟨u,t,e,h1,h2⟩:=hr
   exact⟨u,t,e,h.1.elim (fun e=>e ▸ h1) (fun h=>Rep.deq h h1),RepL.deq h.2 h2⟩
end
def De (x y:D):Prop:=x=y∨Jb x y
theorem De.rfl {x:D}:De x x:=.inl (Eq.refl _)
theorem Rep.de {μ:Nat→Nat→Option Value} {x y:D} {v:Value} (h:De x y) (hr:Rep μ x v):Rep μ y v:=h.elim (fun e=>e ▸ hr) (fun h=>Rep.deq h hr)
theorem De.sl {sz n sz' m:Nat} {f g:Nat→D} (h:De (.sl sz n f) (.sl sz' m g)):n=m∧∀ i,i < n→sz=sz'∧De (f i) (g i):=by
 rcases h with h | h
 ·injection h with h1 h2 h3;subst h1 h2 h3;exact⟨Eq.refl _,fun _ _=>⟨Eq.refl _,De.rfl⟩⟩
 ·simp only[Jb]at h;exact h
theorem Y0 {X:Type} {c:Code} {Q:Exit→Act→World→Prop} {a:Act} (I:X→Act→World→Prop) (μ:X→Nat) (x0:X) (h₀:I x0 a w)
  (round:∀ x a w,I x a w→c.wp P (Exit.then (fun a' w'=>∃ x',I x' a' w'∧μ x' < μ x) Q) a w):(Code.loop c).wp P Q a w:=by
 intro b k cs
 have key:∀ n x a w,μ x=n→I x a w →
   ∃ e a' w',Q e a' w'∧Arrives P (lone (b.at a (.code c :: .inLoop c :: k)) cs w) b k cs e a' w':=by
  intro n
  induction n using Nat.strongRecOn with
  | _ n ih =>
   intro x a w hn hI
   obtain⟨e,a₁,w₁,hq,harr⟩:=round x a w hI b (.inLoop c :: k) cs
   cases e with
   | normal =>
    obtain⟨x₁,hI₁,hlt⟩:=hq
    obtain⟨e₂,a₂,w₂,hq₂,harr₂⟩:=ih (μ x₁) (hn ▸ hlt) x₁ a₁ w₁ rfl hI₁
    exact⟨e₂,a₂,w₂,hq₂,.of_steps (Steps.trans harr (.one step_inLoop)) harr₂⟩
   | exit id=>exact⟨_,a₁,w₁,hq,.pass (x:=.inLoop c) rfl (fun _ _=>.inl (by simp)) harr⟩
   | goto l=>exact⟨_,a₁,w₁,hq,.pass (x:=.inLoop c) rfl (fun _ _=>.inl (by simp)) harr⟩
   | ret=>exact⟨_,a₁,w₁,hq,.pass (x:=.inLoop c) rfl (fun _ _=>.inl (by simp)) harr⟩
   | panic ch=>exact⟨_,a₁,w₁,hq,.pass (x:=.inLoop c) rfl (fun _ _=>.inl (by simp)) harr⟩
   | outgrown=>exact⟨_,a₁,w₁,hq,.pass (x:=.inLoop c) rfl (fun _ _=>.inl (by simp)) harr⟩
 obtain⟨e,a',w',hq,harr⟩:=key _ x0 a w rfl h₀
 exact⟨e,a',w',hq,.of_steps (.one step_loop) harr⟩
def Weak (st st':St):Prop:=∀ (V:Ei) (N:Nat) (γ:G) (a:Act) (w:World),RS V N st γ a w→∃ γ',RS V N st' γ' a w
theorem Weak.refl (st:St):Weak st st:=fun _ _ γ _ _ h=>⟨γ,h⟩
theorem Tri.weak {c:Code} {st st':St} {K:Exit→St→Prop} (hw:Weak st st') (h:Tri P V N c st' K):Tri P V N c st K:=fun γ a w hr =>
 let ⟨γ',h'⟩:=hw V N γ a w hr;h γ' a w h'
theorem Tri.post {c:Code} {st:St} {K K':Exit→St→Prop} (h:Tri P V N c st K) (hk:∀ ex s,K ex s→∃ s',Weak s s'∧K' ex s'):Tri P V N c st K' :=
 fun γ a w hr=>wp_mono (h γ a w hr) fun ex a' w' ⟨s,γ',h1,h2⟩=>by
  obtain⟨s',hw,hk'⟩:=hk ex s h2
  obtain⟨γ'',h3⟩:=hw V N γ' a' w' h1
  exact⟨s',γ'',h3,hk'⟩
theorem Tri.loop {X:Type} {c:Code} {st:St} {K:Exit→St→Prop} (head:X→St) (I:X→Prop) (μ:X→Nat) (x0:X) (h0:Weak st (head x0)) (hi:I x0)
  (round:∀ x,I x→Tri P V N c (head x) (andThen K fun s=>∃ x',I x'∧μ x' < μ x∧Weak s (head x'))):Tri P V N (.loop c) st K:=fun γ a w hr=>by
 obtain⟨γ0,hr0⟩:=h0 V N γ a w hr
 refine Y0 (I:=fun x a w=>I x∧∃ γ,RS V N (head x) γ a w) μ x0 ⟨hi,γ0,hr0⟩ ?_
 rintro x a w ⟨hx,γ,hr⟩
 refine wp_mono (round x hx γ a w hr) ?_
 rintro ex a' w' ⟨s,γ',h1,h2⟩
 cases ex with
 | normal =>
  obtain⟨x',h3,h4,h5⟩:=h2
  obtain⟨γ'',h6⟩:=h5 V N γ' a' w' h1
  exact⟨x',⟨h3,γ'',h6⟩,h4⟩
 | _=>exact⟨s,γ',h1,h2⟩
def B3:List (Nat×Nat)→Nat→Option Nat
 | [],_=>none
 | (i,v) :: l,t=>if i=t then some v else B3 l t
mutual
def VIs:AV→D→Prop
 | .d x,r=>De x r
 | .ap sz n f _,r=>De (.sl sz n f) r
 | .tup l,.tup rs=>VIsL l rs
 | .agg l,.agg rs=>VIsL l rs
 | _,_=>False
def VIsL:List AV→List D→Prop
 | [],[]=>True
 | x :: xs,y :: ys=>VIs x y∧VIsL xs ys
 | _,_=>False
end
mutual
theorem VIs.rep:∀ {x:AV} {r:D} {v:Value},VIs x r→RepA γ x v→Rep γ.μ r v
 | .d x,r,v,h,hr=>by simp only[VIs]at h;simp only[RepA]at hr;exact hr.de h
 | .ap sz n f _,r,v,h,hr=>by simp only[VIs]at h;simp only[RepA]at hr;exact hr.1.de h
 | .tup l,r,v,h,hr=>by
  cases r with
  | tup rs=>simp only[VIs]at h;simp only[RepA]at hr;simp only[Rep];obtain⟨vs,e,h2⟩:=hr;exact⟨vs,e,VIsL.rep h h2⟩
  | _=>simp only[VIs]at h
 | .agg l,r,v,h,hr=>by
  cases r with
  | agg rs=>simp only[VIs]at h;simp only[RepA]at hr;simp only[Rep];obtain⟨vs,e,h2⟩:=hr;exact⟨vs,e,VIsL.rep h h2⟩
  | _=>simp only[VIs]at h
 | .ptr ..,r,v,h,_=>by simp only[VIs]at h
 | .ep ..,r,v,h,_=>by simp only[VIs]at h
 | .pa ..,r,v,h,_=>by simp only[VIs]at h
 | .arr ..,r,v,h,_=>by simp only[VIs]at h
 | .mp ..,r,v,h,_=>by simp only[VIs]at h
 | .vec ..,r,v,h,_=>by simp only[VIs]at h
 | .pv ..,r,v,h,_=>by simp only[VIs]at h
 | .fn ..,r,v,h,_=>by simp only[VIs]at h
 | .nilp,r,v,h,_=>by simp only[VIs]at h
 | .nilf,r,v,h,_=>by simp only[VIs]at h
 | .raw _,r,v,h,_=>by simp only[VIs]at h
 | .any,r,v,h,_=>by simp only[VIs]at h
theorem VIsL.rep:∀ {x:List AV} {r:List D} {v:List Value},VIsL x r→RepAL γ x v→RepL γ.μ r v
 | [],r,v,h,hr=>by
  cases r with
  | nil=>simpa only[RepAL,RepL] using hr
  | cons _ _=>simp only[VIsL]at h
 | x :: xs,r,v,h,hr=>by
  cases r with
  | nil=>simp only[VIsL]at h
  | cons y ys =>
   simp only[VIsL]at h
   simp only[RepAL]at hr
   simp only[RepL]
   obtain⟨u,t,e,h1,h2⟩:=hr
   exact⟨u,t,e,VIs.rep h.1 h1,VIsL.rep h.2 h2⟩
end
mutual
def Br (rs ts:List (Nat×Nat)):AV→AV→Prop
 | _,.any=>True
 | .d x,.d y=>De x y
 | .ap sz n f _,.d y=>De (.sl sz n f) y
 | .agg l,.d y=>VIs (.agg l) y
 | .ap _ _ _ .nl,.ap _ n' _ _=>n'=0
 | .ap sz n f (.tok a e),.ap sz' n' g (.tok b e')=>sz=sz'∧e=e'∧B3 ts b=some a∧De (.sl sz n f) (.sl sz' n' g)
 | .ptr a off,.ptr b off'=>B3 rs b=some a∧off=off'
 | .ep x off,.ep y off'=>x=y∧off=off'
 | .pa a sz i off,.pa b sz' i' off'=>B3 rs b=some a∧sz=sz'∧i=i'∧off=off'
 | .arr a sz n,.arr b sz' n'=>B3 rs b=some a∧sz=sz'∧n=n'
 | .vec a sz n,.vec b sz' n'=>B3 rs b=some a∧sz=sz'∧n=n'
 | .pv a sz i off,.pv b sz' i' off'=>B3 rs b=some a∧sz=sz'∧i=i'∧off=off'
 | .mp a,.mp b=>B3 rs b=some a
 | .nilp,.nilp=>True
 | .nilf,.nilf=>True
 | .raw u,.raw v=>u=v
 | .fn f c,.fn g c'=>f=g∧Ja rs ts c c'
 | .agg l,.agg l'=>Ja rs ts l l'
 | .tup l,.tup l'=>Ja rs ts l l'
 | _,_=>False
def Ja (rs ts:List (Nat×Nat)):List AV→List AV→Prop
 | [],[]=>True
 | x :: xs,y :: ys=>Br rs ts x y∧Ja rs ts xs ys
 | _,_=>False
end
def Oble (rs ts:List (Nat×Nat)):Ob→Ob→Prop
 | .cells l,.cells l'=>Ja rs ts l l'
 | .arr sz n f,.arr sz' n' g=>sz=sz'∧De (.sl sz n f) (.sl sz' n' g)
 | .map P k e n f,.map P' k' e' n' f'=>P=P'∧k=k'∧e=e'∧n=n'∧f=f'
 | .vec e sz n f,.vec e' sz' n' g=>e=e'∧sz=sz'∧De (.sl sz n f) (.sl sz' n' g)
 | .bld0 T,.bld0 T'=>T=T'
 | .gm P k e n h f,.gm P' k' e' n' h' f'=>P=P'∧k=k'∧e=e'∧n=n'∧h=h'∧∀ q,f q=f' q
 | .vals n vs (some (j,a)),.vals n' vs' (some (j',a'))=>n=n'∧vs=vs'∧j=j'∧Br rs ts a a'
 | .vals n vs none,.vals n' vs' none=>n=n'∧vs=vs'
 | _,.gone=>True
 | _,_=>False
structure lx (rs ts:List (Nat×Nat)) (γ γ':G):Prop where
 μ:γ'.μ=γ.μ
 ι:∀ b a,B3 rs b=some a→γ'.ι b=γ.ι a
 τ:∀ b a,B3 ts b=some a→γ'.τ b=γ.τ a
mutual
theorem RepA.le {rs ts:List (Nat×Nat)} (h:lx rs ts γ γ'):∀ {x y:AV} {v:Value},Br rs ts x y→RepA γ x v→RepA γ' y v
 | x,.any,v,_,_=>by simp only[RepA]
 | x,.d y,v,hl,hr=>by
  cases x with
  | d x=>simp only[Br]at hl;simp only[RepA]at hr ⊢;rw[h.μ];exact hr.de hl
  | ap sz n f r=>simp only[Br]at hl;simp only[RepA]at hr ⊢;rw[h.μ];exact hr.1.de hl
  | agg l=>simp only[Br]at hl;have:=VIs.rep hl hr;simp only[RepA];rw[h.μ];exact this
  | _=>simp only[Br]at hl
 | x,.ap sz' n' g r',v,hl,hr=>by
  cases x with
  | ap sz n f r =>
   cases r with
   | nl =>
    simp only[Br]at hl
    subst hl
    simp only[RepA,RightOk]at hr ⊢
    obtain⟨_,rfl⟩:=hr
    refine⟨by simp only[Rep];exact⟨none,0,rfl,Nat.le_refl _,Nat.zero_le _,fun h=>absurd h (by omega)⟩,?_⟩
    cases r' with
    | nl=>rfl
    | tok t e=>exact .inr rfl
   | tok a e =>
    cases r' with
    | nl=>simp only[Br]at hl
    | tok b e' =>
     simp only[Br]at hl
     obtain⟨rfl,rfl,h1,h2⟩:=hl
     simp only[RepA,RightOk]at hr ⊢
     rw[h.μ,h.τ b a h1]
     exact⟨hr.1.de h2,hr.2⟩
  | _=>simp only[Br]at hl
 | x,.ptr b off',v,hl,hr=>by
  cases x with
  | ptr a off=>simp only[Br]at hl;obtain⟨h1,rfl⟩:=hl;simp only[RepA]at hr ⊢;rw[h.ι b a h1];exact hr
  | _=>simp only[Br]at hl
 | x,.ep y off',v,hl,hr=>by
  cases x with
  | ep x off=>simp only[Br]at hl;obtain⟨rfl,rfl⟩:=hl;simp only[RepA]at hr ⊢;rw[h.μ];exact hr
  | _=>simp only[Br]at hl
 | x,.pa b sz' i' off',v,hl,hr=>by
  cases x with
  | pa a sz i off=>simp only[Br]at hl;obtain⟨h1,rfl,rfl,rfl⟩:=hl;simp only[RepA]at hr ⊢;rw[h.ι b a h1];exact hr
  | _=>simp only[Br]at hl
 | x,.arr b sz' n',v,hl,hr=>by
  cases x with
  | arr a sz n=>simp only[Br]at hl;obtain⟨h1,rfl,rfl⟩:=hl;simp only[RepA]at hr ⊢;rw[h.ι b a h1];exact hr
  | _=>simp only[Br]at hl
 | x,.vec b sz' n',v,hl,hr=>by
  cases x with
  | vec a sz n=>simp only[Br]at hl;obtain⟨h1,rfl,rfl⟩:=hl;simp only[RepA]at hr ⊢;rw[h.ι b a h1];exact hr
  | _=>simp only[Br]at hl
 | x,.pv b sz' i' off',v,hl,hr=>by
  cases x with
  | pv a sz i off=>simp only[Br]at hl;obtain⟨h1,rfl,rfl,rfl⟩:=hl;simp only[RepA]at hr ⊢;rw[h.ι b a h1];exact hr
  | _=>simp only[Br]at hl
 | x,.mp b,v,hl,hr=>by
  cases x with
  | mp a=>simp only[Br]at hl;simp only[RepA]at hr ⊢;rw[h.ι b a hl];exact hr
  | _=>simp only[Br]at hl
 | x,.fn g c',v,hl,hr=>by
  cases x with
  | fn f c=>simp only[Br]at hl;obtain⟨rfl,h2⟩:=hl;simp only[RepA]at hr ⊢;obtain⟨vs,e,h3⟩:=hr;exact⟨vs,e,RepAL.le h h2 h3⟩
  | _=>simp only[Br]at hl
 | x,.nilp,v,hl,hr=>by
  cases x with
  | nilp=>exact hr
  | _=>simp only[Br]at hl
 | x,.nilf,v,hl,hr=>by
  cases x with
  | nilf=>exact hr
  | _=>simp only[Br]at hl
 | x,.raw u,v,hl,hr=>by
  cases x with
  | raw u'=>simp only[Br]at hl;simp only[RepA]at hr ⊢;exact hr.trans hl
  | _=>simp only[Br]at hl
 | x,.agg l',v,hl,hr=>by
  cases x with
  | agg l=>simp only[Br]at hl;simp only[RepA]at hr ⊢;obtain⟨vs,e,h3⟩:=hr;exact⟨vs,e,RepAL.le h hl h3⟩
  | _=>simp only[Br]at hl
 | x,.tup l',v,hl,hr=>by
  cases x with
  | tup l=>simp only[Br]at hl;simp only[RepA]at hr ⊢;obtain⟨vs,e,h3⟩:=hr;exact⟨vs,e,RepAL.le h hl h3⟩
  | _=>simp only[Br]at hl
theorem RepAL.le {rs ts:List (Nat×Nat)} (h:lx rs ts γ γ'):∀ {x y:List AV} {v:List Value},Ja rs ts x y→RepAL γ x v→RepAL γ' y v
 | x,[],v,hl,hr=>by
  cases x with
  | nil=>simpa only[RepAL] using hr
  | cons _ _=>simp only[Ja]at hl
 | x,y :: ys,v,hl,hr=>by
  cases x with
  | nil=>simp only[Ja]at hl
  | cons x xs =>
   simp only[Ja]at hl
   simp only[RepAL]at hr ⊢
   obtain⟨u,t,e,h1,h2⟩:=hr
   exact⟨u,t,e,RepA.le h hl.1 h1,RepAL.le h hl.2 h2⟩
end
theorem Oble.ok {rs ts:List (Nat×Nat)} {x y:Ob} (hl:Oble rs ts x y) (hy:y.ok=true):x.ok=true:=by
 cases x<;>cases y<;>first | rfl | exact hl.elim | cases hy
theorem RepO.le {rs ts:List (Nat×Nat)} (h:lx rs ts γ γ') {x y:Ob} {v:Go.Obj} (hy:y.ok=true) (hl:Oble rs ts x y) (hr:RepO γ x v):RepO γ' y v:=by
 cases x with
 | cells l =>
  cases y with
  | cells l'=>obtain⟨vs,e,h1,h2,h3⟩:=hr;exact⟨vs,e,h1,RepAL.le h hl h2,h3⟩
  | gone=>cases hy
  | _=>exact hl.elim
 | arr sz n f =>
  cases y with
  | arr sz' n' g =>
   obtain⟨rfl,hl⟩:=hl
   obtain⟨rfl,hl2⟩:=hl.sl
   obtain⟨vs,e,h1,h2,h3⟩:=hr
   refine⟨vs,e,h1,h2,fun i hi=>?_⟩
   obtain⟨u,h4,h5⟩:=h3 i hi
   exact⟨u,by rw[h.μ];exact h4.de (hl2 i hi).2,h5⟩
  | gone=>cases hy
  | _=>exact hl.elim
 | map P k e n f =>
  cases y with
  | map P' k' e' n' f' =>
   obtain⟨rfl,rfl,rfl,rfl,rfl⟩:=hl
   exact hr
  | gone=>cases hy
  | _=>exact hl.elim
 | bld0 T =>
  cases y with
  | bld0 T'=>exact(show T=T' from hl) ▸ hr
  | gone=>cases hy
  | _=>exact hl.elim
 | gm P k e n h f =>
  cases y with
  | gm P' k' e' n' h' f' =>
   obtain⟨rfl,rfl,rfl,rfl,rfl,hf⟩:=hl
   obtain rfl:f=f':=funext hf
   exact hr
  | gone=>cases hy
  | _=>exact hl.elim
 | vals n vs x =>
  cases y with
  | vals n' vs' x' =>
   obtain⟨us,e,h1,h2,h3⟩:=hr
   cases x with
   | none =>
    cases x' with
    | none =>
     obtain⟨rfl,rfl⟩:=hl
     exact⟨us,e,h1,h2,h3⟩
    | some z=>exact hl.elim
   | some z =>
    cases x' with
    | none=>exact hl.elim
    | some z' =>
     obtain⟨rfl,rfl,hj,hl⟩:=hl
     refine⟨us,e,h1,h2,fun i hi=>?_⟩
     obtain⟨u,h4,h5,h6,h7⟩:=h3 i hi
     exact⟨u,h4,h5,fun e=>h6 (by rw[hj];exact e),fun e=>(h7 (by rw[hj];exact e)).le h hl⟩
  | gone=>cases hy
  | _=>cases x<;>exact hl.elim
 | vec e sz n f=>exact hr.elim
 | gone=>exact hr.elim
theorem Elems.de {μ:Nat→Nat→Option Value} {sz n n':Nat} {f g:Nat→D} {xs:List Value} (h:Elems μ sz n f xs) (hd:De (.sl sz n f) (.sl sz n' g)):n=n'∧Elems μ sz n' g xs:=by
 obtain⟨rfl,hl2⟩:=hd.sl
 refine⟨rfl,fun i hi=>?_⟩
 obtain⟨u,h4,h5⟩:=h i hi
 exact⟨u,h4.de (hl2 i hi).2,h5⟩
theorem ObjAt.le {rs ts:List (Nat×Nat)} (h:lx rs ts γ γ') {x y:Ob} {p:Pl} (hy:y.ok=true) (hl:Oble rs ts x y) (hr:ObjAt γ w x p):ObjAt γ' w y p:=by
 cases p with
 | blk b=>obtain⟨o,h1,h2⟩:=hr;exact⟨o,h1,h2.le h hy hl⟩
 | vec v e sz =>
  obtain⟨n,f,xs,rfl,h0,h1,h2⟩:=hr
  cases y with
  | vec e' sz' n' g =>
   obtain⟨rfl,rfl,hl⟩:=hl
   obtain⟨rfl,h3⟩:=h2.de hl
   exact⟨n,g,xs,rfl,h0,h1,by rw[h.μ];exact h3⟩
  | gone=>cases hy
  | _=>exact hl.elim
def Dh {α:Type} (p:α→Prop):List α→Prop
 | []=>True
 | [x]=>p x
 | x :: l=>p x∧Dh p l
theorem Fa {α:Type} {p:α→Prop}:∀ {l:List α},Dh p l→∀ x∈l,p x
 | [],_,x,hx=>by cases hx
 | [y],h,x,hx=>by rcases List.mem_singleton.1 hx with rfl;exact h
 | y :: z :: l,h,x,hx=>by
  obtain⟨h1,h2⟩:=h
  rcases List.mem_cons.1 hx with rfl | hx
  ·exact h1
  ·exact Fa h2 x hx
def Gg (rs ts:List (Nat×Nat)) (hp':List (Nat×Ob)) (live live':List Nat) (nx':Nat):Bool :=
 decide ((rs.map (·.2)).Nodup)&&(rs.all fun p=>decide (p.1 < nx'))&&(hp'.all fun p=>(B3 rs p.1).isSome)&&decide ((ts.map (·.2)).Nodup)&&(ts.all fun p=>decide (p.1 < nx')&&live.contains p.2)&&(live'.all fun t=>decide (t < nx'))
def L6 (rs:List (Nat×Nat)) (nx':Nat):Bool:=decide (16≤nx')&&rs.all fun p=>decide (16≤p.1) || p.1==p.2
def P1 (rs ts:List (Nat×Nat)) (st st':St):Bool:=Gg rs ts st'.hp st.live st'.live st'.nx&&L6 rs st'.nx
theorem Bo:∀ {l:List (Nat×Nat)} {b a:Nat},B3 l b=some a→(b,a)∈l
 | [],_,_,h=>by cases h
 | (i,v) :: l,b,a,h=>by
  simp only[B3]at h
  split at h
  ·rename_i e;injection h with h;subst e h;simp
  ·exact List.mem_cons_of_mem _ (Bo h)
theorem J1 {l:List (Nat×Nat)} (h:(l.map (·.2)).Nodup) {b c a:Nat} (h1:B3 l b=some a) (h2:B3 l c=some a):b=c:=by
 have m1:=Bo h1
 have m2:=Bo h2
 clear h1 h2
 induction l with
 | nil=>cases m1
 | cons x l ih =>
  simp only[List.map_cons,List.nodup_cons,List.mem_map]at h
  rcases List.mem_cons.1 m1 with e1 | m1<;>rcases List.mem_cons.1 m2 with e2 | m2
  ·rw[← e1]at e2;exact(Prod.mk.inj e2).1.symm
  ·exact absurd ⟨_,m2,by rw[← e1]⟩ h.1
  ·exact absurd ⟨_,m1,by rw[← e2]⟩ h.1
  ·exact ih h.2 m1 m2
theorem H9:∀ {l:List (Nat×AV)} {t:Nat},Bp l t=.any∨(t,Bp l t)∈l
 | [],_=>.inl rfl
 | (i,v) :: l,t=>by
  simp only[Bp]
  split
  ·rename_i e;subst e;exact .inr (by simp)
  ·rcases H9 (l:=l) (t:=t) with h | h
   ·exact .inl h
   ·exact .inr (List.mem_cons_of_mem _ h)
theorem Ez:∀ {l:List (Nat×Ob)} {t:Nat} {o:Ob},Ak l t=some o→(t,o)∈l
 | [],_,_,h=>by cases h
 | (i,v) :: l,t,o,h=>by
  simp only[Ak]at h
  split at h
  ·rename_i e;injection h with h;subst e h;simp
  ·exact List.mem_cons_of_mem _ (Ez h)
def J4 (rs ts:List (Nat×Nat)) (keep:Nat→Option Pl) (γ:G):G:=⟨γ.μ,fun b=>match B3 rs b with | some a=>γ.ι a | none=>keep b,fun b=>(B3 ts b).bind γ.τ⟩
theorem Rq (rs ts:List (Nat×Nat)) (keep:Nat→Option Pl) (γ:G):lx rs ts γ (J4 rs ts keep γ):=⟨rfl,fun b a h=>by simp only[J4,h],fun b a h=>by simp only[J4,h,Option.bind_some]⟩
theorem me {own:Nat→Prop} (rs ts:List (Nat×Nat)) (keep:Nat→Option Pl) {hp hp':List (Nat×Ob)} {live live':List Nat} {nx':Nat} (hn:Gg rs ts hp' live live' nx'=true)
  (ho:Dh (fun p:Nat×Ob=>∃ b o,B3 rs p.1=some b∧Ak hp b=some o∧Oble rs ts o p.2) hp') (H:Hp own (Ak hp) (·∈live) γ w) (hk:∀ i,nx'≤i→keep i=none) :
  Hp own (Ak hp') (·∈live') (J4 rs ts keep γ) w∧He nx' (Ak hp') (·∈live') (J4 rs ts keep γ):=by
 unfold Gg at hn
 simp only[Bool.and_eq_true,decide_eq_true_eq,List.all_eq_true,List.contains_eq_mem]at hn
 obtain⟨⟨⟨⟨⟨n1,n2⟩,n3⟩,n4⟩,n5⟩,n6⟩:=hn
 have re:=Rq rs ts keep γ
 have obj':∀ id o,Ak hp' id=some o→∃ b o0,B3 rs id=some b∧Ak hp b=some o0∧Oble rs ts o0 o:=fun id o h=>Fa ho _ (Ez h)
 have tok':∀ t v,(J4 rs ts keep γ).τ t=some v→∃ a,B3 ts t=some a∧γ.τ a=some v∧a∈live:=fun t v h=>by
  simp only[J4]at h
  rw[Option.bind_eq_some_iff]at h
  obtain⟨a,h1,h2⟩:=h
  exact⟨a,h1,h2,(n5 _ (Bo h1)).2⟩
 refine⟨⟨H.fz,fun id o h ho=>?_,fun i j oi oj p q hi hj ho1 ho2 hne hp1 hp2=>?_,fun t v e sz hl hq=>?_,fun s t v u hs ht hne hv hu=>?_⟩,⟨fun id hid=>⟨?_,?_,?_,?_⟩⟩⟩
 ·obtain⟨b,o0,h1,h2,h3⟩:=obj' id o h
  obtain⟨p,e1,e2,e3⟩:=H.obj b o0 h2 (h3.ok ho)
  exact⟨p,by rw[re.ι id b h1];exact e1,e2.le re ho h3,e3⟩
 ·obtain⟨b,o0,h1,h2,h5⟩:=obj' i oi hi
  obtain⟨c,o1,h3,h4,h6⟩:=obj' j oj hj
  rw[re.ι i b h1]at hp1
  rw[re.ι j c h3]at hp2
  exact H.inj b c o0 o1 p q h2 h4 (h5.ok ho1) (h6.ok ho2) (fun e=>hne (J1 n1 h1 (by rw[e];exact h3))) hp1 hp2
 ·obtain⟨c,h1,h2,h3⟩:=tok' t _ hq
  obtain⟨n,xs,q1,q2⟩:=H.tok c v e sz h3 h2
  refine⟨n,xs,q1,fun g hg=>?_⟩
  obtain⟨r1,r2,r3⟩:=q2 g hg
  refine⟨r1,r2,fun id o p h ho hp1=>?_⟩
  obtain⟨b,o0,h4,h5,h6⟩:=obj' id o h
  rw[re.ι id b h4]at hp1
  exact r3 b o0 p h5 (h6.ok ho) hp1
 ·obtain⟨b,h1,h2,h3⟩:=tok' s _ hv
  obtain⟨c,h4,h5,h6⟩:=tok' t _ hu
  exact H.tinj b c v u h3 h6 (fun e=>hne (J1 n4 h1 (by rw[e];exact h4))) h2 h5
 ·cases h:B3 rs id with
  | none=>simp only[J4,h];exact hk id hid
  | some b=>have:=n2 _ (Bo h);simp only at this;omega
 ·cases h:B3 ts id with
  | none=>simp only[J4,h,Option.bind_none]
  | some b=>have:=(n5 _ (Bo h)).1;simp only at this;omega
 ·cases h:Ak hp' id with
  | none=>rfl
  | some o =>
   obtain⟨b,o0,h1,_⟩:=obj' id o h
   have:=n2 _ (Bo h1);simp only at this;omega
 ·intro h;have:=n6 _ h;omega
def Ma (γ:G):Nat→Option Pl:=fun i=>if i < 16 then γ.ι i else none
theorem Ue {rs ts:List (Nat×Nat)} {nx':Nat} (h:L6 rs nx'=true) {i:Nat} {b:Pl} (hi:i < 16) (e:γ.ι i=some b):(J4 rs ts (Ma γ) γ).ι i=some b:=by
 unfold L6 at h
 simp only[Bool.and_eq_true,decide_eq_true_eq,List.all_eq_true,Bool.or_eq_true,beq_iff_eq]at h
 simp only[J4]
 cases hl:B3 rs i with
 | none=>simp only[Ma,if_pos hi,e]
 | some a =>
  have:=h.2 _ (Bo hl)
  simp only at this
  obtain rfl:i=a:=by omega
  exact e
theorem R9 {rs:List (Nat×Nat)} {nx':Nat} (h:L6 rs nx'=true) (i:Nat) (hi:nx'≤i):Ma γ i=none:=by
 unfold L6 at h
 simp only[Bool.and_eq_true,decide_eq_true_eq]at h
 exact if_neg (by omega)
theorem Z7 (rs ts:List (Nat×Nat)) {st st':St} (hn:P1 rs ts st st'=true) (hf:Dh (fun p:Nat×AV=>Br rs ts (Bp st.fr p.1) p.2) st'.fr)
  (ho:Dh (fun p:Nat×Ob=>∃ b o,B3 rs p.1=some b∧Ak st.hp b=some o∧Oble rs ts o p.2) st'.hp):Weak st st':=fun V N γ a w ⟨R,F⟩=>by
 unfold P1 at hn
 rw[Bool.and_eq_true]at hn
 obtain⟨h1,h2⟩:=me rs ts (Ma γ) hn.1 ho R.hp (R9 hn.2)
 refine⟨_,⟨R.defers,R.size,fun t=>?_,(fun t j want h=>by cases h),h1,R.base,R.big,⟨R.mu.mu,R.mu.le,fun i b hi e=>Ue hn.2 hi (R.mu.pin i b hi e)⟩⟩,h2⟩
 show RepA _ (Bp st'.fr t) (a.tmps.getD t undef)
 rcases H9 (l:=st'.fr) (t:=t) with h | h
 ·rw[h];simp only[RepA]
 ·exact RepA.le (Rq rs ts _ γ) (Fa hf _ h) (R.fr t)
def u7 (P:Program) (st:St):ResultVar→Option AV
 | .tmp t=>some (Bp st.fr t)
 | .cell a t=>if(P.underlying t).isSome=true then(match Bp st.fr a with
  | .ptr id off=>match Ak st.hp id with
   | some (.cells cs)=>Sr P t cs off
   | _=>none
  | _=>none)else none
def M2 (P:Program) (st:St):List ResultVar→Option (List AV)
 | []=>some []
 | r :: l=>match u7 P st r with
  | some v=>(M2 P st l).map (v :: ·)
  | none=>none
def Qh (P:Program) (rs:List ResultVar) (st:St) (r:D):Prop :=
 match M2 P st rs with
 | some [v]=>VIs v r
 | some l=>VIs (.tup l) r
 | none=>False
def RetK (P:Program) (fn:Func) (r:D):Exit→St→Prop
 | .ret,st=>Qh P fn.results.toList st r
 | .normal,st=>Qh P fn.results.toList st r
 | _,_=>False
def N0 (tmps:Array Value):ResultVar→Sem Value
 | .tmp t=>pure (tmps.getD t undef)
 | .cell a t=>do loadVar t (← asAddr (tmps.getD a undef))
theorem AAs {st:St} {a:Act} (hr:RS V N st γ a w) {r:ResultVar} {v:AV} (h:u7 P st r=some v) :
  ∃ u,(N0 a.tmps r).run P w=.ok u w∧RepA γ v u:=by
 cases r with
 | tmp t=>simp only[u7,Option.some.injEq]at h;subst h;exact⟨_,rfl,hr.1.fr t⟩
 | cell b t =>
  simp only[u7]at h
  split at h
  ·rename_i hs
   obtain⟨d,hd⟩:=Option.isSome_iff_exists.1 hs
   split at h
   ·rename_i id off hb
    split at h
    ·rename_i cs hcs
     have hf:=hr.1.fr b
     simp only[EOk,hb,RepA]at hf
     obtain⟨bl,h1,h2⟩:=hf
     obtain⟨bl',x,e1,e2,e3,_⟩:=hr.1.hp.blk hcs rfl
     obtain rfl:bl'=bl:=by rw[h1]at e1;injection e1 with e1;injection e1 with e1;exact e1.symm
     obtain⟨vs,el,rfl,e4,_⟩:=e3
     obtain⟨u,h3,h4⟩:=Lz h e4
     refine⟨u,?_,h3⟩
     have:=Ev (P:=P) (w:=w) hd (b:=bl') (o:=0) (off:=off) (vs:=vs) (fun j v hj=>by simp[World.cell?,e2,hj]) u h4
     rw[Nat.zero_add]at this
     simp only[N0,h2,asAddr,Sem.run_bind,Sem.run_pure,Result.andThen_ok]
     simpa [Instr.loadAt,Instr.sureAddr] using this
    ·cases h
   ·cases h
  ·cases h
theorem Ru {st:St} {a:Act} (hr:RS V N st γ a w):∀ {l:List ResultVar} {vs:List AV},M2 P st l=some vs →
  ∃ us:List Value,(l.mapM (N0 a.tmps)).run P w=.ok us w∧RepAL γ vs us
 | [],vs,h=>by
  simp only[M2,Option.some.injEq]at h
  subst h
  exact⟨[],by simp,by simp only[RepAL]⟩
 | r :: l,vs,h=>by
  simp only[M2]at h
  split at h
  ·rename_i v hv
   rw[Option.map_eq_some_iff]at h
   obtain⟨vs',h1,rfl⟩:=h
   obtain⟨u,h2,h3⟩:=AAs hr hv
   obtain⟨us,h4,h5⟩:=Ru hr h1
   refine⟨u :: us,?_,by simp only[RepAL];exact⟨u,us,rfl,h3,h5⟩⟩
   rw[List.mapM_cons,Sem.run_bind,h2,Result.andThen_ok,Sem.run_bind,h4]
   rfl
  ·cases h
theorem lc {fn:Func} {st:St} {a:Act} {r:D} (hr:RS V N st γ a w) (h:Qh P fn.results.toList st r):∃ u,(results fn a.tmps).run P w=.ok u w∧Rep γ.μ r u:=by
 unfold Qh at h
 cases hl:M2 P st fn.results.toList with
 | none=>rw[hl]at h;exact h.elim
 | some vs =>
  obtain⟨us,h1,h2⟩:=Ru hr hl
  have h3:(fn.results.mapM (N0 a.tmps)).run P w=.ok us.toArray w:=by
   rw[Array.mapM_eq_mapM_toList,Sem.run_map,h1]
   rfl
  have h4:(results fn a.tmps).run P w=.ok (if h:us.toArray.size=1 then us.toArray[0]else .tuple us.toArray) w:=by
   have e:results fn a.tmps=(do let vs ← fn.results.mapM (N0 a.tmps);pure (if h:vs.size=1 then vs[0]else .tuple vs)):=by
    unfold results
    congr 1
   rw[e,Sem.run_bind,h3]
   rfl
  rw[hl]at h
  refine⟨_,h4,?_⟩
  match vs,us,h2,h with
  | [v],us,h2,h =>
   simp only[RepAL]at h2
   obtain⟨u,t,rfl,h5,rfl⟩:=h2
   simpa using h.rep h5
  | [],us,h2,h =>
   simp only[RepAL]at h2
   subst h2
   exact VIs.rep (x:=.tup []) h (by simp only[RepA];exact⟨[],rfl,by simp only[RepAL]⟩)
  | v :: v2 :: l,us,h2,h =>
   have hlen:=h2.length
   rw[dif_neg (by simp at hlen ⊢;omega)]
   exact VIs.rep (x:=.tup (v :: v2 :: l)) h (by simp only[RepA];exact⟨us,rfl,h2⟩)
def N9:Nat→List D→List (Nat×AV)
 | _,[]=>[]
 | i,d :: l=>(i,.d d) :: N9 (i+1) l
theorem Xa:∀ (ds:List D) (i t:Nat),Bp (N9 i ds) t=if i≤t then(match ds[t - i]? with | some d=>.d d | none=>.any)else .any
 | [],i,t=>by simp[N9,Bp]
 | d :: l,i,t=>by
  simp only[N9,Bp]
  by_cases h:i=t
  ·subst h;simp
  ·rw[if_neg h,Xa l (i+1) t]
   by_cases h2:i≤t
   ·rw[if_pos (by omega),if_pos h2]
    have:t - i=(t - (i+1))+1:=by omega
    rw[this,List.getElem?_cons_succ]
   ·rw[if_neg (by omega),if_neg h2]
theorem pure_of {f:FuncId} {fn:Func} {c:Code} {ds:List D} {r:D} (hf:P.funcs[f]?=some fn) (hb:fn.body=some c) (hn:fn.name ≠ "runtime.NumGoroutine") (hlen:ds.length≤fn.ntmps)
  (h:∀ V:Ei,Tri P V fn.ntmps c ⟨N9 0 ds,[],[],16⟩ (RetK P fn r)):Ah P f ds r:=by
 refine⟨⟨fn,hf,by rw[hb];rfl,hn⟩,fun μ w vs hgl hfz hrep=>?_⟩
 refine calls_of_wp hf hb ?_
 let γ:G:=⟨μ,fun _=>none,fun _=>none⟩
 let V:Ei:=⟨fun b=>w.heap.size≤b,⟨γ,[]⟩,w⟩
 have hvl:=hrep.length
 have rs:RS V fn.ntmps ⟨N9 0 ds,[],[],16⟩ γ { tmps:=vs.toArray++Array.replicate (fn.ntmps - vs.toArray.size) undef,defers:=[] } w:=by
  refine⟨⟨rfl,by simp;omega,fun t=>?_,(fun t j want h=>by cases h),⟨hfz,(fun id o h=>by cases h),(fun i j oi oj p q h=>by cases h),(fun t v e sz h=>by cases h),(fun s t v u h=>by cases h)⟩,Base.refl _ _,⟨fun _ h=>h,hgl.glob⟩,Keep.refl _ _ _ _⟩,⟨fun id _=>⟨rfl,rfl,rfl,by simp⟩⟩⟩
  show RepA γ (Bp (N9 0 ds) t) _
  rw[Xa,if_pos (Nat.zero_le _),Nat.sub_zero]
  cases hd:ds[t]? with
  | none=>simp only[RepA]
  | some d =>
   obtain⟨v,h1,h2⟩:=hrep.get t d hd
   have hlt:t < vs.length:=(List.getElem?_eq_some_iff.1 h1).1
   have:(vs.toArray++Array.replicate (fn.ntmps - vs.toArray.size) undef).getD t undef=v:=by
    rw[Array.getD_eq_getD_getElem?,Array.getElem?_append_left (by simpa using hlt)]
    simp[h1]
   rw[this]
   simpa only[RepA] using h2
 refine wp_mono (h V γ _ w rs) ?_
 rintro ex a' w' ⟨st',γ',h1,h2⟩
 have fin:Qh P fn.results.toList st' r→a'.defers=[]∧∃ v,(results fn a'.tmps).run P w'=.ok v w'∧∃ v' ν,Ending.returned v=.returned v'∧Fu w w'∧(∀ b o,b < w.heap.size→ν b o=μ b o)∧Jc ν w'∧Rep ν r v':=fun hres=>by
  obtain⟨u,h3,h4⟩:=lc h1 hres
  have hb:=h1.1.base
  refine⟨h1.1.defers,u,h3,u,γ'.μ,rfl,⟨hb.os,hb.tape,hb.output,hb.size,fun k hk=>hb.block k hk (by show ¬ (w.heap.size≤k);omega)⟩,fun b o hlt=>h1.1.mu.mu b o hlt (by show ¬ (w.heap.size≤b);omega),h1.1.hp.fz,h4⟩
 cases ex with
 | ret=>exact fin h2
 | normal=>exact fin h2
 | _=>exact h2.elim
def sub:Code→List Nat→Code
 | c,[]=>c
 | .seq a b,n :: p=>if n=0 then sub a p else sub b p
 | .cond _ a b,n :: p=>if n=0 then sub a p else sub b p
 | .block _ c,_ :: p=>sub c p
 | .loop c,_ :: p=>sub c p
 | .scope c,_ :: p=>sub c p
 | c,_=>c
def body (f:Func):Code:=match f.body with | some c=>c | none=>.skip
end Go.Av
namespace Go.Av
open Go.RowKit Go.Base
variable {P:Program} {V:Ei} {N:Nat} {γ γ':G} {w w':World} {own:Nat→Prop}
abbrev U6:=Nat×Nat×Nat×(Nat→D)
def D3 (fz:List U6):List Nat:=fz.map (·.1)
inductive Fz (fz:List U6):List AV→List AV→Prop where
 | nil:Fz fz [] []
 | same {x:AV} {l m:List AV}:Fz fz l m→Fz fz (x :: l) (x :: m)
 | arr {a sz n k:Nat} {f:Nat→D} {y:D} {l m:List AV}:(a,sz,n,f)∈fz→k≤n→De (.sl sz k f) y→Fz fz l m→Fz fz (.arr a sz k :: l) (.d y :: m)
 | vec {a sz n k:Nat} {f:Nat→D} {y:D} {l m:List AV}:(a,sz,n,f)∈fz→De (.sl sz n f) y→Fz fz l m→Fz fz (.vec a sz k :: l) (.d y :: m)
 | dat {x y:D} {l m:List AV}:De x y→Fz fz l m→Fz fz (.d x :: l) (.d y :: m)
 | ap {sz n:Nat} {f:Nat→D} {r:Vx} {y:D} {l m:List AV}:De (.sl sz n f) y→Fz fz l m→Fz fz (.ap sz n f r :: l) (.d y :: m)
 | agg {c c' l m:List AV}:Fz fz c c'→Fz fz l m→Fz fz (.agg c :: l) (.agg c' :: m)
 | aggD {c:List AV} {r:List D} {l m:List AV}:Fz fz c (r.map .d)→Fz fz l m→Fz fz (.agg c :: l) (.d (.agg r) :: m)
 | tup {c c' l m:List AV}:Fz fz c c'→Fz fz l m→Fz fz (.tup c :: l) (.tup c' :: m)
 | tupD {c:List AV} {r:List D} {l m:List AV}:Fz fz c (r.map .d)→Fz fz l m→Fz fz (.tup c :: l) (.d (.tup r) :: m)
 | fn {g:FuncId} {c c' l m:List AV}:Fz fz c c'→Fz fz l m→Fz fz (.fn g c :: l) (.fn g c' :: m)
theorem Of:∀ {r:List D} {vs:List Value},RepAL γ (r.map .d) vs→RepL γ.μ r vs
 | [],_,h=>by simpa only[List.map_nil,RepAL,RepL] using h
 | x :: r,vs,h=>by
  simp only[List.map_cons,RepAL]at h
  obtain⟨v,t,rfl,h1,h2⟩:=h
  simp only[RepA]at h1
  simp only[RepL]
  exact⟨v,t,rfl,h1,Of h2⟩
def dw (γ γ':G) (a sz n:Nat) (f:Nat→D):Prop :=
 (∀ k b c,γ.ι a=some (.blk b)→k≤n→k≤c→c≤maxLen→Rep γ'.μ (.sl sz k f) (.slice (some ⟨b,0,none⟩) k c))∧∀ v e z,γ.ι a=some (.vec v e z)→Rep γ'.μ (.sl sz n f) v
def Vy (o:Option Ob) (sz n:Nat) (f:Nat→D):Prop:=match o with
 | some (.arr s k g)=>s=sz∧k=n∧g=f
 | some (.vec _ s k g)=>s=sz∧k=n∧g=f
 | _=>False
theorem zi {o:Option Ob} {sz n:Nat} {f:Nat→D} (h:o=some (.arr sz n f)):Vy o sz n f:=by subst h;exact⟨rfl,rfl,rfl⟩
theorem Fz.rep {fz:List U6} (le:LeG γ γ') (hz:∀ a sz n f,(a,sz,n,f)∈fz→dw γ γ' a sz n f) :
  ∀ {l m:List AV},Fz fz l m→∀ {vs:List Value},RepAL γ l vs→RepAL γ' m vs:=by
 intro l m h
 induction h with
 | nil=>intro vs hr;simpa only[RepAL] using hr
 | same h ih=>intro vs hr;simp only[RepAL]at hr ⊢;obtain⟨v,t,rfl,h1,h2⟩:=hr;exact⟨v,t,rfl,RepA.mono le _ _ h1,ih h2⟩
 | arr hm hk hd h ih =>
  intro vs hr
  simp only[RepAL]at hr ⊢
  obtain⟨v,t,rfl,h1,h2⟩:=hr
  simp only[RepA]at h1 ⊢
  obtain⟨b,c,e1,rfl,e3,e4⟩:=h1
  exact⟨_,t,rfl,((hz _ _ _ _ hm).1 _ b c e1 hk e3 e4).de hd,ih h2⟩
 | vec hm hd h ih =>
  intro vs hr
  simp only[RepAL]at hr ⊢
  obtain⟨v,t,rfl,h1,h2⟩:=hr
  simp only[RepA]at h1 ⊢
  obtain⟨e,A,c,e1,_⟩:=h1
  exact⟨_,t,rfl,((hz _ _ _ _ hm).2 v e _ e1).de hd,ih h2⟩
 | dat hd h ih =>
  intro vs hr
  simp only[RepAL]at hr ⊢
  obtain⟨v,t,rfl,h1,h2⟩:=hr
  simp only[RepA]at h1 ⊢
  exact⟨_,t,rfl,(Rep.mono le.μ _ _ h1).de hd,ih h2⟩
 | ap hd h ih =>
  intro vs hr
  simp only[RepAL]at hr ⊢
  obtain⟨v,t,rfl,h1,h2⟩:=hr
  simp only[RepA]at h1 ⊢
  exact⟨_,t,rfl,(Rep.mono le.μ _ _ h1.1).de hd,ih h2⟩
 | agg hc h ihc ih =>
  intro vs hr
  simp only[RepAL]at hr ⊢
  obtain⟨v,t,rfl,h1,h2⟩:=hr
  simp only[RepA]at h1 ⊢
  obtain⟨us,e,h3⟩:=h1
  exact⟨_,t,rfl,⟨us,e,ihc h3⟩,ih h2⟩
 | aggD hc h ihc ih =>
  intro vs hr
  simp only[RepAL]at hr ⊢
  obtain⟨v,t,rfl,h1,h2⟩:=hr
  simp only[RepA,Rep]at h1 ⊢
  obtain⟨us,e,h3⟩:=h1
  exact⟨_,t,rfl,⟨us,e,Of (ihc h3)⟩,ih h2⟩
 | tup hc h ihc ih =>
  intro vs hr
  simp only[RepAL]at hr ⊢
  obtain⟨v,t,rfl,h1,h2⟩:=hr
  simp only[RepA]at h1 ⊢
  obtain⟨us,e,h3⟩:=h1
  exact⟨_,t,rfl,⟨us,e,ihc h3⟩,ih h2⟩
 | tupD hc h ihc ih =>
  intro vs hr
  simp only[RepAL]at hr ⊢
  obtain⟨v,t,rfl,h1,h2⟩:=hr
  simp only[RepA,Rep]at h1 ⊢
  obtain⟨us,e,h3⟩:=h1
  exact⟨_,t,rfl,⟨us,e,Of (ihc h3)⟩,ih h2⟩
 | fn hc h ihc ih =>
  intro vs hr
  simp only[RepAL]at hr ⊢
  obtain⟨v,t,rfl,h1,h2⟩:=hr
  simp only[RepA]at h1 ⊢
  obtain⟨us,e,h3⟩:=h1
  exact⟨_,t,rfl,⟨us,e,ihc h3⟩,ih h2⟩
def Fv (ids:List Nat) (hp:Nat→Option Ob):Nat→Option Ob:=fun j=>if j∈ids then none else hp j
theorem hp_frz1 {hp:Nat→Option Ob} {live:Nat→Prop} (H:Hp own hp live γ w) {id sz n:Nat} {f:Nat→D} (h:Vy (hp id) sz n f) :
  ∃ γ':G,γ'.ι=γ.ι∧γ'.τ=γ.τ∧LeM γ.μ γ'.μ∧(∀ c k,¬ own c→γ'.μ c k=γ.μ c k)∧Hp own (Fv [id] hp) live γ' w∧dw γ γ' id sz n f:=by
 cases ho:hp id with
 | none=>rw[ho]at h;exact h.elim
 | some o =>
 rw[ho]at h
 have hok:o.ok=true:=by cases o<;>first | rfl | exact h.elim
 obtain⟨p,e1,e2,e3⟩:=H.obj id o ho hok
 let μ':Nat→Nat→Option Value:=fun c k=>if p.block=some c then w.cell? ⟨c,k,none⟩else γ.μ c k
 have le:LeM γ.μ μ':=fun c k v hv=>by
  simp only[μ']
  split
  ·rename_i hc;rw[(e3 c hc).2]at hv;cases hv
  ·exact hv
 have leG:LeG γ ⟨μ',γ.ι,γ.τ⟩:=⟨le,fun _ _ h=>h,fun _ _ h=>h⟩
 have hd:∀ j o,Fv [id] hp j=some o→j≠id∧hp j=some o:=fun j o hj=>by
  simp only[Fv,List.mem_singleton]at hj
  split at hj
  ·cases hj
  ·rename_i hne;exact⟨hne,hj⟩
 refine⟨⟨μ',γ.ι,γ.τ⟩,rfl,rfl,le,fun c k hc=>?_,⟨fun c k v hv=>?_,fun j oj hj hoj=>?_,fun i j oi oj pi pj hi hj h1 h2 hne hpi hpj=>?_,fun t v e z hl hq=>?_,H.tinj⟩,fun k b' c hb hkn hn hc=>?_,fun v e z hb=>?_⟩
 ·simp only[μ']
  rw[if_neg (fun e=>hc (e3 c e).1)]
 ·simp only[μ']at hv
  split at hv
  ·exact hv
  ·exact H.fz c k v hv
 ·obtain⟨hne,hj⟩:=hd j oj hj
  obtain⟨q,g1,g2,g3⟩:=H.obj j oj hj hoj
  refine⟨q,g1,g2.kept leG fun _ _=>rfl,fun b hb=>⟨(g3 b hb).1,fun k=>?_⟩⟩
  simp only[μ']
  rw[if_neg (fun e=>?_)]
  ·exact(g3 b hb).2 k
  ·rcases H.inj j id oj o q p hj ho hoj hok hne g1 e1 with h' | h'
   ·rw[hb]at h';cases h'
   ·exact h' (by rw[hb,e])
 ·exact H.inj i j oi oj pi pj (hd i oi hi).2 (hd j oj hj).2 h1 h2 hne hpi hpj
 ·obtain⟨m,xs,q1,q2⟩:=H.tok t v e z hl hq
  refine⟨m,xs,q1,fun g hg=>?_⟩
  obtain⟨r1,r2,r3⟩:=q2 g hg
  refine⟨r1,fun k hk=>?_,fun j oj pj hj hoj hpj=>r3 j oj pj (hd j oj hj).2 hoj hpj⟩
  simp only[μ']
  rw[if_neg (r3 id o p ho hok e1)];exact r2 k hk
 ·rw[e1]at hb
  injection hb with hb
  subst hb
  obtain⟨x,hx,hr⟩:=e2
  cases o with
  | arr s k' g =>
   obtain⟨rfl,rfl,rfl⟩:=h
   obtain⟨vs,te,rfl,f1,f2⟩:=hr
   simp only[Rep]
   refine⟨_,c,rfl,hn,hc,fun _=>⟨b',0,rfl,fun i hi=>?_⟩⟩
   obtain⟨u,h1,h2,h3,h4⟩:=f2 i (by omega)
   refine⟨u,Rep.mono le _ _ h1,h2,h3,fun j hj=>?_⟩
   simp only[μ',Pl.block,if_true,Nat.zero_add]
   rw[← h4 j hj]
   simp[World.cell?,hx]
  | vec=>exact hr.elim
  | _=>exact h.elim
 ·rw[e1]at hb
  injection hb with hb
  subst hb
  obtain⟨n',f',xs,rfl,h0,ow,hE⟩:=e2
  obtain⟨rfl,rfl,rfl⟩:=h
  obtain⟨A',c',g1,g2,g3,g4⟩:=J3 ow
  simp only[Rep]
  refine⟨A',c',g1,g2,g3,fun hn=>?_⟩
  obtain⟨b,hb⟩:=g4 hn
  refine⟨b,0,hb,fun i hi=>?_⟩
  obtain⟨u,k1,k2,k3,k4⟩:=hE i hi
  refine⟨u,Rep.mono le _ _ k1,k2,k3,fun j hj=>?_⟩
  have hbl:v.ownBlock=some b:=by rw[g1,hb];rfl
  simp only[μ',Pl.block,hbl,if_true,Nat.zero_add]
  have hu:j < u.cells.size:=by rw[k2];exact hj
  have h9:=k4 j hj
  rw[Array.getElem?_eq_getElem hu]at h9 ⊢
  have:=ow.cells (g:=b) hbl _ _ h9
  rwa [C9,Nat.zero_add]at this
theorem wg:∀ (fz:List U6) {γ:G} {hp:Nat→Option Ob} {live:Nat→Prop},Hp own hp live γ w→(D3 fz).Nodup→(∀ a sz n f,(a,sz,n,f)∈fz→Vy (hp a) sz n f) →
  ∃ γ':G,γ'.ι=γ.ι∧γ'.τ=γ.τ∧LeM γ.μ γ'.μ∧(∀ c k,¬ own c→γ'.μ c k=γ.μ c k)∧Hp own (Fv (D3 fz) hp) live γ' w ∧
   ∀ a sz n f,(a,sz,n,f)∈fz→dw γ γ' a sz n f
 | [],γ,hp,live,H,_,_=>⟨γ,rfl,rfl,LeM.refl _,fun _ _ _=>rfl,by
   have:Fv (D3 []) hp=hp:=by funext j;simp[Fv,D3]
   rw[this];exact H,fun _ _ _ _ h=>by cases h⟩
 | (a,sz,n,f) :: fz,γ,hp,live,H,hn,hh=>by
  simp only[D3,List.map_cons,List.nodup_cons]at hn
  obtain⟨hn1,hn2⟩:=hn
  obtain⟨γ1,i1,t1,l1,k1,H1,r1⟩:=hp_frz1 H (hh a sz n f (by simp))
  obtain⟨γ2,i2,t2,l2,k2,H2,r2⟩:=wg fz H1 hn2 fun a' sz' n' f' hm=>by
   have hne:a'≠a:=fun e=>hn1 (by rw[← e];exact List.mem_map.2 ⟨_,hm,rfl⟩)
   simp only[Fv,List.mem_singleton,if_neg hne]
   exact hh a' sz' n' f' (by simp[hm])
  refine⟨γ2,i2.trans i1,t2.trans t1,fun b o v e=>l2 b o v (l1 b o v e),fun c k hc=>(k2 c k hc).trans (k1 c k hc),?_,?_⟩
  ·have:Fv (D3 ((a,sz,n,f) :: fz)) hp=Fv (D3 fz) (Fv [a] hp):=by
    funext j
    have hc:(j∈D3 ((a,sz,n,f) :: fz))↔(j=a∨j∈D3 fz):=by simp[D3]
    simp only[Fv,List.mem_singleton]
    by_cases h2:j∈D3 fz
    ·rw[if_pos (hc.2 (.inr h2)),if_pos h2]
    ·rw[if_neg h2]
     by_cases h1:j=a
     ·rw[if_pos (hc.2 (.inl h1)),if_pos h1]
     ·rw[if_neg (fun h=>(hc.1 h).elim h1 h2),if_neg h1]
   rw[this];exact H2
  ·intro a' sz' n' f' hm
   rcases List.mem_cons.1 hm with e | hm
   ·simp only[Prod.mk.injEq]at e
    obtain⟨rfl,rfl,rfl,rfl⟩:=e
    exact⟨fun k b c hb hk h1 h2=>Rep.mono l2 _ _ (r1.1 k b c hb hk h1 h2),fun v e z hb=>Rep.mono l2 _ _ (r1.2 v e z hb)⟩
   ·have:=r2 a' sz' n' f' hm
    exact⟨fun k b c hb=>this.1 k b c (by rw[i1];exact hb),fun v e z hb=>this.2 v e z (by rw[i1];exact hb)⟩
def FzO (fz:List U6) (hp:List (Nat×Ob)) (p:Nat×Ob):Prop:=Ak hp p.1=some p.2∨∃ l l',Ak hp p.1=some (.cells l)∧p.2=.cells l'∧Fz fz l l'
theorem fz_one {fz:List U6} {x y:AV} {v:Value} {P:Prop} (h:∀ {vs:List Value},RepAL γ [x] vs→RepAL γ' [y] vs) (hr:RepA γ x v):RepA γ' y v:=by
 have:=h (vs:=[v]) (by simp only[RepAL];exact⟨v,[],rfl,hr,rfl⟩)
 simp only[RepAL]at this
 obtain⟨u,t,e,h1,_⟩:=this
 injection e with e1 e2
 rw[e1];exact h1
theorem hp_frzO {fz:List U6} {hp hp':List (Nat×Ob)} {live:Nat→Prop} (hn:decide ((D3 fz).Nodup)=true) (hk:(hp'.all fun p=>!(D3 fz).contains p.1)=true) (hz:Dh (fun q:U6=>Vy (Ak hp q.1) q.2.1 q.2.2.1 q.2.2.2) fz)
  (ho:Dh (FzO fz hp) hp') (H:Hp own (Ak hp) live γ w) :
  ∃ γ':G,γ'.ι=γ.ι∧γ'.τ=γ.τ∧LeM γ.μ γ'.μ∧(∀ c k,¬ own c→γ'.μ c k=γ.μ c k)∧Hp own (Ak hp') live γ' w∧(∀ {l m:List AV},Fz fz l m→∀ {vs:List Value},RepAL γ l vs→RepAL γ' m vs)∧∀ j o,Ak hp' j=some o→∃ o',Ak hp j=some o':=by
 obtain⟨γ',i1,t1,l1,k1,H1,r1⟩:=wg fz H (of_decide_eq_true hn) fun a sz n f hm=>Fa hz _ hm
 have le:LeG γ γ':=⟨l1,fun i b h=>by rw[i1];exact h,fun i b h=>by rw[t1];exact h⟩
 have rep:=fun {l m:List AV} (h:Fz fz l m) {vs:List Value}=>Fz.rep le r1 h (vs:=vs)
 simp only[List.all_eq_true,Bool.not_eq_true',List.contains_eq_mem,decide_eq_false_iff_not]at hk
 have old:∀ j o,Ak hp' j=some o→∃ o0,Fv (D3 fz) (Ak hp) j=some o0∧Ak hp j=some o0∧(o.ok=true→o0.ok=true)∧∀ p,ObjAt γ w o0 p→ObjAt γ' w o p:=fun j o hj=>by
  have hm:=Ez hj
  have hnot:=hk _ hm
  simp only at hnot
  have hd:∀ z,Ak hp j=some z→Fv (D3 fz) (Ak hp) j=some z:=fun z hz=>by simp only[Fv,if_neg hnot];exact hz
  rcases Fa ho _ hm with h | ⟨l,l',h1,h2,h3⟩
  ·simp only at h
   exact⟨o,hd _ h,h,id,fun p hp=>hp.kept le fun _ _=>rfl⟩
  ·simp only at h1 h2
   refine⟨_,hd _ h1,h1,fun _=>rfl,fun p hp=>?_⟩
   subst h2
   cases p with
   | blk b =>
    obtain⟨y,hy,vs,e,rfl,g1,g2⟩:=hp
    exact⟨_,hy,vs,e,rfl,rep h3 g1,g2⟩
   | vec v e z=>obtain⟨n,f,xs,hc,_⟩:=hp;cases hc
 refine⟨γ',i1,t1,l1,k1,⟨H1.fz,fun j o hj hok=>?_,fun i j oi oj p q hi hj c1 c2 hne hp hq=>?_,fun t v e z hl hq=>?_,H1.tinj⟩,fun h=>rep h,fun j o hj=>let ⟨o0,_,h,_⟩:=old j o hj;⟨o0,h⟩⟩
 ·obtain⟨o0,h1,h2,h0,h3⟩:=old j o hj
  obtain⟨p,g1,g2,g3⟩:=H.obj j o0 h2 (h0 hok)
  obtain⟨p',g1',g2',g3'⟩:=H1.obj j o0 h1 (h0 hok)
  rw[i1,g1]at g1'
  injection g1' with g1'
  subst g1'
  exact⟨p,by rw[i1];exact g1,h3 p g2,g3'⟩
 ·obtain⟨o0,h1,_,h0,_⟩:=old i oi hi
  obtain⟨o1,h2,_,h0',_⟩:=old j oj hj
  exact H1.inj i j o0 o1 p q h1 h2 (h0 c1) (h0' c2) hne hp hq
 ·obtain⟨m,xs,q1,q2⟩:=H1.tok t v e z hl hq
  refine⟨m,xs,q1,fun g hg=>?_⟩
  obtain⟨s1,s2,s3⟩:=q2 g hg
  exact⟨s1,s2,fun j o p hj hok hp=>let ⟨o0,h1,_,h0,_⟩:=old j o hj;s3 j o0 p h1 (h0 hok) hp⟩
theorem AB6 (fz:List U6) {st st':St} (hl:st'.live=st.live) (hx:st'.nx=st.nx) (hn:decide ((D3 fz).Nodup)=true) (hk:(st'.hp.all fun p=>!(D3 fz).contains p.1)=true)
  (hz:Dh (fun q:U6=>Vy (Ak st.hp q.1) q.2.1 q.2.2.1 q.2.2.2) fz) (ho:Dh (FzO fz st.hp) st'.hp) (hf:Dh (fun p:Nat×AV=>Fz fz [Bp st.fr p.1] [p.2]) st'.fr):Weak st st':=fun V N γ a w ⟨R,F⟩=>by
 obtain⟨γ',i1,t1,l1,k1,H1,rep,old⟩:=hp_frzO hn hk hz ho R.hp
 refine⟨γ',⟨R.defers,R.size,fun t=>?_,(fun t j want h=>by cases h),by rw[hl];exact H1,R.base,R.big,⟨fun b o hb hno=>(k1 b o hno).trans (R.mu.mu b o hb hno),fun b o v e=>l1 b o v (R.mu.le b o v e),fun i b hi e=>by rw[i1];exact R.mu.pin i b hi e⟩⟩,⟨fun id hid=>?_⟩⟩
 ·show RepA _ (Bp st'.fr t) (a.tmps.getD t undef)
  rcases H9 (l:=st'.fr) (t:=t) with h | h
  ·rw[h];simp only[RepA]
  ·exact fz_one (fz:=fz) (P:=True) (fun hr=>rep (Fa hf _ h) hr) (R.fr t)
 ·obtain⟨h1,h2,h3,h4⟩:=F.ok id (by omega)
  refine⟨by rw[i1];exact h1,by rw[t1];exact h2,?_,by rw[hl];exact h4⟩
  cases e:Ak st'.hp id with
  | none=>rfl
  | some o=>obtain⟨o',h⟩:=old id o e;rw[h]at h3;cases h3
end Go.Av
namespace Go.Av
open Go.RowKit Go.Base
variable {P:Program} {V:Ei} {N:Nat}
inductive Zz where
 | fin (i:Nat)
 | p (q:Prop) (r:Zz)
 | g (G:Bool) (q:Prop) (r:Zz)
 | split (G:Bool) (a b:Zz)
 | no
def qm:Zz→(Nat→Prop)→Prop
 | .fin i,R=>R i
 | .p q l,R=>q∧qm l R
 | .g G q l,R=>(G=true→q)∧qm l R
 | .split G a b,R=>(G=true→qm a R)∧(G=false→qm b R)
 | .no,_=>False
def Y7:Zz→Prop
 | .fin _=>True
 | .p q l=>q∧Y7 l
 | .g G q l=>(G=true→q)∧Y7 l
 | .split G a b=>(G=true→Y7 a)∧(G=false→Y7 b)
 | .no=>False
def gy {α:Type}:Zz→(Nat→Option α)→Option α
 | .fin i,f=>f i
 | .p _ l,f=>gy l f
 | .g _ _ l,f=>gy l f
 | .split G a b,f=>if G=true then gy a f else gy b f
 | .no,_=>none
theorem Rj {α:Type} {x:α} {R:Nat→Prop} {f:Nat→Option α} (hf:∀ i,f i=some x→R i):∀ {l:Zz},Y7 l→gy l f=some x→qm l R
 | .fin i,_,h=>hf i h
 | .p _ _,h,k=>⟨h.1,Rj hf h.2 k⟩
 | .g _ _ _,h,k=>⟨h.1,Rj hf h.2 k⟩
 | .split G a b,h,k=>by
  simp only[gy]at k
  split at k
  ·rename_i hg;exact⟨fun e=>Rj hf (h.1 e) k,fun e=>by rw[hg]at e;cases e⟩
  ·rename_i hg;exact⟨fun e=>absurd e hg,fun e=>Rj hf (h.2 e) k⟩
 | .no,_,h=>by cases h
abbrev Fj:=Exit→St→Prop
def isN:Exit→Bool
 | .normal=>true
 | _=>false
def isR:Exit→Bool
 | .normal=>true
 | .ret=>true
 | _=>false
def Wx (id:Nat):Exit→Exit
 | .exit j=>match Nat.beq j id with | true=>.normal | false=>.exit j
 | ex=>ex
def go (s':St):Fj:=fun ex s=>isN ex=true∧Weak s s'
def fin (P:Program) (fn:Func) (d:D):Fj:=fun ex s=>isR ex=true∧∃ s',Weak s s'∧Qh P fn.results.toList s' d
def lv {R:Type} (id:Nat) (W:R→Fj):R→Fj:=fun r ex s=>W r (Wx id ex) s
def wy {Y R:Type} (S:Y→St) (W:R→Fj):Y⊕R→Fj
 | .inl y=>go (S y)
 | .inr r=>fun ex s=>isN ex=false∧W r ex s
inductive Tr {R:Type} (W:R→Fj):Type 1 where
 | ret (ex:Exit) (st:St) (x:R) (h:W x ex st)
 | need (p:Prop) (d:Decidable p) (k:Tr W)
 | needG (G:Bool) (p:Prop) (d:Decidable p) (k:Tr W)
 | exi (α:Type) (m:Option α) (ob:α→Zz) (h:∀ x,m=some x→Y7 (ob x)) (k:α→Nat→Tr W)
 | ite (c:Bool) (a b:Tr W)
 | bad
 | lost (ex:Exit) (st:St)
def Tr.run {R:Type} {W:R→Fj}:Tr W→Option R
 | .ret _ _ x _=>some x
 | .need p d k=>if p then k.run else none
 | .needG G p d k=>if G=true→p then k.run else none
 | .exi _ m ob _ k=>m.bind fun x=>gy (ob x) fun i=>(k x i).run
 | .ite c a b=>if c=true then a.run else b.run
 | .bad=>none
 | .lost _ _=>none
def Tr.Hold {R:Type} {W:R→Fj} (K:Exit→St→Prop):Tr W→Prop
 | .ret ex st _ _=>K ex st
 | .need p _ k=>p∧k.Hold K
 | .needG G p _ k=>(G=true→p)∧k.Hold K
 | .exi α _ ob _ k=>∃ x:α,qm (ob x) fun i=>(k x i).Hold K
 | .ite c a b=>(c=true→a.Hold K)∧(c=false→b.Hold K)
 | .bad=>False
 | .lost ex st=>K ex st
theorem Tr.hold {R:Type} {W:R→Fj} {K:Exit→St→Prop} {x:R} (hk:∀ ex s,W x ex s→K ex s):∀ {t:Tr W},t.run=some x→t.Hold K
 | .ret ex st y h,hr=>by
  simp only[Tr.run,Option.some.injEq]at hr
  subst hr
  exact hk _ _ h
 | .need p d k,hr=>by
  simp only[Tr.run]at hr
  split at hr
  ·rename_i hp;exact⟨hp,Tr.hold hk hr⟩
  ·cases hr
 | .needG G p d k,hr=>by
  simp only[Tr.run]at hr
  split at hr
  ·rename_i hp;exact⟨hp,Tr.hold hk hr⟩
  ·cases hr
 | .exi α m ob h k,hr=>by
  simp only[Tr.run,Option.bind_eq_some_iff]at hr
  obtain⟨y,h1,h2⟩:=hr
  exact⟨y,Rj (fun i hi=>Tr.hold hk hi) (h y h1) h2⟩
 | .ite c a b,hr=>by
  simp only[Tr.run]at hr
  split at hr
  ·rename_i hc;exact⟨fun _=>Tr.hold hk hr,fun e=>by rw[hc]at e;cases e⟩
  ·rename_i hc;exact⟨fun e=>absurd e hc,fun _=>Tr.hold hk hr⟩
 | .bad,hr=>by simp only[Tr.run]at hr;cases hr
 | .lost _ _,hr=>by simp only[Tr.run]at hr;cases hr
def nd {R:Type} {W:R→Fj} (p:Prop) [d:Decidable p] (k:Tr W):Tr W:=.need p d k
def c3 {R α:Type} {W:R→Fj} {m:Option α} {p:α→Prop} (h:∀ r,m=some r→p r) (k:α→Tr W):Tr W :=
 .exi α (m.bind fun r=>some r) (fun x=>.p (p x) (.fin 0)) (fun x e=>by
  obtain⟨r,h1,h2⟩:=Option.bind_eq_some_iff.1 e
  cases h2
  exact⟨h _ h1,trivial⟩) fun x _=>k x
def Judge {R:Type} (P:Program) (V:Ei) (N:Nat) (c:Code) (st:St) (m:Option R) (W:R→Fj):Prop :=
 ∀ x,m=some x→∀ K:Exit→St→Prop,(∀ ex s,W x ex s→K ex s)→Tri P V N c st K
def Ss (hp:List (Nat×Ob)):List Nat→List (Nat×Ob)
 | []=>[]
 | i :: l=>match Ak hp i with
  | some o=>(i,o) :: Ss hp l
  | none=>Ss hp l
def AAA (ids:List Nat) (st:St):St:={ st with hp:=Ss st.hp ids }
theorem Fc {hp:List (Nat×Ob)}:∀ {l:List Nat} {i:Nat} {o:Ob},Ak (Ss hp l) i=some o→Ak hp i=some o
 | [],_,_,h=>by simp[Ss,Ak]at h
 | j :: l,i,o,h=>by
  simp only[Ss]at h
  split at h
  ·rename_i o' ho
   simp only[Ak]at h
   split at h
   ·rename_i e;injection h with h;subst e h;exact ho
   ·exact Fc h
  ·exact Fc h
theorem rs_cutH {ids:List Nat} {st:St} {γ:G} {a:Act} {w:World} (h:RS V N st γ a w):RS V N (AAA ids st) γ a w:=by
 obtain⟨R,F⟩:=h
 refine⟨⟨R.defers,R.size,R.fr,(fun t j want h=>by cases h),⟨R.hp.fz,fun id o ho=>R.hp.obj id o (Fc ho),fun i j oi oj p q hi hj=>R.hp.inj i j oi oj p q (Fc hi) (Fc hj),?_,R.hp.tinj⟩,R.base,R.big,R.mu⟩,⟨fun id hid=>?_⟩⟩
 ·intro t v e sz hl ht
  obtain⟨n,xs,q1,q2⟩:=R.hp.tok t v e sz hl ht
  refine⟨n,xs,q1,fun g hg=>?_⟩
  obtain⟨r1,r2,r3⟩:=q2 g hg
  exact⟨r1,r2,fun id o p ho=>r3 id o p (Fc ho)⟩
 ·obtain⟨h1,h2,h3,h4⟩:=F.ok id hid
  refine⟨h1,h2,?_,h4⟩
  cases e:Ak (AAA ids st).hp id with
  | none=>rfl
  | some o=>rw[Fc e]at h3;cases h3
def E7 {S X:Type} (b:S→Option (S⊕X)):Nat→S→Option X
 | 0,_=>none
 | n+1,s=>match b s with
  | some (.inl s')=>E7 b n s'
  | some (.inr x)=>some x
  | none=>none
theorem Pw {S X:Type} {b:S→Option (S⊕X)} {x:X}:∀ {n m:Nat} {s:S},E7 b n s=some x→n≤m→E7 b m s=some x
 | 0,_,_,h,_=>by cases h
 | n+1,0,_,_,h=>by omega
 | n+1,m+1,s,h,hm=>by
  simp only[E7]at h ⊢
  split at h
  ·rename_i s' e;exact Pw h (by omega)
  ·exact h
  ·cases h
open Classical in
def Xc {S X:Type} (b:S→Option (S⊕X)) (s:S):Option X :=
 if h:∃ n x,E7 b n s=some x then some (Classical.choose (Classical.choose_spec h))else none
theorem fp {S X:Type} {b:S→Option (S⊕X)} {s:S} {n:Nat} {x:X} (h:E7 b n s=some x):Xc b s=some x:=by
 have he:∃ n x,E7 b n s=some x:=⟨n,x,h⟩
 unfold Xc
 rw[dif_pos he]
 have h2:=Classical.choose_spec (Classical.choose_spec he)
 have h3:=Pw h2 (Nat.le_max_left _ n)
 have h4:=Pw h (Nat.le_max_right (Classical.choose he) n)
 rw[h3]at h4
 exact h4
def Am {S X:Type} (b:S→Option (S⊕X)) (s:S):Option X :=
 match E7 b 100000 s with
 | some x=>some x
 | none=>Xc b s
theorem mf {S X:Type} (b:S→Option (S⊕X)) (s:S):Am b s=Xc b s:=by
 unfold Am
 split
 ·rename_i x h;exact(fp h).symm
 ·rfl
theorem V5 {S X:Type} {b:S→Option (S⊕X)} {s:S} {n:Nat} {x:X} (h:E7 b n s=some x):Am b s=some x:=by rw[mf];exact fp h
theorem Jk {S X:Type} {b:S→Option (S⊕X)} {s:S} {x:X} (h:Am b s=some x):∃ n,E7 b n s=some x:=by
 rw[mf]at h
 unfold Xc at h
 split at h
 ·rename_i he
  injection h with h
  exact⟨Classical.choose he,by rw[← h];exact Classical.choose_spec (Classical.choose_spec he)⟩
 ·cases h
theorem E2 {S X:Type} (b:S→Option (S⊕X)) (s:S):Am b s=(b s).bind fun y=>match y with | .inl s'=>Am b s' | .inr x=>some x:=by
 cases hb:b s with
 | none =>
  cases h:Am b s with
  | none=>rfl
  | some x =>
   obtain⟨n,hn⟩:=Jk h
   cases n with
   | zero=>cases hn
   | succ n=>simp only[E7,hb]at hn;cases hn
 | some y =>
  cases y with
  | inr x=>simp only[Option.bind_some];exact V5 (n:=1) (by simp only[E7,hb])
  | inl s' =>
   simp only[Option.bind_some]
   cases h:Am b s' with
   | some x =>
    obtain⟨n,hn⟩:=Jk h
    exact V5 (n:=n+1) (by simp only[E7,hb];exact hn)
   | none =>
    cases h2:Am b s with
    | none=>rfl
    | some x =>
     obtain⟨n,hn⟩:=Jk h2
     cases n with
     | zero=>cases hn
     | succ n =>
      simp only[E7,hb]at hn
      rw[V5 hn]at h;cases h
abbrev dI (x:Int):D:=.int .i64 x
abbrev aI (x:Int):AV:=.d (.int .i64 x)
abbrev aB (b:Bool):AV:=.d (.bool b)
abbrev aS (s:List UInt8):AV:=.d (.str s)
abbrev aN:AV:=.ap 0 0 (fun _=>.bad) .nl
def cF {α:Type} [Inhabited α] (e:α→D) (l:List α) (i:Nat):D:=e (l.getD i default)
def Ab {α:Type} [Inhabited α] (sz:Nat) (e:α→D) (l:List α):D:=.sl sz l.length (cF e l)
theorem dr {x:D}:De x x:=De.rfl
theorem B8 {α:Type} [Inhabited α] {sz sz':Nat} {e:α→D} {f:Nat→D}:De (.sl sz' 0 f) (Ab sz e ([]:List α)):=.inr ⟨rfl,fun i h=>absurd h (by omega)⟩
def Aq (b:List UInt8):List Int:=b.map fun c=>(c.toNat:Int)
theorem Po {b:List UInt8}:De (.sl 1 b.length (Dy b)) (Ab 1 (D.int .u8) (Aq b)):=by
 refine .inr ⟨by simp[Aq],fun i hi=>⟨rfl,?_⟩⟩
 have:cF (D.int .u8) (Aq b) i=Dy b i:=by simp[cF,Aq,Dy,hi]
 rw[this]
 exact De.rfl
theorem Ci {α:Type} [Inhabited α] {sz n m:Nat} {e:α→D} {f g:Nat→D} {l k:List α} (h1:De (.sl sz n f) (Ab sz e l)) (h2:De (.sl sz m g) (Ab sz e k)):De (.sl sz (n+m) (C1 n f g)) (Ab sz e (l++k)):=by
 obtain⟨rfl,h1⟩:=h1.sl
 obtain⟨rfl,h2⟩:=h2.sl
 refine .inr ⟨by rw[List.length_append],fun i hi=>⟨rfl,?_⟩⟩
 show De _ _
 simp only[C1,cF]
 split
 ·rename_i h
  have:=(h1 i h).2
  simp only[cF,List.getD_eq_getElem?_getD]at this
  rw[List.getD_eq_getElem?_getD,List.getElem?_append_left h];exact this
 ·rename_i h
  have:=(h2 (i - l.length) (by omega)).2
  simp only[cF,List.getD_eq_getElem?_getD]at this
  rw[List.getD_eq_getElem?_getD,List.getElem?_append_right (by omega)];exact this
theorem Bk {α:Type} [Inhabited α] {sz:Nat} {e:α→D} {ds:List D} {l:List α} {n:Nat} (hn:l.length=n) (h:ds=l.map e):De (.sl sz n (Bc ds)) (Ab sz e l):=by
 subst hn h
 refine .inr ⟨rfl,fun i hi=>⟨rfl,.inl ?_⟩⟩
 simp only[Bc,cF,List.getElem?_map,List.getD_eq_getElem?_getD,List.getElem?_eq_getElem hi,Option.map_some,Option.getD_some]
def A0 (s:List UInt8) (i:Nat):Int:=match s[i]? with | some b=>(b.toNat:Int) | none=>0
theorem vv {α:Type} [Inhabited α] {sz n:Nat} {e:α→D} {z:α}:De (.sl sz n fun _=>e z) (Ab sz e (List.replicate n z)) :=
 .inr ⟨by rw[List.length_replicate],fun i hi=>⟨rfl,.inl (by simp only[cF,List.getD_eq_getElem?_getD,List.getElem?_replicate,if_pos hi,Option.getD_some])⟩⟩
theorem wm {α:Type} [Inhabited α] {sz n:Nat} {e:α→D} {f:Nat→D} {l:List α} (h:De (.sl sz n f) (Ab sz e l)):n=l.length:=h.sl.1
theorem vw {α:Type} [Inhabited α] {sz n i:Nat} {e:α→D} {f:Nat→D} {l:List α} {x:α} (h:De (.sl sz n f) (Ab sz e l)):De (.sl sz n fun k=>if k=i then e x else f k) (Ab sz e (l.set i x)):=by
 obtain⟨rfl,h⟩:=h.sl
 refine .inr ⟨by rw[List.length_set],fun k hk=>⟨rfl,?_⟩⟩
 show De _ _
 simp only[cF,List.getD_eq_getElem?_getD,List.getElem?_set]
 split
 ·rename_i e;subst e;rw[if_pos rfl,if_pos hk,Option.getD_some];exact De.rfl
 ·rename_i hne
  rw[if_neg (fun e=>hne e.symm)]
  have:=(h k hk).2
  simp only[cF,List.getD_eq_getElem?_getD]at this
  exact this
def Kg {α:Type} [Inhabited α] (l:List α) (k n:Nat):List α:=(List.range n).map fun i=>l.getD (k+i) default
theorem mc {α:Type} [Inhabited α] {sz n:Nat} {e:α→D} {l:List α}:De (.sl sz n (cF e l)) (Ab sz e (Kg l 0 n)) :=
 .inr ⟨by simp[Kg],fun i hi=>⟨rfl,.inl (by simp[cF,Kg,List.getD_eq_getElem?_getD,List.getElem?_range hi])⟩⟩
theorem subL_eq {α:Type} [Inhabited α] {l:List α} {k n:Nat} (h:k+n≤l.length):Kg l k n=(l.drop k).take n:=by
 apply List.ext_getElem?
 intro i
 simp only[Kg,List.getElem?_map,List.getElem?_take,List.getElem?_drop]
 by_cases hi:i < n
 ·rw[List.getElem?_range hi,if_pos hi,Option.map_some,List.getD_eq_getElem?_getD,List.getElem?_eq_getElem (by omega),Option.getD_some]
 ·rw[if_neg hi,List.getElem?_eq_none (by simp;omega),Option.map_none]
theorem kd {α:Type} [Inhabited α] {l:List α} {n:Nat} (h:l.length=n):Kg l 0 n=l:=by
 subst h
 rw[subL_eq (by omega)];simp
theorem Yd {α:Type} [Inhabited α] {sz n:Nat} {e:α→D} {f:Nat→D} {l:List α} (h:De (.sl sz n f) (Ab sz e l)):De (.sl sz n f) (.sl sz n (cF e l)):=by
 obtain⟨rfl,h2⟩:=h.sl
 exact .inr ⟨rfl,fun i hi=>h2 i hi⟩
theorem de_pre {α:Type} [Inhabited α] {sz n h:Nat} {e:α→D} {f:Nat→D} {l:List α} (hd:De (.sl sz n f) (Ab sz e l)):De (.sl sz (min h n) f) (Ab sz e (l.take h)):=by
 obtain⟨rfl,h2⟩:=hd.sl
 refine .inr ⟨by rw[List.length_take],fun i hi=>⟨rfl,?_⟩⟩
 show De _ _
 have:=(h2 i (by omega)).2
 simp only[cF,List.getD_eq_getElem?_getD]at this ⊢
 rw[List.getElem?_take,if_pos (by omega)]
 exact this
theorem pure_de {f:Nat} {ds ds':List D} {r:D} (h:Ah P f ds r) (hd:Pg ds' ds):Ah P f ds' r:=⟨h.1,fun μ w vs hg hz hr=>h.2 μ w vs hg hz (hr.deq hd)⟩
def c2 {R α:Type} {W:R→Fj} {m:Option α} {f:Nat} {ds:List D} {e:α→D} (h:∀ r,m=some r→Ah P f ds (e r)) (ds':List D) (hd:Pg ds' ds) (k:α→Tr W):Tr W :=
 c3 (p:=fun x=>Ah P f ds' (e x)) (fun r hr=>pure_de (h r hr) hd) k
theorem Ar {p:Prop} [Decidable p] {α:Type} {m:Option α} {x:α} (h:(if p then m else none)=some x):p∧m=some x:=by
 split at h
 ·rename_i hp;exact⟨hp,h⟩
 ·cases h
def rl:Nat→Code→Code
 | 0,c=>c
 | k+1,.seq _ b=>rl k b
 | _,c=>c
def K7 (P:Program) (V:Ei) (N:Nat) (cs:List (Nat×Tm)):Nat→Code→St→(Exit→St→Prop)→(St→Prop)→Prop
 | 0,_,st,_,L=>L st
 | k+1,.seq a b,st,K,L=>vc P V N cs [] a st (andThen K fun st'=>K7 P V N cs k b st' K L)
 | _,_,_,_,_=>False
theorem S4 (hm:P.follows .mixedOrders=true) {cs:List (Nat×Tm)}:∀ (k:Nat) (c:Code) (st:St) (K K':Exit→St→Prop) (L:St→Prop),(∀ ex s,K' ex s→K ex s)→(∀ s,L s→Tri P V N (rl k c) s K)→K7 P V N cs k c st K' L→Tri P V N c st K
 | 0,c,st,K,K',L,hK,hL,h=>hL st h
 | k+1,.seq a b,st,K,K',L,hK,hL,h=>by
  unfold K7 at h
  refine Tri.seq ((Gl hm a st _ h).mono fun ex st' hk=>?_)
  cases ex with
  | normal=>exact S4 hm k b st' K K' L hK hL hk
  | _=>exact hK _ _ hk
 | k+1,.skip,st,K,K',L,hK,hL,h=>by unfold K7 at h;exact h.elim
 | k+1,.region ..,st,K,K',L,hK,hL,h=>by unfold K7 at h;exact h.elim
 | k+1,.cond ..,st,K,K',L,hK,hL,h=>by unfold K7 at h;exact h.elim
 | k+1,.loop _,st,K,K',L,hK,hL,h=>by unfold K7 at h;exact h.elim
 | k+1,.block ..,st,K,K',L,hK,hL,h=>by unfold K7 at h;exact h.elim
 | k+1,.exit _,st,K,K',L,hK,hL,h=>by unfold K7 at h;exact h.elim
 | k+1,.ret,st,K,K',L,hK,hL,h=>by unfold K7 at h;exact h.elim
 | k+1,.label _,st,K,K',L,hK,hL,h=>by unfold K7 at h;exact h.elim
 | k+1,.goto _,st,K,K',L,hK,hL,h=>by unfold K7 at h;exact h.elim
 | k+1,.scope _,st,K,K',L,hK,hL,h=>by unfold K7 at h;exact h.elim
 | k+1,.rangeFunc ..,st,K,K',L,hK,hL,h=>by unfold K7 at h;exact h.elim
 | k+1,.refuse _,st,K,K',L,hK,hL,h=>by unfold K7 at h;exact h.elim
def exN:Exit→Nat
 | .normal=>0
 | .ret=>1
 | .exit j=>j+2
 | _=>0
def G9:List (Nat×List Nat×List Nat)→Exit→St→St
 | [],_,s=>s
 | (n,ts,ids) :: l,ex,s=>match Nat.beq n (exN ex) with
  | true=>AAA ids (Sf ts s)
  | false=>G9 l ex s
theorem Ke {ex:Exit} {st:St} {γ:G} {a:Act} {w:World} (h:RS V N st γ a w):∀ l,RS V N (G9 l ex st) γ a w
 | []=>h
 | (n,ts,ids) :: l=>by
  unfold G9
  split
  ·exact rs_cutH (jt h)
  ·exact Ke h l
theorem Judge.seg {R:Type} {W:R→Fj} (hm:P.follows .mixedOrders=true) {tms:List (Nat×Tm)} {cx:List (Nat×List Nat×List Nat)} {c:Code} {st:St} {t:Tr W}
  (h:∀ K:Exit→St→Prop,vc P V N tms [] c st (fun ex s=>K ex (G9 cx ex s))=t.Hold K):Judge P V N c st t.run W:=fun x hx K hk γ a w hr=>by
 have h1:vc P V N tms [] c st (fun ex s=>K ex (G9 cx ex s)):=by rw[h K];exact Tr.hold hk hx
 exact wp_mono (Gl hm c st _ h1 γ a w hr) fun _ _ _ ⟨s,γ',h1,h2⟩=>⟨_,γ',Ke h1 cx,h2⟩
structure JD (P:Program) (N:Nat) (c:Code) (st:St) {R:Type} (W:R→Fj) where
 m:Option R
 j:∀ V:Ei,Judge P V N c st m W
def su:Code→Code
 | .seq a _=>a
 | c=>c
def cr:Code→Bool
 | .seq _ _=>true
 | _=>false
def blkC:Code→Code
 | .block _ c=>c
 | c=>c
def blkI:Code→Nat
 | .block i _=>i
 | _=>0
def isBlk:Code→Bool
 | .block _ _=>true
 | _=>false
def lpC:Code→Code
 | .loop c=>c
 | c=>c
def AAQ:Code→Bool
 | .loop _=>true
 | _=>false
def thenC:Code→Code
 | .cond _ x _=>x
 | c=>c
def AC7:Code→Code
 | .cond _ _ y=>y
 | c=>c
def sk:Code→Operand
 | .cond o _ _=>o
 | _=>.tmp 0
def fk:Code→Bool
 | .cond _ _ _=>true
 | _=>false
def onE {R:Type}:Empty⊕R→Option R
 | .inl y=>y.elim
 | .inr r=>some r
def Af {Y R:Type} (f:Y→Option R):Y⊕R→Option R
 | .inl y=>f y
 | .inr r=>some r
theorem qp {R:Type} {m:Option (Empty⊕R)} {f:Empty→Option R}:m.bind onE=m.bind (Af f):=by
 congr 1;funext z;cases z with | inl y=>cases y | inr r=>rfl
section
variable {R Y:Type} {W:R→Fj} {c:Code} {st:St}
def JD.sg (tms:List (Nat×Tm)) (cx:List (Nat×List Nat×List Nat)) (t:Tr W) (hm:P.follows .mixedOrders=true:=by refine id ?_;kernel_rfl)
  (h:∀ (V:Ei) (K:Exit→St→Prop),vc P V N tms [] c st (fun ex s=>K ex (G9 cx ex s))=t.Hold K:=by intro V K;refine id ?_;kernel_rfl):JD P N c st W:=⟨t.run,fun V=>Judge.seg hm (h V)⟩
def JD.sq (k:Nat) (tms:List (Nat×Tm)) (cx:List (Nat×List Nat×List Nat)) (S:Y→St) (t:Tr (wy S W)) (B:∀ y,JD P N (rl k c) (S y) W) (hm:P.follows .mixedOrders=true:=by refine id ?_;kernel_rfl)
  (h:∀ (V:Ei) (K:Exit→St→Prop) (L:St→Prop),K7 P V N tms k c st (fun ex s=>K ex (G9 cx ex s)) (fun s=>L (G9 cx .normal s))=t.Hold (andThen K L):=by intro V K L;refine id ?_;kernel_rfl):JD P N c st W where
 m:=t.run.bind (Af fun y=>(B y).m)
 j:=fun V x hx K hk=>by
  obtain⟨z,hz,hx⟩:=Option.bind_eq_some_iff.1 hx
  cases z with
  | inl y =>
   have h1:K7 P V N tms k c st (fun ex s=>K ex (G9 cx ex s)) (fun s=>Weak (G9 cx .normal s) (S y)):=by
    rw[h V K fun s=>Weak s (S y)]
    refine Tr.hold (fun ex s hs=>?_) hz
    obtain⟨h1,h2⟩:=hs
    cases ex<;>first | exact h2 | cases h1
   have h2:Tri P V N c st (fun ex s=>K ex s∨K ex (G9 cx ex s)):=S4 hm k c st _ _ _ (fun ex s hs=>.inr hs) (fun s hs=>fun γ a w hr=>Tri.weak hs (((B y).j V x hx K hk).mono fun ex s hs=>.inl hs) γ a w (Ke hr cx)) h1
   refine fun γ a w hr=>wp_mono (h2 γ a w hr) ?_
   rintro ex a' w' ⟨s,γ',h1,h2 | h2⟩
   ·exact⟨s,γ',h1,h2⟩
   ·exact⟨_,γ',Ke h1 cx,h2⟩
  | inr r =>
   injection hx with hx
   subst hx
   have h1:K7 P V N tms k c st (fun ex s=>K ex (G9 cx ex s)) (fun _=>False):=by
    rw[h V K fun _=>False]
    refine Tr.hold (fun ex s hs=>?_) hz
    obtain⟨h1,h2⟩:=hs
    cases ex<;>first | exact hk _ _ h2 | cases h1
   have h2:Tri P V N c st (fun ex s=>K ex (G9 cx ex s)):=S4 hm k c st _ _ _ (fun ex s hs=>hs) (fun s hs=>hs.elim) h1
   refine fun γ a w hr=>wp_mono (h2 γ a w hr) ?_
   rintro ex a' w' ⟨s,γ',h1,h2⟩
   exact⟨_,γ',Ke h1 cx,h2⟩
theorem tri_seq (hc:cr c=true) {K:Exit→St→Prop} (h:Tri P V N (su c) st fun ex s=>match ex with | .normal=>Tri P V N (rl 1 c) s K | ex=>K ex s):Tri P V N c st K:=by
 cases c with
 | seq a b=>exact Tri.seq (h.mono fun ex s hs=>by cases ex<;>exact hs)
 | _=>cases hc
def JD.sc (S:Y→St) (A:JD P N (su c) st (wy S W)) (B:∀ y,JD P N (rl 1 c) (S y) W) (hc:cr c=true:=by refine id ?_;kernel_rfl):JD P N c st W where
 m:=A.m.bind (Af fun y=>(B y).m)
 j:=fun V x hx K hk=>by
  obtain⟨z,hz,hx⟩:=Option.bind_eq_some_iff.1 hx
  refine tri_seq hc (A.j V z hz _ fun ex s hs=>?_)
  cases z with
  | inl y =>
   obtain⟨h1,h2⟩:=hs
   cases ex with
   | normal=>exact Tri.weak h2 ((B y).j V x hx K hk)
   | _=>cases h1
  | inr r =>
   injection hx with hx
   subst hx
   obtain⟨h1,h2⟩:=hs
   cases ex with
   | normal=>cases h1
   | _=>exact hk _ _ h2
def JD.se (A:JD P N (su c) st (wy (Y:=Empty) (fun _=>st) W)) (hc:cr c=true:=by refine id ?_;kernel_rfl):JD P N c st W where
 m:=A.m.bind onE
 j:=fun V x hx=>(JD.sc (fun _=>st) A (fun y=>y.elim) hc).j V x (by rw[qp]at hx;exact hx)
def JD.bk (A:JD P N (blkC c) st (lv (blkI c) W)) (hc:isBlk c=true:=by refine id ?_;kernel_rfl):JD P N c st W where
 m:=A.m
 j:=fun V x hx K hk=>by
  cases c with
  | block id c =>
   refine Tri.block (A.j V x hx _ fun ex s hs=>?_)
   have h2:K (Wx id ex) s:=hk _ _ hs
   cases ex with
   | exit j =>
    simp only[inBlock]
    simp only[Wx]at h2
    by_cases e:j=id
    ·rw[if_pos e]
     have:Nat.beq j id=true:=by rw[e];exact Nat.beq_refl _
     rw[this]at h2;exact h2
    ·rw[if_neg e]
     have:Nat.beq j id=false:=by
      cases hb:Nat.beq j id with
      | false=>rfl
      | true=>exact absurd (Nat.eq_of_beq_eq_true hb) e
     rw[this]at h2;exact h2
   | _=>exact h2
  | _=>cases hc
def JD.lp (H:Y→St) (y0:Y) (w0:Weak st (H y0)) (B:∀ y,JD P N (lpC c) (H y) (wy H W)) (hc:AAQ c=true:=by refine id ?_;kernel_rfl):JD P N c st W where
 m:=Am (fun y=>(B y).m) y0
 j:=fun V x hx K hk=>by
  cases c with
  | loop c =>
   obtain⟨n,hx⟩:=Jk hx
   refine Tri.loop (X:=Nat×Y) (fun p=>H p.2) (fun p=>E7 (fun y=>(B y).m) p.1 p.2=some x) (fun p=>p.1) (n,y0) w0 hx ?_
   rintro⟨n,s⟩ hs
   cases n with
   | zero=>cases hs
   | succ n =>
    simp only[E7]at hs
    cases hy:(B s).m with
    | none=>rw[hy]at hs;cases hs
    | some y =>
     rw[hy]at hs
     refine(B s).j V y hy _ fun ex t ht=>?_
     cases y with
     | inl s' =>
      obtain⟨h1,h2⟩:=ht
      cases ex with
      | normal=>exact⟨(n,s'),hs,Nat.lt_succ_self n,h2⟩
      | _=>cases h1
     | inr x' =>
      simp only[Option.some.injEq]at hs
      subst hs
      obtain⟨h1,h2⟩:=ht
      cases ex with
      | normal=>cases h1
      | _=>exact hk _ _ h2
  | _=>cases hc
structure JL (P:Program) (N:Nat) (n:Nat) (c:Code) (st:St) {R:Type} (W:R→Fj) where
 m:Option R
 j:∀ (V:Ei) (x:R),m=some x→∀ K:Exit→St→Prop,(∀ ex s,W x ex s→K ex s)→∀ γ a w,RS V N st γ a w→Code.rounds P c (fun ex a' w'=>∃ s γ',RS V N s γ' a' w'∧K ex s) n a w
def JL.r {n:Nat} (S:Y→St) (A:JD P N c st (wy S W)) (B:∀ y,JL P N n c (S y) W):JL P N (n+1) c st W where
 m:=A.m.bind (Af fun y=>(B y).m)
 j:=fun V x hx K hk γ a w hr=>by
  obtain⟨z,hz,hx⟩:=Option.bind_eq_some_iff.1 hx
  refine wp_mono (A.j V z hz (fun ex s=>wy S W z ex s) (fun ex s hs=>hs) γ a w hr) ?_
  rintro ex a' w' ⟨s,γ',h1,h2⟩
  cases z with
  | inl y =>
   obtain⟨h3,h4⟩:=h2
   cases ex with
   | normal =>
    obtain⟨γ'',h5⟩:=h4 V N γ' a' w' h1
    exact(B y).j V x hx K hk γ'' a' w' h5
   | _=>cases h3
  | inr r =>
   injection hx with hx
   subst hx
   obtain⟨h3,h4⟩:=h2
   cases ex with
   | normal=>cases h3
   | _=>exact⟨s,γ',h1,hk _ _ h4⟩
def JL.z (A:JD P N c st (wy (Y:=Empty) (fun _=>st) W)):JL P N 1 c st W where
 m:=A.m.bind onE
 j:=fun V x hx=>(JL.r (n:=0) (fun _=>st) A fun y=>y.elim).j V x (by rw[qp]at hx;exact hx)
def JD.lu (n:Nat) (B:JL P N n (lpC c) st W) (hc:AAQ c=true:=by refine id ?_;kernel_rfl):JD P N c st W where
 m:=B.m
 j:=fun V x hx K hk γ a w hr=>by
  cases c with
  | loop c=>exact wp_loop_rounds n (B.j V x hx K hk γ a w hr)
  | _=>cases hc
def JD.ct (A:JD P N (thenC c) st W) (hc:fk c=true:=by refine id ?_;kernel_rfl) (hb:ey st (sk c)=.d (.bool true):=by refine id ?_;kernel_rfl):JD P N c st W where
 m:=A.m
 j:=fun V r hr K hk=>by
  cases c with
  | cond o x y=>exact Tri.cond hb (fun h=>A.j V r hr K hk) (fun h=>by cases h)
  | _=>cases hc
def JD.ce (A:JD P N (AC7 c) st W) (hc:fk c=true:=by refine id ?_;kernel_rfl) (hb:ey st (sk c)=.d (.bool false):=by refine id ?_;kernel_rfl):JD P N c st W where
 m:=A.m
 j:=fun V r hr K hk=>by
  cases c with
  | cond o x y=>exact Tri.cond hb (fun h=>by cases h) (fun h=>A.j V r hr K hk)
  | _=>cases hc
def JD.cd (b:Bool) (A:JD P N (thenC c) st W) (B:JD P N (AC7 c) st W) (hc:fk c=true:=by refine id ?_;kernel_rfl) (hb:ey st (sk c)=.d (.bool b):=by refine id ?_;kernel_rfl):JD P N c st W where
 m:=if b=true then A.m else B.m
 j:=fun V r hr K hk=>by
  cases c with
  | cond o x y =>
   refine Tri.cond hb (fun h=>?_) (fun h=>?_)
   ·rw[if_pos h]at hr;exact A.j V r hr K hk
   ·rw[if_neg (by rw[h];decide)]at hr;exact B.j V r hr K hk
  | _=>cases hc
end
abbrev JF (P:Program) (fn:Func) (ds:List D) {R:Type} (en:R→D):=JD P fn.ntmps (body fn) ⟨N9 0 ds,[],[],16⟩ fun x=>fin P fn (en x)
theorem B0 {R:Type} {f:Nat} {fn:Func} {ds:List D} {en:R→D} (d:JF P fn ds en) (hf:P.funcs[f]?=some fn) {x:R} (hx:d.m=some x) (hb:fn.body=some (body fn):=by kernel_rfl) (hn:fn.name ≠ "runtime.NumGoroutine" := by decide)
  (hlen:Nat.ble ds.length fn.ntmps=true:=by rfl):Ah P f ds (en x) :=
 pure_of hf hb hn (Nat.le_of_ble_eq_true hlen) fun V=>Tri.post (d.j V x hx (fun ex s=>isR ex=true∧∃ s',Weak s s'∧Qh P fn.results.toList s' (en x)) fun ex s hs=>hs) fun ex s ⟨he,s',hw,hr⟩=>⟨s',hw,by
  cases ex<;>first | exact hr | cases he⟩
def Bq {α:Type} (t:Nat) (e:α→D):Tm:=⟨α,fun x=>[(t,e x)],fun _=>[],[]⟩
def Tr.nx {Y R:Type} {S:Y→St} {W:R→Fj} (y:Y):Tr (wy S W):=.ret .normal (S y) (.inl y) ⟨rfl,Weak.refl _⟩
end Go.Av
namespace Go.Av
open Go.RowKit Go.Base Go.ChangeShapes Go.WideShapes
variable {P:Program} {H:Type} {enc:TypeId×Value→H} {W:World} {spare:Nat→Bool}
theorem zl {w:World} {a:Addr} {v:Value} (h:w.cell? a=some v):a.spot=none:=by
 unfold World.cell? at h
 cases hx:a.spot with
 | none=>rfl
 | some s=>rw[hx]at h;simp at h;split at h<;>cases h
theorem ab {a:Addr} (h:a.spot=none) (j:Nat):a.add j=⟨a.block,a.off+j,none⟩:=by
 unfold Addr.add
 split
 ·rename_i e;subst e;cases a;simp at h;simp[h]
 ·rfl
def Ut (W:World) (b o:Nat):Option Value:=W.cell? ⟨b,o,none⟩
theorem fz_all (W:World):Jc (Ut W) W:=fun _ _ _ h=>h
def Ph {α:Type} (P:Program) (W:World) (spare:Nat→Bool) (t:TypeId) (e:α→List D) (ok:α→Prop):Prop :=
 ∀ (H:Type) (enc:TypeId×Value→H) (fuel:Nat) (cs:List Value) (x:DataW H×List MemPlace),DataW.trod enc P W 0 spare true fuel t cs=some x→∃ a,RepL (Ut W) (e a) cs∧ok a
theorem Dq {t:TypeId} {k:IntKind} (ht:P.underlying t=some (.int k)):Ph P W spare t (fun n=>[.int k n]) (fun n=>(Lit.int k n).wf=true):=fun H enc fuel cs x h=>by
 obtain⟨n,rfl,_,hw⟩:=DataW.trod_int ht h
 exact⟨n,by simp[RepL,Rep],hw⟩
theorem j0 {t:TypeId} (ht:P.underlying t=some .string):Ph P W spare t (fun s=>[.str s]) (fun s=>s.length≤maxLen):=fun H enc fuel cs x h=>by
 obtain⟨s,rfl,_,hs⟩:=DataW.trod_string ht h
 obtain⟨⟨l⟩⟩:=s
 exact⟨l,by simp[RepL,Rep],by simpa [ByteArray.size] using hs⟩
theorem AAr {μ:Nat→Nat→Option Value} {ds:List D} {vs:List Value} (h:RepL μ ds vs) (ho:ds.all D.one=true):∀ x∈vs,x.oneCell'=true:=by
 have:=Ec (γ:=⟨μ,fun _=>none,fun _=>none⟩) (RepAL.of_map (γ:=⟨μ,fun _=>none,fun _=>none⟩) h) (by simpa [List.all_map,Function.comp_def,AV.one] using ho)
 exact this
theorem Od {α:Type} [Inhabited α] {t el:TypeId} {e:α→List D} {en:α→D} {ok:α→Prop} {sz:Nat} (ht:P.underlying t=some (.slice el)) (hsz:P.cellsOf el=sz) (hp:0 < sz) (hel:Ph P W spare el e ok)
  (hone:∀ a,(e a).all D.one=true) (hlen:∀ a,(e a).length=sz) (hen:∀ a,en a=.agg (e a)∨(e a=[en a]∧sz=1)):Ph P W spare t (fun l=>[Ab sz en l]) (fun l=>l.length≤maxLen∧∀ a∈l,ok a):=fun H enc fuel cs x h=>by
 rcases Go.Deep.open_slice ht h with⟨rfl,_⟩ | ⟨A,len,cap,m,n,D,Pl,rfl,_,hl,hm,hmm,_,hx⟩
 ·refine⟨[],?_,by simp[maxLen],by simp⟩
  simp only[RepL,Ab,List.length_nil]
  refine⟨_,[],rfl,?_,rfl⟩
  simp only[Rep]
  exact⟨none,0,rfl,Nat.le_refl _,Nat.zero_le _,fun h=>absurd h (by omega)⟩
 ·have hle:len≤m:=by rw[hmm];split<;>omega
  have key:∀ i,i < len→∃ a:α,ok a∧∃ cs',W.cells? 0 (A.add (i * sz)) sz=some cs'∧RepL (Ut W) (e a) cs':=by
   intro i hi
   obtain⟨cs',h1,h2⟩:=hx i (by omega)
   rw[hsz]at h1
   obtain⟨a,h3,h4⟩:=hel H enc n cs' _ h2
   exact⟨a,h4,cs',h1,h3⟩
  let g:Nat→α:=fun i=>if h:i < len then Classical.choose (key i h)else default
  have hg:∀ i,i < len→ok (g i)∧∃ cs',W.cells? 0 (A.add (i * sz)) sz=some cs'∧RepL (Ut W) (e (g i)) cs':=fun i hi=>by
   have:g i=Classical.choose (key i hi):=dif_pos hi
   rw[this]
   exact Classical.choose_spec (key i hi)
  refine⟨(List.range len).map g,?_,by simp;omega,fun a ha=>?_⟩
  ·simp only[RepL,Ab,List.length_map,List.length_range]
   refine⟨_,[],rfl,?_,rfl⟩
   simp only[Rep]
   refine⟨some A,cap,rfl,hl,hm,fun hn=>?_⟩
   obtain⟨cs0,c1,c2⟩:=(hg 0 hn).2
   obtain⟨_,c3,c4⟩:=World.cells?_some c1
   have hA:A.spot=none:=by
    have h5:=c4 0 hp
    rw[List.getElem?_eq_getElem (by omega)]at h5
    rw[Nat.zero_mul]at h5
    simp only[Addr.add,if_true]at h5
    exact zl h5
   refine⟨A.block,A.off,by cases A;simp at hA;simp[hA],fun i hi=>?_⟩
   obtain⟨cs',d1,d2⟩:=(hg i hi).2
   obtain⟨_,d3,d4⟩:=World.cells?_some d1
   have hce:cF en ((List.range len).map g) i=en (g i):=by
    simp only[cF,List.getD_eq_getElem?_getD,List.getElem?_map,List.getElem?_range hi,Option.map_some,Option.getD_some]
   have hcell:∀ j,j < sz→Ut W A.block (A.off+i * sz+j)=cs'[j]?:=fun j hj=>by
    rw[← d4 j hj,ab hA,ab rfl]
    rfl
   rw[hce]
   have h1:=AAr d2 (hone (g i))
   rcases hen (g i) with he | ⟨he,hs1⟩
   ·refine⟨.agg cs'.toArray,?_,?_,?_,fun j hj=>?_⟩
    ·rw[he];simp only[Rep];exact⟨cs',rfl,d2⟩
    ·simp[Value.cells];exact d3
    ·intro y hy;exact h1 y (by simpa [Value.cells] using hy)
    ·rw[hcell j hj];simp[Value.cells]
   ·rw[he]at d2
    simp only[RepL]at d2
    obtain⟨v,t',rfl,d5,rfl⟩:=d2
    have ho:(en (g i)).one=true:=by have:=hone (g i);rw[he]at this;simpa using this
    obtain⟨_,hc,_⟩:=Rep.cells_one d5 ho
    refine⟨v,d5,by rw[hc,hs1];rfl,fun y hy=>?_,fun j hj=>?_⟩
    ·rw[hc]at hy;simp at hy;rw[hy];exact h1 v (by simp)
    ·rw[hcell j hj,hc];rw[hs1]at hj;obtain rfl:j=0:=by omega
     rfl
  ·simp only[List.mem_map,List.mem_range]at ha
   obtain⟨i,hi,rfl⟩:=ha
   exact(hg i hi).1
theorem Eg {μ:Nat→Nat→Option Value}:∀ {a b:List D} {vs ws:List Value},RepL μ a vs→RepL μ b ws→RepL μ (a++b) (vs++ws)
 | [],_,_,_,h,k=>by simp only[RepL]at h;subst h;exact k
 | d :: l,b,_,ws,h,k=>by
  simp only[RepL]at h
  obtain⟨v,t,rfl,h1,h2⟩:=h
  simp only[List.cons_append,RepL]
  exact⟨v,_,rfl,h1,Eg h2 k⟩
theorem rep_agg {μ:Nat→Nat→Option Value} {ds:List D} {cs:Array Value} (h:RepL μ ds cs.toList):Rep μ (.agg ds) (.agg cs):=by
 simp only[Rep];exact⟨cs.toList,by simp,h⟩
theorem AAq {μ:Nat→Nat→Option Value}:RepL μ [] []:=by simp only[RepL]
theorem bi {μ:Nat→Nat→Option Value} {d:D} {l:List D} {v:Value} {vs:List Value} (h:Rep μ d v) (k:RepL μ l vs):RepL μ (d :: l) (v :: vs):=by simp only[RepL];exact⟨v,vs,rfl,h,k⟩
theorem ck {w:World} {r:Reach} {base:Nat} {t:TypeId} {v:Value} (ht:P.underlying t=some .string) (h:Value.okWide P w r base t v):v.cells=#[v]:=by
 simp only[Value.okWide,ht]at h
 unfold Cell.okWide at h
 cases v<;>first | rfl | (simp[Cell.ok,ht]at h;done) | (simp[Cell.ok,Value.ok,ht]at h)
theorem rep_one {μ:Nat→Nat→Option Value} {d:D} {v:Value} (h:RepL μ [d] #[v].toList):Rep μ d v:=by
 simp only[RepL]at h
 obtain⟨u,t,e,h1,rfl⟩:=h
 injection e with e1 _
 rw[e1];exact h1
theorem AAS {f:Nat} {ds:List D} (h:Ah P f ds (.bool true)) {args:Array Value} (hr:RepL (Ut W) ds args.toList) (hg:GlobW W:=by intro q hq;exact absurd hq (by simp[Wr])):Calls P f args W fun e w'=>e=.returned (.bool true)∧Below W.heap.size W w':=by
 have:=h.2 (Ut W) W args.toList hg (fz_all W) hr
 refine this.mono ?_
 rintro e w' ⟨v,ν,rfl,h1,_,_,h2⟩
 simp only[Rep]at h2
 exact⟨by rw[h2],h1⟩
end Go.Av
