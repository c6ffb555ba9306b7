/- A part of the proof. -/
import Derived.Test.YtppfnndafbhegaaGreatDoorPart6
set_option linter.unusedVariables false
set_option linter.unusedSimpArgs false
set_option maxRecDepth 1000000
namespace Go.Av
open Ch Go.Proofs
theorem M40 (a0:T27):m40 a0=((Option.bind (Option.bind (m43 a0) fun r=>some r) fun x1=>(if(0≤(if 7 < (x1.States.length:Int)then(7:Int)else(x1.States.length:Int)))then(if((if 7 < (x1.States.length:Int)then(7:Int)else(x1.States.length:Int))≤(x1.States.length:Int))then(if(0≤(if 3 < (x1.Conds.length:Int)then(3:Int)else(x1.Conds.length:Int)))then(if((if 3 < (x1.Conds.length:Int)then(3:Int)else(x1.Conds.length:Int))≤(x1.Conds.length:Int))then(if(0≤(if 14 < (x1.Transitions.length:Int)then(14:Int)else(x1.Transitions.length:Int)))then(if((if 14 < (x1.Transitions.length:Int)then(14:Int)else(x1.Transitions.length:Int))≤(x1.Transitions.length:Int))then(some (⟨x1.Name,(subL x1.Conds 0 (if 3 < (x1.Conds.length:Int)then(3:Int)else(x1.Conds.length:Int)).toNat),x1.Never,(subL x1.States 0 (if 7 < (x1.States.length:Int)then(7:Int)else(x1.States.length:Int)).toNat),x1.Start,(subL x1.Transitions 0 (if 14 < (x1.Transitions.length:Int)then(14:Int)else(x1.Transitions.length:Int)).toNat)⟩:T27))else none)else none)else none)else none)else none)else none)):Option (T27)):=by kernel_rfl
theorem duo_eq (c:T27):m40 c=some (few8 c):=by
 have h:=Few_eq c
 simp only[M40,bind_id,h,bs,minQ0 7 (by omega),minQ0 3 (by omega),minQ0 14 (by omega),minQ1,if_true]
 rfl
def mskV (n x:Int):Int:=IntKind.wrap .u16 ((((BitVec.ofInt (IntKind.bits .u16) x) &&& (BitVec.ofInt (IntKind.bits .u16) (IntKind.wrap .u16 ((IntKind.wrap .u16 ((1:Int) * 2 ^ (min n.toNat (IntKind.bits .u16)))) - 1)))).toNat:Int))
theorem msk_top:∀ k:Nat,k≤3→(BitVec.ofInt (IntKind.bits .u16) (IntKind.wrap .u16 ((IntKind.wrap .u16 ((1:Int) * 2 ^ (min (k:Int).toNat (IntKind.bits .u16)))) - 1))).toNat=2 ^ k - 1
 | 0,_=>by decide
 | 1,_=>by decide
 | 2,_=>by decide
 | 3,_=>by decide
 | k+4,h=>by omega
theorem mskV_lt {c:T27} (h:c.Conds.length≤3) (x:Int):∃ m:Nat,mskV (c.Conds.length:Int) x=m∧m < numV c:=by
 have h1:=msk_top _ h
 have h2:=numV_pos c
 have h3:=numV_le (c:=c) (by omega)
 unfold mskV
 rw[BitVec.toNat_and,h1]
 have h4:=Nat.and_le_right (n:=(BitVec.ofInt (IntKind.bits .u16) x).toNat) (m:=2 ^ c.Conds.length - 1)
 have h5:numV c=2 ^ c.Conds.length:=rfl
 generalize ((BitVec.ofInt (IntKind.bits .u16) x).toNat &&& 2 ^ c.Conds.length - 1)=m at h4 ⊢
 exact⟨m,n16 (by omega),by omega⟩
theorem runS_end {c:T27} {v e:Int} {x y:T37} {b:List (List UInt8)} (he:e≠0) (hs:stepM c x v=some (y,b,e)):∀ {l:List Int} {g:T37} {ls:List Int} {a:List (List UInt8)},cfgR c l g=some x→runS c (l++[v]) g ls a=some ([],[],e)
 | [],g,ls,a,h=>by
  injection h with h;subst h
  have h6:(e != 0)=true:=by simpa using he
  simp only[List.nil_append,runS,hs,Option.bind_some,h6,if_true]
 | w :: l,g,ls,a,h=>by
  simp only[cfgR]at h
  rw[Option.bind_eq_some_iff]at h
  obtain⟨z,h1,h2⟩:=h
  unfold stepO at h1
  rw[Option.bind_eq_some_iff]at h1
  obtain⟨r,h3,h4⟩:=h1
  split at h4
  ·rename_i h5
   injection h4 with h4
   subst h4
   have h6:(r.2.2 != 0)=false:=by simpa using h5
   rw[List.cons_append]
   unfold runS
   rw[h3,Option.bind_some,h6,if_neg (by decide)]
   exact runS_end he hs h2
  ·cases h4
theorem runS_pre {c:T27} (H:Fit c):∀ {l:List Int} {g:T37} {ls:List Int} {a:List (List UInt8)} {z:List Int×List (List UInt8)×Int},runS c l g ls a=some z→z.2.2=0→∃ b,z.2.1=a++b
 | [],g,ls,a,z,h,h0=>by
  injection h with h;subst h
  exact⟨[],by simp⟩
 | v :: l,g,ls,a,z,h,h0=>by
  unfold runS at h
  rw[Option.bind_eq_some_iff]at h
  obtain⟨r,h1,h2⟩:=h
  split at h2
  ·rename_i h3
   injection h2 with h2
   subst h2
   rw[h0]at h3
   simp at h3
  ·obtain⟨b,hb⟩:=runS_pre H h2 h0
   exact⟨r.2.1++b,by rw[hb,List.append_assoc]⟩
theorem wit_cfg {c:T27} {s:SS} (H:Fit c) (hc:checkM c=some 0) (hs:searchS c=some s) {leaf:Int} (hr:reachB s leaf=true):∃ w g,witM c leaf=some (w,0)∧w.length≤400∧cfgR c w (begG c)=some g∧g∈s.1∧g.Leaf=leaf:=by
 have I:=searchS_inv H hc hs
 have W:=searchS_wy H hc hs
 have b1:=I.le
 have h1:hasK (leavesS c) (leavesS c).length leaf=true:=hasK_iff.2 (leaf_in I hr)
 unfold witM
 rw[hc,Option.bind_some,if_neg (by decide),h1,if_neg (by decide),hs]
 rcases findR_cases (fun i=>(s.1.getD i default).Leaf==leaf) s.1.length with⟨h2,h3⟩ | ⟨k,k1,k2,k3⟩
 ·have h3:reachB s leaf=false:=h3
  rw[hr]at h3;cases h3
 ·have k2:leafI s leaf=(k:Int):=k2
  have d:decide ((k:Int) < 0)=false:=by simp
  have hl:=wayL_len s k k
  have hc:=cfgR_way W k k (Nat.le_refl _) k1
  refine⟨wayL s k k,s.1.getD k default,?_,by omega,hc,getD_mem k1,by simpa using k3⟩
  simp only[k2,d,Bool.false_eq_true,if_false,Int.toNat_natCast]
theorem step_bad {c:T27} {g:T37} {v:Int} (hc:checkM c=some 0) (hg:validS c g=true) (ha:allowedS c v=true):((enabledS c g.Leaf v).length=0→stepM c g v=some (⟨0,[]⟩,[],6))∧(1 < (enabledS c g.Leaf v).length→stepM c g v=some (⟨0,[]⟩,[],11)):=by
 constructor
 ·intro h
  unfold stepM
  simp only[hc,Option.bind_some,bne_self,hg,ha,h,Bool.not_true,Bool.false_eq_true,if_false]
  rfl
 ·intro h
  have h1:(((enabledS c g.Leaf v).length:Int)==0)=false:=by rw[beq_eq_false_iff_ne];omega
  have h2:(((enabledS c g.Leaf v).length:Int)==1)=false:=by rw[beq_eq_false_iff_ne];omega
  unfold stepM
  simp only[hc,Option.bind_some,bne_self,hg,ha,h1,h2,Bool.not_true,Bool.false_eq_true,if_false]
theorem findM_cases {c:T27} {r:List T44×Int} (h:findM c=some r):(∃ e,e≠0∧r=([],e))∨∃ s,checkM c=some 0∧searchS c=some s∧r=(findS c s,0):=by
 obtain⟨e,he⟩:=checkM_some c
 unfold findM at h
 rw[he,Option.bind_some]at h
 by_cases h0:(e != 0)=true
 ·rw[if_pos h0]at h
  injection h with h
  exact .inl ⟨e,by simpa using h0,h.symm⟩
 ·have e0:e=0:=by simpa using h0
  subst e0
  rw[if_neg h0]at h
  cases hs:searchS c with
  | none=>rw[hs]at h;injection h with h;exact .inl ⟨3,by decide,h.symm⟩
  | some s=>rw[hs]at h;injection h with h;exact .inr ⟨s,he,rfl,h.symm⟩
theorem M12 (a0:T27) (a1:List Int):m12 a0 a1=((Option.bind (Option.bind (Option.bind (m39) fun r=>some r) fun x1=>(if(!x1)=true then(some (.inr (false)))else(Option.bind (Option.bind (m40 a0) fun r=>some r) fun x3=>(Option.bind (Option.bind (m18 x3) fun r=>some r) fun x4=>(if(x4.2 != 0)=true then(some (.inr (true)))else(some (.inl (x4.1,x3.Name,x3.Conds,x3.Never,x3.States,x3.Start,x3.Transitions)))))))) (onS fun(y1:(List T44)×(List UInt8)×(List (List UInt8))×(List (List T116))×(List T119)×Int×(List T85))=>(Option.bind (Option.bind (some (.inl ())) (onS fun(_:Unit)=>(loopO (fun(s2:Bool×Int)=>((if(decide (s2.2 < (y1.1.length:Int)))=true then(if(0≤s2.2)then(if(s2.2 < (y1.1.length:Int))then(if(((y1.1.getD s2.2.toNat default).Kind != 1)&&((y1.1.getD s2.2.toNat default).Kind != 2))=true then(some (.inl (s2.1,(IntKind.wrap .i64 (s2.2+1)))))else(Option.bind (Option.bind (m21 (⟨y1.2.1,y1.2.2.1,y1.2.2.2.1,y1.2.2.2.2.1,y1.2.2.2.2.2.1,y1.2.2.2.2.2.2⟩:T27) (y1.1.getD s2.2.toNat default).State) fun r=>some r) fun x13=>(Option.bind ((if(0+x13.1.length) * 2≤140737488355328 then(if((0+x13.1.length)+1) * 2≤140737488355328 then((m32 (⟨y1.2.1,y1.2.2.1,y1.2.2.2.1,y1.2.2.2.2.1,y1.2.2.2.2.2.1,y1.2.2.2.2.2.2⟩:T27) ((([]:List Int)++x13.1)++([(y1.1.getD s2.2.toNat default).Valuation]:List Int))).bind fun r14_0=>some r14_0)else none)else none)) fun(x14:(((List Int)×(List (List UInt8))×Int)))=>(if(((x13.2 != 0) || (((y1.1.getD s2.2.toNat default).Kind==1)&&(x14.2.2 != 6))) || (((y1.1.getD s2.2.toNat default).Kind==2)&&(x14.2.2 != 11)))=true then(some (.inr (.inr (false))))else(some (.inl (false,(IntKind.wrap .i64 (s2.2+1)))))))))else none)else none)else(some (.inr (.inl s2.1)))):Option ((Bool×Int)⊕((Bool)⊕(Bool))))) (true,(0:Int))))) (onS fun(y3:Bool)=>(Option.bind (if(!y3)=true then(some (.inr (true)))else(some (.inl ()))) (onS fun(_:Unit)=>(Option.bind (Option.bind (some (.inl ())) (onS fun(_:Unit)=>(loopO (fun(s4:(List Int)×Int)=>((if((decide (s4.2 < (a1.length:Int)))&&(decide (s4.2 < 12)))=true then(if(0≤s4.2)then(if(s4.2 < (a1.length:Int))then(if(0≤(y1.2.2.1.length:Int))then(Option.bind (Option.bind (m20 (⟨y1.2.1,y1.2.2.1,y1.2.2.2.1,y1.2.2.2.2.1,y1.2.2.2.2.2.1,y1.2.2.2.2.2.2⟩:T27) (IntKind.wrap .u16 ((((BitVec.ofInt (IntKind.bits .u16) (a1.getD s4.2.toNat default)) &&& (BitVec.ofInt (IntKind.bits .u16) (IntKind.wrap .u16 ((IntKind.wrap .u16 ((1:Int) * 2 ^ (min (y1.2.2.1.length:Int).toNat (IntKind.bits .u16)))) - 1)))).toNat:Int)))) fun r=>some r) fun x25=>(if x25=true then(if((s4.1.length+1) * 2≤140737488355328)then(some (.inl ((s4.1++([(IntKind.wrap .u16 ((((BitVec.ofInt (IntKind.bits .u16) (a1.getD s4.2.toNat default)) &&& (BitVec.ofInt (IntKind.bits .u16) (IntKind.wrap .u16 ((IntKind.wrap .u16 ((1:Int) * 2 ^ (min (y1.2.2.1.length:Int).toNat (IntKind.bits .u16)))) - 1)))).toNat:Int)))]:List Int)),(IntKind.wrap .i64 (s4.2+1)))))else none)else(some (.inl (s4.1,(IntKind.wrap .i64 (s4.2+1)))))))else none)else none)else none)else(some (.inr (.inl s4.1)))):Option (((List Int)×Int)⊕(((List Int))⊕(Bool))))) ([],(0:Int))))) (onS fun(y5:(List Int))=>(Option.bind (Option.bind (m32 (⟨y1.2.1,y1.2.2.1,y1.2.2.2.1,y1.2.2.2.2.1,y1.2.2.2.2.2.1,y1.2.2.2.2.2.2⟩:T27) y5) fun r=>some r) fun x27=>(Option.bind (Option.bind (m28o0 (⟨y1.2.1,y1.2.2.1,y1.2.2.2.1,y1.2.2.2.2.1,y1.2.2.2.2.2.1,y1.2.2.2.2.2.2⟩:T27)) fun r=>some r) fun x28=>(Option.bind (Option.bind (m35 (⟨y1.2.1,y1.2.2.1,y1.2.2.2.1,y1.2.2.2.2.1,y1.2.2.2.2.2.1,y1.2.2.2.2.2.2⟩:T27)) fun r=>some r) fun x29=>(if((x27.2.2 != 0) || (decide ((x27.2.1.length:Int) < (x28.2.1.length:Int))))=true then(some false)else(if(x29.2 != 0)=true then(some (x29.2==3))else(Option.bind (Option.bind (m32 x29.1 y5) fun r=>some r) fun x34=>(Option.bind ((if(x34.2.2==0)=true→0≤(x28.2.1.length:Int)then(if(x34.2.2==0)=true→(x28.2.1.length:Int)≤(x27.2.1.length:Int)then((if(x34.2.2==0)=true then m41 (subL x27.2.1 (x28.2.1.length:Int).toNat (x27.2.1.length - (x28.2.1.length:Int).toNat)) x34.2.1 else some default).bind fun r35_0=>some r35_0)else none)else none)) fun(x35:(Bool))=>(some ((x34.2.2==0)&&x35))))))))))))))))):Option (Bool)):=by kernel_rfl
set_option maxHeartbeats 4000000 in
theorem plain12 {c:T27} {l:List Int} (_:ok27 c) (_:l.length≤maxLen∧∀ x∈l,(Lit.int .u16 x).wf=true):m12 c l=some true:=by
 have T:=few8_tiny c
 have H:=T.fit
 have hn3:=T.conds
 have hn:(few8 c).Conds.length≤12:=by omega
 have q0:=Mo.mAwake_true
 have q1:=duo_eq c
 have q2:=Findings_eq H hn
 have q3:=Witness_eq H hn
 have q4:∀ d:T27,Fit d→∀ w:List Int,w.length≤1000→m32 d w=Ch.runM d w:=fun d hd w hw=>Run_eq d hd w hw
 have q5:=fun v=>Allowed_eq (few8 c) H v
 have q6:=Start_eq (few8 c) H
 have q7:=Flatten_eq T
 have q8:=fun(a b:List (List UInt8)) ha=>SameStrings_eq a b ha
 have hM:=fun x=>mskV_lt (c:=few8 c) hn3 x
 have w1:∀ n:Nat,n≤1000000→IntKind.wrap .i64 ((n:Int)+1)=((n+1:Nat):Int):=fun n hn=>by rw[w64 (by omega) (by omega)];omega
 obtain⟨r,hr⟩:=findM_some (few8 c)
 replace q2:=q2.trans hr
 rcases findM_cases hr with⟨e,he,rfl⟩ | ⟨s,he,hs,rfl⟩
 ·have h0:(e != 0)=true:=by simpa using he
  simp only[M12,bind_id,q0,q1,q2,bs,Bool.not_true,Bool.false_eq_true,if_false,eta,h0,if_true,or_]
 ·have h0:((0:Int) != 0)=false:=rfl
  have I:=searchS_inv H he hs
  have W:=searchS_wy H he hs
  have fl:=findS_len H s
  simp only[M12,bind_id,q0,q1,q2,eta,h0,Bool.not_true,Bool.false_eq_true,if_false,bs,ol]
  generalize m21=G3 at q3 ⊢
  generalize m32=G4 at q4 ⊢
  generalize m20=G5 at q5 ⊢
  generalize m28o0=G6 at q6 ⊢
  generalize m35=G7 at q7 ⊢
  generalize m41=G8 at q8 ⊢
  let p:Nat→Bool:=fun i=>badK ((findS (few8 c) s).getD i default)
  have hst:startM (few8 c)=some (0,(startS (few8 c)).2.2,(startS (few8 c)).1,(startS (few8 c)).2.1):=by
   unfold startM;rw[he];rfl
  have rM:∀ w,Ch.runM (few8 c) w=runS (few8 c) w (begG (few8 c)) [(startS (few8 c)).1] (startS (few8 c)).2.2:=fun w=>by
   unfold Ch.runM
   rw[hst];rfl
  refine on_l (y:=!anyR p (findS (few8 c) s).length) ?_ ?_
  ·have e0:(true,(0:Int))=(fun i:Nat=>(!anyR p i,(i:Int))) 0:=rfl
   rw[e0]
   refine loop_st (findS (few8 c) s).length (fun i:Nat=>(!anyR p i,(i:Int))) (Sum.inl _) (fun i hi=>?_) (by simp only[lt_irr,decide_false,Bool.false_eq_true,if_false])
   have hm:=findS_mem (getD_mem hi)
   have w2:=w1 i (by omega)
   rw[anyR_app]
   have e1:p i=badK ((findS (few8 c) s).getD i default):=rfl
   simp only[inL hi,decide_true,Int.toNat_natCast,if_true,w2,eta,e1,bs,q3]
   obtain⟨x,hx⟩:∃ x,x=(findS (few8 c) s).getD i default:=⟨_,rfl⟩
   simp only[← hx]at hm ⊢
   clear hx
   have bad:∀ (leaf v kind err:Int) (u t:Int),reachB s leaf=true→x=⟨kind,leaf,v,u,t⟩→err≠0→(∀ g,g∈s.1→g.Leaf=leaf→stepM (few8 c) g v=some (⟨0,[]⟩,[],err))→∃ w,witM (few8 c) leaf=some (w,0)∧(0+w.length) * 2≤140737488355328∧(0+w.length+1) * 2≤140737488355328∧G4 (few8 c) (([]++w)++[v])=some ([],[],err):=fun leaf v kind err u t h1 h2 h3 h4=>by
    obtain⟨w,g,a1,a2,a3,a4,a5⟩:=wit_cfg H he hs h1
    refine⟨w,a1,by omega,by omega,?_⟩
    rw[List.nil_append,q4 _ H _ (by simp;omega),rM]
    exact runS_end h3 (h4 g a4 a5) a3
   rcases hm with hm | hm | ⟨leaf,hl,hrb,rfl⟩ | ⟨t,ht,rfl⟩
   ·obtain⟨leaf,hl,hrb,hf⟩:=kind_mem.1 hm
    obtain⟨v,hv,ha,⟨_,h1,rfl⟩ | ⟨h1,_⟩⟩:=leafFd_some hf
    ·obtain⟨w,b1,b2,b3,b4⟩:=bad leaf v 1 6 _ _ hrb rfl (by decide) (fun g g1 g2=>by
      refine(step_bad he (I.ok g g1) ha).1 ?_
      rw[g2];exact h1)
     have d1:badK (⟨1,leaf,(v:Int),-1,-1⟩:T44)=true:=rfl
     simp only[show ((1:Int) != 1)=false from rfl,Bool.false_and,Bool.false_eq_true,if_false,b1,bs,eq_true b2,eq_true b3,if_true,b4,d1,Bool.or_true,Bool.not_true,show ((0:Int) != 0)=false from rfl,show ((6:Int) != 6)=false from rfl,show ((1:Int)==2)=false from rfl,Bool.and_false,Bool.or_self]
    ·cases h1
   ·obtain⟨leaf,hl,hrb,hf⟩:=kind_mem.1 hm
    obtain⟨v,hv,ha,⟨h1,_⟩ | ⟨_,h1,rfl⟩⟩:=leafFd_some hf
    ·cases h1
    ·obtain⟨w,b1,b2,b3,b4⟩:=bad leaf v 2 11 _ _ hrb rfl (by decide) (fun g g1 g2=>by
      refine(step_bad he (I.ok g g1) ha).2 ?_
      rw[g2];exact h1)
     have d1:∀ u t:Int,badK (⟨2,leaf,(v:Int),u,t⟩:T44)=true:=fun _ _=>rfl
     simp only[show ((2:Int) != 1)=true from rfl,show ((2:Int) != 2)=false from rfl,Bool.true_and,Bool.false_and,Bool.false_eq_true,if_false,b1,bs,eq_true b2,eq_true b3,if_true,b4,d1,Bool.or_true,Bool.not_true,show ((0:Int) != 0)=false from rfl,show ((11:Int) != 11)=false from rfl,show ((2:Int)==1)=false from rfl,Bool.and_false,Bool.or_self]
   ·have d1:badK (⟨3,leaf,0,-1,-1⟩:T44)=false:=rfl
    simp only[show ((3:Int) != 1)=true from rfl,show ((3:Int) != 2)=true from rfl,Bool.and_self,if_true,d1,Bool.or_false]
   ·have d1:badK (⟨4,-1,0,(t:Int),-1⟩:T44)=false:=rfl
    simp only[show ((4:Int) != 1)=true from rfl,show ((4:Int) != 2)=true from rfl,Bool.and_self,if_true,d1,Bool.or_false]
  ·cases hb:anyR p (findS (few8 c) s).length with
   | true=>simp only[Bool.not_true,Bool.not_false,if_true,bs,or_]
   | false =>
    simp only[Bool.not_true,Bool.not_false,Bool.false_eq_true,if_false,bs,ol]
    have kind:∀ k:Int,k=1∨k=2→∀ x∈findS (few8 c) s,x.Kind≠k:=fun k hk x hx e=>by
     obtain⟨i,hi,rfl⟩:=List.getElem_of_mem hx
     have h1:p i=false:=anyR_false.1 hb i hi
     have h1:badK ((findS (few8 c) s).getD i default)=false:=h1
     unfold badK at h1
     simp only[List.getD_eq_getElem?_getD,List.getElem?_eq_getElem hi,Option.getD_some,Bool.or_eq_false_iff,beq_eq_false_iff_ne]at h1
     rcases hk with rfl | rfl
     ·exact h1.1 e
     ·exact h1.2 e
    have one:=fun leaf h v hv ha=>one_enabled I (kind 1 (.inl rfl)) (kind 2 (.inr rfl)) (leaf:=leaf) h (v:=v) hv ha
    have hl12:min l.length 12≤12:=Nat.min_le_right _ _
    have hl1:min l.length 12≤l.length:=Nat.min_le_left _ _
    let G:Nat→List Int:=fun i=>if allowedS (few8 c) (mskV ((few8 c).Conds.length:Int) (l.getD i default))=true then[mskV ((few8 c).Conds.length:Int) (l.getD i default)]else[]
    have G1:∀ i,(G i).length≤1:=fun i=>by show (if _ then _ else _:List Int).length≤1;split<;>simp
    have Gl:=flatMap_len G1 (min l.length 12)
    have Gm:∀ v∈(List.range (min l.length 12)).flatMap G,∃ n:Nat,v=n∧n < numV (few8 c)∧allowedS (few8 c) v=true:=fun v hv=>by
     obtain⟨i,_,h2⟩:=List.mem_flatMap.1 hv
     have h2:v∈(if allowedS (few8 c) (mskV ((few8 c).Conds.length:Int) (l.getD i default))=true then[mskV ((few8 c).Conds.length:Int) (l.getD i default)]else[]:List Int):=h2
     split at h2
     ·rename_i h3
      simp only[List.mem_singleton]at h2
      subst h2
      obtain⟨m,m1,m2⟩:=hM (l.getD i default)
      exact⟨m,m1,m2,h3⟩
     ·cases h2
    refine bind_eq (loop_coll (min l.length 12) (fun i k=>((k,(i:Int)):List Int×Int)) G Sum.inl (fun i hi=>?_) ?_) ?_
    ·have hgl:=flatMap_len G1 i
     have d1:decide ((i:Int) < (l.length:Int))=true:=by simp;omega
     have d2:decide ((i:Int) < 12)=true:=by simp;omega
     have d3:((0:Int)≤(i:Int))=True:=eq_true (by omega)
     have d4:((i:Int) < (l.length:Int))=True:=eq_true (by omega)
     have d5:((0:Int)≤((few8 c).Conds.length:Int))=True:=eq_true (by omega)
     have d6:((((List.range i).flatMap G).length+1) * 2≤140737488355328)=True:=eq_true (by omega)
     have d7:=w1 i (by omega)
     simp only[d1,d2,d3,d4,d5,d6,d7,decide_true,Bool.and_self,if_true,Int.toNat_natCast,eta,q5,bs]
     show (if allowedS (few8 c) (mskV ((few8 c).Conds.length:Int) (l.getD i default))=true then _ else _)=_
     have e:G i=if allowedS (few8 c) (mskV ((few8 c).Conds.length:Int) (l.getD i default))=true then[mskV ((few8 c).Conds.length:Int) (l.getD i default)]else[]:=rfl
     rw[e]
     cases h5:allowedS (few8 c) (mskV ((few8 c).Conds.length:Int) (l.getD i default)) with
     | true=>simp only[h5,if_true];rfl
     | false=>simp only[h5,Bool.false_eq_true,if_false,List.append_nil]
    ·have d:(decide (((min l.length 12:Nat):Int) < (l.length:Int))&&decide (((min l.length 12:Nat):Int) < 12))=false:=by
      simp only[Bool.and_eq_false_iff,decide_eq_false_iff_not];omega
     simp only[d,Bool.false_eq_true,if_false]
    ·generalize (List.range (min l.length 12)).flatMap G=vs at Gl Gm
     have hbg:(begG (few8 c))∈s.1:=by
      have:=W.i0
      rw[← this];exact getD_mem I.pos
     obtain⟨z,z1,z2,z3,z4⟩:=run_sound he I hs one (l:=vs) (g:=begG (few8 c)) (ls:=[(startS (few8 c)).1]) (a:=(startS (few8 c)).2.2) Gm hbg (fun x hx=>by
      simp only[List.mem_singleton]at hx
      subst hx
      exact reachB_iff.2 ⟨_,hbg,rfl⟩)
     obtain⟨b,hb2⟩:=runS_pre H z1 z2
     have q4':=(q4 _ H vs (by omega)).trans ((rM vs).trans z1)
     replace q6:=q6.trans hst
     have d1:(z.2.2 != 0)=false:=by rw[z2];rfl
     have d2:decide ((z.2.1.length:Int) < ((startS (few8 c)).2.2.length:Int))=false:=by rw[hb2,List.length_append];simp;omega
     obtain⟨e,d,hf,hfc⟩:∃ e d,flatM (few8 c)=some (d,e)∧(e=3∨(e=0∧Flt (few8 c) s∧d=flatC (few8 c) s)):=by
      have hg:anyR (fun i=>badK ((findS (few8 c) s).getD i default)) (findS (few8 c) s).length=false:=hb
      unfold flatM
      simp only[he,Option.bind_some,bne_self,Bool.false_eq_true,if_false,hs,hg]
      by_cases hl:(limF (few8 c) s s.1.length || decide (120 < ((trF (few8 c) s s.1.length).length:Int)))=true
      ·rw[if_pos hl];exact⟨_,_,rfl,.inl rfl⟩
      ·rw[if_neg hl]
       simp only[Bool.or_eq_true,decide_eq_true_eq,not_or,Int.not_lt,Bool.not_eq_true]at hl
       exact⟨_,_,rfl,.inr ⟨rfl,⟨T,he,hs,hg,hl.1,by omega⟩,rfl⟩⟩
     replace q7:=q7.trans hf
     simp only[bs,ol,q4',q6,q7,d1,d2,Bool.or_self,Bool.false_eq_true,if_false,eta]
     rcases hfc with rfl | ⟨rfl,F,rfl⟩
     ·simp only[show ((3:Int) != 0)=true from rfl,if_true,show ((3:Int)==3)=true from rfl]
     ·have k2:∀ v∈vs,0≤v:=fun v hv=>by
       obtain⟨n,rfl,_⟩:=Gm v hv
       omega
      have q9:=q4 _ F.fitF vs (by omega)
      rcases F.runM k2 with⟨e,he,g1,g2⟩ | ⟨x,y,b,g0,gb,g1,g2⟩
      ·exfalso
       have g3:=(z1.symm.trans (rM vs).symm).trans g1
       injection g3 with g1
       subst g1
       exact he z2
      ·have g3:=(z1.symm.trans (rM vs).symm).trans g1
       have g1:=Option.some.inj g3
       have z5:z.2.1=(startS (few8 c)).2.2++b:=by rw[g1]
       replace q9:=q9.trans g2
       have e5:subL z.2.1 ((startS (few8 c)).2.2.length:Int).toNat (z.2.1.length - ((startS (few8 c)).2.2.length:Int).toNat)=b:=by
        rw[Int.toNat_natCast,z5,subL_eq (by simp),List.drop_left,List.length_append,Nat.add_sub_cancel_left,List.take_length]
       have e6:G8 b b=some true:=(q8 b b (by omega)).trans (by rw[beq_self_eq_true])
       have c1:((0:Int)≤((startS (few8 c)).2.2.length:Int))=True:=eq_true (by omega)
       have c2:(((startS (few8 c)).2.2.length:Int)≤(z.2.1.length:Int))=True:=eq_true (by rw[z5,List.length_append];omega)
       simp only[show ((0:Int) != 0)=false from rfl,show ((0:Int)==0)=true from rfl,Bool.false_eq_true,if_false,q9,bs,c1,c2,true_implies,if_true,e5,e6,Bool.and_self]
end Go.Av
