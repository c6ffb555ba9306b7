/- A part of the proof. -/
import Derived.Test.YtjibccpgeopfcaaGreatDoorPart5
set_option linter.unusedVariables false
set_option linter.unusedSimpArgs false
set_option maxRecDepth 100000
namespace Go.Av.Ch
theorem pass_eq {c:T27} (G:Good c) {x:Int} (hx:isS c x=true) {m:List Int} (M:MemOk c m) (leaf:Int) {a:List (List UInt8)} (ha:a.length≤100000):m77o0 x c leaf m a=some (m.set x.toNat (-1)):=by
 have he:=G.entry x hx
 have hl:=(isS_lt hx).2.2
 have h1:(a.length+(c.States.getD x.toNat default).Entry.length) * 16≤140737488355328:=by unfold stA at he;omega
 have h2:x < (m.length:Int):=by have:=M.len;have:=isS_iff.1 hx;omega
 have h3:x.toNat < m.length:=by have:=M.len;omega
 delta m77o0 d77o0
 simp only[↓JD.sg_m,↓JD.sq_m,↓JD.sc_m,↓JD.bk_m,↓JD.lp_m,↓JD.cd_m,↓JD.lu_m,↓JD.ct_m,↓JD.ce_m,↓JL.r_m,↓JL.z_m,↓JD.se_m,onE_r,↓Tr.run,↓Tr.run_nd,↓Tr.run_c3,↓Tr.run_c2,↓Tr.run_nx,↓onS,bind_ite,Option.bind_some,Option.bind_none,obR,isS_lt hx,h1,h2,h3,if_true]
 by_cases hh:(c.States.getD x.toNat default).History=true
 ·simp only[hh,if_true]
 ·have hh:=Bool.eq_false_iff.2 hh
  simp only[hh,Bool.false_eq_true,if_false]
  rw[set_same h3 (M.none hx hh)]
theorem enter_eq {c:T27} (G:Good c) (H:Fit c) {x:Int} (hx:isS c x=true) {m:List Int} (M:MemOk c m) (leaf:Int) {a:List (List UInt8)} (ha:a.length≤80000):m78o0 x c leaf m a=some (enterS c x m a):=by
 have hs:=H.states
 have hm:=M.len
 delta m78o0 d78o0
 simp only[↓JD.sg_m,↓JD.sq_m,↓JD.sc_m,↓JD.bk_m,↓JD.lp_m,↓JD.cd_m,↓JD.lu_m,↓JD.ct_m,↓JD.ce_m,↓JL.r_m,↓JL.z_m,↓JD.se_m,onE_r,↓Tr.run,↓Tr.run_nd,↓Tr.run_c3,↓Tr.run_c2,↓Tr.run_nx,↓onS,bind_ite,Option.bind_some,Option.bind_none,obR]
 refine enter_loop G (fun x m' a hx M' ha=>?_) _ _ _ _ hx M (by omega) (by omega)
 have hl:=(isS_lt hx).2.2
 have h2:x < (m.length:Int):=by have:=isS_iff.1 hx;omega
 have h3:x.toNat < m.length:=by omega
 have h4:subL m' 0 m.length=m':=subL_all (by rw[M'.len,hm])
 simp only[isS_lt hx,h2,h3,h4,implies_true,if_true,pass_eq G hx M' leaf ha,Option.bind_some]
 cases hc:comp c x with
 | true =>
  obtain⟨q1,q2⟩:=child_is G (nextS_child G M' hx hc)
  have q3:=isS_iff.1 q1
  unfold nextS stA at *
  simp only[if_true]
  by_cases hh:((c.States.getD x.toNat default).History&&(m'.getD x.toNat default != (-1:Int)))=true
  ·rw[if_pos hh]at q3
   have:(m'.getD x.toNat default==(-1:Int))=false:=by simp only[beq_eq_false_iff_ne,ne_eq];omega
   simp only[hh,this,if_true,Bool.false_eq_true,if_false]
  ·rw[if_neg hh]at q3
   have hh:=Bool.eq_false_iff.2 hh
   have:((c.States.getD x.toNat default).Initial==(-1:Int))=false:=by simp only[beq_eq_false_iff_ne,ne_eq];omega
   simp only[hh,this,if_true,Bool.false_eq_true,if_false]
 | false =>
  obtain⟨q1,q2⟩:=G.leafI x hx hc
  unfold stA at *
  simp only[q1,q2,Bool.false_and,Bool.false_eq_true,if_false,beq_self_eq_true,if_true]
  rw[set_same (by rw[M'.len];omega) (M'.none hx q2)]
theorem scope_eq {c:T27} (H:Fit c) {a b:Int} (ha:isS c a=true) (hb:isS c b=true):m80 c a b=some (scopeS c a b):=by
 have hs:=H.states
 have hla:=pathS_len c a
 have hlb:=pathS_len c b
 have hl:(pathS c b).tail.length≤100000:=by rw[List.length_tail];omega
 delta m80 d80
 simp only[↓JD.sg_m,↓JD.sq_m,↓JD.sc_m,↓JD.bk_m,↓JD.lp_m,↓JD.cd_m,↓JD.lu_m,↓JD.ct_m,↓JD.ce_m,↓JL.r_m,↓JL.z_m,↓JD.se_m,onE_r,↓Tr.run,↓Tr.run_nd,↓Tr.run_c3,↓Tr.run_c2,↓Tr.run_nx,↓onS,bind_ite,Option.bind_some,Option.bind_none,obR,Path_eq c H,Option.bind_some,Int.reduceLE,pathS_pos ha,pathS_pos hb,if_true,onS_l,Int.toNat_one,tail_sub,containsI_eq _ _ hl]
 rw[show ((pathS c a).length - 1)=(pathS c a).tail.length by rw[List.length_tail]]
 rw[loop_ex (pathS c a).tail.length (fun i=>if hasK (pathS c b).tail (pathS c b).tail.length ((pathS c a).tail.getD i default)=true then some ((pathS c a).tail.getD i default)else none) ?_ ?_,firstR_find,orK_getD];rfl
 ·intro i hi
  rw[List.length_tail]at hi
  have hi':i < (pathS c a).tail.length:=by rw[List.length_tail];exact hi
  have hta:(pathS c a).tail.length≤1000:=by rw[List.length_tail];omega
  simp only[exB_ite,exB_some,exB_none]
  simp only[inL hi',decide_true,Int.toNat_natCast,if_true,wr1 hi' (by omega)]
 ·(simp only[lt_irr,decide_false,Bool.false_eq_true,if_false];try rfl)
theorem leave_key {c:T27} (G:Good c) (s:Int) {p:List Int} {S X:Type} {b:S→Option (S⊕X)} (mk:Int→Int→List Int→List (List UInt8)→S) (out:List Int×List (List UInt8)→X)
  (hb:∀ (pre l:List Int) (x last:Int) (m:List Int) (a:List (List UInt8)),p=pre++x :: l→isS c x=true→MemOk c m→((last = -1∧(stA c x).History=false)∨childS c last x=true)→a.length≤90000 →
   b (mk last (pre.length:Int) m a)=if(x==s)=true then some (.inr (out (m,a)))else some (.inl (mk x ((pre.length+1:Nat):Int) (if((stA c x).History&&(last != (-1:Int)))=true then m.set x.toNat last else m) (a++(stA c x).Exit))))
  (he:∀ last m a,b (mk last (p.length:Int) m a)=some (.inr (out (m,a)))) :
  ∀ (n:Nat) (pre:List Int) (x last:Int) (m:List Int) (a:List (List UInt8)),p=pre++pathS c x→x.toNat≤n→isS c x=true→MemOk c m→((last = -1∧(stA c x).History=false)∨childS c last x=true)→a.length+8 * (n+1)≤90000 →
   loopO b (mk last (pre.length:Int) m a)=some (out (leaveS c s (pathS c x) last m a)):=by
 intro n
 induction n with
 | zero =>
  intro pre x last m' a hpre hn hx M' hl ha
  have he8:=G.exit_ x hx
  rw[pathS_step hx]at hpre ⊢
  rw[loopO_eq,hb pre _ x last m' a hpre hx M' hl (by omega)]
  unfold leaveS
  by_cases hxs:(x==s)=true
  ·simp only[hxs,if_true,Option.bind_some]
  ·simp only[hxs,if_false,Bool.false_eq_true,Option.bind_some]
   cases ht:topB c x with
   | false=>have:=(parent_is G hx ht).2.1;omega
   | true =>
    rw[ht]at hpre
    simp only[if_true]at hpre ⊢
    rw[loopO_eq,show pre.length+1=p.length by rw[hpre];simp,he];rfl
 | succ n ih =>
  intro pre x last m' a hpre hn hx M' hl ha
  have he8:=G.exit_ x hx
  rw[pathS_step hx]at hpre ⊢
  rw[loopO_eq,hb pre _ x last m' a hpre hx M' hl (by omega)]
  unfold leaveS
  by_cases hxs:(x==s)=true
  ·simp only[hxs,if_true,Option.bind_some]
  ·simp only[hxs,if_false,Bool.false_eq_true,Option.bind_some]
   cases ht:topB c x with
   | true =>
    rw[ht]at hpre
    simp only[if_true]at hpre ⊢
    rw[loopO_eq,show pre.length+1=p.length by rw[hpre];simp,he];rfl
   | false =>
    obtain⟨p1,p2,p3⟩:=parent_is G hx ht
    rw[ht]at hpre
    simp only[Bool.false_eq_true,if_false]at hpre ⊢
    have:=ih (pre++[x]) (stA c x).Parent x _ (a++(stA c x).Exit) (by rw[hpre];simp[stA]) (by omega) p1 (mem_leave M' hx (hl.imp (·.1) id)) (.inr p3) (by rw[List.length_append];omega)
    rw[List.length_append]at this
    exact this
theorem leave_eq {c:T27} (G:Good c) (H:Fit c) (s:Int) {leaf:Int} (hx:isS c leaf=true) (hc:comp c leaf=false) {m:List Int} (M:MemOk c m):m81o0 s c leaf m []=some (leaveS c s (pathS c leaf) (-1) m []):=by
 have hs:=H.states
 have hm:=M.len
 have hp:=pathS_len c leaf
 have hlf:=(isS_lt hx).2.2
 have hh:=(G.leafI leaf hx hc).2
 delta m81o0 d81o0
 simp only[↓JD.sg_m,↓JD.sq_m,↓JD.sc_m,↓JD.bk_m,↓JD.lp_m,↓JD.cd_m,↓JD.lu_m,↓JD.ct_m,↓JD.ce_m,↓JL.r_m,↓JL.z_m,↓JD.se_m,onE_r,↓Tr.run,↓Tr.run_nd,↓Tr.run_c3,↓Tr.run_c2,↓Tr.run_nx,↓onS,bind_ite,Option.bind_some,Option.bind_none,obR,Path_eq c H,onS_l]
 generalize hP:pathS c leaf=p at *
 rw[show leaveS c s p (-1) m []=leaveS c s (pathS c leaf) (-1) m [] by rw[hP]]
 refine leave_key G s (p:=p) (fun last i m a=>(last,i,m,a)) id (fun pre l x last m' a hpre hx M' hl ha=>?_) (fun last m' a=>?_) leaf.toNat [] leaf (-1) m [] (by rw[hP];rfl) (Nat.le_refl _) hx M (.inl ⟨rfl,hh⟩) (by simp;omega)
 ·have hi:pre.length < p.length:=by rw[hpre];simp
  have hg:p.getD pre.length default=x:=by rw[hpre];simp[List.getD_eq_getElem?_getD]
  have he8:=G.exit_ x hx
  have h1:(a.length+(c.States.getD x.toNat default).Exit.length) * 16≤140737488355328:=by unfold stA at he8;omega
  have h2:x < (m.length:Int):=by have:=isS_iff.1 hx;omega
  have h3:x.toNat < m.length:=by have:=(isS_lt hx).2.2;omega
  have h4:subL m' 0 m.length=m':=subL_all (by rw[M'.len,hm])
  simp only[inL hi,decide_true,Int.toNat_natCast,if_true,hg,isS_lt hx,h1,h2,h3,h4,wr1 hi (by omega)]
  refine ite_else ?_
  unfold stA
  by_cases hh:((c.States.getD x.toNat default).History&&(last != (-1:Int)))=true
  ·simp only[hh,if_true];rfl
  ·simp only[hh,if_false,Bool.false_eq_true];rfl
 ·simp only[lt_irr,decide_false,Bool.false_eq_true,if_false];rfl
theorem around_fold {c:T27} (G:Good c) {l:List Int} (hl:∀ x∈l,isS c x=true) (h1:l.length≤2000) {m:List Int} (M:MemOk c m) {a:List (List UInt8)} (ha:a.length≤60000) {f:List Int×List (List UInt8)→Nat→Option (List Int×List (List UInt8))}
  (hf:∀ (x:Int) (i:Nat) (m':List Int) (a':List (List UInt8)),i < l.length→l.getD i 0=x→isS c x=true→MemOk c m'→a'.length≤100000→f (m',a') i=some (m'.set x.toNat (-1),a'++(stA c x).Entry)) :
  (dn l.length l.length).foldlM f (m,a)=some (aroundS c l m a):=by
 have key:∀ k,k≤l.length→(dn l.length k).foldlM f (m,a)=some (aroundS c (l.drop (l.length - k)) m a):=by
  intro k
  induction k with
  | zero=>intro _;simp[dn,aroundS]
  | succ k ih =>
   intro hk
   have e:dn l.length (k+1)=dn l.length k++[l.length - 1 - k]:=by unfold dn;rw[List.range_succ,List.map_append];rfl
   have hi:l.length - 1 - k < l.length:=by omega
   have hd:l.drop (l.length - (k+1))=l.getD (l.length - 1 - k) 0 :: l.drop (l.length - k):=by
    rw[show l.length - (k+1)=l.length - 1 - k by omega,List.drop_eq_getElem_cons hi,show l.length - 1 - k+1=l.length - k by omega]
    simp[List.getD_eq_getElem?_getD,List.getElem?_eq_getElem hi]
   have hx:isS c (l.getD (l.length - 1 - k) 0)=true:=hl _ (by rw[List.getD_eq_getElem?_getD,List.getElem?_eq_getElem hi];exact List.getElem_mem hi)
   obtain⟨k1,k2⟩:=aroundS_ok G (a:=a) M (l.drop (l.length - k)) fun x hx=>hl x (List.mem_of_mem_drop hx)
   rw[e,List.foldlM_append,ih (by omega),hd]
   show (f _ _).bind _=_
   rw[hf _ _ _ _ hi rfl hx k1 (by rw[List.length_drop]at k2;omega)]
   rfl
 have:=key l.length (Nat.le_refl _)
 rwa [Nat.sub_self,List.drop_zero]at this
theorem into_eq {c:T27} (G:Good c) (H:Fit c) {to:Int} (ht:isS c to=true) (s:Int) (leaf:Int) {m:List Int} (M:MemOk c m) {a:List (List UInt8)} (ha:a.length≤60000) :
  m41o0 to s c leaf m a=some (enterS c to (aroundS c (untilS s (pathS c to).tail) m a).1 (aroundS c (untilS s (pathS c to).tail) m a).2):=by
 have hs:=H.states
 have hm:=M.len
 have hp:=pathS_len c to
 have hl:(pathS c to).tail.length≤100000:=by rw[List.length_tail];omega
 obtain⟨u1,u2⟩:=until_eq (s:=s) (pathS c to).tail
 have hu:=untilS_len (s:=s) (l:=(pathS c to).tail)
 have e1:(d41o0_1 to s c leaf m a).m=some (pathS c to).tail:=by
  delta d41o0_1
  simp only[↓JD.sg_m,↓JD.sq_m,↓JD.sc_m,↓JD.bk_m,↓JD.lp_m,↓JD.cd_m,↓JD.lu_m,↓JD.ct_m,↓JD.ce_m,↓JL.r_m,↓JL.z_m,↓JD.se_m,onE_r,↓Tr.run,↓Tr.run_nd,↓Tr.run_c3,↓Tr.run_c2,↓Tr.run_nx,↓onS,bind_ite,Option.bind_some,Option.bind_none,obR,Path_eq c H,Option.bind_some,Int.reduceLE,pathS_pos ht,if_true,Int.toNat_one,tail_sub]
 have e2:(d41o0_2 to s c leaf m a (pathS c to).tail).m=some (untilS s (pathS c to).tail):=by
  delta d41o0_2
  simp only[↓JD.sg_m,↓JD.sq_m,↓JD.sc_m,↓JD.bk_m,↓JD.lp_m,↓JD.cd_m,↓JD.lu_m,↓JD.ct_m,↓JD.ce_m,↓JL.r_m,↓JL.z_m,↓JD.se_m,onE_r,↓Tr.run,↓Tr.run_nd,↓Tr.run_c3,↓Tr.run_c2,↓Tr.run_nx,↓onS,bind_ite,Option.bind_some,Option.bind_none,obR,indexI_eq _ _ hl]
  rw[← u1]
  by_cases h0:decide (0≤findR (fun i=>s==(pathS c to).tail.getD i default) (pathS c to).tail.length)=true
  ·have h1:0≤findR (fun i=>s==(pathS c to).tail.getD i default) (pathS c to).tail.length:=by simpa using h0
   simp only[h1,u2,decide_true,if_true]
  ·simp only[h0,if_false,Bool.false_eq_true]
 have e3:(d41o0_3 to s c leaf m a (pathS c to).tail (untilS s (pathS c to).tail)).m=some ():=by
  delta d41o0_3
  simp only[↓JD.sg_m,↓JD.sq_m,↓JD.sc_m,↓JD.bk_m,↓JD.lp_m,↓JD.cd_m,↓JD.lu_m,↓JD.ct_m,↓JD.ce_m,↓JL.r_m,↓JL.z_m,↓JD.se_m,onE_r,↓Tr.run,↓Tr.run_nd,↓Tr.run_c3,↓Tr.run_c2,↓Tr.run_nx,↓onS,bind_ite,Option.bind_some,Option.bind_none,obR,m76o0,d76o0]
 obtain⟨r1,r2⟩:=aroundS_ok G (a:=a) M (untilS s (pathS c to).tail) fun x hx=>tail_is x (untilS_sub x hx)
 rw[List.length_tail]at hu
 delta m41o0
 rw[show (d41o0_0 to s c leaf m a).m=some () from rfl,Option.bind_some,e1,Option.bind_some,e2,Option.bind_some,e3,Option.bind_some,if_pos (by omega)]
 rw[around_fold G (fun x hx=>tail_is x (untilS_sub x hx)) (by omega) M ha ?_,Option.bind_some]
 ·delta d41o0_p
  have h4:subL (aroundS c (untilS s (pathS c to).tail) m a).1 0 m.length=(aroundS c (untilS s (pathS c to).tail) m a).1:=subL_all (by rw[r1.len,hm])
  simp only[↓JD.sg_m,↓JD.sq_m,↓JD.sc_m,↓JD.bk_m,↓JD.lp_m,↓JD.cd_m,↓JD.lu_m,↓JD.ct_m,↓JD.ce_m,↓JL.r_m,↓JL.z_m,↓JD.se_m,onE_r,↓Tr.run,↓Tr.run_nd,↓Tr.run_c3,↓Tr.run_c2,↓Tr.run_nx,↓onS,bind_ite,Option.bind_some,Option.bind_none,obR,h4,enter_eq G H ht r1 leaf (a:=(aroundS c (untilS s (pathS c to).tail) m a).2) (by omega)]
 ·intro x i m' a' hi hg hx M' ha'
  have h4:subL m' 0 m.length=m':=subL_all (by rw[M'.len,hm])
  delta mr41o0
  simp only[hg,h4,pass_eq G hx M' leaf ha',Option.map_some]
theorem begun_eq {c:T27} (H:Fit c) {g:T41} (hl:g.Memory.length=c.States.length):m39o0 c g=some ():=by
 have hs:=H.states
 have h1:((0:Int)≤(g.Memory.length:Int)):=by omega
 have h2:(g.Memory.length:Int) * 8≤140737488355328:=by omega
 have h3:(g.Memory.length:Int)≤9223372036854775807:=by omega
 delta m39o0 d39o0
 simp only[↓JD.sg_m,↓JD.sq_m,↓JD.sc_m,↓JD.bk_m,↓JD.lp_m,↓JD.cd_m,↓JD.lu_m,↓JD.ct_m,↓JD.ce_m,↓JL.r_m,↓JL.z_m,↓JD.se_m,onE_r,↓Tr.run,↓Tr.run_nd,↓Tr.run_c3,↓Tr.run_c2,↓Tr.run_nx,↓onS,bind_ite,Option.bind_some,Option.bind_none,obR,h1,h2,h3,if_true]
theorem copyL_full {l:List Int} {n:Nat} (h:l.length=n):copyL (List.replicate n (0:Int)) l=l:=by
 subst h
 rw[copyL,List.length_replicate,List.take_length,List.drop_eq_nil_of_le (by simp),List.append_nil]
end Go.Av.Ch
set_option maxRecDepth 100000
namespace Go.Av.Ch
theorem untilS_all {s:Int} {l:List Int} (h:∀ x∈l,x≠s):untilS s l=l:=by
 unfold untilS
 induction l with
 | nil=>rfl
 | cons x l ih =>
  have hx:(s==x)=false:=by simp only[beq_eq_false_iff_ne,ne_eq];exact fun e=>h x (by simp) e.symm
  rw[List.takeWhile_cons,hx,ih fun y hy=>h y (List.mem_cons_of_mem _ hy)];rfl
def startM (c:T27):Option (Int×List (List UInt8)×Int×List Int):=(checkM c).bind fun e=>if(e != 0)=true then some (e,[],0,[])else some (0,(startS c).2.2,(startS c).1,(startS c).2.1)
theorem Start_eq (c:T27) (H:Fit c):m11o0 c=startM c:=by
 obtain⟨e,he⟩:=checkM_some c
 unfold startM
 rw[he,Option.bind_some]
 delta m11o0 d11o0
 by_cases h0:(e != 0)=true
 ·simp only[↓JD.sg_m,↓JD.sq_m,↓JD.sc_m,↓JD.bk_m,↓JD.lp_m,↓JD.cd_m,↓JD.lu_m,↓JD.ct_m,↓JD.ce_m,↓JL.r_m,↓JL.z_m,↓JD.se_m,onE_r,↓Tr.run,↓Tr.run_nd,↓Tr.run_c3,↓Tr.run_c2,↓Tr.run_nx,↓onS,bind_ite,Option.bind_some,Option.bind_none,obR,Check_eq c H,he,h0,if_true]
 ·have h0':e=0:=by simpa using h0
  subst h0'
  have G:=good_of he
  have hcap:=G.cap
  have hrep:m40 [-1] (c.States.length:Int)=some (List.replicate c.States.length (-1)):=by
   unfold m40
   simp only[Int.toNat_natCast]
   rw[if_pos (by omega)]
  have hb:=begun_eq H (g:=⟨0,List.replicate c.States.length (-1)⟩) (by simp)
  have hl:(List.replicate c.States.length (-1:Int)).length=c.States.length:=by simp
  have hu:untilS (-1) (pathS c c.Start).tail=(pathS c c.Start).tail:=untilS_all fun x hx=>by
   have:=isS_iff.1 (tail_is x hx);omega
  have hi:=into_eq G H G.start (-1) 0 mem_begin (a:=[]) (by simp)
  rw[hu]at hi
  have hend:=(startS_ok G H).1
  have hmend:=(validS_iff.1 hend).2.2.len
  simp only[↓JD.sg_m,↓JD.sq_m,↓JD.sc_m,↓JD.bk_m,↓JD.lp_m,↓JD.cd_m,↓JD.lu_m,↓JD.ct_m,↓JD.ce_m,↓JL.r_m,↓JL.z_m,↓JD.se_m,onE_r,↓Tr.run,↓Tr.run_nd,↓Tr.run_c3,↓Tr.run_c2,↓Tr.run_nx,↓onS,bind_ite,Option.bind_some,Option.bind_none,obR,Check_eq c H,he,h0,if_false,Bool.false_eq_true,hrep,hb,hl,Int.toNat_natCast,copyL_full hl,hi]
  rw[subL_all (by unfold startS at hmend;exact hmend)]
  rfl
theorem enabled_at {c:T27} {leaf v:Int} (h:0 < (enabledS c leaf v).length):∃ i,i < c.Transitions.length∧(enabledS c leaf v).getD 0 default=(i:Int)∧hasK (pathS c leaf) (pathS c leaf).length (c.Transitions.getD i default).From=true:=by
 have hm:(enabledS c leaf v).getD 0 default∈enabledS c leaf v:=getD_mem h
 generalize (enabledS c leaf v).getD 0 default=x at *
 unfold enabledS at hm
 obtain⟨i,hi,hx⟩:=List.mem_flatMap.1 hm
 unfold enabG at hx
 split at hx
 ·rename_i h1
  simp only[Bool.and_eq_true]at h1
  exact⟨i,List.mem_range.1 hi,by simpa using hx,h1.1⟩
 ·cases hx
end Go.Av.Ch
set_option maxRecDepth 100000
namespace Go.Av.Ch
def fewG (g:T41):T41:=⟨g.Leaf,cutL 14 g.Memory⟩
theorem minQ8 (k:Int) (hk:k≤1000) (L:Nat):(0+(if k < (L:Int)then k else(L:Int)).toNat) * 8≤140737488355328:=by split<;>omega
theorem fewConfig_eq (g:T41):m12 g=some (fewG g):=by
 delta m12 d12
 simp only[↓JD.sg_m,↓JD.sq_m,↓JD.sc_m,↓JD.bk_m,↓JD.lp_m,↓JD.cd_m,↓JD.lu_m,↓JD.ct_m,↓JD.ce_m,↓JL.r_m,↓JL.z_m,↓JD.se_m,onE_r,↓Tr.run,↓Tr.run_nd,↓Tr.run_c3,↓Tr.run_c2,↓Tr.run_nx,↓onS,bind_ite,Option.bind_some,Option.bind_none,obR,minQ0 14 (by omega),minQ1,minQ8 14 (by omega),if_true];rfl
end Go.Av.Ch
set_option maxRecDepth 1000000
namespace Go.Av
open Ch
theorem coll_all {A:Type} [Inhabited A] {l:List A} {n:Nat} {g:Nat→A} (hn:n=l.length) (h:∀ i,i < l.length→g i=l.getD i default):((List.range n).flatMap fun i=>[g i])=l:=by
 subst hn
 rw[coll_map]
 apply List.ext_getElem
 ·simp
 ·intro i h1 h2
  simp only[List.getElem_map,List.getElem_range]
  rw[h i h2,List.getD_eq_getElem?_getD,List.getElem?_eq_getElem h2];rfl
theorem cutL_all {A:Type} [Inhabited A] {k:Nat} {l:List A} (h:l.length≤k):cutL (k:Int) l=l:=by
 unfold cutL
 rw[List.nil_append]
 exact subL_all (by split<;>omega)
theorem few_few {c:T27} (S:Small c):fewS c=c:=by
 have e1:cutL 6 c.Conds=c.Conds:=cutL_all (k:=6) S.conds
 have e2:((List.range (min c.Never.length 4)).flatMap fun i=>[fewN c i])=c.Never:=coll_all (by have:=S.never;omega) fun i hi=>cutL_all (k:=6) (S.lits _ (getD_mem hi))
 have e3:((List.range (min c.States.length 12)).flatMap fun i=>[fewT c i])=c.States:=coll_all (by have:=S.states;omega) fun i hi=>by
  unfold fewT
  rw[show (9:Int)=((9:Nat):Int) from rfl,cutL_all (k:=9) (S.entry _ (getD_mem hi)),cutL_all (k:=9) (S.exit_ _ (getD_mem hi))]
 have e4:((List.range (min c.Transitions.length 24)).flatMap fun i=>[fewR c i])=c.Transitions:=coll_all (by have:=S.trans;omega) fun i hi=>by
  unfold fewR
  rw[show (9:Int)=((9:Nat):Int) from rfl,show (6:Int)=((6:Nat):Int) from rfl,cutL_all (k:=6) (S.when_ _ (getD_mem hi)),cutL_all (k:=9) (S.acts _ (getD_mem hi))]
 unfold fewS
 rw[e1,e2,e3,e4]
theorem M43o2 (a0:T27) (a1:T41) (a2:Int):m43o2 a0 a1 a2=((Option.bind (Option.bind (m20 a0) fun r=>some r) fun x1=>(if(x1 != 0)=true then none else(Option.bind (Option.bind (m42 a0 a1) fun r=>some r) fun x4=>(if(!x4)=true then none else(if((decide (a2 < 0)) || (decide ((a0.Transitions.length:Int)≤a2)))=true then none else(if(0≤a2)then(if(a2 < (a0.Transitions.length:Int))then(Option.bind (((m44 a0 a1.Leaf).bind fun r9_0=>((m45 r9_0 (a0.Transitions.getD a2.toNat default).From).bind fun r9_1=>some (r9_0,r9_1)))) fun(x9:((List Int)×Bool))=>(if(!x9.2)=true then none else(Option.bind (Option.bind (m39o0 a0 a1) fun r=>some r) fun x11=>(Option.bind (Option.bind (m80 a0 (a0.Transitions.getD a2.toNat default).From (a0.Transitions.getD a2.toNat default).To) fun r=>some r) fun x12=>(Option.bind (Option.bind (m81o0 x12 a0 a1.Leaf (copyL (List.replicate (a1.Memory.length:Int).toNat (0:Int)) a1.Memory) ([]:List (List UInt8))) fun r=>some r) fun x13=>(Option.bind ((if(x13.2.length+(a0.Transitions.getD a2.toNat default).Actions.length) * 16≤140737488355328 then some ()else none)) fun(x14:(Unit))=>(Option.bind (Option.bind (m41o0 (a0.Transitions.getD a2.toNat default).To x12 a0 a1.Leaf (subL x13.1 0 (a1.Memory.length:Int).toNat) (x13.2++(a0.Transitions.getD a2.toNat default).Actions)) fun r=>some r) fun x15=>(some (x15.2.2,x15.1,x15.2.1)))))))))else none)else none)))))):Option ((List (List UInt8))×Int×(List Int))):=by kernel_rfl
theorem fire_o2 {c:T27} (G:Ch.Good c) (H:Fit c) {g:T41} (hg:validS c g=true) {i:Nat} (hi:i < c.Transitions.length) (he:checkM c=some 0) (hon:hasK (pathS c g.Leaf) (pathS c g.Leaf).length (c.Transitions.getD i default).From=true) :
  m43o2 c g i=some ((fireS c g (c.Transitions.getD i default)).2.2,(fireS c g (c.Transitions.getD i default)).1,(fireS c g (c.Transitions.getD i default)).2.1):=by
 have hs:=H.states
 obtain⟨v1,v2,v3⟩:=validS_iff.1 hg
 have hml:=v3.len
 have hp:=pathS_len c g.Leaf
 have hlf:=(isS_lt v1).2.2
 have ha:=G.acts i hi
 obtain⟨hf,ht⟩:=G.tr i hi
 obtain⟨a1,a2⟩:=leaveS_ok G (s:=scopeS c (c.Transitions.getD i default).From (c.Transitions.getD i default).To) g.Leaf.toNat g.Leaf (-1) g.Memory [] (Nat.le_refl _) v1 v3 (.inl rfl)
 simp only[List.length_nil]at a2
 have h16:((leaveS c (scopeS c (c.Transitions.getD i default).From (c.Transitions.getD i default).To) (pathS c g.Leaf) (-1) g.Memory []).2.length+(c.Transitions.getD i default).Actions.length) * 16≤140737488355328:=by omega
 have hsub:∀ m:List Int,m.length=c.States.length→subL m 0 g.Memory.length=m:=fun m h=>subL_all (by rw[h,hml])
 have hrange:(decide ((i:Int) < 0) || decide ((c.Transitions.length:Int)≤(i:Int)))=false:=by simp;omega
 have d2:((0:Int)≤(i:Int))=True:=eq_true (by omega)
 have n0:((0:Int) != 0)=false:=rfl
 simp only[M43o2,bind_id,Check_eq c H,he,Valid_eq c H,hg,Path_eq c H,inL hi,d2,n0,Int.toNat_natCast,if_true,bs,containsI_eq _ _ (show (pathS c g.Leaf).length≤100000 by omega),hon,hrange,begun_eq H hml,scope_eq H hf ht,copyL_full (rfl:g.Memory.length=_),leave_eq G H _ v1 v2 v3,h16,
  hsub _ a1.len,Bool.not_true,Bool.false_eq_true,if_false]
 rw[into_eq G H ht _ _ a1 (by rw[List.length_append];omega)]
 rfl
theorem M13o1 (a0:T27) (a1:T41) (a2:Int):m13o1 a0 a1 a2=((orJ (Option.bind (Option.bind (m20 a0) fun r=>some r) fun x1=>(if(x1 != 0)=true then(some x1)else(Option.bind (Option.bind (m42 a0 a1) fun r=>some r) fun x4=>(if(!x4)=true then(some (8:Int))else(Option.bind (Option.bind (m19 a0 a2) fun r=>some r) fun x6=>(if(!x6)=true then(some (1:Int))else(Option.bind (Option.bind (m18 a0 a1.Leaf a2) fun r=>some r) fun x8=>(if((x8.length:Int)==(0:Int))=true then(some (6:Int))else(if((x8.length:Int)==(1:Int))=true then(Option.bind ((if(0:Int)≤(0:Int)then(if 0 < (x8.length:Int)then((m43o1 a0 a1 (x8.getD (0:Int).toNat default)).bind fun r13_0=>some r13_0)else none)else none)) fun(x13:(Int))=>(some x13))else(some (11:Int))))))))))) (Option.bind (Option.bind (m20 a0) fun r=>some r) fun x1=>(if(x1 != 0)=true then(some x1)else(Option.bind (Option.bind (m42 a0 a1) fun r=>some r) fun x4=>(if(!x4)=true then(some (8:Int))else(Option.bind (Option.bind (m19 a0 a2) fun r=>some r) fun x6=>(if(!x6)=true then(some (1:Int))else(Option.bind (Option.bind (m18 a0 a1.Leaf a2) fun r=>some r) fun x8=>(if((x8.length:Int)==(0:Int))=true then(some (6:Int))else(if((x8.length:Int)==(1:Int))=true then(Option.bind ((if(0:Int)≤(0:Int)then(if 0 < (x8.length:Int)then((m43o2 a0 a1 (x8.getD (0:Int).toNat default)).bind fun r13_0=>some r13_0)else none)else none)) fun(x13:(((List (List UInt8))×Int×(List Int))))=>none)else(some (11:Int)))))))))))):Option (Int)):=by kernel_rfl
theorem M13o2 (a0:T27) (a1:T41) (a2:Int):m13o2 a0 a1 a2=((orJ (Option.bind (Option.bind (m20 a0) fun r=>some r) fun x1=>(if(x1 != 0)=true then none else(Option.bind (Option.bind (m42 a0 a1) fun r=>some r) fun x4=>(if(!x4)=true then none else(Option.bind (Option.bind (m19 a0 a2) fun r=>some r) fun x6=>(if(!x6)=true then none else(Option.bind (Option.bind (m18 a0 a1.Leaf a2) fun r=>some r) fun x8=>(if((x8.length:Int)==(0:Int))=true then none else(if((x8.length:Int)==(1:Int))=true then(Option.bind ((if(0:Int)≤(0:Int)then(if 0 < (x8.length:Int)then((m43o1 a0 a1 (x8.getD (0:Int).toNat default)).bind fun r13_0=>some r13_0)else none)else none)) fun(x13:(Int))=>none)else none))))))))) (Option.bind (Option.bind (m20 a0) fun r=>some r) fun x1=>(if(x1 != 0)=true then none else(Option.bind (Option.bind (m42 a0 a1) fun r=>some r) fun x4=>(if(!x4)=true then none else(Option.bind (Option.bind (m19 a0 a2) fun r=>some r) fun x6=>(if(!x6)=true then none else(Option.bind (Option.bind (m18 a0 a1.Leaf a2) fun r=>some r) fun x8=>(if((x8.length:Int)==(0:Int))=true then none else(if((x8.length:Int)==(1:Int))=true then(Option.bind ((if(0:Int)≤(0:Int)then(if 0 < (x8.length:Int)then((m43o2 a0 a1 (x8.getD (0:Int).toNat default)).bind fun r13_0=>some r13_0)else none)else none)) fun(x13:(((List (List UInt8))×Int×(List Int))))=>(some (x13.1,x13.2.1,x13.2.2)))else none)))))))))):Option ((List (List UInt8))×Int×(List Int))):=by kernel_rfl
theorem bind_non {α β:Type} (m:Option α):(Option.bind m fun _=>(none:Option β))=none:=by cases m<;>rfl
theorem orJ_some {R:Type} {x:R} {b:Option R}:orJ (some x) b=some x:=rfl
theorem orJ_none {R:Type} {b:Option R}:orJ none b=b:=rfl
theorem step_o {c:T27} (G:Ch.Good c) (H:Fit c) (he:checkM c=some 0) (g:T41) (v:Int):(∃ e,m13o1 c g v=some e)∨∃ r,m13o2 c g v=some r∧r.1.length≤32000:=by
 have n0:((0:Int) != 0)=false:=rfl
 cases hv:validS c g with
 | false =>
  left
  simp only[M13o1,bind_id,Check_eq c H,he,bs,n0,Bool.false_eq_true,if_false,Valid_eq c H,hv,Bool.not_false,if_true,orJ_some]
  exact⟨_,rfl⟩
 | true =>
  cases ha:allowedS c v with
  | false =>
   left
   simp only[M13o1,bind_id,Check_eq c H,he,bs,n0,Bool.false_eq_true,if_false,Valid_eq c H,hv,Bool.not_true,Allowed_eq c H,ha,Bool.not_false,if_true,orJ_some]
   exact⟨_,rfl⟩
  | true =>
   by_cases h0:(((enabledS c g.Leaf v).length:Int)==0)=true
   ·left
    simp only[M13o1,bind_id,Check_eq c H,he,bs,n0,Bool.false_eq_true,if_false,Valid_eq c H,hv,Bool.not_true,Allowed_eq c H,ha,Enabled_eq c H,h0,if_true,orJ_some]
    exact⟨_,rfl⟩
   ·by_cases h1:(((enabledS c g.Leaf v).length:Int)==1)=true
    ·right
     have hl:(enabledS c g.Leaf v).length=1:=by have:=eq_of_beq h1;omega
     obtain⟨i,hi,hx,hon⟩:=enabled_at (c:=c) (leaf:=g.Leaf) (v:=v) (by omega)
     have hz:((0:Int) < ((enabledS c g.Leaf v).length:Int))=True:=eq_true (by omega)
     have z0:((0:Int)≤0)=True:=eq_true (by decide)
     have n1:(0:Int).toNat=0:=rfl
     have F:=fire_o2 G H hv hi he hon
     refine⟨((fireS c g (c.Transitions.getD i default)).2.2,(fireS c g (c.Transitions.getD i default)).1,(fireS c g (c.Transitions.getD i default)).2.1),?_,(fireS_ok G H hv hi).2⟩
     simp only[M13o2,bind_id,Check_eq c H,he,bs,n0,Bool.false_eq_true,if_false,Valid_eq c H,hv,Bool.not_true,Allowed_eq c H,ha,Enabled_eq c H,h0,h1,if_true,z0,hz,n1,hx,F,bind_non,orJ_none]
    ·left
     simp only[M13o1,bind_id,Check_eq c H,he,bs,n0,Bool.false_eq_true,if_false,Valid_eq c H,hv,Bool.not_true,Allowed_eq c H,ha,Enabled_eq c H,h0,h1,orJ_some]
     exact⟨_,rfl⟩
theorem Ch.awake_true:m5=some true:=by kernel_rfl
theorem fill_loop {R:Type} {k:Unit→Option R} {z:Option R} {x:List UInt8} (l:List (List UInt8)) (hl:l.length≤1000000) (hk:k ()=z) :
  (loopO (fun(s4:(List (List UInt8))×Int)=>((if(decide (s4.2 < (l.length:Int)))=true then(if(0≤s4.2)then(if(s4.2 < (s4.1.length:Int))then(if(s4.2.toNat < s4.1.length)then(some (.inl ((s4.1.set s4.2.toNat x),(IntKind.wrap .i64 (s4.2+1)))))else none)else none)else none)else(some (.inr (.inl ())))):Option (((List (List UInt8))×Int)⊕((Unit)⊕R)))) (l,(0:Int))).bind (onS k)=z:=by
 refine loop_done (fun m s=>s.1.length=l.length∧∃ i:Nat,s.2=(i:Int)∧i+m=l.length) l.length ⟨rfl,0,rfl,by omega⟩ (fun m s hs=>?_) hk
 obtain⟨y,j⟩:=s
 obtain⟨h1,i,h2,h3⟩:=hs
 simp only at h1 h2
 subst h2
 by_cases hm:m=0
 ·right
  have d:((i:Int) < (l.length:Int))=False:=eq_false (by omega)
  simp only[d,decide_false,Bool.false_eq_true,if_false]
 ·left
  have d1:((i:Int) < (l.length:Int))=True:=eq_true (by omega)
  have d2:((0:Int)≤(i:Int))=True:=eq_true (by omega)
  have d3:((i:Int) < (y.length:Int))=True:=eq_true (by omega)
  have d4:(i < y.length)=True:=eq_true (by omega)
  have w3:IntKind.wrap .i64 ((i:Int)+1)=((i+1:Nat):Int):=by rw[w64 (by omega) (by omega)];omega
  refine⟨(y.set i x,((i+1:Nat):Int)),by simp only[d1,d2,d3,d4,decide_true,if_true,Int.toNat_natCast,w3],m - 1,by omega,by simp only[List.length_set];exact h1,i+1,rfl,by omega⟩
theorem fill_ints {R:Type} {k:Unit→Option R} {z:Option R} (n:Nat) (l:List Int) (hn:n≤1000000) (hk:k ()=z) :
  (loopO (fun(s6:Int×(List Int))=>((if(decide (s6.1 < (n:Int)))=true then(if(0≤s6.1)then(if(s6.1 < (n:Int))then(if(s6.1.toNat < n)then(some (.inl ((IntKind.wrap .i64 (s6.1+1)),((subL s6.2 0 n).set s6.1.toNat (77:Int)))))else none)else none)else none)else(some (.inr (.inl ())))):Option ((Int×(List Int))⊕((Unit)⊕R)))) ((0:Int),l)).bind (onS k)=z:=by
 refine loop_done (fun m s=>∃ i:Nat,s.1=(i:Int)∧i+m=n) n ⟨0,rfl,by omega⟩ (fun m s hs=>?_) hk
 obtain⟨j,y⟩:=s
 obtain⟨i,h2,h3⟩:=hs
 simp only at h2
 subst h2
 by_cases hm:m=0
 ·right
  have d:((i:Int) < (n:Int))=False:=eq_false (by omega)
  simp only[d,decide_false,Bool.false_eq_true,if_false]
 ·left
  have d1:((i:Int) < (n:Int))=True:=eq_true (by omega)
  have d2:((0:Int)≤(i:Int))=True:=eq_true (by omega)
  have d4:(i < n)=True:=eq_true (by omega)
  have w3:IntKind.wrap .i64 ((i:Int)+1)=((i+1:Nat):Int):=by rw[w64 (by omega) (by omega)];omega
  exact⟨(((i+1:Nat):Int),(subL y 0 n).set i 77),by simp only[d1,d2,d4,decide_true,if_true,Int.toNat_natCast,w3],m - 1,by omega,i+1,rfl,by omega⟩
theorem none_loop {R:Type} {k:Unit→Option R} {z:Option R} (hk:k ()=z) :
  (loopO (fun(s2:Unit)=>((if(decide ((0:Int) < (0:Int)))=true then none else(some (.inr (.inl ())))):Option ((Unit)⊕((Unit)⊕R)))) ()).bind (onS k)=z:=by
 rw[loopO_eq];exact hk
theorem M4 (a0:T27) (a1:Int):m4 a0 a1=((orJ (Option.bind (Option.bind (Option.bind (m5) fun r=>some r) fun x1=>(if(!x1)=true then(some (.inr (false)))else(Option.bind (Option.bind (m6 a0) fun r=>some r) fun x3=>(Option.bind (Option.bind (m6 x3) fun r=>some r) fun x4=>(Option.bind (Option.bind (m11o0 x3) fun r=>some r) fun x5=>(if(x5.1 != 0)=true then(Option.bind (Option.bind (m10 x3 x4) fun r=>some r) fun x7=>(some (.inr (x7))))else(Option.bind (Option.bind (m12 (⟨x5.2.2.1,x5.2.2.2⟩:T41)) fun r=>some r) fun x8=>(Option.bind (Option.bind (m13o1 x3 (⟨x5.2.2.1,x5.2.2.2⟩:T41) a1) fun r=>some r) fun x9=>(some (.inl (x5.2.1,x3.Name,x3.Conds,x3.Never,x3.States,x3.Start,x3.Transitions,x4.Name,x4.Conds,x4.Never,x4.States,x4.Start,x4.Transitions,x5.2.2.1,x5.2.2.2,x8.Leaf,x8.Memory))))))))))) (onS fun(y1:(List (List UInt8))×(List UInt8)×(List (List UInt8))×(List (List T118))×(List T56)×Int×(List T58)×(List UInt8)×(List (List UInt8))×(List (List T118))×(List T56)×Int×(List T58)×Int×(List Int)×Int×(List Int))=>(Option.bind (Option.bind (some (.inl ())) (onS fun(_:Unit)=>(loopO (fun(s2:Unit)=>((if(decide ((0:Int) < (0:Int)))=true then none else(some (.inr (.inl ())))):Option ((Unit)⊕((Unit)⊕(Bool))))) ()))) (onS fun(_:Unit)=>(Option.bind (Option.bind (some (.inl ())) (onS fun(_:Unit)=>(loopO (fun(s3:(List (List UInt8))×Int)=>((if(decide (s3.2 < (([]:List (List UInt8)).length:Int)))=true then(if(0≤s3.2)then(if(s3.2 < (s3.1.length:Int))then(if(s3.2.toNat < s3.1.length)then(some (.inl ((s3.1.set s3.2.toNat ([67,72,65,78,71,69,68]:List UInt8)),(IntKind.wrap .i64 (s3.2+1)))))else none)else none)else none)else(some (.inr (.inl ())))):Option (((List (List UInt8))×Int)⊕((Unit)⊕(Bool))))) (([]:List (List UInt8)),(0:Int))))) (onS fun(_:Unit)=>(Option.bind (Option.bind (some (.inl ())) (onS fun(_:Unit)=>(loopO (fun(s4:(List (List UInt8))×Int)=>((if(decide (s4.2 < (y1.1.length:Int)))=true then(if(0≤s4.2)then(if(s4.2 < (s4.1.length:Int))then(if(s4.2.toNat < s4.1.length)then(some (.inl ((s4.1.set s4.2.toNat ([67,72,65,78,71,69,68]:List UInt8)),(IntKind.wrap .i64 (s4.2+1)))))else none)else none)else none)else(some (.inr (.inl ())))):Option (((List (List UInt8))×Int)⊕((Unit)⊕(Bool))))) (y1.1,(0:Int))))) (onS fun(_:Unit)=>(Option.bind (((m10 (⟨y1.2.1,y1.2.2.1,y1.2.2.2.1,y1.2.2.2.2.1,y1.2.2.2.2.2.1,y1.2.2.2.2.2.2.1⟩:T27) (⟨y1.2.2.2.2.2.2.2.1,y1.2.2.2.2.2.2.2.2.1,y1.2.2.2.2.2.2.2.2.2.1,y1.2.2.2.2.2.2.2.2.2.2.1,y1.2.2.2.2.2.2.2.2.2.2.2.1,y1.2.2.2.2.2.2.2.2.2.2.2.2.1⟩:T27)).bind fun r25_0=>((if r25_0=true then m14 (⟨y1.2.2.2.2.2.2.2.2.2.2.2.2.2.1,y1.2.2.2.2.2.2.2.2.2.2.2.2.2.2.1⟩:T41) (⟨y1.2.2.2.2.2.2.2.2.2.2.2.2.2.2.2.1,y1.2.2.2.2.2.2.2.2.2.2.2.2.2.2.2.2⟩:T41)else some default).bind fun r25_1=>some (r25_0,r25_1)))) fun(x25:(Bool×Bool))=>(some (x25.1&&x25.2))))))))))) (Option.bind (Option.bind (Option.bind (m5) fun r=>some r) fun x1=>(if(!x1)=true then(some (.inr (false)))else(Option.bind (Option.bind (m6 a0) fun r=>some r) fun x3=>(Option.bind (Option.bind (m6 x3) fun r=>some r) fun x4=>(Option.bind (Option.bind (m11o0 x3) fun r=>some r) fun x5=>(if(x5.1 != 0)=true then(Option.bind (Option.bind (m10 x3 x4) fun r=>some r) fun x7=>(some (.inr (x7))))else(Option.bind (Option.bind (m12 (⟨x5.2.2.1,x5.2.2.2⟩:T41)) fun r=>some r) fun x8=>(Option.bind (((m13o2 x3 (⟨x5.2.2.1,x5.2.2.2⟩:T41) a1).bind fun r9_0=>some (r9_0,x5))) fun(x9:(((List (List UInt8))×Int×(List Int))×(Int×(List (List UInt8))×Int×(List Int))))=>(some (.inl (x5.2.1,x9.1.1,x3.Name,x3.Conds,x3.Never,x3.States,x3.Start,x3.Transitions,x4.Name,x4.Conds,x4.Never,x4.States,x4.Start,x4.Transitions,x5.2.2.1,x5.2.2.2,x8.Leaf,x8.Memory,x9.1.2.1,x9.1.2.2,((⟨x9.2.2.2.1,x9.2.2.2.2⟩:T41).Memory.length:Int).toNat))))))))))) (onS fun(y5:(List (List UInt8))×(List (List UInt8))×(List UInt8)×(List (List UInt8))×(List (List T118))×(List T56)×Int×(List T58)×(List UInt8)×(List (List UInt8))×(List (List T118))×(List T56)×Int×(List T58)×Int×(List Int)×Int×(List Int)×Int×(List Int)×Nat)=>(Option.bind (Option.bind (some (.inl ())) (onS fun(_:Unit)=>(loopO (fun(s6:Int×(List Int))=>((if(decide (s6.1 < (y5.2.2.2.2.2.2.2.2.2.2.2.2.2.2.2.2.2.2.2.2:Int)))=true then(if(0≤s6.1)then(if(s6.1 < (y5.2.2.2.2.2.2.2.2.2.2.2.2.2.2.2.2.2.2.2.2:Int))then(if(s6.1.toNat < y5.2.2.2.2.2.2.2.2.2.2.2.2.2.2.2.2.2.2.2.2)then(some (.inl ((IntKind.wrap .i64 (s6.1+1)),((subL s6.2 0 y5.2.2.2.2.2.2.2.2.2.2.2.2.2.2.2.2.2.2.2.2).set s6.1.toNat (77:Int)))))else none)else none)else none)else(some (.inr (.inl ())))):Option ((Int×(List Int))⊕((Unit)⊕(Bool))))) ((0:Int),y5.2.2.2.2.2.2.2.2.2.2.2.2.2.2.2.2.2.2.2.1)))) (onS fun(_:Unit)=>(Option.bind (Option.bind (some (.inl ())) (onS fun(_:Unit)=>(loopO (fun(s7:(List (List UInt8))×Int)=>((if(decide (s7.2 < (y5.2.1.length:Int)))=true then(if(0≤s7.2)then(if(s7.2 < (s7.1.length:Int))then(if(s7.2.toNat < s7.1.length)then(some (.inl ((s7.1.set s7.2.toNat ([67,72,65,78,71,69,68]:List UInt8)),(IntKind.wrap .i64 (s7.2+1)))))else none)else none)else none)else(some (.inr (.inl ())))):Option (((List (List UInt8))×Int)⊕((Unit)⊕(Bool))))) (y5.2.1,(0:Int))))) (onS fun(_:Unit)=>(Option.bind (Option.bind (some (.inl ())) (onS fun(_:Unit)=>(loopO (fun(s8:(List (List UInt8))×Int)=>((if(decide (s8.2 < (y5.1.length:Int)))=true then(if(0≤s8.2)then(if(s8.2 < (s8.1.length:Int))then(if(s8.2.toNat < s8.1.length)then(some (.inl ((s8.1.set s8.2.toNat ([67,72,65,78,71,69,68]:List UInt8)),(IntKind.wrap .i64 (s8.2+1)))))else none)else none)else none)else(some (.inr (.inl ())))):Option (((List (List UInt8))×Int)⊕((Unit)⊕(Bool))))) (y5.1,(0:Int))))) (onS fun(_:Unit)=>(Option.bind (((m10 (⟨y5.2.2.1,y5.2.2.2.1,y5.2.2.2.2.1,y5.2.2.2.2.2.1,y5.2.2.2.2.2.2.1,y5.2.2.2.2.2.2.2.1⟩:T27) (⟨y5.2.2.2.2.2.2.2.2.1,y5.2.2.2.2.2.2.2.2.2.1,y5.2.2.2.2.2.2.2.2.2.2.1,y5.2.2.2.2.2.2.2.2.2.2.2.1,y5.2.2.2.2.2.2.2.2.2.2.2.2.1,y5.2.2.2.2.2.2.2.2.2.2.2.2.2.1⟩:T27)).bind fun r25_0=>((if r25_0=true then m14 (⟨y5.2.2.2.2.2.2.2.2.2.2.2.2.2.2.1,y5.2.2.2.2.2.2.2.2.2.2.2.2.2.2.2.1⟩:T41) (⟨y5.2.2.2.2.2.2.2.2.2.2.2.2.2.2.2.2.1,y5.2.2.2.2.2.2.2.2.2.2.2.2.2.2.2.2.2.1⟩:T41)else some default).bind fun r25_1=>some (r25_0,r25_1)))) fun(x25:(Bool×Bool))=>(some (x25.1&&x25.2)))))))))))):Option (Bool)):=by kernel_rfl
theorem plain4 {c:T27} {v:Int} (_:ok27 c) (_:(Lit.int .u16 v).wf=true):m4 c v=some true:=by
 have S:=few_small c
 have H:=S.fit
 have q0:=Few_eq c
 have q1:m6 (fewS c)=some (fewS c):=(Few_eq (fewS c)).trans (by rw[few_few S])
 have q2:=Start_eq (fewS c) H
 have q3:=Same_refl (fewS c) H
 have q5:=awake_true
 obtain⟨e,he⟩:=checkM_some (fewS c)
 simp only[M4,bind_id]
 unfold startM at q2
 rw[he,bs]at q2
 by_cases h:(e != 0)=true
 ·rw[if_pos h]at q2
  generalize m5=F0 at q5 ⊢
  generalize m6=F1 at q0 q1 ⊢
  generalize m11o0=F2 at q2 ⊢
  generalize m10=F4 at q3 ⊢
  simp only[q5,bs,Bool.not_true,Bool.false_eq_true,if_false,q0,q1,q2,h,if_true,q3,or_,orJ_some]
 ·rw[if_neg h]at q2
  have h0:e=0:=by simpa using h
  subst h0
  have G:=good_of he
  have ok1:=startS_ok G H
  have ml:=(validS_iff.1 ok1.1).2.2.len
  have hst:=S.states
  simp only at ml
  have q6:m12 ⟨(startS (fewS c)).1,(startS (fewS c)).2.1⟩=some ⟨(startS (fewS c)).1,(startS (fewS c)).2.1⟩:=by
   rw[fewConfig_eq]
   unfold fewG
   rw[show (14:Int)=((14:Nat):Int) from rfl,cutL_all (k:=14) (by simp only;omega)]
  have q7:=sameG ⟨(startS (fewS c)).1,(startS (fewS c)).2.1⟩ (by simp only;omega)
  have q8:=step_o G H he ⟨(startS (fewS c)).1,(startS (fewS c)).2.1⟩ v
  have l1:=ok1.2
  generalize startS (fewS c)=st at *
  generalize m5=F0 at q5 ⊢
  generalize m6=F1 at q0 q1 ⊢
  generalize m11o0=F2 at q2 ⊢
  generalize m10=F4 at q3 ⊢
  generalize m12=F6 at q6 ⊢
  generalize m14=F7 at q7 ⊢
  generalize m13o1=F8 at q8 ⊢
  generalize m13o2=F9 at q8 ⊢
  have n0:((0:Int) != 0)=false:=rfl
  have q4:F4 ⟨(fewS c).Name,(fewS c).Conds,(fewS c).Never,(fewS c).States,(fewS c).Start,(fewS c).Transitions⟩ ⟨(fewS c).Name,(fewS c).Conds,(fewS c).Never,(fewS c).States,(fewS c).Start,(fewS c).Transitions⟩=some true:=q3
  simp only[q5,bs,Bool.not_true,Bool.false_eq_true,if_false,q0,q1,q2,n0,q6]
  cases h8:F8 (fewS c) ⟨st.1,st.2.1⟩ v with
  | some x =>
   simp only[bs,ol]
   refine(congrArg (fun o=>orJ o _) (none_loop (z:=some true) (fill_loop (x:=[67,72,65,78,71,69,68]) [] (by simp) (fill_loop (x:=[67,72,65,78,71,69,68]) st.2.2 (by omega) ?_)))).trans rfl
   simp only[q4,bs,if_true,q7,Bool.and_self]
  | none =>
   rcases q8 with⟨x,q8⟩ | ⟨r,q8,hr⟩
   ·rw[h8]at q8;cases q8
   ·simp only[bn,orJ_none,q8,bs,ol,Int.toNat_natCast]
    refine fill_ints st.2.1.length _ (by omega) (fill_loop (x:=[67,72,65,78,71,69,68]) r.1 (by omega) (fill_loop (x:=[67,72,65,78,71,69,68]) st.2.2 (by omega) ?_))
    simp only[q4,bs,if_true,q7,Bool.and_self]
end Go.Av
