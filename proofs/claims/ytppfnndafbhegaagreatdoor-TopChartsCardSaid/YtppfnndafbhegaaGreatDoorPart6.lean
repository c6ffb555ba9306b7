/- A part of the proof. -/
import Derived.Test.YtppfnndafbhegaaGreatDoorPart5
set_option linter.unusedVariables false
set_option linter.unusedSimpArgs false
set_option maxRecDepth 100000
namespace Go.Av.Ch
def topB (c:T27) (s:Int):Bool:=decide ((c.States.getD s.toNat default).Parent < 0) || decide (s≤(c.States.getD s.toNat default).Parent)
def pathT (c:T27):Nat→Int→List Int
 | 0,_=>[]
 | n+1,s=>if topB c s=true then[]else(c.States.getD s.toNat default).Parent :: pathT c n (c.States.getD s.toNat default).Parent
def pathS (c:T27) (s:Int):List Int:=if isS c s=true then s :: pathT c s.toNat s else[]
theorem pathT_len (c:T27):∀ n s,(pathT c n s).length≤n
 | 0,_=>by simp[pathT]
 | n+1,s=>by
  unfold pathT
  split
  ·simp
  ·have:=pathT_len c n (c.States.getD s.toNat default).Parent
   simp only[List.length_cons];omega
theorem pathS_len (c:T27) (s:Int):(pathS c s).length≤c.States.length:=by
 unfold pathS
 split
 ·rename_i h
  have:=isS_iff.1 h
  have:=pathT_len c s.toNat s
  simp only[List.length_cons];omega
 ·simp
theorem topB_false {c:T27} {s:Int} (h:topB c s=false):0≤(c.States.getD s.toNat default).Parent∧(c.States.getD s.toNat default).Parent < s:=by
 simp only[topB,Bool.or_eq_false_iff,decide_eq_false_iff_not]at h;omega
theorem pathT_fuel (c:T27):∀ n m s,0≤s→s.toNat≤n→s.toNat≤m→pathT c n s=pathT c m s:=by
 intro n
 induction n with
 | zero =>
  intro m s h0 hn hm
  cases m with
  | zero=>rfl
  | succ m =>
   unfold pathT
   cases ht:topB c s with
   | true=>simp
   | false=>have:=topB_false ht;omega
 | succ n ih =>
  intro m s h0 hn hm
  cases ht:topB c s with
  | true =>
   cases m with
   | zero=>unfold pathT;simp[ht]
   | succ m=>unfold pathT;simp[ht]
  | false =>
   have:=topB_false ht
   cases m with
   | zero=>omega
   | succ m =>
    unfold pathT
    simp only[ht,Bool.false_eq_true,if_false]
    rw[ih m _ this.1 (by omega) (by omega)]
theorem pathS_step {c:T27} {s:Int} (h:isS c s=true):pathS c s=s :: if topB c s=true then[]else pathS c (c.States.getD s.toNat default).Parent:=by
 have hs:=isS_iff.1 h
 unfold pathS
 rw[if_pos h,pathT_fuel c s.toNat (s.toNat+1) s hs.1 (Nat.le_refl _) (by omega)]
 congr 1
 show (if topB c s=true then[]else(c.States.getD s.toNat default).Parent :: pathT c s.toNat (c.States.getD s.toNat default).Parent)=_
 cases ht:topB c s with
 | true=>rfl
 | false =>
  have hp:=topB_false ht
  simp only[Bool.false_eq_true,if_false]
  rw[if_pos (isS_iff.2 ⟨hp.1,by omega⟩),pathT_fuel c s.toNat (c.States.getD s.toNat default).Parent.toNat _ hp.1 (by omega) (Nat.le_refl _)]
theorem pathS_is {c:T27}:∀ (n:Nat) (s:Int),s.toNat≤n→∀ x∈pathS c s,isS c x=true∧x≤s:=by
 intro n
 induction n with
 | zero =>
  intro s hn x hx
  cases h:isS c s with
  | false=>unfold pathS at hx;rw[if_neg (by rw[h];decide)]at hx;cases hx
  | true =>
   have hs:=isS_iff.1 h
   rw[pathS_step h]at hx
   cases ht:topB c s with
   | true=>rw[ht]at hx;simp at hx;subst hx;exact⟨h,Int.le_refl _⟩
   | false=>have:=topB_false ht;omega
 | succ n ih =>
  intro s hn x hx
  cases h:isS c s with
  | false=>unfold pathS at hx;rw[if_neg (by rw[h];decide)]at hx;cases hx
  | true =>
   rw[pathS_step h]at hx
   rcases List.mem_cons.1 hx with rfl | hx
   ·exact⟨h,Int.le_refl _⟩
   ·cases ht:topB c s with
    | true=>rw[ht]at hx;simp at hx
    | false =>
     have:=topB_false ht
     rw[ht]at hx
     have:=ih _ (by omega) x hx
     exact⟨this.1,by omega⟩
theorem path_loop {c:T27} {b:Int×List Int→Option ((Int×List Int)⊕List Int)}
  (hb:∀ (s:Int) (acc:List Int),0≤s→s < c.States.length→b (s,acc)=if topB c s=true then some (.inr acc)else if(acc.length+1) * 8≤140737488355328 then some (.inl ((c.States.getD s.toNat default).Parent,acc++[(c.States.getD s.toNat default).Parent]))else none) :
  ∀ (n:Nat) (s:Int) (acc:List Int),0≤s→s < c.States.length→s.toNat≤n→acc.length+n≤100000→loopO b (s,acc)=some (acc++pathT c n s):=by
 intro n
 induction n with
 | zero =>
  intro s acc h0 h1 hn hl
  rw[loopO_eq,hb s acc h0 h1]
  cases ht:topB c s with
  | true=>simp[pathT]
  | false=>have:=topB_false ht;omega
 | succ n ih =>
  intro s acc h0 h1 hn hl
  rw[loopO_eq,hb s acc h0 h1]
  unfold pathT
  cases ht:topB c s with
  | true=>simp
  | false =>
   have hp:=topB_false ht
   have h8:(acc.length+1) * 8≤140737488355328:=by omega
   simp only[Bool.false_eq_true,if_false,if_pos h8,Option.bind_some]
   rw[ih _ _ hp.1 (by omega) (by omega) (by simp only[List.length_append,List.length_cons,List.length_nil];omega)]
   simp
theorem Path_eq (c:T27) (H:Fit c) (s:Int):m48 c s=some (pathS c s):=by
 have hs:=H.states
 delta m48 d48
 simp only[↓JD.sg_m,↓JD.sq_m,↓JD.sc_m,↓JD.bk_m,↓JD.lp_m,↓JD.cd_m,↓JD.lu_m,↓JD.ct_m,↓JD.ce_m,↓JL.r_m,↓JL.z_m,↓JD.se_m,onE_r,↓Tr.run,↓Tr.run_nd,↓Tr.run_c3,↓Tr.run_c2,↓Tr.run_nx,↓onS,bind_ite,Option.bind_some,Option.bind_none,obR,is_eq]
 unfold pathS
 cases h:isS c s with
 | false=>rfl
 | true =>
  have hi:=isS_iff.1 h
  simp only[Bool.not_true,Bool.false_eq_true,if_false,if_true]
  rw[path_loop (c:=c) (fun s acc h0 h1=>?_) s.toNat s [s] hi.1 hi.2 (Nat.le_refl _) (by simp;omega)]
  ·simp
  ·simp only[h0,h1,if_true];rfl
def leafG (c:T27) (i:Nat):List Int:=if comp c i=true then[]else[(i:Int)]
def leavesS (c:T27):List Int:=(List.range c.States.length).flatMap (leafG c)
theorem leafG_len (c:T27) (i:Nat):(leafG c i).length≤1:=by unfold leafG;split<;>simp
theorem leavesS_iff {c:T27} {x:Int}:x∈leavesS c↔isS c x=true∧comp c x=false:=by
 unfold leavesS leafG
 rw[List.mem_flatMap,isS_iff]
 constructor
 ·rintro⟨i,hi,hx⟩
  rw[List.mem_range]at hi
  split at hx
  ·cases hx
  ·rename_i h;simp only[List.mem_singleton]at hx;subst hx;exact⟨by omega,by simpa using h⟩
 ·rintro⟨h1,h2⟩
  refine⟨x.toNat,List.mem_range.2 (by omega),?_⟩
  rw[Int.toNat_of_nonneg h1.1,if_neg (by rw[h2];decide)];simp
theorem Leaves_eq (c:T27) (H:Fit c):m53 c=some (leavesS c):=by
 have hs:=H.states
 delta m53 d53
 simp only[↓JD.sg_m,↓JD.sq_m,↓JD.sc_m,↓JD.bk_m,↓JD.lp_m,↓JD.cd_m,↓JD.lu_m,↓JD.ct_m,↓JD.ce_m,↓JL.r_m,↓JL.z_m,↓JD.se_m,onE_r,↓Tr.run,↓Tr.run_nd,↓Tr.run_c3,↓Tr.run_c2,↓Tr.run_nx,↓onS,bind_ite,Option.bind_some,Option.bind_none,obR,composite_eq c _ (Nat.le_trans hs (by omega))]
 refine on_l (loop_coll c.States.length (fun i l=>(l,(i:Int))) (leafG c) Sum.inl (fun i hi=>?_) (by (simp only[lt_irr,decide_false,Bool.false_eq_true,if_false];try rfl))) rfl
 have hl:=flatMap_len (leafG_len c) i
 have h3:(((List.range i).flatMap (leafG c)).length+1) * 8≤140737488355328:=by omega
 simp only[inL hi,decide_true,h3,if_true,wr1 hi (by omega),leafG]
 cases comp c i<;>simp
def bitV (v:Int) (k:Nat):Bool:=IntKind.u16.wrap ((BitVec.ofInt IntKind.u16.bits (v.fdiv (2 ^ min k IntKind.u16.bits)) &&& BitVec.ofInt IntKind.u16.bits 1).toNat:Int)==1
def litN (v:Int) (x:T116):Bool:=decide (x.Cond < 0) || decide (15 < x.Cond) || bitV v x.Cond.toNat==x.Neg
def holdsS (l:List T116) (v:Int):Bool:=!anyR (fun i=>litN v (l.getD i default)) l.length
theorem holds_loop {l:List T116} {v:Int} (hl:l.length≤100000) {b:Int→Option (Int⊕(Unit⊕Bool))} (hb:∀ i:Nat,i < l.length→b i=exB (if litN v (l.getD i default)=true then some false else none) ((i:Int)+1)) (hd:b l.length=some (.inr (.inl ()))) :
  (loopO b 0).bind (onS fun _=>some true)=some (holdsS l v):=by
 rw[loop_ex l.length _ hb hd,firstR_const,holdsS]
 cases anyR (fun i=>litN v (l.getD i default)) l.length<;>rfl
theorem Holds_eq (l:List T116) (v:Int) (hl:l.length≤100000):m50 l v=some (holdsS l v):=by
 delta m50 d50
 simp only[↓JD.sg_m,↓JD.sq_m,↓JD.sc_m,↓JD.bk_m,↓JD.lp_m,↓JD.cd_m,↓JD.lu_m,↓JD.ct_m,↓JD.ce_m,↓JL.r_m,↓JL.z_m,↓JD.se_m,onE_r,↓Tr.run,↓Tr.run_nd,↓Tr.run_c3,↓Tr.run_c2,↓Tr.run_nx,↓onS,bind_ite,Option.bind_some,Option.bind_none,obR]
 refine holds_loop hl (fun i hi=>?_) (by (simp only[lt_irr,decide_false,Bool.false_eq_true,if_false];try rfl))
 have h1:=eq_true (show (!(decide ((l.getD i default).Cond < 0) || decide (15 < (l.getD i default).Cond)))=true→0≤(l.getD i default).Cond from fun h=>by simp only[Bool.not_eq_true',Bool.or_eq_false_iff,decide_eq_false_iff_not]at h;omega)
 (simp only[exB_ite,exB_some,exB_none];simp only[h1,inL hi,decide_true,Int.toNat_natCast,if_true,implies_true,wr1 hi (by omega)];try rfl)
def wideB (c:T27) (v:Int):Bool:=decide ((c.Conds.length:Int) < 16)&&(v.fdiv (2 ^ min (c.Conds.length:Int).toNat IntKind.u16.bits) != 0)
def allowedS (c:T27) (v:Int):Bool:=!wideB c v&&!anyR (fun i=>holdsS (c.Never.getD i default) v) c.Never.length
theorem Allowed_eq (c:T27) (H:Fit c) (v:Int):m20 c v=some (allowedS c v):=by
 have hn:=H.never
 have e:m102o0 c.Never v=some (findR (fun i=>holdsS (c.Never.getD i default) v) c.Never.length):=by
  delta m102o0 d102o0
  simp only[↓JD.sg_m,↓JD.sq_m,↓JD.sc_m,↓JD.bk_m,↓JD.lp_m,↓JD.cd_m,↓JD.lu_m,↓JD.ct_m,↓JD.ce_m,↓JL.r_m,↓JL.z_m,↓JD.se_m,onE_r,↓Tr.run,↓Tr.run_nd,↓Tr.run_c3,↓Tr.run_c2,↓Tr.run_nx,↓onS,bind_ite,Option.bind_some,Option.bind_none,obR,m52o0,d52o0]
  refine idx_loop (fun i hi=>?_) (by (simp only[lt_irr,decide_false,Bool.false_eq_true,if_false];try rfl))
  have hl:=H.lits _ (getD_mem hi)
  (simp only[exB_ite,exB_some,exB_none];simp only[Holds_eq _ _ (Nat.le_trans hl (by omega)),Option.bind_some,inL hi,decide_true,Int.toNat_natCast,if_true,implies_true,wr1 hi (by omega)];try rfl)
 have h1:=eq_true (show decide ((c.Conds.length:Int) < 16)=true→(0:Int)≤(c.Conds.length:Int) from fun _=>by omega)
 delta m20 d20
 simp only[↓JD.sg_m,↓JD.sq_m,↓JD.sc_m,↓JD.bk_m,↓JD.lp_m,↓JD.cd_m,↓JD.lu_m,↓JD.ct_m,↓JD.ce_m,↓JL.r_m,↓JL.z_m,↓JD.se_m,onE_r,↓Tr.run,↓Tr.run_nd,↓Tr.run_c3,↓Tr.run_c2,↓Tr.run_nx,↓onS,bind_ite,Option.bind_some,Option.bind_none,obR,m51o0,d51o0,e,findR_any,h1,if_true]
 unfold allowedS
 cases hw:wideB c v with
 | true=>unfold wideB at hw;simp only[hw,if_true];rfl
 | false=>unfold wideB at hw;simp only[hw,if_false,Bool.false_eq_true];rfl
def enabG (c:T27) (p:List Int) (v:Int) (i:Nat):List Int:=if(hasK p p.length (c.Transitions.getD i default).From&&holdsS (c.Transitions.getD i default).When v)=true then[(i:Int)]else[]
def enabledS (c:T27) (leaf v:Int):List Int:=(List.range c.Transitions.length).flatMap (enabG c (pathS c leaf) v)
theorem enabG_len (c:T27) (p:List Int) (v:Int) (i:Nat):(enabG c p v i).length≤1:=by unfold enabG;split<;>simp
theorem enabledS_len (c:T27) (leaf v:Int):(enabledS c leaf v).length≤c.Transitions.length:=by
 have:=flatMap_len (enabG_len c (pathS c leaf) v) c.Transitions.length;unfold enabledS;omega
theorem Enabled_eq (c:T27) (H:Fit c) (leaf v:Int):m19 c leaf v=some (enabledS c leaf v):=by
 have hs:=H.states
 have ht:=H.trans
 have hp:=pathS_len c leaf
 delta m19 d19
 simp only[↓JD.sg_m,↓JD.sq_m,↓JD.sc_m,↓JD.bk_m,↓JD.lp_m,↓JD.cd_m,↓JD.lu_m,↓JD.ct_m,↓JD.ce_m,↓JL.r_m,↓JL.z_m,↓JD.se_m,onE_r,↓Tr.run,↓Tr.run_nd,↓Tr.run_c3,↓Tr.run_c2,↓Tr.run_nx,↓onS,bind_ite,Option.bind_some,Option.bind_none,obR,Path_eq c H,onS_l]
 refine on_l (loop_coll c.Transitions.length (fun i l=>(l,(i:Int))) (enabG c (pathS c leaf) v) Sum.inl (fun i hi=>?_) (by (simp only[lt_irr,decide_false,Bool.false_eq_true,if_false];try rfl))) rfl
 have hl:=flatMap_len (enabG_len c (pathS c leaf) v) i
 have h3:(((List.range i).flatMap (enabG c (pathS c leaf) v)).length+1) * 8≤140737488355328:=by omega
 have hw:=H.when_ _ (getD_mem hi)
 simp only[inL hi,decide_true,h3,Int.toNat_natCast,if_true,wr1 hi (by omega),containsI_eq _ _ (show (pathS c leaf).length≤100000 by omega),Holds_eq _ _ (Nat.le_trans hw (by omega)),Option.bind_some,enabG]
 cases hasK (pathS c leaf) (pathS c leaf).length (c.Transitions.getD i default).From with
 | false=>simp
 | true=>cases holdsS (c.Transitions.getD i default).When v<;>simp
end Go.Av.Ch
set_option maxRecDepth 100000
namespace Go.Av.Ch
abbrev stA (c:T27) (x:Int):T119:=c.States.getD x.toNat default
structure Good (c:T27):Prop where
 ne:0 < c.States.length
 cap:c.States.length≤40
 parent:∀ x,isS c x=true → -1≤(stA c x).Parent∧(stA c x).Parent < x
 init:∀ x,isS c x=true→comp c x=true→childS c (stA c x).Initial x=true
 leafI:∀ x,isS c x=true→comp c x=false→(stA c x).Initial = -1∧(stA c x).History=false
 start:isS c c.Start=true
 tr:∀ i,i < c.Transitions.length→isS c (c.Transitions.getD i default).From=true∧isS c (c.Transitions.getD i default).To=true
 entry:∀ x,isS c x=true→(stA c x).Entry.length≤8
 exit_:∀ x,isS c x=true→(stA c x).Exit.length≤8
 acts:∀ i,i < c.Transitions.length→(c.Transitions.getD i default).Actions.length≤8
theorem orK_ok {R:Type} {a b:Option R} {z:R} (h:orK a b=some z) (hn:a≠some z):a=none∧b=some z:=by
 cases a with
 | none=>exact⟨rfl,h⟩
 | some y=>exact absurd h hn
theorem ite_err {p:Prop} [Decidable p] {e z:Int} {k:Option Int} (h:(if p then some e else k)=some z) (he:e≠z):¬ p∧k=some z:=by
 split at h
 ·injection h with h;exact absurd h he
 ·rename_i hp;exact⟨hp,h⟩
theorem good_of {c:T27} (h:checkM c=some 0):Good c:=by
 unfold checkM at h
 obtain⟨-,h⟩:=ite_err h (by decide)
 obtain⟨h1,h⟩:=ite_err h (by decide)
 obtain⟨hcap,h⟩:=ite_err h (by decide)
 have n1:firstR (condF c) c.Conds.length≠some 0:=fun e=>by
  obtain⟨i,_,e⟩:=firstR_some e
  unfold condF at e
  split at e
  ·rename_i hh;injection e with e;rw[e]at hh;simp at hh
  ·cases e
 obtain⟨-,h⟩:=orK_ok h n1
 have n2:firstR (nevF c) c.Never.length≠some 0:=fun e=>by
  obtain⟨i,_,e⟩:=firstR_some e
  unfold nevF at e
  split at e
  ·cases e
  ·split at e
   ·rename_i hh;injection e with e;rw[e]at hh;simp at hh
   ·cases e
 obtain⟨-,h⟩:=orK_ok h n2
 have n3:firstR (stF c) c.States.length≠some 0:=fun e=>by
  obtain⟨i,_,e⟩:=firstR_some e
  unfold stF at e
  split at e
  ·rename_i hh;injection e with e;rw[e]at hh;simp at hh
  ·cases e
 obtain⟨hst,h⟩:=orK_ok h n3
 obtain⟨hs,h⟩:=ite_err h (by decide)
 have n4:firstR (trF c) c.Transitions.length≠some 0:=fun e=>by
  obtain⟨i,_,e⟩:=firstR_some e
  unfold trF at e
  split at e
  ·cases e
  ·split at e
   ·rename_i hh;injection e with e;rw[e]at hh;simp at hh
   ·split at e
    ·rename_i hh;injection e with e;rw[e]at hh;simp at hh
    ·cases e
 obtain⟨htr,-⟩:=orK_ok h n4
 have st:∀ i,i < c.States.length→stateT c i=0:=fun i hi=>by
  have:=firstR_none.1 hst i hi
  unfold stF at this
  split at this
  ·cases this
  ·rename_i hh
   have hh:stateS c i=0:=by simpa using hh
   unfold stateS at hh
   split at hh
   ·rename_i h2;rw[hh]at h2;simp at h2
   ·exact hh
 have key:∀ x,isS c x=true→x=(x.toNat:Int)∧x.toNat < c.States.length:=fun x hx=>by have:=isS_iff.1 hx;omega
 have rows:∀ x,isS c x=true→(-1≤(stA c x).Parent∧(stA c x).Parent < x)∧(comp c x=true→childS c (stA c x).Initial x=true)∧(comp c x=false→(stA c x).Initial = -1∧(stA c x).History=false)∧(stA c x).Entry.length≤8∧(stA c x).Exit.length≤8:=fun x hx=>by
  obtain⟨e,hlt⟩:=key x hx
  have h:=st _ hlt
  unfold stateT at h
  rw[← e]at h
  split at h
  ·cases h
  rename_i a1
  split at h
  ·cases h
  rename_i a2
  split at h
  ·cases h
  rename_i a3
  split at h
  ·rename_i a4;rw[h]at a4;simp at a4
  rename_i a4
  simp only[Bool.or_eq_true,decide_eq_true_eq,not_or,Int.not_lt,Int.not_le]at a1
  refine⟨⟨a1.1,a1.2⟩,fun hc=>?_,fun hc=>?_,actS_len (by simpa using a4),actS_len h⟩
  ·rw[hc]at a2
   simpa using a2
  ·rw[hc]at a2 a3
   exact⟨by simpa using a2,by simpa using a3⟩
 have trs:∀ i,i < c.Transitions.length→(isS c (c.Transitions.getD i default).From=true∧isS c (c.Transitions.getD i default).To=true)∧(c.Transitions.getD i default).Actions.length≤8:=fun i hi=>by
  have:=firstR_none.1 htr i hi
  unfold trF at this
  split at this
  ·cases this
  rename_i a1
  split at this
  ·cases this
  split at this
  ·cases this
  rename_i a3
  exact⟨by simpa using a1,actS_len (by simpa using a3)⟩
 refine⟨?_,by simp only[Bool.or_eq_true,decide_eq_true_eq,not_or,Int.not_lt]at hcap;omega,fun x hx=>(rows x hx).1,fun x hx=>(rows x hx).2.1,fun x hx=>(rows x hx).2.2.1,by simpa using hs,fun i hi=>(trs i hi).1,fun x hx=>(rows x hx).2.2.2.1,fun x hx=>(rows x hx).2.2.2.2,fun i hi=>(trs i hi).2⟩
 have:¬ ((c.States.length:Int)=0):=by simpa using h1
 omega
def memBad (c:T27) (i m:Int):Bool:=(m != (-1:Int))&&(!isS c m || !(stA c i).History || ((stA c m).Parent != i))
def validS (c:T27) (g:T37):Bool:=!(!isS c g.Leaf || comp c g.Leaf || ((g.Memory.length:Int) != (c.States.length:Int)))&&!anyR (fun i=>memBad c i (g.Memory.getD i default)) g.Memory.length
structure MemOk (c:T27) (m:List Int):Prop where
 len:m.length=c.States.length
 ok:∀ i:Nat,i < m.length→memBad c i (m.getD i default)=false
theorem validS_iff {c:T27} {g:T37}:validS c g=true↔isS c g.Leaf=true∧comp c g.Leaf=false∧MemOk c g.Memory:=by
 unfold validS
 simp only[Bool.and_eq_true,Bool.not_eq_true',Bool.or_eq_false_iff,Bool.not_eq_false',bne_eq_false_iff_eq,anyR_false]
 constructor
 ·rintro⟨⟨⟨h1,h2⟩,h3⟩,h4⟩;exact⟨h1,h2,⟨by omega,h4⟩⟩
 ·rintro⟨h1,h2,h3⟩;exact⟨⟨⟨h1,h2⟩,by have:=h3.len;omega⟩,h3.ok⟩
theorem MemOk.none {c:T27} {m:List Int} (h:MemOk c m) {x:Int} (hx:isS c x=true) (hh:(stA c x).History=false):m.getD x.toNat default = -1:=by
 have hi:=isS_iff.1 hx
 have:=h.ok x.toNat (by rw[h.len];omega)
 unfold memBad at this
 rw[Int.toNat_of_nonneg hi.1,hh]at this
 simpa using this
theorem MemOk.child {c:T27} {m:List Int} (h:MemOk c m) {x:Int} (hx:isS c x=true) (hm:m.getD x.toNat default ≠ -1):childS c (m.getD x.toNat default) x=true:=by
 have hi:=isS_iff.1 hx
 have:=h.ok x.toNat (by rw[h.len];omega)
 unfold memBad at this
 rw[Int.toNat_of_nonneg hi.1]at this
 simp only[Bool.and_eq_false_iff,bne_eq_false_iff_eq,Bool.or_eq_false_iff,Bool.not_eq_false']at this
 rcases this with h1 | ⟨⟨h1,h2⟩,h3⟩
 ·exact absurd h1 hm
 ·unfold childS;rw[h1,h3];simp
theorem MemOk.set {c:T27} {m:List Int} (h:MemOk c m) {x v:Int} (hv:v = -1∨((stA c x).History=true∧childS c v x=true)) (hx:isS c x=true):MemOk c (m.set x.toNat v):=by
 have hi:=isS_iff.1 hx
 refine⟨by rw[List.length_set];exact h.len,fun i hl=>?_⟩
 rw[List.length_set]at hl
 by_cases he:x.toNat=i
 ·subst he
  rw[List.getD_eq_getElem?_getD,List.getElem?_set_self hl,Option.getD_some,Int.toNat_of_nonneg hi.1]
  unfold memBad
  rcases hv with rfl | ⟨h1,h2⟩
  ·rfl
  ·unfold childS at h2
   simp only[Bool.and_eq_true,beq_iff_eq]at h2
   rw[h1,h2.1,h2.2];simp
 ·rw[List.getD_eq_getElem?_getD,List.getElem?_set_ne he,← List.getD_eq_getElem?_getD]
  exact h.ok i hl
theorem set_same {m:List Int} {i:Nat} {v:Int} (hi:i < m.length) (h:m.getD i default=v):m.set i v=m:=by
 apply List.ext_getElem?
 intro j
 rw[List.getElem?_set]
 split
 ·rename_i e;subst e
  rw[← h,List.getD_eq_getElem?_getD,List.getElem?_eq_getElem hi,Option.getD_some]
 ·rfl
theorem Valid_eq (c:T27) (H:Fit c) (g:T37):m66 c g=some (validS c g):=by
 have hs:=H.states
 delta m66 d66
 simp only[↓JD.sg_m,↓JD.sq_m,↓JD.sc_m,↓JD.bk_m,↓JD.lp_m,↓JD.cd_m,↓JD.lu_m,↓JD.ct_m,↓JD.ce_m,↓JL.r_m,↓JL.z_m,↓JD.se_m,onE_r,↓Tr.run,↓Tr.run_nd,↓Tr.run_c3,↓Tr.run_c2,↓Tr.run_nx,↓onS,bind_ite,Option.bind_some,Option.bind_none,obR,is_eq,composite_eq c _ (Nat.le_trans hs (by omega))]
 unfold validS
 have e0:(if(!!isS c g.Leaf)=true then some (isS c g.Leaf,comp c g.Leaf)else some (isS c g.Leaf,default))=some (isS c g.Leaf,if isS c g.Leaf=true then comp c g.Leaf else default):=by
  cases isS c g.Leaf<;>rfl
 cases h1:(!isS c g.Leaf || comp c g.Leaf || ((g.Memory.length:Int) != (c.States.length:Int))) with
 | true =>
  cases h2:isS c g.Leaf with
  | false=>simp
  | true =>
   rw[h2]at h1
   simp only[Bool.not_true,Bool.false_or]at h1
   simp only[Bool.not_true,Bool.not_false,Bool.false_or,if_true,h1,onS_r,Bool.false_and]
 | false =>
  simp only[Bool.or_eq_false_iff,Bool.not_eq_false',bne_eq_false_iff_eq]at h1
  obtain⟨⟨h2,h3⟩,h4⟩:=h1
  have h5:g.Memory.length=c.States.length:=by omega
  simp only[h2,h3,h5,bne_self_eq_false,Bool.not_true,Bool.not_false,Bool.or_false,Bool.false_eq_true,if_false,if_true,onS_l,Bool.true_and]
  rw[loop_ex c.States.length (fun i=>if memBad c i (g.Memory.getD i default)=true then some false else none) ?_ ?_,firstR_const]
  ·cases anyR (fun i=>memBad c i (g.Memory.getD i default)) c.States.length<;>rfl
  ·intro i hi
   simp only[exB_ite,exB_some,exB_none]
   simp only[inL hi,decide_true,Int.toNat_natCast,if_true,implies_true,wr1 hi (by omega)]
   unfold memBad stA
   simp only[Int.toNat_natCast]
   by_cases hm:g.Memory.getD i default = -1
   ·simp only[hm,bne_self_eq_false,Bool.false_and,Bool.false_eq_true,false_implies,if_false,if_true]
   ·have hm':(g.Memory.getD i default != (-1:Int))=true:=by simpa using hm
    have a3:=eq_true (show (true&&!(!isS c (g.Memory.getD i default) || !(c.States.getD i default).History))=true→(0:Int)≤g.Memory.getD i default from fun h=>by
     simp only[Bool.true_and,Bool.not_eq_true',Bool.or_eq_false_iff,Bool.not_eq_false']at h;exact(isS_iff.1 h.1).1)
    have a4:=eq_true (show (true&&!(!isS c (g.Memory.getD i default) || !(c.States.getD i default).History))=true→g.Memory.getD i default < (c.States.length:Int) from fun h=>by
     simp only[Bool.true_and,Bool.not_eq_true',Bool.or_eq_false_iff,Bool.not_eq_false']at h;exact(isS_iff.1 h.1).2)
    simp only[hm',a3,a4,if_true,Option.bind_some]
  ·(simp only[lt_irr,decide_false,Bool.false_eq_true,if_false];try rfl)
end Go.Av.Ch
set_option maxRecDepth 100000
namespace Go.Av.Ch
theorem isS_lt {c:T27} {x:Int} (h:isS c x=true):((0:Int)≤x)=True∧(x < (c.States.length:Int))=True∧x.toNat < c.States.length:=by
 have:=isS_iff.1 h
 exact⟨eq_true this.1,eq_true this.2,by omega⟩
theorem child_is {c:T27} (G:Good c) {x y:Int} (h:childS c y x=true):isS c y=true∧x < y:=by
 unfold childS at h
 simp only[Bool.and_eq_true,beq_iff_eq]at h
 have:=(G.parent y h.1).2
 exact⟨h.1,by unfold stA at this;omega⟩
def nextS (c:T27) (m:List Int) (x:Int):Int:=if((stA c x).History&&(m.getD x.toNat default != (-1:Int)))=true then m.getD x.toNat default else(stA c x).Initial
theorem nextS_child {c:T27} (G:Good c) {m:List Int} (M:MemOk c m) {x:Int} (hx:isS c x=true) (hc:comp c x=true):childS c (nextS c m x) x=true:=by
 unfold nextS
 split
 ·rename_i h
  simp only[Bool.and_eq_true,bne_iff_ne,ne_eq]at h
  exact M.child hx h.2
 ·exact G.init x hx hc
def enterF (c:T27):Nat→Int→List Int→List (List UInt8)→Int×List Int×List (List UInt8)
 | 0,x,m,a=>(x,m,a)
 | n+1,x,m,a=>if comp c x=true then enterF c n (nextS c m x) (m.set x.toNat (-1)) (a++(stA c x).Entry)else(x,m,a++(stA c x).Entry)
theorem enterF_ok {c:T27} (G:Good c):∀ (n:Nat) (x:Int) (m:List Int) (a:List (List UInt8)),isS c x=true→MemOk c m→c.States.length≤n+x.toNat →
  isS c (enterF c n x m a).1=true∧comp c (enterF c n x m a).1=false∧MemOk c (enterF c n x m a).2.1∧(enterF c n x m a).2.2.length≤a.length+8 * n
 | 0,x,m,a,hx,M,hn=>by have:=(isS_lt hx).2.2;omega
 | n+1,x,m,a,hx,M,hn=>by
  have he:=G.entry x hx
  unfold enterF
  cases hc:comp c x with
  | false=>simp only[Bool.false_eq_true,if_false,List.length_append];exact⟨hx,hc,M,by omega⟩
  | true =>
   simp only[if_true]
   obtain⟨h1,h2⟩:=child_is G (nextS_child G M hx hc)
   have h3:=isS_iff.1 hx
   obtain⟨k1,k2,k3,k4⟩:=enterF_ok G n _ _ (a++(stA c x).Entry) h1 (M.set (.inl rfl) hx) (by omega)
   exact⟨k1,k2,k3,by rw[List.length_append]at k4;omega⟩
theorem enter_loop {c:T27} (G:Good c) {b:Int×List Int×List (List UInt8)→Option ((Int×List Int×List (List UInt8))⊕(Int×List Int×List (List UInt8)))}
  (hb:∀ (x:Int) (m:List Int) (a:List (List UInt8)),isS c x=true→MemOk c m→a.length≤100000→b (x,m,a)=if comp c x=true then some (.inl (nextS c m x,m.set x.toNat (-1),a++(stA c x).Entry))else some (.inr (x,m,a++(stA c x).Entry))) :
  ∀ (n:Nat) (x:Int) (m:List Int) (a:List (List UInt8)),isS c x=true→MemOk c m→c.States.length≤n+x.toNat→a.length+8 * n≤100000→loopO b (x,m,a)=some (enterF c n x m a)
 | 0,x,m,a,hx,M,hn,hl=>by have:=(isS_lt hx).2.2;omega
 | n+1,x,m,a,hx,M,hn,hl=>by
  have he:=G.entry x hx
  rw[loopO_eq,hb x m a hx M (by omega)]
  unfold enterF
  cases hc:comp c x with
  | false=>rfl
  | true =>
   simp only[if_true,Option.bind_some]
   obtain⟨h1,h2⟩:=child_is G (nextS_child G M hx hc)
   have h3:=isS_iff.1 hx
   exact enter_loop G hb n _ _ _ h1 (M.set (.inl rfl) hx) (by omega) (by rw[List.length_append];omega)
def enterS (c:T27) (x:Int) (m:List Int) (a:List (List UInt8)):Int×List Int×List (List UInt8):=enterF c c.States.length x m a
def aroundS (c:T27) (l:List Int) (m:List Int) (a:List (List UInt8)):List Int×List (List UInt8):=l.foldr (fun x s=>(s.1.set x.toNat (-1),s.2++(stA c x).Entry)) (m,a)
theorem aroundS_ok {c:T27} (G:Good c) {m:List Int} {a:List (List UInt8)} (M:MemOk c m):∀ (l:List Int),(∀ x∈l,isS c x=true)→MemOk c (aroundS c l m a).1∧(aroundS c l m a).2.length≤a.length+8 * l.length
 | [],_=>⟨M,Nat.le_refl _⟩
 | x :: l,h=>by
  obtain⟨h1,h2⟩:=aroundS_ok G (a:=a) M l fun y hy=>h y (List.mem_cons_of_mem _ hy)
  have hx:=h x (by simp)
  have he:=G.entry x hx
  refine⟨h1.set (.inl rfl) hx,?_⟩
  show ((aroundS c l m a).2++(stA c x).Entry).length≤_
  rw[List.length_append,List.length_cons];omega
def leaveS (c:T27) (s:Int):List Int→Int→List Int→List (List UInt8)→List Int×List (List UInt8)
 | [],_,m,a=>(m,a)
 | x :: l,last,m,a=>if(x==s)=true then(m,a)else leaveS c s l x (if((stA c x).History&&(last != (-1:Int)))=true then m.set x.toNat last else m) (a++(stA c x).Exit)
theorem mem_leave {c:T27} {m:List Int} (M:MemOk c m) {x last:Int} (hx:isS c x=true) (hl:last = -1∨childS c last x=true):MemOk c (if((stA c x).History&&(last != (-1:Int)))=true then m.set x.toNat last else m):=by
 split
 ·rename_i h
  simp only[Bool.and_eq_true,bne_iff_ne,ne_eq]at h
  exact M.set (hl.imp (fun e=>absurd e h.2) fun e=>⟨h.1,e⟩) hx
 ·exact M
theorem parent_is {c:T27} (G:Good c) {x:Int} (hx:isS c x=true) (ht:topB c x=false):isS c (stA c x).Parent=true∧(stA c x).Parent.toNat < x.toNat∧childS c x (stA c x).Parent=true:=by
 have h1:=topB_false ht
 have h2:=isS_iff.1 hx
 refine⟨isS_iff.2 ⟨h1.1,by show (c.States.getD x.toNat default).Parent < _;omega⟩,by show (c.States.getD x.toNat default).Parent.toNat < _;omega,?_⟩
 unfold childS;rw[hx];simp[stA]
theorem leaveS_ok {c:T27} (G:Good c) {s:Int}:∀ (n:Nat) (x last:Int) (m:List Int) (a:List (List UInt8)),x.toNat≤n→isS c x=true→MemOk c m→(last = -1∨childS c last x=true) →
  MemOk c (leaveS c s (pathS c x) last m a).1∧(leaveS c s (pathS c x) last m a).2.length≤a.length+8 * (n+1):=by
 intro n
 induction n with
 | zero =>
  intro x last m a hn hx M hl
  have he:=G.exit_ x hx
  rw[pathS_step hx]
  unfold leaveS
  split
  ·exact⟨M,by show a.length≤_;omega⟩
  ·cases ht:topB c x with
   | false=>have:=(parent_is G hx ht).2.1;omega
   | true=>exact⟨mem_leave M hx hl,by simp only[if_true,leaveS,List.length_append];omega⟩
 | succ n ih =>
  intro x last m a hn hx M hl
  have he:=G.exit_ x hx
  rw[pathS_step hx]
  unfold leaveS
  split
  ·exact⟨M,by show a.length≤_;omega⟩
  ·cases ht:topB c x with
   | true=>exact⟨mem_leave M hx hl,by simp only[if_true,leaveS,List.length_append];omega⟩
   | false =>
    obtain⟨p1,p2,p3⟩:=parent_is G hx ht
    simp only[Bool.false_eq_true,if_false]
    obtain⟨k1,k2⟩:=ih (stA c x).Parent x _ (a++(stA c x).Exit) (by omega) p1 (mem_leave M hx hl) (.inr p3)
    exact⟨k1,Nat.le_trans k2 (by rw[List.length_append];omega)⟩
def scopeS (c:T27) (a b:Int):Int:=((pathS c a).tail.find? fun x=>hasK (pathS c b).tail (pathS c b).tail.length x).getD (-1)
def untilS (s:Int) (l:List Int):List Int:=l.takeWhile fun x=>!(s==x)
def startS (c:T27):Int×List Int×List (List UInt8):=enterS c c.Start (aroundS c (pathS c c.Start).tail (List.replicate c.States.length (-1)) []).1 (aroundS c (pathS c c.Start).tail (List.replicate c.States.length (-1)) []).2
def fireS (c:T27) (g:T37) (t:T85):Int×List Int×List (List UInt8) :=
 let s:=scopeS c t.From t.To
 let l:=leaveS c s (pathS c g.Leaf) (-1) g.Memory []
 let r:=aroundS c (untilS s (pathS c t.To).tail) l.1 (l.2++t.Actions)
 enterS c t.To r.1 r.2
theorem tail_is {c:T27} {x:Int}:∀ y∈(pathS c x).tail,isS c y=true:=fun y hy=>(pathS_is x.toNat x (Nat.le_refl _) y (List.mem_of_mem_tail hy)).1
theorem mem_begin {c:T27}:MemOk c (List.replicate c.States.length (-1)):=⟨by simp,fun i hi=>by
 have:(List.replicate c.States.length (-1:Int)).getD i default = -1:=by simp at hi;simp[List.getD_eq_getElem?_getD,List.getElem?_replicate,hi]
 unfold memBad;rw[this];rfl⟩
theorem startS_ok {c:T27} (G:Good c) (H:Fit c):validS c ⟨(startS c).1,(startS c).2.1⟩=true∧(startS c).2.2.length≤16000:=by
 have hs:=H.states
 have hp:=pathS_len c c.Start
 obtain⟨h1,h2⟩:=aroundS_ok G (a:=[]) mem_begin (pathS c c.Start).tail tail_is
 obtain⟨k1,k2,k3,k4⟩:=enterF_ok G c.States.length c.Start _ (aroundS c (pathS c c.Start).tail (List.replicate c.States.length (-1)) []).2 G.start h1 (by omega)
 refine⟨validS_iff.2 ⟨k1,k2,k3⟩,?_⟩
 have:(startS c).2.2.length≤_:=k4
 simp only[List.length_nil,List.length_tail]at h2
 omega
theorem untilS_sub {s:Int} {l:List Int}:∀ x∈untilS s l,x∈l:=fun x hx=>(List.takeWhile_prefix _).sublist.mem hx
theorem untilS_len {s:Int} {l:List Int}:(untilS s l).length≤l.length:=(List.takeWhile_prefix _).length_le
theorem fireS_ok {c:T27} (G:Good c) (H:Fit c) {g:T37} (hg:validS c g=true) {i:Nat} (hi:i < c.Transitions.length):validS c ⟨(fireS c g (c.Transitions.getD i default)).1,(fireS c g (c.Transitions.getD i default)).2.1⟩=true∧(fireS c g (c.Transitions.getD i default)).2.2.length≤32000:=by
 have hs:=H.states
 obtain⟨v1,v2,v3⟩:=validS_iff.1 hg
 have ha:=G.acts i hi
 have ht:=(G.tr i hi).2
 generalize c.Transitions.getD i default=t at *
 have hp:=pathS_len c t.To
 have hl:=(isS_lt v1).2.2
 obtain⟨a1,a2⟩:=leaveS_ok G (s:=scopeS c t.From t.To) g.Leaf.toNat g.Leaf (-1) g.Memory [] (Nat.le_refl _) v1 v3 (.inl rfl)
 obtain⟨h1,h2⟩:=aroundS_ok G (a:=(leaveS c (scopeS c t.From t.To) (pathS c g.Leaf) (-1) g.Memory []).2++t.Actions) a1 (untilS (scopeS c t.From t.To) (pathS c t.To).tail) fun x hx=>tail_is x (untilS_sub x hx)
 have hu:=untilS_len (s:=scopeS c t.From t.To) (l:=(pathS c t.To).tail)
 obtain⟨k1,k2,k3,k4⟩:=enterF_ok G c.States.length t.To _ (aroundS c (untilS (scopeS c t.From t.To) (pathS c t.To).tail) (leaveS c (scopeS c t.From t.To) (pathS c g.Leaf) (-1) g.Memory []).1 ((leaveS c (scopeS c t.From t.To) (pathS c g.Leaf) (-1) g.Memory []).2++t.Actions)).2 ht h1 (by omega)
 refine⟨validS_iff.2 ⟨k1,k2,k3⟩,?_⟩
 have:(fireS c g t).2.2.length≤_:=k4
 simp only[List.length_nil,List.length_tail,List.length_append]at h2 hu a2
 omega
theorem firstR_cons {Y:Type} {f:Nat→Option Y} {n:Nat}:firstR f (n+1)=orK (f 0) (firstR (fun i=>f (i+1)) n):=by
 unfold firstR
 rw[List.range_succ_eq_map,List.findSome?_cons,List.findSome?_map]
 cases f 0<;>rfl
theorem firstR_find {F:Int→Bool}:∀ {l:List Int},firstR (fun i=>if F (l.getD i default)=true then some (l.getD i default)else none) l.length=l.find? F
 | []=>rfl
 | x :: l=>by
  rw[List.length_cons,firstR_cons]
  simp only[List.getD_cons_zero,List.getD_cons_succ]
  rw[firstR_find,List.find?_cons]
  by_cases hf:F x=true
  ·simp only[hf,if_true,orK_some]
  ·have hf:=Bool.eq_false_iff.2 hf
   simp only[hf,Bool.false_eq_true,if_false,orK_none]
theorem until_eq {s:Int}:∀ (l:List Int),(if decide (0≤findR (fun i=>s==l.getD i default) l.length)=true then subL l 0 (findR (fun i=>s==l.getD i default) l.length).toNat else l)=untilS s l∧findR (fun i=>s==l.getD i default) l.length≤l.length
 | []=>by simp[untilS,findR,firstR]
 | x :: l=>by
  obtain⟨h1,h2⟩:=until_eq l (s:=s)
  have e:findR (fun i=>s==(x :: l).getD i default) (x :: l).length=if(s==x)=true then 0 else if decide (0≤findR (fun i=>s==l.getD i default) l.length)=true then findR (fun i=>s==l.getD i default) l.length+1 else -1:=by
   unfold findR
   rw[List.length_cons,firstR_cons]
   simp only[List.getD_cons_zero,List.getD_cons_succ]
   by_cases hx:(s==x)=true
   ·simp only[hx,if_true,orK_some];rfl
   ·simp only[hx,if_false,Bool.false_eq_true,orK_none]
    have key:firstR (fun i=>if(s==l.getD i default)=true then some (((i+1:Nat):Int))else none) l.length=(firstR (fun i=>if(s==l.getD i default)=true then some (i:Int)else none) l.length).map (·+1):=by
     unfold firstR
     induction List.range l.length with
     | nil=>rfl
     | cons i r ih =>
      simp only[List.findSome?_cons]
      by_cases hf:(s==l.getD i default)=true
      ·simp only[hf,if_true];simp
      ·simp only[hf,if_false,Bool.false_eq_true];exact ih
    rw[key]
    cases hf:firstR (fun i=>if(s==l.getD i default)=true then some (i:Int)else none) l.length with
    | none=>rfl
    | some y =>
     obtain⟨i,_,h⟩:=firstR_some hf
     split at h
     ·injection h with h;subst h;simp
     ·cases h
  rw[e]
  by_cases hx:(s==x)=true
  ·simp only[hx,if_true]
   exact⟨by simp[untilS,hx,subL],by rw[List.length_cons];omega⟩
  ·have hx':=Bool.eq_false_iff.2 hx
   simp only[hx',if_false,Bool.false_eq_true]
   unfold untilS at h1 ⊢
   rw[List.takeWhile_cons,hx']
   simp only[Bool.not_false,if_true]
   rw[← h1]
   by_cases hf:decide (0≤findR (fun i=>s==l.getD i default) l.length)=true
   ·have h0:0≤findR (fun i=>s==l.getD i default) l.length:=by simpa using hf
    simp only[hf,if_true]
    have h3:decide (0≤findR (fun i=>s==l.getD i default) l.length+1)=true:=by rw[decide_eq_true_eq];omega
    refine⟨?_,by rw[List.length_cons];omega⟩
    rw[if_pos h3,subL_eq (by rw[List.length_cons];omega),subL_eq (by omega)]
    rw[show (findR (fun i=>s==l.getD i default) l.length+1).toNat=(findR (fun i=>s==l.getD i default) l.length).toNat+1 by omega]
    simp
   ·simp only[hf,if_false,Bool.false_eq_true]
    exact⟨by simp,by rw[List.length_cons];omega⟩
theorem tail_sub (l:List Int):subL l 1 (l.length - 1)=l.tail:=by
 cases l with
 | nil=>rfl
 | cons x l=>rw[subL_eq (by rw[List.length_cons];omega)];simp
theorem pathS_pos {c:T27} {x:Int} (hx:isS c x=true):(1:Int)≤((pathS c x).length:Int):=by rw[pathS_step hx,List.length_cons];omega
end Go.Av.Ch
set_option maxRecDepth 100000
namespace Go.Av.Ch
theorem pass_eq {c:T27} (G:Good c) {x:Int} (hx:isS c x=true) {m:List Int} (M:MemOk c m) (leaf:Int) {a:List (List UInt8)} (ha:a.length≤100000):m112o0 x c leaf m a=some (m.set x.toNat (-1)):=by
 have he:=G.entry x hx
 have hl:=(isS_lt hx).2.2
 have h1:(a.length+(c.States.getD x.toNat default).Entry.length) * 16≤140737488355328:=by unfold stA at he;omega
 have h2:x < (m.length:Int):=by have:=M.len;have:=isS_iff.1 hx;omega
 have h3:x.toNat < m.length:=by have:=M.len;omega
 delta m112o0 d112o0
 simp only[↓JD.sg_m,↓JD.sq_m,↓JD.sc_m,↓JD.bk_m,↓JD.lp_m,↓JD.cd_m,↓JD.lu_m,↓JD.ct_m,↓JD.ce_m,↓JL.r_m,↓JL.z_m,↓JD.se_m,onE_r,↓Tr.run,↓Tr.run_nd,↓Tr.run_c3,↓Tr.run_c2,↓Tr.run_nx,↓onS,bind_ite,Option.bind_some,Option.bind_none,obR,isS_lt hx,h1,h2,h3,if_true]
 by_cases hh:(c.States.getD x.toNat default).History=true
 ·simp only[hh,if_true]
 ·have hh:=Bool.eq_false_iff.2 hh
  simp only[hh,Bool.false_eq_true,if_false]
  rw[set_same h3 (M.none hx hh)]
theorem enter_eq {c:T27} (G:Good c) (H:Fit c) {x:Int} (hx:isS c x=true) {m:List Int} (M:MemOk c m) (leaf:Int) {a:List (List UInt8)} (ha:a.length≤80000):m113o0 x c leaf m a=some (enterS c x m a):=by
 have hs:=H.states
 have hm:=M.len
 delta m113o0 d113o0
 simp only[↓JD.sg_m,↓JD.sq_m,↓JD.sc_m,↓JD.bk_m,↓JD.lp_m,↓JD.cd_m,↓JD.lu_m,↓JD.ct_m,↓JD.ce_m,↓JL.r_m,↓JL.z_m,↓JD.se_m,onE_r,↓Tr.run,↓Tr.run_nd,↓Tr.run_c3,↓Tr.run_c2,↓Tr.run_nx,↓onS,bind_ite,Option.bind_some,Option.bind_none,obR]
 refine enter_loop G (fun x m' a hx M' ha=>?_) _ _ _ _ hx M (by omega) (by omega)
 have hl:=(isS_lt hx).2.2
 have h2:x < (m.length:Int):=by have:=isS_iff.1 hx;omega
 have h3:x.toNat < m.length:=by omega
 have h4:subL m' 0 m.length=m':=subL_all (by rw[M'.len,hm])
 simp only[isS_lt hx,h2,h3,h4,implies_true,if_true,pass_eq G hx M' leaf ha,Option.bind_some]
 cases hc:comp c x with
 | true =>
  obtain⟨q1,q2⟩:=child_is G (nextS_child G M' hx hc)
  have q3:=isS_iff.1 q1
  unfold nextS stA at *
  simp only[if_true]
  by_cases hh:((c.States.getD x.toNat default).History&&(m'.getD x.toNat default != (-1:Int)))=true
  ·rw[if_pos hh]at q3
   have:(m'.getD x.toNat default==(-1:Int))=false:=by simp only[beq_eq_false_iff_ne,ne_eq];omega
   simp only[hh,this,if_true,Bool.false_eq_true,if_false]
  ·rw[if_neg hh]at q3
   have hh:=Bool.eq_false_iff.2 hh
   have:((c.States.getD x.toNat default).Initial==(-1:Int))=false:=by simp only[beq_eq_false_iff_ne,ne_eq];omega
   simp only[hh,this,if_true,Bool.false_eq_true,if_false]
 | false =>
  obtain⟨q1,q2⟩:=G.leafI x hx hc
  unfold stA at *
  simp only[q1,q2,Bool.false_and,Bool.false_eq_true,if_false,beq_self_eq_true,if_true]
  rw[set_same (by rw[M'.len];omega) (M'.none hx q2)]
theorem scope_eq {c:T27} (H:Fit c) {a b:Int} (ha:isS c a=true) (hb:isS c b=true):m114 c a b=some (scopeS c a b):=by
 have hs:=H.states
 have hla:=pathS_len c a
 have hlb:=pathS_len c b
 have hl:(pathS c b).tail.length≤100000:=by rw[List.length_tail];omega
 delta m114 d114
 simp only[↓JD.sg_m,↓JD.sq_m,↓JD.sc_m,↓JD.bk_m,↓JD.lp_m,↓JD.cd_m,↓JD.lu_m,↓JD.ct_m,↓JD.ce_m,↓JL.r_m,↓JL.z_m,↓JD.se_m,onE_r,↓Tr.run,↓Tr.run_nd,↓Tr.run_c3,↓Tr.run_c2,↓Tr.run_nx,↓onS,bind_ite,Option.bind_some,Option.bind_none,obR,Path_eq c H,Option.bind_some,Int.reduceLE,pathS_pos ha,pathS_pos hb,if_true,onS_l,Int.toNat_one,tail_sub,containsI_eq _ _ hl]
 rw[show ((pathS c a).length - 1)=(pathS c a).tail.length by rw[List.length_tail]]
 rw[loop_ex (pathS c a).tail.length (fun i=>if hasK (pathS c b).tail (pathS c b).tail.length ((pathS c a).tail.getD i default)=true then some ((pathS c a).tail.getD i default)else none) ?_ ?_,firstR_find,orK_getD];rfl
 ·intro i hi
  rw[List.length_tail]at hi
  have hi':i < (pathS c a).tail.length:=by rw[List.length_tail];exact hi
  have hta:(pathS c a).tail.length≤1000:=by rw[List.length_tail];omega
  simp only[exB_ite,exB_some,exB_none]
  simp only[inL hi',decide_true,Int.toNat_natCast,if_true,wr1 hi' (by omega)]
 ·(simp only[lt_irr,decide_false,Bool.false_eq_true,if_false];try rfl)
theorem leave_key {c:T27} (G:Good c) (s:Int) {p:List Int} {S X:Type} {b:S→Option (S⊕X)} (mk:Int→Int→List Int→List (List UInt8)→S) (out:List Int×List (List UInt8)→X)
  (hb:∀ (pre l:List Int) (x last:Int) (m:List Int) (a:List (List UInt8)),p=pre++x :: l→isS c x=true→MemOk c m→((last = -1∧(stA c x).History=false)∨childS c last x=true)→a.length≤90000 →
   b (mk last (pre.length:Int) m a)=if(x==s)=true then some (.inr (out (m,a)))else some (.inl (mk x ((pre.length+1:Nat):Int) (if((stA c x).History&&(last != (-1:Int)))=true then m.set x.toNat last else m) (a++(stA c x).Exit))))
  (he:∀ last m a,b (mk last (p.length:Int) m a)=some (.inr (out (m,a)))) :
  ∀ (n:Nat) (pre:List Int) (x last:Int) (m:List Int) (a:List (List UInt8)),p=pre++pathS c x→x.toNat≤n→isS c x=true→MemOk c m→((last = -1∧(stA c x).History=false)∨childS c last x=true)→a.length+8 * (n+1)≤90000 →
   loopO b (mk last (pre.length:Int) m a)=some (out (leaveS c s (pathS c x) last m a)):=by
 intro n
 induction n with
 | zero =>
  intro pre x last m' a hpre hn hx M' hl ha
  have he8:=G.exit_ x hx
  rw[pathS_step hx]at hpre ⊢
  rw[loopO_eq,hb pre _ x last m' a hpre hx M' hl (by omega)]
  unfold leaveS
  by_cases hxs:(x==s)=true
  ·simp only[hxs,if_true,Option.bind_some]
  ·simp only[hxs,if_false,Bool.false_eq_true,Option.bind_some]
   cases ht:topB c x with
   | false=>have:=(parent_is G hx ht).2.1;omega
   | true =>
    rw[ht]at hpre
    simp only[if_true]at hpre ⊢
    rw[loopO_eq,show pre.length+1=p.length by rw[hpre];simp,he];rfl
 | succ n ih =>
  intro pre x last m' a hpre hn hx M' hl ha
  have he8:=G.exit_ x hx
  rw[pathS_step hx]at hpre ⊢
  rw[loopO_eq,hb pre _ x last m' a hpre hx M' hl (by omega)]
  unfold leaveS
  by_cases hxs:(x==s)=true
  ·simp only[hxs,if_true,Option.bind_some]
  ·simp only[hxs,if_false,Bool.false_eq_true,Option.bind_some]
   cases ht:topB c x with
   | true =>
    rw[ht]at hpre
    simp only[if_true]at hpre ⊢
    rw[loopO_eq,show pre.length+1=p.length by rw[hpre];simp,he];rfl
   | false =>
    obtain⟨p1,p2,p3⟩:=parent_is G hx ht
    rw[ht]at hpre
    simp only[Bool.false_eq_true,if_false]at hpre ⊢
    have:=ih (pre++[x]) (stA c x).Parent x _ (a++(stA c x).Exit) (by rw[hpre];simp[stA]) (by omega) p1 (mem_leave M' hx (hl.imp (·.1) id)) (.inr p3) (by rw[List.length_append];omega)
    rw[List.length_append]at this
    exact this
theorem leave_eq {c:T27} (G:Good c) (H:Fit c) (s:Int) {leaf:Int} (hx:isS c leaf=true) (hc:comp c leaf=false) {m:List Int} (M:MemOk c m):m115o0 s c leaf m []=some (leaveS c s (pathS c leaf) (-1) m []):=by
 have hs:=H.states
 have hm:=M.len
 have hp:=pathS_len c leaf
 have hlf:=(isS_lt hx).2.2
 have hh:=(G.leafI leaf hx hc).2
 delta m115o0 d115o0
 simp only[↓JD.sg_m,↓JD.sq_m,↓JD.sc_m,↓JD.bk_m,↓JD.lp_m,↓JD.cd_m,↓JD.lu_m,↓JD.ct_m,↓JD.ce_m,↓JL.r_m,↓JL.z_m,↓JD.se_m,onE_r,↓Tr.run,↓Tr.run_nd,↓Tr.run_c3,↓Tr.run_c2,↓Tr.run_nx,↓onS,bind_ite,Option.bind_some,Option.bind_none,obR,Path_eq c H,onS_l]
 generalize hP:pathS c leaf=p at *
 rw[show leaveS c s p (-1) m []=leaveS c s (pathS c leaf) (-1) m [] by rw[hP]]
 refine leave_key G s (p:=p) (fun last i m a=>(last,i,m,a)) id (fun pre l x last m' a hpre hx M' hl ha=>?_) (fun last m' a=>?_) leaf.toNat [] leaf (-1) m [] (by rw[hP];rfl) (Nat.le_refl _) hx M (.inl ⟨rfl,hh⟩) (by simp;omega)
 ·have hi:pre.length < p.length:=by rw[hpre];simp
  have hg:p.getD pre.length default=x:=by rw[hpre];simp[List.getD_eq_getElem?_getD]
  have he8:=G.exit_ x hx
  have h1:(a.length+(c.States.getD x.toNat default).Exit.length) * 16≤140737488355328:=by unfold stA at he8;omega
  have h2:x < (m.length:Int):=by have:=isS_iff.1 hx;omega
  have h3:x.toNat < m.length:=by have:=(isS_lt hx).2.2;omega
  have h4:subL m' 0 m.length=m':=subL_all (by rw[M'.len,hm])
  simp only[inL hi,decide_true,Int.toNat_natCast,if_true,hg,isS_lt hx,h1,h2,h3,h4,wr1 hi (by omega)]
  refine ite_else ?_
  unfold stA
  by_cases hh:((c.States.getD x.toNat default).History&&(last != (-1:Int)))=true
  ·simp only[hh,if_true];rfl
  ·simp only[hh,if_false,Bool.false_eq_true];rfl
 ·simp only[lt_irr,decide_false,Bool.false_eq_true,if_false];rfl
theorem around_fold {c:T27} (G:Good c) {l:List Int} (hl:∀ x∈l,isS c x=true) (h1:l.length≤2000) {m:List Int} (M:MemOk c m) {a:List (List UInt8)} (ha:a.length≤60000) {f:List Int×List (List UInt8)→Nat→Option (List Int×List (List UInt8))}
  (hf:∀ (x:Int) (i:Nat) (m':List Int) (a':List (List UInt8)),i < l.length→l.getD i 0=x→isS c x=true→MemOk c m'→a'.length≤100000→f (m',a') i=some (m'.set x.toNat (-1),a'++(stA c x).Entry)) :
  (dn l.length l.length).foldlM f (m,a)=some (aroundS c l m a):=by
 have key:∀ k,k≤l.length→(dn l.length k).foldlM f (m,a)=some (aroundS c (l.drop (l.length - k)) m a):=by
  intro k
  induction k with
  | zero=>intro _;simp[dn,aroundS]
  | succ k ih =>
   intro hk
   have e:dn l.length (k+1)=dn l.length k++[l.length - 1 - k]:=by unfold dn;rw[List.range_succ,List.map_append];rfl
   have hi:l.length - 1 - k < l.length:=by omega
   have hd:l.drop (l.length - (k+1))=l.getD (l.length - 1 - k) 0 :: l.drop (l.length - k):=by
    rw[show l.length - (k+1)=l.length - 1 - k by omega,List.drop_eq_getElem_cons hi,show l.length - 1 - k+1=l.length - k by omega]
    simp[List.getD_eq_getElem?_getD,List.getElem?_eq_getElem hi]
   have hx:isS c (l.getD (l.length - 1 - k) 0)=true:=hl _ (by rw[List.getD_eq_getElem?_getD,List.getElem?_eq_getElem hi];exact List.getElem_mem hi)
   obtain⟨k1,k2⟩:=aroundS_ok G (a:=a) M (l.drop (l.length - k)) fun x hx=>hl x (List.mem_of_mem_drop hx)
   rw[e,List.foldlM_append,ih (by omega),hd]
   show (f _ _).bind _=_
   rw[hf _ _ _ _ hi rfl hx k1 (by rw[List.length_drop]at k2;omega)]
   rfl
 have:=key l.length (Nat.le_refl _)
 rwa [Nat.sub_self,List.drop_zero]at this
theorem into_eq {c:T27} (G:Good c) (H:Fit c) {to:Int} (ht:isS c to=true) (s:Int) (leaf:Int) {m:List Int} (M:MemOk c m) {a:List (List UInt8)} (ha:a.length≤60000) :
  m65o0 to s c leaf m a=some (enterS c to (aroundS c (untilS s (pathS c to).tail) m a).1 (aroundS c (untilS s (pathS c to).tail) m a).2):=by
 have hs:=H.states
 have hm:=M.len
 have hp:=pathS_len c to
 have hl:(pathS c to).tail.length≤100000:=by rw[List.length_tail];omega
 obtain⟨u1,u2⟩:=until_eq (s:=s) (pathS c to).tail
 have hu:=untilS_len (s:=s) (l:=(pathS c to).tail)
 have e1:(d65o0_1 to s c leaf m a).m=some (pathS c to).tail:=by
  delta d65o0_1
  simp only[↓JD.sg_m,↓JD.sq_m,↓JD.sc_m,↓JD.bk_m,↓JD.lp_m,↓JD.cd_m,↓JD.lu_m,↓JD.ct_m,↓JD.ce_m,↓JL.r_m,↓JL.z_m,↓JD.se_m,onE_r,↓Tr.run,↓Tr.run_nd,↓Tr.run_c3,↓Tr.run_c2,↓Tr.run_nx,↓onS,bind_ite,Option.bind_some,Option.bind_none,obR,Path_eq c H,Option.bind_some,Int.reduceLE,pathS_pos ht,if_true,Int.toNat_one,tail_sub]
 have e2:(d65o0_2 to s c leaf m a (pathS c to).tail).m=some (untilS s (pathS c to).tail):=by
  delta d65o0_2
  simp only[↓JD.sg_m,↓JD.sq_m,↓JD.sc_m,↓JD.bk_m,↓JD.lp_m,↓JD.cd_m,↓JD.lu_m,↓JD.ct_m,↓JD.ce_m,↓JL.r_m,↓JL.z_m,↓JD.se_m,onE_r,↓Tr.run,↓Tr.run_nd,↓Tr.run_c3,↓Tr.run_c2,↓Tr.run_nx,↓onS,bind_ite,Option.bind_some,Option.bind_none,obR,indexI_eq _ _ hl]
  rw[← u1]
  by_cases h0:decide (0≤findR (fun i=>s==(pathS c to).tail.getD i default) (pathS c to).tail.length)=true
  ·have h1:0≤findR (fun i=>s==(pathS c to).tail.getD i default) (pathS c to).tail.length:=by simpa using h0
   simp only[h1,u2,decide_true,if_true]
  ·simp only[h0,if_false,Bool.false_eq_true]
 have e3:(d65o0_3 to s c leaf m a (pathS c to).tail (untilS s (pathS c to).tail)).m=some ():=by
  delta d65o0_3
  simp only[↓JD.sg_m,↓JD.sq_m,↓JD.sc_m,↓JD.bk_m,↓JD.lp_m,↓JD.cd_m,↓JD.lu_m,↓JD.ct_m,↓JD.ce_m,↓JL.r_m,↓JL.z_m,↓JD.se_m,onE_r,↓Tr.run,↓Tr.run_nd,↓Tr.run_c3,↓Tr.run_c2,↓Tr.run_nx,↓onS,bind_ite,Option.bind_some,Option.bind_none,obR,m111o0,d111o0]
 obtain⟨r1,r2⟩:=aroundS_ok G (a:=a) M (untilS s (pathS c to).tail) fun x hx=>tail_is x (untilS_sub x hx)
 rw[List.length_tail]at hu
 delta m65o0
 rw[show (d65o0_0 to s c leaf m a).m=some () from rfl,Option.bind_some,e1,Option.bind_some,e2,Option.bind_some,e3,Option.bind_some,if_pos (by omega)]
 rw[around_fold G (fun x hx=>tail_is x (untilS_sub x hx)) (by omega) M ha ?_,Option.bind_some]
 ·delta d65o0_p
  have h4:subL (aroundS c (untilS s (pathS c to).tail) m a).1 0 m.length=(aroundS c (untilS s (pathS c to).tail) m a).1:=subL_all (by rw[r1.len,hm])
  simp only[↓JD.sg_m,↓JD.sq_m,↓JD.sc_m,↓JD.bk_m,↓JD.lp_m,↓JD.cd_m,↓JD.lu_m,↓JD.ct_m,↓JD.ce_m,↓JL.r_m,↓JL.z_m,↓JD.se_m,onE_r,↓Tr.run,↓Tr.run_nd,↓Tr.run_c3,↓Tr.run_c2,↓Tr.run_nx,↓onS,bind_ite,Option.bind_some,Option.bind_none,obR,h4,enter_eq G H ht r1 leaf (a:=(aroundS c (untilS s (pathS c to).tail) m a).2) (by omega)]
 ·intro x i m' a' hi hg hx M' ha'
  have h4:subL m' 0 m.length=m':=subL_all (by rw[M'.len,hm])
  delta mr65o0
  simp only[hg,h4,pass_eq G hx M' leaf ha',Option.map_some]
theorem begun_eq {c:T27} (H:Fit c) {g:T37} (hl:g.Memory.length=c.States.length):m63o0 c g=some ():=by
 have hs:=H.states
 have h1:((0:Int)≤(g.Memory.length:Int)):=by omega
 have h2:(g.Memory.length:Int) * 8≤140737488355328:=by omega
 have h3:(g.Memory.length:Int)≤9223372036854775807:=by omega
 delta m63o0 d63o0
 simp only[↓JD.sg_m,↓JD.sq_m,↓JD.sc_m,↓JD.bk_m,↓JD.lp_m,↓JD.cd_m,↓JD.lu_m,↓JD.ct_m,↓JD.ce_m,↓JL.r_m,↓JL.z_m,↓JD.se_m,onE_r,↓Tr.run,↓Tr.run_nd,↓Tr.run_c3,↓Tr.run_c2,↓Tr.run_nx,↓onS,bind_ite,Option.bind_some,Option.bind_none,obR,h1,h2,h3,if_true]
theorem copyL_full {l:List Int} {n:Nat} (h:l.length=n):copyL (List.replicate n (0:Int)) l=l:=by
 subst h
 rw[copyL,List.length_replicate,List.take_length,List.drop_eq_nil_of_le (by simp),List.append_nil]
theorem fire_of {c:T27} (G:Good c) (H:Fit c) {g:T37} (hg:validS c g=true) {i:Nat} (hi:i < c.Transitions.length) (he:checkM c=some 0) (hon:hasK (pathS c g.Leaf) (pathS c g.Leaf).length (c.Transitions.getD i default).From=true) :
  m67 c g i=some (⟨(fireS c g (c.Transitions.getD i default)).1,(fireS c g (c.Transitions.getD i default)).2.1⟩,(fireS c g (c.Transitions.getD i default)).2.2,0):=by
 have hs:=H.states
 obtain⟨v1,v2,v3⟩:=validS_iff.1 hg
 have hml:=v3.len
 have hp:=pathS_len c g.Leaf
 have hlf:=(isS_lt v1).2.2
 have ha:=G.acts i hi
 obtain⟨hf,ht⟩:=G.tr i hi
 obtain⟨a1,a2⟩:=leaveS_ok G (s:=scopeS c (c.Transitions.getD i default).From (c.Transitions.getD i default).To) g.Leaf.toNat g.Leaf (-1) g.Memory [] (Nat.le_refl _) v1 v3 (.inl rfl)
 simp only[List.length_nil]at a2
 have h16:((leaveS c (scopeS c (c.Transitions.getD i default).From (c.Transitions.getD i default).To) (pathS c g.Leaf) (-1) g.Memory []).2.length+(c.Transitions.getD i default).Actions.length) * 16≤140737488355328:=by omega
 have hsub:∀ m:List Int,m.length=c.States.length→subL m 0 g.Memory.length=m:=fun m h=>subL_all (by rw[h,hml])
 have hrange:(decide ((i:Int) < 0) || decide ((c.Transitions.length:Int)≤(i:Int)))=false:=by simp;omega
 have hend:=(fireS_ok G H hg hi).1
 have hmend:=(validS_iff.1 hend).2.2.len
 delta m67 d67
 simp only[↓JD.sg_m,↓JD.sq_m,↓JD.sc_m,↓JD.bk_m,↓JD.lp_m,↓JD.cd_m,↓JD.lu_m,↓JD.ct_m,↓JD.ce_m,↓JL.r_m,↓JL.z_m,↓JD.se_m,onE_r,↓Tr.run,↓Tr.run_nd,↓Tr.run_c3,↓Tr.run_c2,↓Tr.run_nx,↓onS,bind_ite,Option.bind_some,Option.bind_none,obR,Check_eq c H,he,Valid_eq c H,hg,Path_eq c H,inL hi,Int.toNat_natCast,if_true,Option.bind_some,containsI_eq _ _ (show (pathS c g.Leaf).length≤100000 by omega),hon,hrange,begun_eq H hml,scope_eq H hf ht,copyL_full (rfl:g.Memory.length=_),leave_eq G H _ v1 v2 v3,h16,
  hsub _ a1.len,bne_self_eq_false,Bool.not_true,Bool.false_eq_true,if_false]
 rw[into_eq G H ht _ _ a1 (by rw[List.length_append];omega)]
 simp only[Option.bind_some]
 have:=hsub _ hmend
 unfold fireS at this
 rw[this]
 rfl
theorem fire_err {c:T27} (H:Fit c) {g:T37} {t:Int}:m67 c g t=(checkM c).bind fun e=>if(e != 0)=true then some (⟨0,[]⟩,[],e)else if(!validS c g)=true then some (⟨0,[]⟩,[],8)else if(decide (t < 0) || decide ((c.Transitions.length:Int)≤t))=true then some (⟨0,[]⟩,[],2)else
  if(!hasK (pathS c g.Leaf) (pathS c g.Leaf).length (c.Transitions.getD t.toNat default).From)=true then some (⟨0,[]⟩,[],9)else some (⟨(fireS c g (c.Transitions.getD t.toNat default)).1,(fireS c g (c.Transitions.getD t.toNat default)).2.1⟩,(fireS c g (c.Transitions.getD t.toNat default)).2.2,0):=by
 have hs:=H.states
 have hp:=pathS_len c g.Leaf
 obtain⟨e,he⟩:=checkM_some c
 rw[he,Option.bind_some]
 by_cases h0:(e != 0)=true
 ·delta m67 d67
  simp only[↓JD.sg_m,↓JD.sq_m,↓JD.sc_m,↓JD.bk_m,↓JD.lp_m,↓JD.cd_m,↓JD.lu_m,↓JD.ct_m,↓JD.ce_m,↓JL.r_m,↓JL.z_m,↓JD.se_m,onE_r,↓Tr.run,↓Tr.run_nd,↓Tr.run_c3,↓Tr.run_c2,↓Tr.run_nx,↓onS,bind_ite,Option.bind_some,Option.bind_none,obR,Check_eq c H,he,Option.bind_some,h0,if_true]
 have h0':e=0:=by simpa using h0
 subst h0'
 simp only[h0,if_false,Bool.false_eq_true]
 cases hv:validS c g with
 | false =>
  delta m67 d67
  simp only[↓JD.sg_m,↓JD.sq_m,↓JD.sc_m,↓JD.bk_m,↓JD.lp_m,↓JD.cd_m,↓JD.lu_m,↓JD.ct_m,↓JD.ce_m,↓JL.r_m,↓JL.z_m,↓JD.se_m,onE_r,↓Tr.run,↓Tr.run_nd,↓Tr.run_c3,↓Tr.run_c2,↓Tr.run_nx,↓onS,bind_ite,Option.bind_some,Option.bind_none,obR,Check_eq c H,he,Option.bind_some,h0,if_false,Bool.false_eq_true,Valid_eq c H,hv,Bool.not_false,if_true]
 | true =>
  by_cases hr:(decide (t < 0) || decide ((c.Transitions.length:Int)≤t))=true
  ·delta m67 d67
   simp only[↓JD.sg_m,↓JD.sq_m,↓JD.sc_m,↓JD.bk_m,↓JD.lp_m,↓JD.cd_m,↓JD.lu_m,↓JD.ct_m,↓JD.ce_m,↓JL.r_m,↓JL.z_m,↓JD.se_m,onE_r,↓Tr.run,↓Tr.run_nd,↓Tr.run_c3,↓Tr.run_c2,↓Tr.run_nx,↓onS,bind_ite,Option.bind_some,Option.bind_none,obR,Check_eq c H,he,Option.bind_some,h0,if_false,Bool.false_eq_true,Valid_eq c H,hv,Bool.not_true,hr,if_true]
  ·have hr':=Bool.eq_false_iff.2 hr
   simp only[Bool.or_eq_false_iff,decide_eq_false_iff_not]at hr'
   obtain⟨i,rfl⟩:=Int.eq_ofNat_of_zero_le (show 0≤t by omega)
   have hi:i < c.Transitions.length:=by omega
   cases hon:hasK (pathS c g.Leaf) (pathS c g.Leaf).length (c.Transitions.getD i default).From with
   | true=>rw[fire_of (good_of he) H hv hi he hon];simp only[hr,Int.toNat_natCast,hon,Bool.not_true,Bool.false_eq_true,if_false]
   | false =>
    delta m67 d67
    simp only[↓JD.sg_m,↓JD.sq_m,↓JD.sc_m,↓JD.bk_m,↓JD.lp_m,↓JD.cd_m,↓JD.lu_m,↓JD.ct_m,↓JD.ce_m,↓JL.r_m,↓JL.z_m,↓JD.se_m,onE_r,↓Tr.run,↓Tr.run_nd,↓Tr.run_c3,↓Tr.run_c2,↓Tr.run_nx,↓onS,bind_ite,Option.bind_some,Option.bind_none,obR,Check_eq c H,he,Option.bind_some,h0,if_false,Bool.false_eq_true,Valid_eq c H,hv,Bool.not_true,hr,if_true,inL hi,Int.toNat_natCast,Path_eq c H,containsI_eq _ _ (show (pathS c g.Leaf).length≤100000 by omega),hon,Bool.not_false]
end Go.Av.Ch
set_option maxRecDepth 100000
namespace Go.Av.Ch
theorem untilS_all {s:Int} {l:List Int} (h:∀ x∈l,x≠s):untilS s l=l:=by
 unfold untilS
 induction l with
 | nil=>rfl
 | cons x l ih =>
  have hx:(s==x)=false:=by simp only[beq_eq_false_iff_ne,ne_eq];exact fun e=>h x (by simp) e.symm
  rw[List.takeWhile_cons,hx,ih fun y hy=>h y (List.mem_cons_of_mem _ hy)];rfl
def startM (c:T27):Option (Int×List (List UInt8)×Int×List Int):=(checkM c).bind fun e=>if(e != 0)=true then some (e,[],0,[])else some (0,(startS c).2.2,(startS c).1,(startS c).2.1)
theorem Start_eq (c:T27) (H:Fit c):m28o0 c=startM c:=by
 obtain⟨e,he⟩:=checkM_some c
 unfold startM
 rw[he,Option.bind_some]
 delta m28o0 d28o0
 by_cases h0:(e != 0)=true
 ·simp only[↓JD.sg_m,↓JD.sq_m,↓JD.sc_m,↓JD.bk_m,↓JD.lp_m,↓JD.cd_m,↓JD.lu_m,↓JD.ct_m,↓JD.ce_m,↓JL.r_m,↓JL.z_m,↓JD.se_m,onE_r,↓Tr.run,↓Tr.run_nd,↓Tr.run_c3,↓Tr.run_c2,↓Tr.run_nx,↓onS,bind_ite,Option.bind_some,Option.bind_none,obR,Check_eq c H,he,h0,if_true]
 ·have h0':e=0:=by simpa using h0
  subst h0'
  have G:=good_of he
  have hcap:=G.cap
  have hrep:m64 [-1] (c.States.length:Int)=some (List.replicate c.States.length (-1)):=by
   unfold m64
   simp only[Int.toNat_natCast]
   rw[if_pos (by omega)]
  have hb:=begun_eq H (g:=⟨0,List.replicate c.States.length (-1)⟩) (by simp)
  have hl:(List.replicate c.States.length (-1:Int)).length=c.States.length:=by simp
  have hu:untilS (-1) (pathS c c.Start).tail=(pathS c c.Start).tail:=untilS_all fun x hx=>by
   have:=isS_iff.1 (tail_is x hx);omega
  have hi:=into_eq G H G.start (-1) 0 mem_begin (a:=[]) (by simp)
  rw[hu]at hi
  have hend:=(startS_ok G H).1
  have hmend:=(validS_iff.1 hend).2.2.len
  simp only[↓JD.sg_m,↓JD.sq_m,↓JD.sc_m,↓JD.bk_m,↓JD.lp_m,↓JD.cd_m,↓JD.lu_m,↓JD.ct_m,↓JD.ce_m,↓JL.r_m,↓JL.z_m,↓JD.se_m,onE_r,↓Tr.run,↓Tr.run_nd,↓Tr.run_c3,↓Tr.run_c2,↓Tr.run_nx,↓onS,bind_ite,Option.bind_some,Option.bind_none,obR,Check_eq c H,he,h0,if_false,Bool.false_eq_true,hrep,hb,hl,Int.toNat_natCast,copyL_full hl,hi]
  rw[subL_all (by unfold startS at hmend;exact hmend)]
  rfl
theorem enabled_at {c:T27} {leaf v:Int} (h:0 < (enabledS c leaf v).length):∃ i,i < c.Transitions.length∧(enabledS c leaf v).getD 0 default=(i:Int)∧hasK (pathS c leaf) (pathS c leaf).length (c.Transitions.getD i default).From=true:=by
 have hm:(enabledS c leaf v).getD 0 default∈enabledS c leaf v:=getD_mem h
 generalize (enabledS c leaf v).getD 0 default=x at *
 unfold enabledS at hm
 obtain⟨i,hi,hx⟩:=List.mem_flatMap.1 hm
 unfold enabG at hx
 split at hx
 ·rename_i h1
  simp only[Bool.and_eq_true]at h1
  exact⟨i,List.mem_range.1 hi,by simpa using hx,h1.1⟩
 ·cases hx
def fireR (c:T27) (g:T37) (t:Int):T37×List (List UInt8)×Int:=(⟨(fireS c g (c.Transitions.getD t.toNat default)).1,(fireS c g (c.Transitions.getD t.toNat default)).2.1⟩,(fireS c g (c.Transitions.getD t.toNat default)).2.2,0)
def stepM (c:T27) (g:T37) (v:Int):Option (T37×List (List UInt8)×Int):=(checkM c).bind fun e=>if(e != 0)=true then some (⟨0,[]⟩,[],e)else if(!validS c g)=true then some (⟨0,[]⟩,[],8)else if(!allowedS c v)=true then some (⟨0,[]⟩,[],1)else
 if(((enabledS c g.Leaf v).length:Int)==0)=true then some (⟨0,[]⟩,[],6)else if(((enabledS c g.Leaf v).length:Int)==1)=true then some (fireR c g ((enabledS c g.Leaf v).getD 0 default))else some (⟨0,[]⟩,[],11)
theorem Step_eq (c:T27) (H:Fit c) (g:T37) (v:Int):m29 c g v=stepM c g v:=by
 obtain⟨e,he⟩:=checkM_some c
 unfold stepM
 rw[he,Option.bind_some]
 delta m29 d29
 by_cases h0:(e != 0)=true
 ·simp only[↓JD.sg_m,↓JD.sq_m,↓JD.sc_m,↓JD.bk_m,↓JD.lp_m,↓JD.cd_m,↓JD.lu_m,↓JD.ct_m,↓JD.ce_m,↓JL.r_m,↓JL.z_m,↓JD.se_m,onE_r,↓Tr.run,↓Tr.run_nd,↓Tr.run_c3,↓Tr.run_c2,↓Tr.run_nx,↓onS,bind_ite,Option.bind_some,Option.bind_none,obR,Check_eq c H,he,h0,if_true]
 ·have h0':e=0:=by simpa using h0
  subst h0'
  simp only[↓JD.sg_m,↓JD.sq_m,↓JD.sc_m,↓JD.bk_m,↓JD.lp_m,↓JD.cd_m,↓JD.lu_m,↓JD.ct_m,↓JD.ce_m,↓JL.r_m,↓JL.z_m,↓JD.se_m,onE_r,↓Tr.run,↓Tr.run_nd,↓Tr.run_c3,↓Tr.run_c2,↓Tr.run_nx,↓onS,bind_ite,Option.bind_some,Option.bind_none,obR,Check_eq c H,he,h0,if_false,Bool.false_eq_true,Valid_eq c H,Allowed_eq c H,Enabled_eq c H]
  cases hv:validS c g with
  | false=>rfl
  | true =>
   simp only[Bool.not_true,Bool.false_eq_true,if_false]
   refine ite_else (ite_else ?_)
   by_cases h1:(((enabledS c g.Leaf v).length:Int)==1)=true
   ·have hl:(enabledS c g.Leaf v).length=1:=by have:=eq_of_beq h1;omega
    obtain⟨i,hi,hx,hon⟩:=enabled_at (c:=c) (leaf:=g.Leaf) (v:=v) (by omega)
    have hz:(0:Int) < ((enabledS c g.Leaf v).length:Int):=by omega
    simp only[h1,hz,Int.le_refl,if_true,Int.toNat_zero,hx,fire_of (good_of he) H hv hi he hon,fireR,Int.toNat_natCast,Option.bind_some]
   ·simp only[h1,if_false,Bool.false_eq_true]
theorem stepM_some (c:T27) (g:T37) (v:Int):∃ r,stepM c g v=some r:=by
 obtain⟨e,he⟩:=checkM_some c
 unfold stepM
 rw[he,Option.bind_some]
 exact ite_total (ite_total (ite_total (ite_total (ite_total ⟨_,rfl⟩))))
theorem stepM_ok {c:T27} (H:Fit c) {g:T37} {v:Int} {r:T37×List (List UInt8)×Int} (h:stepM c g v=some r):r.2.1.length≤32000∧(r.2.2=0→checkM c=some 0∧validS c g=true∧validS c r.1=true):=by
 obtain⟨e,he⟩:=checkM_some c
 unfold stepM at h
 rw[he,Option.bind_some]at h
 split at h
 ·rename_i h0;injection h with h;subst h;exact⟨by simp,fun h=>absurd h (by simpa using h0)⟩
 rename_i h0
 have h0':e=0:=by simpa using h0
 subst h0'
 split at h
 ·injection h with h;subst h;exact⟨by simp,fun h=>absurd h (by decide)⟩
 rename_i hv
 have hv:validS c g=true:=by simpa using hv
 split at h
 ·injection h with h;subst h;exact⟨by simp,fun h=>absurd h (by decide)⟩
 split at h
 ·injection h with h;subst h;exact⟨by simp,fun h=>absurd h (by decide)⟩
 split at h
 ·rename_i h1
  have hl:(enabledS c g.Leaf v).length=1:=by have:=eq_of_beq h1;omega
  obtain⟨i,hi,hx,hon⟩:=enabled_at (c:=c) (leaf:=g.Leaf) (v:=v) (by omega)
  injection h with h;subst h
  rw[hx]
  unfold fireR
  rw[Int.toNat_natCast]
  obtain⟨k1,k2⟩:=fireS_ok (good_of he) H hv hi
  exact⟨k2,fun _=>⟨he,hv,k1⟩⟩
 ·injection h with h;subst h;exact⟨by simp,fun h=>absurd h (by decide)⟩
def runS (c:T27):List Int→T37→List Int→List (List UInt8)→Option (List Int×List (List UInt8)×Int)
 | [],_,ls,a=>some (ls,a,0)
 | v :: l,g,ls,a=>(stepM c g v).bind fun r=>if(r.2.2 != 0)=true then some ([],[],r.2.2)else runS c l r.1 (ls++[r.1.Leaf]) (a++r.2.1)
def runM (c:T27) (l:List Int):Option (List Int×List (List UInt8)×Int):=(startM c).bind fun r=>if(r.1 != 0)=true then some ([],[],r.1)else runS c l ⟨r.2.2.1,r.2.2.2⟩ [r.2.2.1] r.2.1
theorem startM_some (c:T27):∃ r,startM c=some r:=by
 obtain⟨e,he⟩:=checkM_some c
 unfold startM
 rw[he,Option.bind_some]
 exact ite_total ⟨_,rfl⟩
theorem startM_ok {c:T27} (H:Fit c) {r:Int×List (List UInt8)×Int×List Int} (h:startM c=some r):r.2.1.length≤16000∧(r.1=0→checkM c=some 0∧validS c ⟨r.2.2.1,r.2.2.2⟩=true):=by
 obtain⟨e,he⟩:=checkM_some c
 unfold startM at h
 rw[he,Option.bind_some]at h
 split at h
 ·rename_i h0;injection h with h;subst h;exact⟨by simp,fun h=>absurd h (by simpa using h0)⟩
 rename_i h0
 have h0':e=0:=by simpa using h0
 subst h0'
 injection h with h;subst h
 obtain⟨k1,k2⟩:=startS_ok (good_of he) H
 exact⟨k2,fun _=>⟨he,k1⟩⟩
theorem run_loop {c:T27} (H:Fit c) {l:List Int} {S X:Type} {b:S→Option (S⊕X)} (mk:List (List UInt8)→List Int→Int→T37→S) (ok:List (List UInt8)→List Int→X) (bad:Int→X)
  (hb:∀ (i:Nat) (a:List (List UInt8)) (ls:List Int) (g:T37),i < l.length→a.length≤32000 * (i+1)→ls.length=i+1→b (mk a ls i g)=(stepM c g (l.getD i default)).bind fun r=>if(r.2.2 != 0)=true then some (.inr (bad r.2.2))else some (.inl (mk (a++r.2.1) (ls++[r.1.Leaf]) ((i+1:Nat):Int) r.1)))
  (he:∀ a ls g,b (mk a ls (l.length:Int) g)=some (.inr (ok a ls))) :
  ∀ (k i:Nat) (a:List (List UInt8)) (ls:List Int) (g:T37),i+k=l.length→a.length≤32000 * (i+1)→ls.length=i+1 →
   loopO b (mk a ls i g)=(runS c (l.drop i) g ls a).map fun r=>if(r.2.2 != 0)=true then bad r.2.2 else ok r.2.1 r.1:=by
 intro k
 induction k with
 | zero =>
  intro i a ls g hk ha hls
  obtain rfl:i=l.length:=by omega
  rw[loopO_eq,he,List.drop_length];rfl
 | succ k ih =>
  intro i a ls g hk ha hls
  have hi:i < l.length:=by omega
  rw[loopO_eq,hb i a ls g hi ha hls,List.drop_eq_getElem_cons hi]
  obtain⟨r,hr⟩:=stepM_some c g (l.getD i default)
  have hr':=hr
  rw[List.getD_eq_getElem?_getD,List.getElem?_eq_getElem hi,Option.getD_some]at hr'
  unfold runS
  rw[hr,hr',Option.bind_some,Option.bind_some]
  by_cases h0:(r.2.2 != 0)=true
  ·simp only[h0,if_true,Option.bind_some,Option.map_some]
  ·simp only[h0,if_false,Bool.false_eq_true,Option.bind_some]
   have:=(stepM_ok H hr).1
   exact ih (i+1) _ _ _ (by omega) (by rw[List.length_append];omega) (by rw[List.length_append,hls];rfl)
theorem run_end {c:T27} {l:List Int} {g:T37} {ls:List Int} {a:List (List UInt8)} :
  ((runS c l g ls a).map fun r=>if(r.2.2 != 0)=true then(.inr ([],[],r.2.2):(List (List UInt8)×List Int)⊕(List Int×List (List UInt8)×Int))else .inl (r.2.1,r.1)).bind (onS fun y=>some (y.2,y.1,0))=runS c l g ls a:=by
 have key:∀ (l:List Int) (g:T37) (ls:List Int) (a:List (List UInt8)),∀ z,runS c l g ls a=some z→(z.2.2≠0→z=([],[],z.2.2)):=by
  intro l
  induction l with
  | nil=>intro g ls a z hz;unfold runS at hz;injection hz with hz;subst hz;intro h;exact absurd rfl h
  | cons v l ih =>
   intro g ls a z hz
   unfold runS at hz
   obtain⟨q,hq⟩:=stepM_some c g v
   rw[hq,Option.bind_some]at hz
   split at hz
   ·injection hz with hz;subst hz;intro _;rfl
   ·exact ih _ _ _ z hz
 cases hz:runS c l g ls a with
 | none=>rfl
 | some z =>
  simp only[Option.map_some,Option.bind_some]
  by_cases h1:(z.2.2 != 0)=true
  ·rw[if_pos h1,onS_r,key _ _ _ _ z hz (by simpa using h1)]
  ·rw[if_neg h1,onS_l]
   have:z.2.2=0:=by simpa using h1
   rw[← this]
theorem Run_eq (c:T27) (H:Fit c) (l:List Int) (hl:l.length≤1000):m32 c l=runM c l:=by
 obtain⟨r,hr⟩:=startM_some c
 unfold runM
 rw[hr,Option.bind_some]
 have ha:=(startM_ok H hr).1
 delta m32 d32
 by_cases h0:(r.1 != 0)=true
 ·simp only[↓JD.sg_m,↓JD.sq_m,↓JD.sc_m,↓JD.bk_m,↓JD.lp_m,↓JD.cd_m,↓JD.lu_m,↓JD.ct_m,↓JD.ce_m,↓JL.r_m,↓JL.z_m,↓JD.se_m,onE_r,↓Tr.run,↓Tr.run_nd,↓Tr.run_c3,↓Tr.run_c2,↓Tr.run_nx,↓onS,bind_ite,Option.bind_some,Option.bind_none,obR,Start_eq c H,hr,h0,if_true,onS_r]
 ·simp only[↓JD.sg_m,↓JD.sq_m,↓JD.sc_m,↓JD.bk_m,↓JD.lp_m,↓JD.cd_m,↓JD.lu_m,↓JD.ct_m,↓JD.ce_m,↓JL.r_m,↓JL.z_m,↓JD.se_m,onE_r,↓Tr.run,↓Tr.run_nd,↓Tr.run_c3,↓Tr.run_c2,↓Tr.run_nx,↓onS,bind_ite,Option.bind_some,Option.bind_none,obR,Start_eq c H,hr,h0,if_false,Bool.false_eq_true,onS_l]
  refine bind_eq (run_loop H (l:=l) (X:=(List (List UInt8)×List Int)⊕(List Int×List (List UInt8)×Int)) (fun a ls i g=>(a,ls,i,g.Leaf,g.Memory)) (fun a ls=>.inl (a,ls)) (fun e=>.inr ([],[],e)) ?_ ?_ l.length 0 r.2.1 [r.2.2.1] ⟨r.2.2.1,r.2.2.2⟩ (by omega) (by omega) rfl) ?_
  rotate_left 2
  ·rw[List.drop_zero]
   exact run_end
  ·intro i a ls g hi ha hls
   have h1:(ls.length+1) * 8≤140737488355328:=by omega
   obtain⟨q,hq⟩:=stepM_some c g (l.getD i default)
   have hq2:=(stepM_ok H hq).1
   have h2:(a.length+q.2.1.length) * 16≤140737488355328:=by omega
   have hq':m29 c ⟨g.Leaf,g.Memory⟩ (l.getD i default)=some q:=by rw[Step_eq c H];exact hq
   simp only[inL hi,decide_true,Int.toNat_natCast,if_true,hq,hq',h1,h2,wr1 hi (by omega),Option.bind_some];rfl
  ·intro a ls g;(simp only[lt_irr,decide_false,Bool.false_eq_true,if_false];try rfl)
end Go.Av.Ch
set_option maxRecDepth 100000
namespace Go.Av.Ch
theorem minQ0 (k:Int) (hk:0≤k) (L:Nat):(0:Int)≤(if k < (L:Int)then k else(L:Int)):=by split<;>omega
theorem minQ1 (k:Int) (L:Nat):(if k < (L:Int)then k else(L:Int))≤(L:Int):=by split<;>omega
theorem minQ2 (k:Int) (hk:k≤1000) (L:Nat):(0+(if k < (L:Int)then k else(L:Int)).toNat) * 16≤140737488355328:=by split<;>omega
def cutL {A:Type} [Inhabited A] (k:Int) (l:List A):List A:=[]++subL l 0 (if k < (l.length:Int)then k else(l.length:Int)).toNat
theorem cutL_len {A:Type} [Inhabited A] (k:Nat) (l:List A):(cutL (k:Int) l).length=min k l.length:=by
 rw[cutL,List.nil_append,subL_len];split<;>omega
theorem mem_coll {A:Type} {h:Nat→A} {n:Nat} {P:A→Prop} (hp:∀ i,i < n→P (h i)):∀ x∈(List.range n).flatMap fun i=>[h i],P x:=fun x hx=>by
 obtain⟨i,h1,hi⟩:=List.mem_flatMap.1 hx
 simp only[List.mem_singleton]at hi
 rw[hi];exact hp i (List.mem_range.1 h1)
theorem few_end {n k:Nat} {K:Int} (hK:K=(k:Int)):((decide (((min n k:Nat):Int) < (n:Int)))&&(decide (((min n k:Nat):Int) < K)))=false:=by
 rw[Bool.eq_false_iff];simp only[ne_eq,Bool.and_eq_true,decide_eq_true_eq];omega
theorem few_on {i n k:Nat} {K:Int} (hK:K=(k:Int)) (h:i < min n k):((decide ((i:Int) < (n:Int)))&&(decide ((i:Int) < K)))=true:=by
 simp only[Bool.and_eq_true,decide_eq_true_eq];omega
def fewN (c:T27) (i:Nat):List T116:=cutL 6 (c.Never.getD i default)
def fewT (c:T27) (i:Nat):T119:=⟨(c.States.getD i default).Name,(c.States.getD i default).Parent,(c.States.getD i default).Initial,(c.States.getD i default).History,cutL 9 (c.States.getD i default).Entry,cutL 9 (c.States.getD i default).Exit⟩
def fewR (c:T27) (i:Nat):T85:=⟨(c.Transitions.getD i default).From,(c.Transitions.getD i default).To,cutL 6 (c.Transitions.getD i default).When,cutL 9 (c.Transitions.getD i default).Actions⟩
def fewS (c:T27):T27:=⟨c.Name,cutL 6 c.Conds,(List.range (min c.Never.length 4)).flatMap (fun i=>[fewN c i]),(List.range (min c.States.length 12)).flatMap (fun i=>[fewT c i]),c.Start,(List.range (min c.Transitions.length 24)).flatMap (fun i=>[fewR c i])⟩
theorem round_few {A:Type} {g:Nat→A} {i:Nat} {n k z:Nat} (hz:z≤1000) (hk:k≤1000) (h:i < min n k):(((List.range i).flatMap fun i=>[g i]).length+1) * z≤140737488355328:=by
 have hl:=flatMap_len (g:=fun i=>[g i]) (m:=1) (fun i=>by simp) i
 have:(((List.range i).flatMap fun i=>[g i]).length+1) * z≤1001 * 1000:=Nat.mul_le_mul (by omega) hz
 omega
theorem Few_eq (c:T27):m43 c=some (fewS c):=by
 delta m43 d43
 simp only[↓JD.sg_m,↓JD.sq_m,↓JD.sc_m,↓JD.bk_m,↓JD.lp_m,↓JD.cd_m,↓JD.lu_m,↓JD.ct_m,↓JD.ce_m,↓JL.r_m,↓JL.z_m,↓JD.se_m,onE_r,↓Tr.run,↓Tr.run_nd,↓Tr.run_c3,↓Tr.run_c2,↓Tr.run_nx,↓onS,bind_ite,Option.bind_some,Option.bind_none,obR,minQ0 6 (by omega),minQ1,minQ2 6 (by omega),if_true]
 refine on_l (loop_coll (min c.Never.length 4) (fun i l=>((i:Int),l)) (fun i=>[fewN c i]) Sum.inl (fun i hi=>?_) ?_) (on_l (loop_coll (min c.States.length 12) (fun i l=>((i:Int),l)) (fun i=>[fewT c i]) Sum.inl (fun i hi=>?_) ?_) (on_l (loop_coll (min c.Transitions.length 24) (fun i l=>((i:Int),l)) (fun i=>[fewR c i]) Sum.inl (fun i hi=>?_) ?_) rfl))
 ·rw[if_pos (few_on (K:=4) rfl hi)];simp only[round_few (show 24≤1000 by omega) (by omega) hi,minQ0 6 (by omega),minQ1,minQ2 6 (by omega),Int.toNat_natCast,inL (show i < c.Never.length by omega),if_true,wr1 hi (by omega)];rfl
 ·simp only[few_end (n:=c.Never.length) (k:=4) (K:=4) rfl,Bool.false_eq_true,if_false]
 ·rw[if_pos (few_on (K:=12) rfl hi)];simp only[round_few (show 88≤1000 by omega) (by omega) hi,minQ0 9 (by omega),minQ1,minQ2 9 (by omega),Int.toNat_natCast,inL (show i < c.States.length by omega),if_true,wr1 hi (by omega)];rfl
 ·simp only[few_end (n:=c.States.length) (k:=12) (K:=12) rfl,Bool.false_eq_true,if_false]
 ·rw[if_pos (few_on (K:=24) rfl hi)];simp only[round_few (show 64≤1000 by omega) (by omega) hi,minQ0 6 (by omega),minQ0 9 (by omega),minQ1,minQ2 6 (by omega),minQ2 9 (by omega),Int.toNat_natCast,inL (show i < c.Transitions.length by omega),if_true,wr1 hi (by omega)];rfl
 ·simp only[few_end (n:=c.Transitions.length) (k:=24) (K:=24) rfl,Bool.false_eq_true,if_false]
structure Small (c:T27):Prop where
 conds:c.Conds.length≤6
 never:c.Never.length≤4
 lits:∀ l∈c.Never,l.length≤6
 states:c.States.length≤12
 entry:∀ s∈c.States,s.Entry.length≤9
 exit_:∀ s∈c.States,s.Exit.length≤9
 trans:c.Transitions.length≤24
 when_:∀ t∈c.Transitions,t.When.length≤6
 acts:∀ t∈c.Transitions,t.Actions.length≤9
theorem Small.fit {c:T27} (h:Small c):Fit c :=
 ⟨Nat.le_trans h.conds (by omega),Nat.le_trans h.never (by omega),fun l hl=>Nat.le_trans (h.lits l hl) (by omega),Nat.le_trans h.states (by omega),fun s hs=>Nat.le_trans (h.entry s hs) (by omega),fun s hs=>Nat.le_trans (h.exit_ s hs) (by omega),Nat.le_trans h.trans (by omega),fun t ht=>Nat.le_trans (h.when_ t ht) (by omega),fun t ht=>Nat.le_trans (h.acts t ht) (by omega)⟩
theorem cutL6 {A:Type} [Inhabited A] (l:List A):(cutL 6 l).length≤6:=by have:=cutL_len 6 l;simp only[Int.cast_ofNat_Int]at this;omega
theorem cutL9 {A:Type} [Inhabited A] (l:List A):(cutL 9 l).length≤9:=by have:=cutL_len 9 l;simp only[Int.cast_ofNat_Int]at this;omega
theorem few_small (c : T27) : Small (fewS c) :=
  ⟨cutL6 _, Nat.le_trans (flatMap_len (m := 1) (fun i => by simp) _) (by omega), mem_coll fun i _ => cutL6 _, Nat.le_trans (flatMap_len (m := 1) (fun i => by simp) _) (by omega), mem_coll fun i _ => cutL9 _, mem_coll fun i _ => cutL9 _,
   Nat.le_trans (flatMap_len (m := 1) (fun i => by simp) _) (by omega), mem_coll fun i _ => cutL6 _, mem_coll fun i _ => cutL9 _⟩
end Go.Av.Ch
set_option maxRecDepth 100000
namespace Go.Av.Ch
theorem eta (x:T27):(⟨x.Name,x.Conds,x.Never,x.States,x.Start,x.Transitions⟩:T27)=x:=rfl
theorem bne_self {α:Type} [BEq α] [LawfulBEq α] (x:α):(x != x)=false:=by simp
end Go.Av.Ch
namespace Go.Av
theorem n16 {n:Nat} (h:n < 65536):IntKind.wrap .u16 (n:Int)=(n:Int):=IntWalk.u16_in _ (by omega)
theorem bs {α β:Type} {a:α} {f:α→Option β}:Option.bind (some a) f=f a:=Eq.mpr rfl rfl
theorem bn {α β:Type} {f:α→Option β}:Option.bind none f=none:=Eq.mpr rfl rfl
theorem ol {Y R:Type} {f:Y→Option R} {y:Y}:onS f (.inl y)=f y:=Eq.mpr rfl rfl
theorem or_ {Y R:Type} {f:Y→Option R} {r:R}:onS f (.inr r)=some r:=Eq.mpr rfl rfl
theorem oe {R:Type} {r:R}:onE (.inr r)=some r:=Eq.mpr rfl rfl
theorem bind_id {α:Type} {m:Option α}:(Option.bind m fun r=>some r)=m:=by cases m<;>rfl
theorem loop_st {S X : Type} {b : S → Option (S ⊕ X)} (n : Nat) (st : Nat → S) (out : X) (hs : ∀ i, i < n → b (st i) = some (.inl (st (i + 1)))) (he : b (st n) = some (.inr out)) : loopO b (st 0) = some out := by
  have key : ∀ k i, i + k = n → loopO b (st i) = some out := by
    intro k
    induction k with
    | zero => intro i h; obtain rfl : i = n := by omega
              rw [loopO_eq, he]; rfl
    | succ k ih => intro i h; rw [loopO_eq, hs i (by omega)]; exact ih (i + 1) (by omega)
  exact key n 0 (by omega)
end Go.Av
set_option maxRecDepth 100000
namespace Go.Av
open Ch Go.Proofs
instance:Decidable (Tryz.prog=Tryz.prog):=.isTrue rfl
theorem list_eq_iff {α:Type} [Inhabited α] {a b:List α} (h:a.length=b.length):a=b↔∀ i,i < a.length→a.getD i default=b.getD i default:=by
 constructor
 ·intro e i _;rw[e]
 ·intro k
  apply List.ext_getElem h
  intro i h1 h2
  have:=k i h1
  simpa [List.getD_eq_getElem?_getD,List.getElem?_eq_getElem h1,List.getElem?_eq_getElem h2] using this
theorem firstR_ne {α:Type} [BEq α] [LawfulBEq α] [Inhabited α] {a b:List α} (h:a.length=b.length):(firstR (fun i=>if(a.getD i default != b.getD i default)=true then some false else none) a.length).getD true=(a==b):=by
 rw[firstR_const]
 by_cases e:a=b
 ·have:anyR (fun i=>a.getD i default != b.getD i default) a.length=false:=by
   rw[anyR_false];intro i _;rw[e];simp
  rw[this,e];simp
 ·have:anyR (fun i=>a.getD i default != b.getD i default) a.length=true:=by
   rw[anyR_iff]
   apply Classical.byContradiction
   intro hn
   apply e
   rw[list_eq_iff h]
   intro i hi
   apply Classical.byContradiction
   intro hne
   exact hn ⟨i,hi,by simpa using hne⟩
  rw[this,if_pos rfl]
  simp[e]
theorem len_ne {α:Type} [BEq α] [LawfulBEq α] {a b:List α} (h:((a.length:Int) != (b.length:Int))=true):(a==b)=false:=by
 rw[beq_eq_false_iff_ne]
 rintro rfl
 simp at h
theorem len_eq {α:Type} {a b:List α} (h:((a.length:Int) != (b.length:Int))=false):a.length=b.length:=by
 simp at h;omega
theorem eqInts_eq (a b:List Int) (ha:a.length≤1000000):m121 a b=some (a==b):=by
 delta m121 d121
 simp only[↓JD.sg_m,↓JD.sq_m,↓JD.sc_m,↓JD.bk_m,↓JD.lp_m,↓JD.cd_m,↓JD.lu_m,↓JD.ct_m,↓JD.ce_m,↓JL.r_m,↓JL.z_m,↓JD.se_m,onE_r,↓Tr.run,↓Tr.run_nd,↓Tr.run_c3,↓Tr.run_c2,↓Tr.run_nx,↓onS,bind_ite,Option.bind_some,Option.bind_none,obR]
 by_cases h:((a.length:Int) != (b.length:Int))=true
 ·simp only[h,if_true,onS_r,len_ne h]
 ·have h:=Bool.eq_false_iff.2 h
  have hl:=len_eq h
  simp only[h,Bool.false_eq_true,if_false,onS_l]
  rw[loop_ex a.length (fun i=>if(a.getD i default != b.getD i default)=true then some false else none) ?_ ?_,orK_getD,firstR_ne hl]
  ·intro i hi
   have hi2:i < b.length:=by omega
   simp only[exB_ite,exB_some,exB_none,inL hi,inL hi2,decide_true,Int.toNat_natCast,if_true,wr1 hi (by omega)]
  ·(simp only[lt_irr,decide_false,Bool.false_eq_true,if_false];try rfl)
theorem SameStrings_eq (a b:List (List UInt8)) (ha:a.length≤1000000):m41 a b=some (a==b):=by
 delta m41 d41
 simp only[↓JD.sg_m,↓JD.sq_m,↓JD.sc_m,↓JD.bk_m,↓JD.lp_m,↓JD.cd_m,↓JD.lu_m,↓JD.ct_m,↓JD.ce_m,↓JL.r_m,↓JL.z_m,↓JD.se_m,onE_r,↓Tr.run,↓Tr.run_nd,↓Tr.run_c3,↓Tr.run_c2,↓Tr.run_nx,↓onS,bind_ite,Option.bind_some,Option.bind_none,obR]
 by_cases h:((a.length:Int) != (b.length:Int))=true
 ·simp only[h,if_true,onS_r,len_ne h]
 ·have h:=Bool.eq_false_iff.2 h
  have hl:=len_eq h
  simp only[h,Bool.false_eq_true,if_false,onS_l]
  rw[loop_ex a.length (fun i=>if(a.getD i default != b.getD i default)=true then some false else none) ?_ ?_,orK_getD,firstR_ne hl]
  ·intro i hi
   have hi2:i < b.length:=by omega
   simp only[exB_ite,exB_some,exB_none,inL hi,inL hi2,decide_true,Int.toNat_natCast,if_true,wr1 hi (by omega)]
  ·(simp only[lt_irr,decide_false,Bool.false_eq_true,if_false];try rfl)
def eqC (a b:T37):Bool:=a.Leaf==b.Leaf&&a.Memory==b.Memory
theorem eqC_iff {a b:T37}:eqC a b=true↔a=b:=by
 obtain⟨x,y⟩:=a
 obtain⟨z,w⟩:=b
 simp only[eqC,Bool.and_eq_true,beq_iff_eq]
 constructor
 ·rintro⟨rfl,rfl⟩;rfl
 ·intro h;injection h with h1 h2;exact⟨h1,h2⟩
theorem eqC_refl (a:T37):eqC a a=true:=eqC_iff.2 rfl
theorem same_eq (a b:T37) (ha:a.Memory.length≤1000000):m73 a b=some (eqC a b):=by
 delta m73 d73
 simp only[↓JD.sg_m,↓JD.sq_m,↓JD.sc_m,↓JD.bk_m,↓JD.lp_m,↓JD.cd_m,↓JD.lu_m,↓JD.ct_m,↓JD.ce_m,↓JL.r_m,↓JL.z_m,↓JD.se_m,onE_r,↓Tr.run,↓Tr.run_nd,↓Tr.run_c3,↓Tr.run_c2,↓Tr.run_nx,↓onS,bind_ite,Option.bind_some,Option.bind_none,obR,eqInts_eq _ _ ha,eqC]
 cases (a.Leaf==b.Leaf)<;>rfl
def Short (l:List T37):Prop:=∀ g∈l,g.Memory.length≤1000000
theorem Short.at {l:List T37} (h:Short l) {i:Nat} (hi:i < l.length):(l.getD i default).Memory.length≤1000000:=h _ (getD_mem hi)
def findC (l:List T37) (g:T37):Int:=findR (fun i=>eqC (l.getD i default) g) l.length
theorem find_eq (l:List T37) (g:T37) (hs:Short l) (hl:l.length≤1000000):m80 l g=some (findC l g):=by
 have e1:m54o0 l g=some (findC l g):=by
  have e2:∀ x:T37,x.Memory.length≤1000000→m128o0 x g=some (eqC x g):=fun x hx=>by
   delta m128o0 d128o0
   simp only[↓JD.sg_m,↓JD.sq_m,↓JD.sc_m,↓JD.bk_m,↓JD.lp_m,↓JD.cd_m,↓JD.lu_m,↓JD.ct_m,↓JD.ce_m,↓JL.r_m,↓JL.z_m,↓JD.se_m,onE_r,↓Tr.run,↓Tr.run_nd,↓Tr.run_c3,↓Tr.run_c2,↓Tr.run_nx,↓onS,bind_ite,Option.bind_some,Option.bind_none,obR,same_eq x g hx]
  delta m54o0 d54o0
  simp only[↓JD.sg_m,↓JD.sq_m,↓JD.sc_m,↓JD.bk_m,↓JD.lp_m,↓JD.cd_m,↓JD.lu_m,↓JD.ct_m,↓JD.ce_m,↓JL.r_m,↓JL.z_m,↓JD.se_m,onE_r,↓Tr.run,↓Tr.run_nd,↓Tr.run_c3,↓Tr.run_c2,↓Tr.run_nx,↓onS,bind_ite,Option.bind_some,Option.bind_none,obR]
  refine idx_loop (fun i hi=>?_) ?_
  ·simp only[exB_ite,exB_some,exB_none,inL hi,decide_true,Int.toNat_natCast,if_true,wr1 hi (by omega),e2 _ (hs.at hi),Option.bind_some]
  ·(simp only[lt_irr,decide_false,Bool.false_eq_true,if_false];try rfl)
 delta m80 d80
 simp only[↓JD.sg_m,↓JD.sq_m,↓JD.sc_m,↓JD.bk_m,↓JD.lp_m,↓JD.cd_m,↓JD.lu_m,↓JD.ct_m,↓JD.ce_m,↓JL.r_m,↓JL.z_m,↓JD.se_m,onE_r,↓Tr.run,↓Tr.run_nd,↓Tr.run_c3,↓Tr.run_c2,↓Tr.run_nx,↓onS,bind_ite,Option.bind_some,Option.bind_none,obR,e1]
theorem findC_any {l:List T37} {g:T37}:decide (0≤findC l g)=l.any (fun x=>eqC x g):=by
 unfold findC
 rw[findR_any,Bool.eq_iff_iff,anyR_iff,List.any_eq_true]
 constructor
 ·rintro⟨i,hi,h⟩;exact⟨_,getD_mem hi,h⟩
 ·rintro⟨x,hx,h⟩
  obtain⟨i,hi,rfl⟩:=List.getElem_of_mem hx
  exact⟨i,hi,by simpa [List.getD_eq_getElem?_getD,List.getElem?_eq_getElem hi] using h⟩
def hasC (l:List T37) (g:T37):Bool:=l.any fun x=>eqC x g
theorem hasC_iff {l:List T37} {g:T37}:hasC l g=true↔g∈l:=by
 unfold hasC
 rw[List.any_eq_true]
 constructor
 ·rintro⟨x,hx,h⟩;rw[← eqC_iff.1 h];exact hx
 ·intro h;exact⟨g,h,eqC_refl g⟩
theorem find_in {l:List T37} {g:T37}:decide (0≤findC l g)=hasC l g:=findC_any
def numV (c:T27):Nat:=2 ^ c.Conds.length
theorem numV_pos (c:T27):0 < numV c:=Nat.two_pow_pos _
theorem numV_le {c:T27} (h:c.Conds.length≤12):numV c≤4096:=Nat.pow_le_pow_right (by omega) h
theorem shl64 {n:Nat} (h:n≤12):IntKind.wrap .i64 ((1:Int) * 2 ^ (min ((n:Nat):Int).toNat (IntKind.bits .i64)))=((2 ^ n:Nat):Int):=by
 have e1:min ((n:Nat):Int).toNat (IntKind.bits .i64)=n:=by
  show min ((n:Nat):Int).toNat 64=n
  omega
 rw[e1,Int.one_mul]
 have h2:2 ^ n≤4096:=Nat.pow_le_pow_right (by omega) h
 have e2:((2:Int) ^ n)=((2 ^ n:Nat):Int):=by push_cast;rfl
 rw[e2]
 generalize 2 ^ n=m at h2 ⊢
 exact w64 (by omega) (by omega)
def alG (c:T27) (v:Nat):List Int:=if allowedS c (v:Int)=true then[(v:Int)]else[]
theorem alG_len (c:T27) (v:Nat):(alG c v).length≤1:=by unfold alG;split<;>simp
def valsA (c:T27):List Int:=(List.range (numV c)).flatMap (alG c)
theorem valsA_len {c:T27}:(valsA c).length≤numV c:=by
 have:=flatMap_len (alG_len c) (numV c)
 unfold valsA;omega
theorem valsA_mem {c:T27} {v:Int}:v∈valsA c↔∃ n:Nat,n < numV c∧v=n∧allowedS c v=true:=by
 unfold valsA
 rw[List.mem_flatMap]
 constructor
 ·rintro⟨n,h1,h2⟩
  unfold alG at h2
  split at h2
  ·rename_i h
   simp only[List.mem_singleton]at h2
   subst h2
   exact⟨n,List.mem_range.1 h1,rfl,h⟩
  ·cases h2
 ·rintro⟨n,h1,rfl,h2⟩
  exact⟨n,List.mem_range.2 h1,by unfold alG;rw[if_pos h2];simp⟩
theorem allowedL_eq {c:T27} (H:Fit c) (h:c.Conds.length≤12):m99 c=some (valsA c):=by
 have h2:=numV_le h
 delta m99 d99
 simp only[↓JD.sg_m,↓JD.sq_m,↓JD.sc_m,↓JD.bk_m,↓JD.lp_m,↓JD.cd_m,↓JD.lu_m,↓JD.ct_m,↓JD.ce_m,↓JL.r_m,↓JL.z_m,↓JD.se_m,onE_r,↓Tr.run,↓Tr.run_nd,↓Tr.run_c3,↓Tr.run_c2,↓Tr.run_nx,↓onS,bind_ite,Option.bind_some,Option.bind_none,obR,shl64 h,show (0:Int)≤(c.Conds.length:Int) from by omega,if_true]
 rw[show ((2 ^ c.Conds.length:Nat):Int)=(numV c:Int) from rfl]
 refine on_l (loop_coll (numV c) (fun i l=>(l,(i:Int))) (alG c) Sum.inl (fun i hi=>?_) (by (simp only[lt_irr,decide_false,Bool.false_eq_true,if_false];try rfl))) rfl
 have hl:=flatMap_len (alG_len c) i
 have h3:(((List.range i).flatMap (alG c)).length+1) * 2≤140737488355328:=by omega
 have h4:IntKind.wrap .u16 (i:Int)=(i:Int):=n16 (by omega)
 simp only[inL hi,decide_true,h3,h4,if_true,wr1 hi (by omega),Allowed_eq _ H,Option.bind_some,alG]
 cases allowedS c (i:Int)<;>simp
end Go.Av
set_option maxRecDepth 100000
namespace Go.Av
open Ch Go.Proofs
def stepO (c:T27) (g:T37) (v:Int):Option T37:=(stepM c g v).bind fun r=>if(r.2.2==0)=true then some r.1 else none
abbrev SS:=List T37×List Int×List Int
def addS (i:Nat) (v:Int) (h:T37) (s:SS):Option SS:=if hasC s.1 h=true then some s else if s.1.length=400 then none else some (s.1++[h],s.2.1++[(i:Int)],s.2.2++[v])
def visit (c:T27) (i:Nat) (s:SS) (v:Int):Option SS:=match stepO c (s.1.getD i default) v with
 | none=>some s
 | some h=>addS i v h s
def rnd (c:T27) (i:Nat):List Int→SS→Option SS
 | [],s=>some s
 | v :: l,s=>(visit c i s v).bind (rnd c i l)
def allV (c:T27):List Int:=(List.range (numV c)).map fun v:Nat=>(v:Int)
def srch (c:T27):Nat→Nat→SS→Option SS
 | 0,_,_=>none
 | n+1,i,s=>if i < s.1.length then(rnd c i (allV c) s).bind (srch c n (i+1))else some s
def begS (g:T37):SS:=([g],[-1],[0])
structure Inv (c:T27) (s:SS):Prop where
 le:s.1.length≤400
 l1:s.2.1.length=s.1.length
 l2:s.2.2.length=s.1.length
 pos:0 < s.1.length
 ok:∀ g∈s.1,validS c g=true
theorem valid_short {c:T27} (H:Fit c) {g:T37} (h:validS c g=true):g.Memory.length≤1000000:=by
 have h1:=(validS_iff.1 h).2.2.len
 have h2:=H.states
 omega
theorem Inv.short {c:T27} (H:Fit c) {s:SS} (h:Inv c s):Short s.1:=fun g hg=>valid_short H (h.ok g hg)
theorem stepO_ok {c:T27} (H:Fit c) {g h:T37} {v:Int} (hs:stepO c g v=some h):checkM c=some 0∧validS c g=true∧validS c h=true:=by
 unfold stepO at hs
 rw[Option.bind_eq_some_iff]at hs
 obtain⟨r,h1,h2⟩:=hs
 split at h2
 ·rename_i h3
  injection h2 with h2
  subst h2
  exact(stepM_ok H h1).2 (by simpa using h3)
 ·cases h2
theorem addS_inv {c:T27} {i:Nat} {v:Int} {h:T37} {s s':SS} (I:Inv c s) (hv:validS c h=true) (hs:addS i v h s=some s'):Inv c s'∧s.1.length≤s'.1.length:=by
 unfold addS at hs
 split at hs
 ·injection hs with hs;subst hs;exact⟨I,Nat.le_refl _⟩
 ·split at hs
  ·cases hs
  ·rename_i h400
   injection hs with hs
   subst hs
   have:=I.le
   refine⟨⟨?_,?_,?_,?_,?_⟩,?_⟩
   ·simp only[List.length_append,List.length_cons,List.length_nil];omega
   ·simp only[List.length_append,List.length_cons,List.length_nil,I.l1]
   ·simp only[List.length_append,List.length_cons,List.length_nil,I.l2]
   ·simp
   ·intro g hg
    rcases List.mem_append.1 hg with h1 | h1
    ·exact I.ok g h1
    ·simp only[List.mem_singleton]at h1;subst h1;exact hv
   ·simp
theorem visit_inv {c:T27} (H:Fit c) {i:Nat} {v:Int} {s s':SS} (I:Inv c s) (hs:visit c i s v=some s'):Inv c s'∧s.1.length≤s'.1.length:=by
 unfold visit at hs
 split at hs
 ·injection hs with hs;subst hs;exact⟨I,Nat.le_refl _⟩
 ·rename_i h he
  exact addS_inv I (stepO_ok H he).2.2 hs
theorem rnd_inv {c:T27} (H:Fit c) {i:Nat}:∀ {l:List Int} {s s':SS},Inv c s→rnd c i l s=some s'→Inv c s'∧s.1.length≤s'.1.length
 | [],s,s',I,hs=>by
  injection hs with hs;subst hs;exact⟨I,Nat.le_refl _⟩
 | v :: l,s,s',I,hs=>by
  unfold rnd at hs
  rw[Option.bind_eq_some_iff]at hs
  obtain⟨t,h1,h2⟩:=hs
  obtain⟨I1,k1⟩:=visit_inv H I h1
  obtain⟨I2,k2⟩:=rnd_inv H I1 h2
  exact⟨I2,by omega⟩
theorem rnd_filter {c:T27} {i:Nat} (p:Int→Bool):∀ {l:List Int} {s:SS},(∀ v∈l,p v=false→∀ s,visit c i s v=some s)→rnd c i (l.flatMap fun v=>if p v=true then[v]else[]) s=rnd c i l s
 | [],s,h=>rfl
 | v :: l,s,h=>by
  simp only[List.flatMap_cons]
  have ih:∀ s,rnd c i (l.flatMap fun v=>if p v=true then[v]else[]) s=rnd c i l s:=fun s=>rnd_filter p (fun w hw=>h w (by simp[hw]))
  cases hp:p v with
  | true =>
   simp only[if_true,List.cons_append,List.nil_append,rnd]
   congr 1;funext t;exact ih t
  | false =>
   simp only[Bool.false_eq_true,if_false,List.nil_append,rnd,h v (by simp) hp,Option.bind_some]
   exact ih s
theorem stepO_not {c:T27} {g:T37} {v:Int} (h:allowedS c v=false):stepO c g v=none:=by
 unfold stepO stepM
 cases hc:checkM c with
 | none=>rfl
 | some e =>
  simp only[Option.bind_some,h,Bool.not_false,if_true]
  split
  ·rename_i h0
   simp only[Option.bind_some]
   have:(e==0)=false:=by simpa using h0
   simp only[this,Bool.false_eq_true,if_false]
  ·split<;>rfl
theorem rnd_vals {c:T27} {i:Nat} {s:SS}:rnd c i (valsA c) s=rnd c i (allV c) s:=by
 have e:valsA c=(allV c).flatMap fun v=>if allowedS c v=true then[v]else[]:=by
  unfold valsA allV
  rw[List.flatMap_map]
  rfl
 rw[e]
 exact rnd_filter (allowedS c) fun v _ h s=>by unfold visit;rw[stepO_not h]
end Go.Av
set_option maxRecDepth 100000
namespace Go.Av
open Ch Go.Proofs
def upS {X:Type} {S:Type} (mk:SS→S) (bad:Option X):Option SS→Option (S⊕X)
 | some s=>some (.inl (mk s))
 | none=>bad.map .inr
def endS {X:Type} (out:SS→X) (bad:Option X):Option SS→Option X
 | some s=>some (out s)
 | none=>bad
theorem getD_app {α:Type} [Inhabited α] {l k:List α} {i:Nat} (h:i < l.length):(l++k).getD i default=l.getD i default:=by
 simp only[List.getD_eq_getElem?_getD,List.getElem?_append_left h]
theorem visit_get {c:T27} {i:Nat} {s s':SS} {v:Int} (hs:visit c i s v=some s'):∃ k,s'.1=s.1++k:=by
 unfold visit at hs
 split at hs
 ·injection hs with hs;subst hs;exact⟨[],by simp⟩
 ·unfold addS at hs
  split at hs
  ·injection hs with hs;subst hs;exact⟨[],by simp⟩
  ·split at hs
   ·cases hs
   ·injection hs with hs;subst hs;exact⟨_,rfl⟩
theorem done_loop {c:T27} (H:Fit c) {i:Nat} {X:Type} {b:(Int×List T37×List Int×List Int×Nat×(List UInt8→Option Int))→Option ((Int×List T37×List Int×List Int×Nat×(List UInt8→Option Int))⊕X)} (out:SS→X) (bad:Option X) (w:List Int)
  (P:SS→(List UInt8→Option Int)→Prop)
  (hb:∀ (k:Nat) (s:SS) (n:Nat) (f:List UInt8→Option Int),k < w.length→Inv c s→i < s.1.length→n≤k→P s f→∃ n' f',n'≤k+1∧(∀ s',visit c i s (w.getD k default)=some s'→P s' f') ∧
   b ((k:Int),s.1,s.2.1,s.2.2,n,f)=upS (fun s'=>(((k+1:Nat):Int),s'.1,s'.2.1,s'.2.2,n',f')) bad (visit c i s (w.getD k default)))
  (he:∀ (s:SS) n f,Inv c s→b ((w.length:Int),s.1,s.2.1,s.2.2,n,f)=some (.inr (out s)))
  {s:SS} (I:Inv c s) (hi:i < s.1.length) (f0:List UInt8→Option Int) (hP:P s f0):loopO b (0,s.1,s.2.1,s.2.2,0,f0)=(endS out bad (rnd c i w s)):=by
 have key:∀ (m k:Nat) (s:SS) (n:Nat) (f:List UInt8→Option Int),k+m=w.length→Inv c s→i < s.1.length→n≤k→P s f→loopO b ((k:Int),s.1,s.2.1,s.2.2,n,f)=(endS out bad (rnd c i (w.drop k) s)):=by
  intro m
  induction m with
  | zero =>
   intro k s n f hk I hi hn hp
   obtain rfl:k=w.length:=by omega
   rw[loopO_eq,he s n f I,List.drop_length]
   rfl
  | succ m ih =>
   intro k s n f hk I hi hn hp
   have hkl:k < w.length:=by omega
   obtain⟨n',f',h1,h2,h3⟩:=hb k s n f hkl I hi hn hp
   have hd:w.drop k=w.getD k default :: w.drop (k+1):=by
    rw[List.drop_eq_getElem_cons hkl];simp[List.getD_eq_getElem?_getD,List.getElem?_eq_getElem hkl]
   rw[loopO_eq,h3,hd,rnd]
   cases hv:visit c i s (w.getD k default) with
   | none=>cases bad<;>rfl
   | some s' =>
    obtain⟨I',h'⟩:=visit_inv H I hv
    simp only[upS,Option.bind_some]
    exact ih (k+1) s' n' f' (by omega) I' (by omega) h1 (h2 s' hv)
 have:=key w.length 0 s 0 f0 (by omega) I hi (by omega) hP
 rw[List.drop_zero]at this
 exact this
theorem srch_loop {c:T27} (H:Fit c) {S X:Type} {b:S→Option (S⊕X)} (mk:Nat→SS→S) (out:SS→X) (bad:Option X)
  (hb:∀ (i:Nat) (s:SS),Inv c s→i < s.1.length→b (mk i s)=upS (mk (i+1)) bad (rnd c i (allV c) s))
  (he:∀ (s:SS),Inv c s→b (mk s.1.length s)=some (.inr (out s))) :
  ∀ (n i:Nat) (s:SS),Inv c s→i≤s.1.length→n+i=402→loopO b (mk i s)=(endS out bad (srch c n i s)):=by
 intro n
 induction n with
 | zero=>intro i s I hi hn;have:=I.le;omega
 | succ n ih =>
  intro i s I hi hn
  unfold srch
  by_cases h:i < s.1.length
  ·rw[if_pos h,loopO_eq,hb i s I h]
   cases hr:rnd c i (allV c) s with
   | none=>cases bad<;>rfl
   | some s' =>
    obtain⟨I',h'⟩:=rnd_inv H I hr
    simp only[upS,Option.bind_some]
    exact ih (i+1) s' I' (by omega) (by omega)
  ·obtain rfl:i=s.1.length:=by omega
   rw[if_neg h,loopO_eq,he s I]
   rfl
def searchS (c:T27):Option SS:=srch c 402 0 (begS ⟨(startS c).1,(startS c).2.1⟩)
theorem beg_inv {c:T27} (H:Fit c) (hc:checkM c=some 0):Inv c (begS ⟨(startS c).1,(startS c).2.1⟩):=by
 refine⟨by simp[begS],by simp[begS],by simp[begS],by simp[begS],fun g hg=>?_⟩
 simp only[begS,List.mem_singleton]at hg
 subst hg
 exact(startS_ok (good_of hc) H).1
theorem M44o1 (a0:T27):m44o1 a0=((Option.bind (Option.bind (Option.bind (m28o0 a0) fun r=>some r) fun x1=>(if(x1.1 != 0)=true then(some (.inr (x1.1)))else(Option.bind (Option.bind (m99 a0) fun r=>some r) fun x4=>(some (.inl (([(⟨x1.2.2.1,x1.2.2.2⟩:T37)]:List T37),x4)))))) (onS fun(y1:(List T37)×(List Int))=>(Option.bind (Option.bind (some (.inl ())) (onS fun(_:Unit)=>(loopO (fun(s2:Int×(List T37)×(List Int)×(List Int))=>((Option.bind (if(decide (s2.1 < (s2.2.1.length:Int)))=true then(some (.inl ()))else(some (.inr (.inr (.inl (s2.2.1,s2.2.2.1,s2.2.2.2)))))) (onS fun(_:Unit)=>(Option.bind (Option.bind (some (.inl ())) (onS fun(_:Unit)=>(loopO (fun(s3:Int×(List T37)×(List Int)×(List Int)×Nat×(List UInt8→Option Int))=>((if(decide (s3.1 < (y1.2.length:Int)))=true then(if(0≤s3.1)then(if(s3.1 < (y1.2.length:Int))then(Option.bind ((if 0≤s2.1 then(if s2.1 < (s3.2.1.length:Int)then((m19 a0 (s3.2.1.getD s2.1.toNat default).Leaf (y1.2.getD s3.1.toNat default)).bind fun r12_0=>some r12_0)else none)else none)) fun(x12:((List Int)))=>(if(!((x12.length:Int) != (1:Int)))=true→((0:Int)≤(0:Int))then(if(!((x12.length:Int) != (1:Int)))=true→(0 < (x12.length:Int))then(if(!((x12.length:Int) != (1:Int)))=true→(Tryz.prog=Tryz.prog)then(if(!((x12.length:Int) != (1:Int)))=true→((Lit.int .i64 (x12.getD (0:Int).toNat default)).wf=true)then(if(((x12.length:Int) != (1:Int)) || ((s3.2.2.2.2.2 (encK (x12.getD (0:Int).toNat default))).getD 0 != 0))=true then(some (.inl ((IntKind.wrap .i64 (s3.1+1)),s3.2.1,s3.2.2.1,s3.2.2.2.1,s3.2.2.2.2.1,s3.2.2.2.2.2)))else(if((0:Int)≤(0:Int))then(if(0 < (x12.length:Int))then(if((Lit.int .i64 (x12.getD (0:Int).toNat default)).wf=true)then(if(s3.2.2.2.2.1 < maxLen)then(Option.bind ((if 0≤s2.1 then(if s2.1 < (s3.2.1.length:Int)then(if(0:Int)≤(0:Int)then(if 0 < (x12.length:Int)then((m67 a0 (s3.2.1.getD s2.1.toNat default) (x12.getD (0:Int).toNat default)).bind fun r15_0=>some r15_0)else none)else none)else none)else none)) fun(x15:((T37×(List (List UInt8))×Int)))=>(Option.bind (((if(!(x15.2.2 != 0))=true then m80 s3.2.1 x15.1 else some default).bind fun r16_0=>some r16_0)) fun(x16:(Int))=>(if((x15.2.2 != 0) || (decide (0≤x16)))=true then(some (.inl ((IntKind.wrap .i64 (s3.1+1)),s3.2.1,s3.2.2.1,s3.2.2.2.1,(s3.2.2.2.2.1+1),(fun q=>if q=(encK (x12.getD (0:Int).toNat default))then some (if true=true then(1:Int)else 0)else s3.2.2.2.2.2 q))))else(if((s3.2.1.length:Int)==(400:Int))=true then(some (.inr (.inr (.inr (.inr ((3:Int)))))))else(if((s3.2.1.length+1) * 32≤140737488355328)then(if((s3.2.2.1.length+1) * 8≤140737488355328)then(if((s3.2.2.2.1.length+1) * 2≤140737488355328)then(some (.inl ((IntKind.wrap .i64 (s3.1+1)),(s3.2.1++([x15.1]:List T37)),(s3.2.2.1++([s2.1]:List Int)),(s3.2.2.2.1++([(y1.2.getD s3.1.toNat default)]:List Int)),(s3.2.2.2.2.1+1),(fun q=>if q=(encK (x12.getD (0:Int).toNat default))then some (if true=true then(1:Int)else 0)else s3.2.2.2.2.2 q))))else none)else none)else none)))))else none)else none)else none)else none))else none)else none)else none)else none))else none)else none)else(some (.inr (.inl (s3.2.1,s3.2.2.1,s3.2.2.2.1))))):Option ((Int×(List T37)×(List Int)×(List Int)×Nat×(List UInt8→Option Int))⊕(((List T37)×(List Int)×(List Int))⊕((Int×(List T37)×(List Int)×(List Int))⊕(((List T37)×(List Int)×(List Int))⊕(Int))))))) ((0:Int),s2.2.1,s2.2.2.1,s2.2.2.2,0,(fun _=>none))))) (onS fun(y4:(List T37)×(List Int)×(List Int))=>(some (.inl ((IntKind.wrap .i64 (s2.1+1)),y4.1,y4.2.1,y4.2.2))))))):Option ((Int×(List T37)×(List Int)×(List Int))⊕(((List T37)×(List Int)×(List Int))⊕(Int))))) ((0:Int),y1.1,([(-1:Int)]:List Int),([(0:Int)]:List Int))))) (onS fun(y5:(List T37)×(List Int)×(List Int))=>none)))):Option (Int)):=by kernel_rfl
theorem M44o2 (a0:T27):m44o2 a0=((Option.bind (Option.bind (Option.bind (m28o0 a0) fun r=>some r) fun x1=>(if(x1.1 != 0)=true then none else(Option.bind (Option.bind (m99 a0) fun r=>some r) fun x4=>(some (.inl (([(⟨x1.2.2.1,x1.2.2.2⟩:T37)]:List T37),x4)))))) (onS fun(y1:(List T37)×(List Int))=>(Option.bind (Option.bind (some (.inl ())) (onS fun(_:Unit)=>(loopO (fun(s2:Int×(List T37)×(List Int)×(List Int))=>((Option.bind (if(decide (s2.1 < (s2.2.1.length:Int)))=true then(some (.inl ()))else(some (.inr (.inr (.inl (s2.2.1,s2.2.2.1,s2.2.2.2)))))) (onS fun(_:Unit)=>(Option.bind (Option.bind (some (.inl ())) (onS fun(_:Unit)=>(loopO (fun(s3:Int×(List T37)×(List Int)×(List Int)×Nat×(List UInt8→Option Int))=>((if(decide (s3.1 < (y1.2.length:Int)))=true then(if(0≤s3.1)then(if(s3.1 < (y1.2.length:Int))then(Option.bind ((if 0≤s2.1 then(if s2.1 < (s3.2.1.length:Int)then((m19 a0 (s3.2.1.getD s2.1.toNat default).Leaf (y1.2.getD s3.1.toNat default)).bind fun r12_0=>some r12_0)else none)else none)) fun(x12:((List Int)))=>(if(!((x12.length:Int) != (1:Int)))=true→((0:Int)≤(0:Int))then(if(!((x12.length:Int) != (1:Int)))=true→(0 < (x12.length:Int))then(if(!((x12.length:Int) != (1:Int)))=true→(Tryz.prog=Tryz.prog)then(if(!((x12.length:Int) != (1:Int)))=true→((Lit.int .i64 (x12.getD (0:Int).toNat default)).wf=true)then(if(((x12.length:Int) != (1:Int)) || ((s3.2.2.2.2.2 (encK (x12.getD (0:Int).toNat default))).getD 0 != 0))=true then(some (.inl ((IntKind.wrap .i64 (s3.1+1)),s3.2.1,s3.2.2.1,s3.2.2.2.1,s3.2.2.2.2.1,s3.2.2.2.2.2)))else(if((0:Int)≤(0:Int))then(if(0 < (x12.length:Int))then(if((Lit.int .i64 (x12.getD (0:Int).toNat default)).wf=true)then(if(s3.2.2.2.2.1 < maxLen)then(Option.bind ((if 0≤s2.1 then(if s2.1 < (s3.2.1.length:Int)then(if(0:Int)≤(0:Int)then(if 0 < (x12.length:Int)then((m67 a0 (s3.2.1.getD s2.1.toNat default) (x12.getD (0:Int).toNat default)).bind fun r15_0=>some r15_0)else none)else none)else none)else none)) fun(x15:((T37×(List (List UInt8))×Int)))=>(Option.bind (((if(!(x15.2.2 != 0))=true then m80 s3.2.1 x15.1 else some default).bind fun r16_0=>some r16_0)) fun(x16:(Int))=>(if((x15.2.2 != 0) || (decide (0≤x16)))=true then(some (.inl ((IntKind.wrap .i64 (s3.1+1)),s3.2.1,s3.2.2.1,s3.2.2.2.1,(s3.2.2.2.2.1+1),(fun q=>if q=(encK (x12.getD (0:Int).toNat default))then some (if true=true then(1:Int)else 0)else s3.2.2.2.2.2 q))))else(if((s3.2.1.length:Int)==(400:Int))=true then none else(if((s3.2.1.length+1) * 32≤140737488355328)then(if((s3.2.2.1.length+1) * 8≤140737488355328)then(if((s3.2.2.2.1.length+1) * 2≤140737488355328)then(some (.inl ((IntKind.wrap .i64 (s3.1+1)),(s3.2.1++([x15.1]:List T37)),(s3.2.2.1++([s2.1]:List Int)),(s3.2.2.2.1++([(y1.2.getD s3.1.toNat default)]:List Int)),(s3.2.2.2.2.1+1),(fun q=>if q=(encK (x12.getD (0:Int).toNat default))then some (if true=true then(1:Int)else 0)else s3.2.2.2.2.2 q))))else none)else none)else none)))))else none)else none)else none)else none))else none)else none)else none)else none))else none)else none)else(some (.inr (.inl (s3.2.1,s3.2.2.1,s3.2.2.2.1))))):Option ((Int×(List T37)×(List Int)×(List Int)×Nat×(List UInt8→Option Int))⊕(((List T37)×(List Int)×(List Int))⊕((Int×(List T37)×(List Int)×(List Int))⊕(((List T37)×(List Int)×(List Int))⊕((List T37)×(List Int)×(List Int)×(List Int)))))))) ((0:Int),s2.2.1,s2.2.2.1,s2.2.2.2,0,(fun _=>none))))) (onS fun(y4:(List T37)×(List Int)×(List Int))=>(some (.inl ((IntKind.wrap .i64 (s2.1+1)),y4.1,y4.2.1,y4.2.2))))))):Option ((Int×(List T37)×(List Int)×(List Int))⊕(((List T37)×(List Int)×(List Int))⊕((List T37)×(List Int)×(List Int)×(List Int)))))) ((0:Int),y1.1,([(-1:Int)]:List Int),([(0:Int)]:List Int))))) (onS fun(y5:(List T37)×(List Int)×(List Int))=>(some (y5.1,y5.2.1,y5.2.2,y1.2)))))):Option ((List T37)×(List Int)×(List Int)×(List Int))):=by kernel_rfl
theorem enab_one {c:T27} (hc:checkM c=some 0) {g:T37} (hg:validS c g=true) {v:Int} (ha:allowedS c v=true):stepO c g v=if((((enabledS c g.Leaf v).length:Int))==1)=true then some (fireR c g ((enabledS c g.Leaf v).getD 0 default)).1 else none:=by
 unfold stepO stepM
 simp only[hc,Option.bind_some,bne_self,hg,ha,Bool.not_true,Bool.false_eq_true,if_false]
 by_cases h1:(((enabledS c g.Leaf v).length:Int)==1)=true
 ·have h0:(((enabledS c g.Leaf v).length:Int)==0)=false:=by
   have:((enabledS c g.Leaf v).length:Int)=1:=by simpa using h1
   rw[this];rfl
  simp only[h0,h1,Bool.false_eq_true,if_false,if_true,Option.bind_some];rfl
 ·have h1':=Bool.eq_false_iff.2 h1
  simp only[h1',Bool.false_eq_true,if_false]
  by_cases h0:(((enabledS c g.Leaf v).length:Int)==0)=true
  ·simp only[h0,if_true,Option.bind_some];rfl
  ·have h0':=Bool.eq_false_iff.2 h0
   simp only[h0',Bool.false_eq_true,if_false,Option.bind_some];rfl
def DoneP (c:T27) (g:T37) (s:SS) (f:List UInt8→Option Int):Prop:=∀ t:Int,((f (encK t)).getD 0 != 0)=true→hasC s.1 (fireR c g t).1=true
theorem fire_at {c:T27} (H:Fit c) (hc:checkM c=some 0) {g:T37} (hg:validS c g=true) {v:Int} (h1:(((enabledS c g.Leaf v).length:Int)==1)=true):m67 c g ((enabledS c g.Leaf v).getD 0 default)=some (fireR c g ((enabledS c g.Leaf v).getD 0 default)):=by
 have hl:0 < (enabledS c g.Leaf v).length:=by
  have:((enabledS c g.Leaf v).length:Int)=1:=by simpa using h1
  omega
 obtain⟨i,hi,hx,hon⟩:=enabled_at hl
 rw[fire_err H,hx]
 have hn:(decide ((i:Int) < 0) || decide ((c.Transitions.length:Int)≤(i:Int)))=false:=by
  simp only[Bool.or_eq_false_iff,decide_eq_false_iff_not];omega
 simp only[hc,Option.bind_some,bne_self,hg,hn,Int.toNat_natCast,hon,Bool.not_true,Bool.false_eq_true,if_false]
 rfl
end Go.Av
set_option maxRecDepth 100000
namespace Go.Av
open Ch Go.Proofs
theorem hasC_app {l k:List T37} {g:T37} (h:hasC l g=true):hasC (l++k) g=true:=by
 rw[hasC_iff]at h ⊢
 exact List.mem_append_left _ h
theorem DoneP.same {c:T27} {g:T37} {s:SS} {f:List UInt8→Option Int} (h:DoneP c g s f) {t:Int} (ht:hasC s.1 (fireR c g t).1=true):DoneP c g s (fun q=>if q=encK t then some (if true=true then(1:Int)else 0)else f q):=fun u hu=>by
 by_cases e:u=t
 ·rw[e];exact ht
 ·have:encK u≠encK t:=fun k=>e (encK_inj k)
  simp only[this,if_false]at hu
  exact h u hu
theorem DoneP.more {c:T27} {g:T37} {s:SS} {f:List UInt8→Option Int} (h:DoneP c g s f) {t:Int} {fr bv:List Int}:DoneP c g (s.1++[(fireR c g t).1],fr,bv) (fun q=>if q=encK t then some (if true=true then(1:Int)else 0)else f q):=fun u hu=>by
 by_cases e:u=t
 ·rw[e];rw[hasC_iff];simp
 ·have:encK u≠encK t:=fun k=>e (encK_inj k)
  simp only[this,if_false]at hu
  exact hasC_app (h u hu)
theorem wf_small {i:Nat} (h:i < 1000000):(Lit.int .i64 (i:Int)).wf=true:=by
 simp[Lit.wf,IntKind.min,IntKind.max,IntKind.signed,IntKind.bits];omega
theorem srchE_eq {c : T27} (H : Fit c) (hn : c.Conds.length ≤ 12) : m44o1 c = (checkM c).bind fun e => if (e != 0) = true then some e else match searchS c with | some s => none | none => some 3 := by
  obtain ⟨e, he⟩ := checkM_some c
  have h1 := numV_pos c
  have h2 := numV_le hn
  have hv2 := valsA_len (c := c)
  have q1 := Start_eq c H
  have q2 := allowedL_eq H hn
  have q3 : ∀ (leaf v : Int), m19 c leaf v = some (enabledS c leaf v) := Enabled_eq c H
  have q4 : ∀ (l : List T37) (g : T37), Short l → l.length ≤ 1000000 → m80 l g = some (findC l g) := find_eq
  have q5 : checkM c = some 0 → ∀ (g : T37) (v : Int), validS c g = true → (((enabledS c g.Leaf v).length : Int) == 1) = true → m67 c g ((enabledS c g.Leaf v).getD 0 default) = some (fireR c g ((enabledS c g.Leaf v).getD 0 default)) := fun hc g v hg h => fire_at H hc hg h
  simp only [M44o1, bind_id, q1, q2]
  generalize m19 = F1 at q3 ⊢
  generalize m80 = F2 at q4 ⊢
  generalize m67 = F3 at q5 ⊢
  unfold startM
  by_cases h0 : (e != 0) = true
  · simp only [he, bs, h0, if_true, or_, bn]
  · have h0 := Bool.eq_false_iff.2 h0
    have e0 : e = 0 := by simpa using h0
    subst e0
    simp only [he, bs, h0, Bool.false_eq_true, if_false, ol, bne_self]
    have q5 := q5 he
    have I0 := beg_inv H he
    refine bind_eq (srch_loop H (fun i s => ((i : Int), s.1, s.2.1, s.2.2)) (fun s => .inl (s.1, s.2.1, s.2.2)) (some (.inr (3 : Int))) (fun i s I hi => ?_) (fun s I => ?_) 402 0 _ I0 (by omega) (by omega)) ?_
    · have hi' : (i : Int) < (s.1.length : Int) := by omega
      simp only [hi', decide_true, if_true, bs, ol]
      have hg : validS c (s.1.getD i default) = true := I.ok _ (getD_mem hi)
      refine bind_eq (done_loop H (i := i) (fun s => .inl (s.1, s.2.1, s.2.2)) (some (.inr (.inr (.inr (3 : Int))))) (valsA c) (fun t f => t.1.getD i default = s.1.getD i default ∧ DoneP c (s.1.getD i default) t f) (fun k s' n f hk I' hi'' hn' hP => ?_) (fun s n f I => ?_) I hi (fun _ => none) ⟨rfl, fun t ht => by simp at ht⟩) ?_
      · generalize s.1.getD i default = g at hg hP
        obtain ⟨hP1, hP2⟩ := hP
        obtain ⟨vn, hvn, hve, hall⟩ := valsA_mem.1 (getD_mem hk)
        obtain ⟨v, hvd⟩ : ∃ v, v = (valsA c).getD k default := ⟨_, rfl⟩
        rw [← hvd] at hve hall ⊢
        have b1 := I'.le
        have b2 := I'.l1
        have b3 := I'.l2
        have hb1 := enab_one he hg hall
        have w2 : IntKind.wrap .i64 ((k : Int) + 1) = ((k + 1 : Nat) : Int) := by rw [w64 (by omega) (by omega)]; omega
        have c1 : ((s'.1.length + 1) * 32 ≤ 140737488355328) = True := eq_true (by omega)
        have c2 : ((s'.2.1.length + 1) * 8 ≤ 140737488355328) = True := eq_true (by omega)
        have c3 : ((s'.2.2.length + 1) * 2 ≤ 140737488355328) = True := eq_true (by omega)
        have c4 : (n < maxLen) = True := eq_true (by unfold maxLen; omega)
        have c5 : ((0 : Int) ≤ (0 : Int)) = True := eq_true (by omega)
        unfold visit
        rw [hP1, hb1]
        simp only [inL hk, inL hi'', decide_true, if_true, Int.toNat_natCast, hP1, q3, bs, w2, c5, ← hvd]
        by_cases hl : (((enabledS c g.Leaf v).length : Int) == 1) = true
        · have hl2 : (((enabledS c g.Leaf v).length : Int) != 1) = false := by simpa using hl
          have hl3 : (0 < ((enabledS c g.Leaf v).length : Int)) = True := eq_true (by have : ((enabledS c g.Leaf v).length : Int) = 1 := by simpa using hl
                                                                                      omega)
          have hf := q5 g v hg hl
          obtain ⟨t, ht⟩ : ∃ t, t = (enabledS c g.Leaf v).getD 0 default := ⟨_, rfl⟩
          obtain ⟨ti, hti, htx, _⟩ := enabled_at (c := c) (leaf := g.Leaf) (v := v) (by have : ((enabledS c g.Leaf v).length : Int) = 1 := by simpa using hl
                                                                                        omega)
          have htr := H.trans
          rw [← ht] at htx hf
          have hwf : ((Lit.int .i64 t).wf = true) = True := eq_true (by rw [htx]; exact wf_small (by omega))
          simp only [hl, hl2, hl3, hwf, c4, c5, if_true, Bool.not_false, true_implies, Bool.false_or, Int.toNat_zero, ← ht, hf, bs]
          by_cases hd : ((f (encK t)).getD 0 != 0) = true
          · have hh := hP2 t hd
            refine ⟨n, f, by omega, fun s'' hs'' => ?_, ?_⟩
            · unfold addS at hs''
              rw [if_pos hh] at hs''
              injection hs'' with hs''
              subst hs''
              exact ⟨hP1, hP2⟩
            · unfold addS
              rw [if_pos hh]
              simp only [hd, if_true]; rfl
          · have hd := Bool.eq_false_iff.2 hd
            have e1 : ((fireR c g t).2.2 != 0) = false := rfl
            have hfd := q4 s'.1 (fireR c g t).1 (I'.short H) (by omega)
            refine ⟨n + 1, fun q => if q = encK t then some (if true = true then (1 : Int) else 0) else f q, by omega, fun s'' hs'' => ?_, ?_⟩
            · unfold addS at hs''
              split at hs''
              · rename_i hh
                injection hs'' with hs''
                subst hs''
                exact ⟨hP1, hP2.same hh⟩
              · split at hs''
                · cases hs''
                · injection hs'' with hs''
                  subst hs''
                  exact ⟨by rw [getD_app hi'']; exact hP1, hP2.more⟩
            · simp only [hd, e1, hfd, bs, Bool.false_eq_true, if_false, Bool.not_false, if_true, Bool.false_or, find_in]
              unfold addS
              cases hh : hasC s'.1 (fireR c g t).1 with
              | true => simp only [if_true]; rfl
              | false =>
                simp only [Bool.false_eq_true, if_false]
                by_cases h4 : s'.1.length = 400
                · have d2 : ((s'.1.length : Int) == (400 : Int)) = true := by simp; omega
                  simp only [d2, h4, if_true]; rfl
                · have d2 : ((s'.1.length : Int) == (400 : Int)) = false := by simp; omega
                  simp only [d2, h4, c1, c2, c3, Bool.false_eq_true, if_false, if_true]; rfl
        · have hl2 : (((enabledS c g.Leaf v).length : Int) != 1) = true := by simpa using hl
          have hl := Bool.eq_false_iff.2 hl
          refine ⟨n, f, by omega, fun s'' hs'' => ?_, ?_⟩
          · simp only [hl, Bool.false_eq_true, if_false] at hs''
            injection hs'' with hs''
            subst hs''
            exact ⟨hP1, hP2⟩
          · simp only [hl, hl2, Bool.not_true, Bool.false_eq_true, false_implies, if_true, if_false, Bool.true_or]; rfl
      · simp only [lt_irr, decide_false, Bool.false_eq_true, if_false]
      · rw [rnd_vals]
        cases hr : rnd c i (allV c) s with
        | none => rfl
        | some s' =>
          have w2 : IntKind.wrap .i64 ((i : Int) + 1) = ((i + 1 : Nat) : Int) := by
            have := I.le
            rw [w64 (by omega) (by omega)]; omega
          simp only [endS, bs, ol, w2]; rfl
    · simp only [lt_irr, decide_false, Bool.false_eq_true, if_false, bs, or_]
    · unfold searchS
      cases srch c 402 0 (begS ⟨(startS c).1, (startS c).2.1⟩) with
      | some s => rfl
      | none => rfl
theorem srchR_eq {c : T27} (H : Fit c) (hn : c.Conds.length ≤ 12) : m44o2 c = (checkM c).bind fun e => if (e != 0) = true then none else match searchS c with | some s => some (s.1, s.2.1, s.2.2, valsA c) | none => none := by
  obtain ⟨e, he⟩ := checkM_some c
  have h1 := numV_pos c
  have h2 := numV_le hn
  have hv2 := valsA_len (c := c)
  have q1 := Start_eq c H
  have q2 := allowedL_eq H hn
  have q3 : ∀ (leaf v : Int), m19 c leaf v = some (enabledS c leaf v) := Enabled_eq c H
  have q4 : ∀ (l : List T37) (g : T37), Short l → l.length ≤ 1000000 → m80 l g = some (findC l g) := find_eq
  have q5 : checkM c = some 0 → ∀ (g : T37) (v : Int), validS c g = true → (((enabledS c g.Leaf v).length : Int) == 1) = true → m67 c g ((enabledS c g.Leaf v).getD 0 default) = some (fireR c g ((enabledS c g.Leaf v).getD 0 default)) := fun hc g v hg h => fire_at H hc hg h
  simp only [M44o2, bind_id, q1, q2]
  generalize m19 = F1 at q3 ⊢
  generalize m80 = F2 at q4 ⊢
  generalize m67 = F3 at q5 ⊢
  unfold startM
  by_cases h0 : (e != 0) = true
  · simp only [he, bs, h0, if_true, or_, bn]
  · have h0 := Bool.eq_false_iff.2 h0
    have e0 : e = 0 := by simpa using h0
    subst e0
    simp only [he, bs, h0, Bool.false_eq_true, if_false, ol, bne_self]
    have q5 := q5 he
    have I0 := beg_inv H he
    refine bind_eq (srch_loop H (fun i s => ((i : Int), s.1, s.2.1, s.2.2)) (fun s => .inl (s.1, s.2.1, s.2.2)) none (fun i s I hi => ?_) (fun s I => ?_) 402 0 _ I0 (by omega) (by omega)) ?_
    · have hi' : (i : Int) < (s.1.length : Int) := by omega
      simp only [hi', decide_true, if_true, bs, ol]
      have hg : validS c (s.1.getD i default) = true := I.ok _ (getD_mem hi)
      refine bind_eq (done_loop H (i := i) (fun s => .inl (s.1, s.2.1, s.2.2)) none (valsA c) (fun t f => t.1.getD i default = s.1.getD i default ∧ DoneP c (s.1.getD i default) t f) (fun k s' n f hk I' hi'' hn' hP => ?_) (fun s n f I => ?_) I hi (fun _ => none) ⟨rfl, fun t ht => by simp at ht⟩) ?_
      · generalize s.1.getD i default = g at hg hP
        obtain ⟨hP1, hP2⟩ := hP
        obtain ⟨vn, hvn, hve, hall⟩ := valsA_mem.1 (getD_mem hk)
        obtain ⟨v, hvd⟩ : ∃ v, v = (valsA c).getD k default := ⟨_, rfl⟩
        rw [← hvd] at hve hall ⊢
        have b1 := I'.le
        have b2 := I'.l1
        have b3 := I'.l2
        have hb1 := enab_one he hg hall
        have w2 : IntKind.wrap .i64 ((k : Int) + 1) = ((k + 1 : Nat) : Int) := by rw [w64 (by omega) (by omega)]; omega
        have c1 : ((s'.1.length + 1) * 32 ≤ 140737488355328) = True := eq_true (by omega)
        have c2 : ((s'.2.1.length + 1) * 8 ≤ 140737488355328) = True := eq_true (by omega)
        have c3 : ((s'.2.2.length + 1) * 2 ≤ 140737488355328) = True := eq_true (by omega)
        have c4 : (n < maxLen) = True := eq_true (by unfold maxLen; omega)
        have c5 : ((0 : Int) ≤ (0 : Int)) = True := eq_true (by omega)
        unfold visit
        rw [hP1, hb1]
        simp only [inL hk, inL hi'', decide_true, if_true, Int.toNat_natCast, hP1, q3, bs, w2, c5, ← hvd]
        by_cases hl : (((enabledS c g.Leaf v).length : Int) == 1) = true
        · have hl2 : (((enabledS c g.Leaf v).length : Int) != 1) = false := by simpa using hl
          have hl3 : (0 < ((enabledS c g.Leaf v).length : Int)) = True := eq_true (by have : ((enabledS c g.Leaf v).length : Int) = 1 := by simpa using hl
                                                                                      omega)
          have hf := q5 g v hg hl
          obtain ⟨t, ht⟩ : ∃ t, t = (enabledS c g.Leaf v).getD 0 default := ⟨_, rfl⟩
          obtain ⟨ti, hti, htx, _⟩ := enabled_at (c := c) (leaf := g.Leaf) (v := v) (by have : ((enabledS c g.Leaf v).length : Int) = 1 := by simpa using hl
                                                                                        omega)
          have htr := H.trans
          rw [← ht] at htx hf
          have hwf : ((Lit.int .i64 t).wf = true) = True := eq_true (by rw [htx]; exact wf_small (by omega))
          simp only [hl, hl2, hl3, hwf, c4, c5, if_true, Bool.not_false, true_implies, Bool.false_or, Int.toNat_zero, ← ht, hf, bs]
          by_cases hd : ((f (encK t)).getD 0 != 0) = true
          · have hh := hP2 t hd
            refine ⟨n, f, by omega, fun s'' hs'' => ?_, ?_⟩
            · unfold addS at hs''
              rw [if_pos hh] at hs''
              injection hs'' with hs''
              subst hs''
              exact ⟨hP1, hP2⟩
            · unfold addS
              rw [if_pos hh]
              simp only [hd, if_true]; rfl
          · have hd := Bool.eq_false_iff.2 hd
            have e1 : ((fireR c g t).2.2 != 0) = false := rfl
            have hfd := q4 s'.1 (fireR c g t).1 (I'.short H) (by omega)
            refine ⟨n + 1, fun q => if q = encK t then some (if true = true then (1 : Int) else 0) else f q, by omega, fun s'' hs'' => ?_, ?_⟩
            · unfold addS at hs''
              split at hs''
              · rename_i hh
                injection hs'' with hs''
                subst hs''
                exact ⟨hP1, hP2.same hh⟩
              · split at hs''
                · cases hs''
                · injection hs'' with hs''
                  subst hs''
                  exact ⟨by rw [getD_app hi'']; exact hP1, hP2.more⟩
            · simp only [hd, e1, hfd, bs, Bool.false_eq_true, if_false, Bool.not_false, if_true, Bool.false_or, find_in]
              unfold addS
              cases hh : hasC s'.1 (fireR c g t).1 with
              | true => simp only [if_true]; rfl
              | false =>
                simp only [Bool.false_eq_true, if_false]
                by_cases h4 : s'.1.length = 400
                · have d2 : ((s'.1.length : Int) == (400 : Int)) = true := by simp; omega
                  simp only [d2, h4, if_true]; rfl
                · have d2 : ((s'.1.length : Int) == (400 : Int)) = false := by simp; omega
                  simp only [d2, h4, c1, c2, c3, Bool.false_eq_true, if_false, if_true]; rfl
        · have hl2 : (((enabledS c g.Leaf v).length : Int) != 1) = true := by simpa using hl
          have hl := Bool.eq_false_iff.2 hl
          refine ⟨n, f, by omega, fun s'' hs'' => ?_, ?_⟩
          · simp only [hl, Bool.false_eq_true, if_false] at hs''
            injection hs'' with hs''
            subst hs''
            exact ⟨hP1, hP2⟩
          · simp only [hl, hl2, Bool.not_true, Bool.false_eq_true, false_implies, if_true, if_false, Bool.true_or]; rfl
      · simp only [lt_irr, decide_false, Bool.false_eq_true, if_false]
      · rw [rnd_vals]
        cases hr : rnd c i (allV c) s with
        | none => rfl
        | some s' =>
          have w2 : IntKind.wrap .i64 ((i : Int) + 1) = ((i + 1 : Nat) : Int) := by
            have := I.le
            rw [w64 (by omega) (by omega)]; omega
          simp only [endS, bs, ol, w2]; rfl
    · simp only [lt_irr, decide_false, Bool.false_eq_true, if_false, bs, or_]
    · unfold searchS
      cases srch c 402 0 (begS ⟨(startS c).1, (startS c).2.1⟩) with
      | some s => rfl
      | none => rfl
end Go.Av
set_option maxRecDepth 100000
namespace Go.Av
open Ch Go.Proofs
def cutN {A:Type} [Inhabited A] (k:Int) (l:List A):List A:=subL l 0 (if k < (l.length:Int)then k else(l.length:Int)).toNat
theorem cutN_len {A:Type} [Inhabited A] {k:Nat} {l:List A}:(cutN (k:Int) l).length≤k:=by
 unfold cutN;rw[subL_len];split<;>omega
theorem cutN_mem {A:Type} [Inhabited A] {k:Int} (hk:0≤k) {l:List A}:∀ x∈cutN k l,x∈l:=fun x hx=>by
 unfold cutN at hx
 rw[subL_eq (by split<;>omega)]at hx
 exact List.mem_of_mem_drop (List.mem_of_mem_take hx)
def few8 (c:T27):T27:=⟨(fewS c).Name,cutN 3 (fewS c).Conds,(fewS c).Never,cutN 7 (fewS c).States,(fewS c).Start,cutN 14 (fewS c).Transitions⟩
structure Tiny (c:T27):Prop where
 fit:Fit c
 conds:c.Conds.length≤3
 states:c.States.length≤7
 trans:c.Transitions.length≤14
theorem few8_tiny (c:T27):Tiny (few8 c):=by
 have S:=few_small c
 have l1:(few8 c).Conds.length≤3:=cutN_len (k:=3)
 have l2:(few8 c).States.length≤7:=cutN_len (k:=7)
 have l3:(few8 c).Transitions.length≤14:=cutN_len (k:=14)
 exact⟨⟨by omega,Nat.le_trans S.never (by omega),fun l hl=>Nat.le_trans (S.lits l hl) (by omega),by omega,fun s hs=>Nat.le_trans (S.entry s (cutN_mem (by omega) s hs)) (by omega),fun s hs=>Nat.le_trans (S.exit_ s (cutN_mem (by omega) s hs)) (by omega),by omega,
  fun t ht=>Nat.le_trans (S.when_ t (cutN_mem (by omega) t ht)) (by omega),fun t ht=>Nat.le_trans (S.acts t (cutN_mem (by omega) t ht)) (by omega)⟩,l1,l2,l3⟩
theorem srch_inv {c:T27} (H:Fit c):∀ {n i:Nat} {s s':SS},Inv c s→srch c n i s=some s'→Inv c s'
 | 0,_,_,_,_,h=>by cases h
 | n+1,i,s,s',I,h=>by
  unfold srch at h
  split at h
  ·rw[Option.bind_eq_some_iff]at h
   obtain⟨t,h1,h2⟩:=h
   exact srch_inv H (rnd_inv H I h1).1 h2
  ·injection h with h;subst h;exact I
theorem searchS_inv {c:T27} (H:Fit c) (hc:checkM c=some 0) {s:SS} (h:searchS c=some s):Inv c s:=srch_inv H (beg_inv H hc) h
end Go.Av
set_option maxRecDepth 100000
namespace Go.Av
open Ch Go.Proofs
theorem getD_end {α:Type} [Inhabited α] {l:List α} {x:α} {n:Nat} (h:n=l.length):(l++[x]).getD n default=x:=by
 subst h;simp[List.getD_eq_getElem?_getD]
structure Wy (c:T27) (g0:T37) (s:SS):Prop where
 i0:s.1.getD 0 default=g0
 f0:s.2.1.getD 0 default = -1
 w:∀ k,0 < k→k < s.1.length→∃ j v:Nat,j < k∧s.2.1.getD k default=(j:Int)∧v < numV c∧s.2.2.getD k default=(v:Int)∧stepO c (s.1.getD j default) (v:Int)=some (s.1.getD k default)
 nd:s.1.Nodup
theorem beg_wy (c:T27) (g:T37):Wy c g (begS g):=⟨rfl,rfl,fun k h1 h2=>by simp only[begS,List.length_cons,List.length_nil]at h2;omega,by simp[begS]⟩
theorem visit_wy {c:T27} {g0:T37} {i v:Nat} {s s':SS} (I:Inv c s) (W:Wy c g0 s) (hi:i < s.1.length) (hv:v < numV c) (hs:visit c i s (v:Int)=some s'):Wy c g0 s':=by
 unfold visit at hs
 split at hs
 ·injection hs with hs;subst hs;exact W
 ·rename_i h he
  unfold addS at hs
  split at hs
  ·injection hs with hs;subst hs;exact W
  ·rename_i hh
   split at hs
   ·cases hs
   ·injection hs with hs
    subst hs
    have l1:=I.l1
    have l2:=I.l2
    have pos:=I.pos
    refine⟨?_,?_,fun k h1 h2=>?_,?_⟩
    ·show (s.1++[h]).getD 0 default=g0
     rw[getD_app pos];exact W.i0
    ·show (s.2.1++[(i:Int)]).getD 0 default = -1
     rw[getD_app (by omega)];exact W.f0
    ·simp only[List.length_append,List.length_cons,List.length_nil]at h2
     show ∃ j v':Nat,j < k∧(s.2.1++[(i:Int)]).getD k default=(j:Int)∧v' < numV c∧(s.2.2++[(v:Int)]).getD k default=(v':Int)∧stepO c ((s.1++[h]).getD j default) (v':Int)=some ((s.1++[h]).getD k default)
     by_cases hk:k < s.1.length
     ·obtain⟨j,v',q1,q2,q3,q4,q5⟩:=W.w k h1 hk
      refine⟨j,v',q1,?_,q3,?_,?_⟩
      ·rw[getD_app (by omega)];exact q2
      ·rw[getD_app (by omega)];exact q4
      ·rw[getD_app (by omega),getD_app hk];exact q5
     ·obtain rfl:k=s.1.length:=by omega
      refine⟨i,v,hi,?_,hv,?_,?_⟩
      ·rw[getD_end l1.symm]
      ·rw[getD_end l2.symm]
      ·rw[getD_app hi,getD_end rfl];exact he
    ·show (s.1++[h]).Nodup
     rw[List.nodup_append]
     refine⟨W.nd,by simp,fun a ha b hb=>?_⟩
     simp only[List.mem_singleton]at hb
     subst hb
     rintro rfl
     exact hh (hasC_iff.2 ha)
theorem rnd_wy {c:T27} (H:Fit c) {g0:T37} {i:Nat}:∀ {l:List Int} {s s':SS},(∀ v∈l,∃ n:Nat,v=n∧n < numV c)→Inv c s→Wy c g0 s→i < s.1.length→rnd c i l s=some s'→Wy c g0 s'
 | [],s,s',_,_,W,_,hs=>by injection hs with hs;subst hs;exact W
 | v :: l,s,s',hl,I,W,hi,hs=>by
  unfold rnd at hs
  rw[Option.bind_eq_some_iff]at hs
  obtain⟨t,h1,h2⟩:=hs
  obtain⟨n,rfl,hn⟩:=hl v (by simp)
  obtain⟨I1,k1⟩:=visit_inv H I h1
  exact rnd_wy H (fun w hw=>hl w (by simp[hw])) I1 (visit_wy I W hi hn h1) (by omega) h2
theorem allV_mem {c:T27} {v:Int}:v∈allV c↔∃ n:Nat,v=n∧n < numV c:=by
 unfold allV
 rw[List.mem_map]
 constructor
 ·rintro⟨n,h,rfl⟩;exact⟨n,rfl,List.mem_range.1 h⟩
 ·rintro⟨n,rfl,h⟩;exact⟨n,List.mem_range.2 h,rfl⟩
theorem srch_wy {c:T27} (H:Fit c) {g0:T37}:∀ {n i:Nat} {s s':SS},Inv c s→Wy c g0 s→srch c n i s=some s'→Wy c g0 s'
 | 0,_,_,_,_,_,h=>by cases h
 | n+1,i,s,s',I,W,h=>by
  unfold srch at h
  split at h
  ·rename_i hi
   rw[Option.bind_eq_some_iff]at h
   obtain⟨t,h1,h2⟩:=h
   exact srch_wy H (rnd_inv H I h1).1 (rnd_wy H (fun v hv=>allV_mem.1 hv) I W hi h1) h2
  ·injection h with h;subst h;exact W
def begG (c:T27):T37:=⟨(startS c).1,(startS c).2.1⟩
theorem searchS_wy {c:T27} (H:Fit c) (hc:checkM c=some 0) {s:SS} (h:searchS c=some s):Wy c (begG c) s:=srch_wy H (beg_inv H hc) (beg_wy c (begG c)) h
theorem visit_mem {c:T27} {i:Nat} {s s':SS} {v:Int} (hs:visit c i s v=some s') {h:T37} (he:stepO c (s.1.getD i default) v=some h):h∈s'.1:=by
 unfold visit at hs
 rw[he]at hs
 simp only at hs
 unfold addS at hs
 split at hs
 ·rename_i hh;injection hs with hs;subst hs;exact hasC_iff.1 hh
 ·split at hs
  ·cases hs
  ·injection hs with hs;subst hs;simp
theorem rnd_get {c:T27} {i:Nat}:∀ {l:List Int} {s s':SS},rnd c i l s=some s'→∃ k,s'.1=s.1++k
 | [],s,s',hs=>by injection hs with hs;subst hs;exact⟨[],by simp⟩
 | v :: l,s,s',hs=>by
  unfold rnd at hs
  rw[Option.bind_eq_some_iff]at hs
  obtain⟨t,h1,h2⟩:=hs
  obtain⟨k1,e1⟩:=visit_get h1
  obtain⟨k2,e2⟩:=rnd_get h2
  exact⟨k1++k2,by rw[e2,e1,List.append_assoc]⟩
theorem rnd_mem {c:T27} {i:Nat}:∀ {l:List Int} {s s':SS},i < s.1.length→rnd c i l s=some s'→∀ v∈l,∀ h,stepO c (s.1.getD i default) v=some h→h∈s'.1
 | [],s,s',_,_,v,hv,_,_=>by cases hv
 | v :: l,s,s',hi,hs,w,hw,h,he=>by
  unfold rnd at hs
  rw[Option.bind_eq_some_iff]at hs
  obtain⟨t,h1,h2⟩:=hs
  obtain⟨k1,e1⟩:=visit_get h1
  have e3:t.1.getD i default=s.1.getD i default:=by rw[e1,getD_app hi]
  rcases List.mem_cons.1 hw with rfl | hw
  ·obtain⟨k2,e2⟩:=rnd_get h2
   rw[e2];exact List.mem_append_left _ (visit_mem h1 he)
  ·exact rnd_mem (by rw[e1];simp;omega) h2 w hw h (by rw[e3];exact he)
def Cl (c:T27) (s:SS) (i:Nat):Prop:=∀ j,j < i→∀ v:Nat,v < numV c→∀ h,stepO c (s.1.getD j default) (v:Int)=some h→h∈s.1
theorem srch_cl {c:T27}:∀ {n i:Nat} {s s':SS},i≤s.1.length→Cl c s i→srch c n i s=some s'→Cl c s' s'.1.length
 | 0,_,_,_,_,_,h=>by cases h
 | n+1,i,s,s',hi,C,h=>by
  unfold srch at h
  split at h
  ·rename_i hlt
   rw[Option.bind_eq_some_iff]at h
   obtain⟨t,h1,h2⟩:=h
   obtain⟨k,e⟩:=rnd_get h1
   refine srch_cl (by rw[e];simp;omega) (fun j hj v hv x hx=>?_) h2
   by_cases hji:j=i
   ·subst hji
    rw[e,getD_app hlt]at hx
    exact rnd_mem hlt h1 v (allV_mem.2 ⟨v,rfl,hv⟩) x hx
   ·rw[e,getD_app (by omega)]at hx
    rw[e];exact List.mem_append_left _ (C j (by omega) v hv x hx)
  ·injection h with h
   subst h
   obtain rfl:i=s.1.length:=by omega
   exact C
theorem searchS_cl {c:T27} {s:SS} (h:searchS c=some s):Cl c s s.1.length:=srch_cl (by simp) (fun j hj=>by omega) h
theorem reach_step {c:T27} {s:SS} (h:searchS c=some s) {g x:T37} (hg:g∈s.1) {v:Nat} (hv:v < numV c) (he:stepO c g (v:Int)=some x):x∈s.1:=by
 obtain⟨j,hj,rfl⟩:=List.getElem_of_mem hg
 exact searchS_cl h j hj v hv x (by simpa [List.getD_eq_getElem?_getD,List.getElem?_eq_getElem hj] using he)
end Go.Av
set_option maxRecDepth 100000
namespace Go.Av
open Ch Go.Proofs
def xsR (l:List Int) (i:Nat):List Int:=(List.range l.length).map fun k=>if k < i∨l.length - 1 - i < k then l.getD (l.length - 1 - k) default else l.getD k default
theorem xsR_len (l:List Int) (i:Nat):(xsR l i).length=l.length:=by simp[xsR]
theorem xsR_at {l:List Int} {i k:Nat} (hk:k < l.length):(xsR l i).getD k default=if k < i∨l.length - 1 - i < k then l.getD (l.length - 1 - k) default else l.getD k default:=by
 simp[xsR,List.getD_eq_getElem?_getD,hk]
theorem getD_set {l:List Int} {i k:Nat} {a:Int} (hi:i < l.length):(l.set i a).getD k default=if k=i then a else l.getD k default:=by
 simp only[List.getD_eq_getElem?_getD,List.getElem?_set]
 by_cases h:i=k
 ·subst h;simp[hi]
 ·have:¬ k=i:=fun e=>h e.symm
  simp[h,this]
theorem xsR_0 (l:List Int):xsR l 0=l:=by
 rw[list_eq_iff (xsR_len l 0)]
 intro i hi
 rw[xsR_len]at hi
 rw[xsR_at hi,if_neg (by omega)]
theorem xsR_step {l:List Int} {i:Nat} (h:2 * i+1 < l.length):((xsR l i).set i ((xsR l i).getD (l.length - 1 - i) default)).set (l.length - 1 - i) ((xsR l i).getD i default)=xsR l (i+1):=by
 have hn:=xsR_len l i
 rw[list_eq_iff (by simp only[List.length_set,xsR_len])]
 intro k hk
 simp only[List.length_set,xsR_len]at hk
 rw[getD_set (by simp only[List.length_set];omega),getD_set (by omega),xsR_at hk,xsR_at hk,xsR_at (show i < l.length by omega),xsR_at (show l.length - 1 - i < l.length by omega)]
 by_cases h1:k=l.length - 1 - i
 ·subst h1
  rw[if_pos rfl,if_neg (by omega),if_pos (by omega)]
  congr 1;omega
 ·rw[if_neg h1]
  by_cases h2:k=i
  ·subst h2
   rw[if_pos rfl,if_neg (by omega),if_pos (by omega)]
  ·rw[if_neg h2]
   by_cases h3:k < i∨l.length - 1 - i < k
   ·rw[if_pos h3,if_pos (by omega)]
   ·rw[if_neg h3,if_neg (by omega)]
theorem xsR_end {l:List Int} {i:Nat} (h1:l.length≤2 * i+1) (h2:2 * i≤l.length):xsR l i=l.reverse:=by
 rw[list_eq_iff (by rw[xsR_len];simp)]
 intro k hk
 rw[xsR_len]at hk
 rw[xsR_at hk]
 have e:l.reverse.getD k default=l.getD (l.length - 1 - k) default:=by
  simp[List.getD_eq_getElem?_getD,List.getElem?_reverse hk]
 rw[e]
 by_cases h:k < i∨l.length - 1 - i < k
 ·rw[if_pos h]
 ·rw[if_neg h]
  congr 1;omega
theorem M104o0 (a0:List Int):m104o0 a0=((Option.bind (some (.inl ())) (onS fun(_:Unit)=>(loopO (fun(s1:(List Int)×Int×Int)=>((if(decide (s1.2.1 < s1.2.2))=true then(if(0≤s1.2.2)then(if(s1.2.2 < (a0.length:Int))then(if(s1.2.2.toNat < a0.length)then(if(0≤s1.2.1)then(if(s1.2.1 < (a0.length:Int))then(if(s1.2.1.toNat < a0.length)then(if(0≤s1.2.1)then(if(s1.2.1 < (a0.length:Int))then(if(s1.2.1.toNat < a0.length)then(if(0≤s1.2.2)then(if(s1.2.2 < (a0.length:Int))then(if(s1.2.2.toNat < a0.length)then(some (.inl ((((subL s1.1 0 a0.length).set s1.2.1.toNat (s1.1.getD s1.2.2.toNat default)).set s1.2.2.toNat (s1.1.getD s1.2.1.toNat default)),(IntKind.wrap .i64 (s1.2.1+1)),(IntKind.wrap .i64 (s1.2.2 - 1)))))else none)else none)else none)else none)else none)else none)else none)else none)else none)else none)else none)else none)else(some (.inr (s1.1)))):Option (((List Int)×Int×Int)⊕((List Int))))) (a0,(0:Int),(IntKind.wrap .i64 ((a0.length:Int) - (1:Int))))))):Option ((List Int))):=by kernel_rfl
theorem rev_eq (l:List Int) (hl:l.length≤1000000):m104o0 l=some l.reverse:=by
 simp only[M104o0,bind_id,bs,ol]
 by_cases h0:l.length=0
 ·have:l=[]:=List.length_eq_zero_iff.1 h0
  subst this
  rfl
 have w0:IntKind.wrap .i64 ((l.length:Int) - 1)=(l.length:Int) - 1:=w64 (by omega) (by omega)
 rw[w0]
 rw[show ((l,(0:Int),(l.length:Int) - 1):List Int×Int×Int)=(xsR l 0,((0:Nat):Int),(l.length:Int) - 1 - ((0:Nat):Int)) from by rw[xsR_0];simp]
 refine loop_st (l.length / 2) (fun i=>(xsR l i,(i:Int),(l.length:Int) - 1 - (i:Int))) l.reverse (fun i hi=>?_) ?_
 ·have h1:2 * i+1 < l.length:=by omega
  have j0:((l.length:Int) - 1 - (i:Int))=((l.length - 1 - i:Nat):Int):=by omega
  have hs:subL (xsR l i) 0 l.length=xsR l i:=by
   rw[list_eq_iff (by rw[subL_len,xsR_len])]
   intro k hk
   rw[subL_len]at hk
   exact subL_getD hk
  have c1:decide ((i:Int) < ((l.length - 1 - i:Nat):Int))=true:=by simp;omega
  have c2:=inL (show i < l.length by omega)
  have c3:=inL (show l.length - 1 - i < l.length by omega)
  have c4:(i < l.length)=True:=eq_true (by omega)
  have c5:(l.length - 1 - i < l.length)=True:=eq_true (by omega)
  have w1:IntKind.wrap .i64 ((i:Int)+1)=((i+1:Nat):Int):=by rw[w64 (by omega) (by omega)];omega
  have w2:IntKind.wrap .i64 (((l.length - 1 - i:Nat):Int) - 1)=(l.length:Int) - 1 - ((i+1:Nat):Int):=by rw[w64 (by omega) (by omega)];omega
  simp only[j0,c1,c2,c3,c4,c5,if_true,Int.toNat_natCast,hs,w1,w2,xsR_step h1]
 ·have c1:decide (((l.length / 2:Nat):Int) < (l.length:Int) - 1 - ((l.length / 2:Nat):Int))=false:=by simp;omega
  simp only[c1,Bool.false_eq_true,if_false,xsR_end (l:=l) (i:=l.length / 2) (by omega) (by omega)]
def wayL (s:SS):Nat→Nat→List Int
 | 0,_=>[]
 | n+1,k=>if k=0 then[]else wayL s n (s.2.1.getD k default).toNat++[s.2.2.getD k default]
theorem wayL_len (s:SS):∀ n k,(wayL s n k).length≤n
 | 0,_=>by simp[wayL]
 | n+1,k=>by
  unfold wayL
  split
  ·simp
  ·have:=wayL_len s n (s.2.1.getD k default).toNat
   simp only[List.length_append,List.length_cons,List.length_nil];omega
structure Fb (s:SS):Prop where
 le:s.1.length≤400
 l1:s.2.1.length=s.1.length
 l2:s.2.2.length=s.1.length
 pos:0 < s.1.length
 f0:s.2.1.getD 0 default = -1
 w:∀ k,0 < k→k < s.1.length→∃ j:Nat,j < k∧s.2.1.getD k default=(j:Int)
theorem fb_of {c:T27} {g0:T37} {s:SS} (I:Inv c s) (W:Wy c g0 s):Fb s:=⟨I.le,I.l1,I.l2,I.pos,W.f0,fun k h1 h2=>by
 obtain⟨j,v,q1,q2,_⟩:=W.w k h1 h2
 exact⟨j,q1,q2⟩⟩
theorem way_loop {s:SS} (F:Fb s) {X:Type} {b:Int×List Int→Option ((Int×List Int)⊕X)} (out:List Int→X) (hb0:∀ acc,b (((0:Nat):Int),acc)=some (.inr (out acc)))
  (hb:∀ (k j:Nat) (acc:List Int),0 < k→k < s.1.length→s.2.1.getD k default=(j:Int)→acc.length≤1000→b ((k:Int),acc)=some (.inl ((j:Int),acc++[s.2.2.getD k default]))) :
  ∀ (n k:Nat) (acc:List Int),k≤n→n≤400→k < s.1.length→acc.length+n≤1000→loopO b ((k:Int),acc)=some (out (acc++(wayL s n k).reverse)):=by
 intro n
 induction n with
 | zero =>
  intro k acc h1 h2 h3 h4
  obtain rfl:k=0:=by omega
  rw[loopO_eq,hb0]
  simp only[Option.bind_some,wayL,List.reverse_nil,List.append_nil]
 | succ n ih =>
  intro k acc h1 h2 h3 h4
  by_cases hk0:k=0
  ·subst hk0
   rw[loopO_eq,hb0]
   simp only[Option.bind_some,wayL,if_true,List.reverse_nil,List.append_nil]
  ·obtain⟨j,q1,q2⟩:=F.w k (by omega) h3
   rw[loopO_eq,hb k j acc (by omega) h3 q2 (by omega)]
   simp only[Option.bind_some]
   rw[ih j _ (by omega) (by omega) (by omega) (by simp;omega)]
   simp only[wayL,hk0,if_false,q2,Int.toNat_natCast,List.reverse_append,List.reverse_cons,List.reverse_nil,List.nil_append,List.append_assoc]
theorem M56o0 (a0 a1:List Int) (a2:Int):m56o0 a0 a1 a2=((Option.bind (some (.inl ())) (onS fun(_:Unit)=>(Option.bind (loopO (fun(s1:Int×(List Int))=>((if(0≤s1.1)then(if(s1.1 < (a0.length:Int))then(if(decide (0≤(a0.getD s1.1.toNat default)))=true then(Option.bind ((if 0≤s1.1 then(if s1.1 < (a1.length:Int)then(if(s1.2.length+1) * 2≤140737488355328 then some ()else none)else none)else none)) fun(x4:(Unit))=>(if(0≤s1.1)then(if(s1.1 < (a0.length:Int))then(some (.inl ((a0.getD s1.1.toNat default),(s1.2++([(a1.getD s1.1.toNat default)]:List Int)))))else none)else none))else(some (.inr (.inl s1.2))))else none)else none):Option ((Int×(List Int))⊕(((List Int))⊕((List Int)))))) (a2,([]:List Int))) (onS fun(y2:(List Int))=>(Option.bind (Option.bind (m104o0 y2) fun r=>some r) fun x5=>(some (subL x5 0 y2.length))))))):Option ((List Int))):=by kernel_rfl
theorem way_fb {s:SS} (F:Fb s) {k:Nat} (hk:k < s.1.length):m56o0 s.2.1 s.2.2 (k:Int)=some (wayL s k k):=by
 have q1:=rev_eq
 have b1:=F.le
 have b2:=F.l1
 have b3:=F.l2
 have pos:=F.pos
 simp only[M56o0,bind_id,bs,ol]
 generalize m104o0=R at q1 ⊢
 refine bind_eq (way_loop F Sum.inl (fun acc=>?_) (fun k j acc h1 h2 h3 h4=>?_) k k [] (Nat.le_refl _) (by omega) hk (by simp;omega)) ?_
 ·have c1:=inL (show 0 < s.2.1.length by omega)
  have d:decide ((0:Int)≤s.2.1.getD 0 default)=false:=by rw[F.f0];rfl
  simp only[c1,if_true,Int.toNat_natCast,d,Bool.false_eq_true,if_false]
 ·have c1:=inL (show k < s.2.1.length by omega)
  have c2:=inL (show k < s.2.2.length by omega)
  have d:decide ((0:Int)≤s.2.1.getD k default)=true:=by rw[h3];simp
  have c3:((acc.length+1) * 2≤140737488355328)=True:=eq_true (by omega)
  simp only[c1,c2,c3,if_true,Int.toNat_natCast,d,bs]
  rw[h3]
 ·have hl:=wayL_len s k k
  have q2:=q1 (wayL s k k).reverse (by rw[List.length_reverse];omega)
  rw[List.reverse_reverse]at q2
  have e:subL (wayL s k k) 0 (wayL s k k).reverse.length=wayL s k k:=by
   rw[list_eq_iff (by rw[subL_len,List.length_reverse])]
   intro i hi
   rw[subL_len]at hi
   exact subL_getD hi
  simp only[List.nil_append,bs,ol,q2,e]
theorem way_eq {c:T27} {g0:T37} {s:SS} (I:Inv c s) (W:Wy c g0 s) {k:Nat} (hk:k < s.1.length):m56o0 s.2.1 s.2.2 (k:Int)=some (wayL s k k):=way_fb (fb_of I W) hk
def cfgR (c:T27):List Int→T37→Option T37
 | [],g=>some g
 | v :: l,g=>(stepO c g v).bind (cfgR c l)
theorem cfgR_app {c:T27}:∀ {l k:List Int} {g:T37},cfgR c (l++k) g=(cfgR c l g).bind (cfgR c k)
 | [],k,g=>rfl
 | v :: l,k,g=>by
  simp only[List.cons_append,cfgR]
  cases stepO c g v with
  | none=>rfl
  | some x=>simp only[Option.bind_some];exact cfgR_app
theorem cfgR_way {c:T27} {g0:T37} {s:SS} (W:Wy c g0 s):∀ (n k:Nat),k≤n→k < s.1.length→cfgR c (wayL s n k) g0=some (s.1.getD k default)
 | 0,k,h1,h2=>by
  obtain rfl:k=0:=by omega
  simp only[wayL,cfgR,W.i0]
 | n+1,k,h1,h2=>by
  unfold wayL
  by_cases hk:k=0
  ·subst hk;simp only[if_true,cfgR,W.i0]
  ·obtain⟨j,v,q1,q2,q3,q4,q5⟩:=W.w k (by omega) h2
   rw[if_neg hk,cfgR_app,q2,q4,Int.toNat_natCast,cfgR_way W n j (by omega) (by omega)]
   simp only[Option.bind_some,cfgR,q5]
def leafI (s:SS) (leaf:Int):Int:=findR (fun i=>(s.1.getD i default).Leaf==leaf) s.1.length
def witM (c:T27) (leaf:Int):Option (List Int×Int):=(checkM c).bind fun e=>if(e != 0)=true then some ([],e)else if(!hasK (leavesS c) (leavesS c).length leaf)=true then some ([],2)else match searchS c with
 | none=>some ([],3)
 | some s=>if decide (leafI s leaf < 0)=true then some ([],6)else some (wayL s (leafI s leaf).toNat (leafI s leaf).toNat,0)
theorem findR_cases (F:Nat→Bool) (n:Nat):(findR F n = -1∧anyR F n=false)∨∃ k:Nat,k < n∧findR F n=(k:Int)∧F k=true:=by
 unfold findR
 cases h:firstR (fun i=>if F i=true then some (i:Int)else none) n with
 | none =>
  left
  refine⟨rfl,?_⟩
  rw[anyR_false]
  intro i hi
  have:=firstR_none.1 h i hi
  split at this
  ·cases this
  ·rename_i h2;simpa using h2
 | some y =>
  right
  obtain⟨i,hi,h2⟩:=firstR_some h
  split at h2
  ·rename_i h3
   injection h2 with h2;subst h2
   exact⟨i,hi,rfl,h3⟩
  ·cases h2
theorem leaves_len {c:T27}:(leavesS c).length≤c.States.length:=by
 have:=flatMap_len (leafG_len c) c.States.length
 unfold leavesS;omega
theorem M54o1 (a0:List T37) (a1:Int):m54o1 a0 a1=((Option.bind (some (.inl ())) (onS fun(_:Unit)=>(Option.bind (Option.bind (some (.inl ())) (onS fun(_:Unit)=>(loopO (fun(s1:Int)=>((if(decide (s1 < (a0.length:Int)))=true then(Option.bind ((if 0≤s1 then(if s1 < (a0.length:Int)then((m55o0 (a0.getD s1.toNat default) a1).bind fun r4_0=>some r4_0)else none)else none)) fun(x4:(Unit))=>(if((a0.getD s1.toNat default).Leaf==a1)=true then(some (.inr (.inr (s1))))else(some (.inl (IntKind.wrap .i64 (s1+1))))))else(some (.inr (.inl ())))):Option ((Int)⊕((Unit)⊕(Int))))) (0:Int)))) (onS fun(_:Unit)=>(some (-1:Int)))))):Option (Int)):=by kernel_rfl
theorem M21 (a0:T27) (a1:Int):m21 a0 a1=((orJ (Option.bind (Option.bind (m38 a0) fun r=>some r) fun x1=>(if(x1 != 0)=true then(some ([],x1))else(Option.bind (((m53 a0).bind fun r4_0=>((m49 r4_0 a1).bind fun r4_1=>some (r4_0,r4_1)))) fun(x4:((List Int)×Bool))=>(if(!x4.2)=true then(some ([],(2:Int)))else(Option.bind (Option.bind (m44o1 a0) fun r=>some r) fun x6=>(if(x6 != 0)=true then(some ([],x6))else(Option.bind (none) fun(x9:(Unit))=>none))))))) (Option.bind (Option.bind (m38 a0) fun r=>some r) fun x1=>(if(x1 != 0)=true then(some ([],x1))else(Option.bind (((m53 a0).bind fun r4_0=>((m49 r4_0 a1).bind fun r4_1=>some (r4_0,r4_1)))) fun(x4:((List Int)×Bool))=>(if(!x4.2)=true then(some ([],(2:Int)))else(Option.bind (Option.bind (m44o2 a0) fun r=>some r) fun x6=>(if((0:Int) != (0:Int))=true then(some ([],(0:Int)))else(Option.bind (Option.bind (m54o1 x6.1 a1) fun r=>some r) fun x9=>(if(decide (x9 < 0))=true then(some ([],(6:Int)))else(Option.bind (Option.bind (m56o0 x6.2.1 x6.2.2.1 x9) fun r=>some r) fun x12=>(some (x12,(0:Int))))))))))))):Option ((List Int)×Int)):=by kernel_rfl
theorem Witness_eq {c:T27} (H:Fit c) (hn:c.Conds.length≤12) (leaf:Int):m21 c leaf=witM c leaf:=by
 obtain⟨e,he⟩:=checkM_some c
 have hst:=H.states
 have hll:=leaves_len (c:=c)
 have q0:=Check_eq c H
 have q1:=srchE_eq H hn
 have q2:=srchR_eq H hn
 have q3:=Leaves_eq c H
 have q4:=containsI_eq (leavesS c) leaf (by omega)
 have q5:∀ s:SS,Inv c s→m54o1 s.1 leaf=some (leafI s leaf):=fun s I=>by
  have b1:=I.le
  simp only[M54o1,bind_id,bs,ol]
  refine idx_loop (fun i hi=>?_) ?_
  ·simp only[exB_ite,exB_some,exB_none,inL hi,decide_true,Int.toNat_natCast,if_true,wr1 hi (by omega),bs,show ∀ x,m55o0 x leaf=some () from fun x=>rfl]
  ·simp only[lt_irr,decide_false,Bool.false_eq_true,if_false]
 have q6:∀ s:SS,Inv c s→Wy c (begG c) s→∀ k:Nat,k < s.1.length→m56o0 s.2.1 s.2.2 (k:Int)=some (wayL s k k):=fun s I W k hk=>way_eq I W hk
 unfold witM
 simp only[M21,bind_id,q0,q1,q2,q3,q4,he,bs]
 generalize m54o1=F1 at q5 ⊢
 generalize m56o0=F2 at q6 ⊢
 by_cases h0:(e != 0)=true
 ·simp only[h0,if_true];rfl
 ·have h0:=Bool.eq_false_iff.2 h0
  have e0:e=0:=by simpa using h0
  subst e0
  simp only[h0,Bool.false_eq_true,if_false]
  cases hasK (leavesS c) (leavesS c).length leaf with
  | false=>simp only[Bool.not_false,if_true];rfl
  | true =>
   simp only[Bool.not_true,Bool.false_eq_true,if_false]
   cases hs:searchS c with
   | none=>simp only[bs,bn,show ((3:Int) != 0)=true from rfl,if_true];rfl
   | some s =>
    have I:=searchS_inv H he hs
    have W:=searchS_wy H he hs
    have k1:=q5 s I
    have k2:=q6 s I W
    simp only[bs,bn,k1]
    rcases findR_cases (fun i=>(s.1.getD i default).Leaf==leaf) s.1.length with⟨h1,_⟩ | ⟨k,h1,h2,_⟩
    ·have h1:leafI s leaf = -1:=h1
     rw[h1];rfl
    ·have h2:leafI s leaf=(k:Int):=h2
     rw[h2]
     have d:decide ((k:Int) < 0)=false:=by simp
     simp only[d,k2 k h1,bs,Bool.false_eq_true,if_false,Int.toNat_natCast];rfl
end Go.Av
set_option maxRecDepth 100000
namespace Go.Av
open Ch Go.Proofs
def reachB (s:SS) (leaf:Int):Bool:=anyR (fun i=>(s.1.getD i default).Leaf==leaf) s.1.length
theorem reachB_iff {s:SS} {leaf:Int}:reachB s leaf=true↔∃ g∈s.1,g.Leaf=leaf:=by
 unfold reachB
 rw[anyR_iff]
 constructor
 ·rintro⟨i,hi,h⟩;exact⟨_,getD_mem hi,by simpa using h⟩
 ·rintro⟨g,hg,h⟩
  obtain⟨i,hi,rfl⟩:=List.getElem_of_mem hg
  exact⟨i,hi,by simpa [List.getD_eq_getElem?_getD,List.getElem?_eq_getElem hi] using h⟩
def finV (c:T27) (leaf kind:Int) (v:Nat):Option T44 :=
 if allowedS c (v:Int)=true then
  if(kind==1&&((enabledS c leaf (v:Int)).length:Int)==0)=true then some ⟨kind,leaf,(v:Int),-1,-1⟩
  else if(kind==2&&decide (1 < ((enabledS c leaf (v:Int)).length:Int)))=true then some ⟨kind,leaf,(v:Int),(enabledS c leaf (v:Int)).getD 0 default,(enabledS c leaf (v:Int)).getD 1 default⟩else none
 else none
def leafFd (c:T27) (leaf kind:Int):Option T44:=firstR (finV c leaf kind) (numV c)
def aliveV (c:T27) (leaf t:Int) (v:Nat):Bool:=allowedS c (v:Int)&&hasK (enabledS c leaf (v:Int)) (enabledS c leaf (v:Int)).length t
def aliveB (c:T27) (leaf t:Int):Bool:=anyR (aliveV c leaf t) (numV c)
end Go.Av
set_option maxRecDepth 100000
namespace Go.Av
open Ch Go.Proofs
def leafA (c:T27) (i:Nat):Int:=(leavesS c).getD i default
def kindG (c:T27) (s:SS) (kind:Int) (i:Nat):List T44:=if reachB s (leafA c i)=true then(leafFd c (leafA c i) kind).toList else[]
def unrG (c:T27) (s:SS) (i:Nat):List T44:=if reachB s (leafA c i)=true then[]else[⟨3,leafA c i,0,-1,-1⟩]
def liveB (c:T27) (s:SS) (t:Nat):Bool:=anyR (fun i=>reachB s (leafA c i)&&aliveB c (leafA c i) (t:Int)) (leavesS c).length
def deadG (c:T27) (s:SS) (t:Nat):List T44:=if liveB c s t=true then[]else[⟨4,-1,0,(t:Int),-1⟩]
def kindL (c:T27) (s:SS) (kind:Int):List T44:=(List.range (leavesS c).length).flatMap (kindG c s kind)
def findS (c:T27) (s:SS):List T44:=kindL c s 1++kindL c s 2++(List.range (leavesS c).length).flatMap (unrG c s)++(List.range c.Transitions.length).flatMap (deadG c s)
theorem kindG_len (c:T27) (s:SS) (kind:Int) (i:Nat):(kindG c s kind i).length≤1:=by
 unfold kindG;split
 ·cases leafFd c (leafA c i) kind<;>simp
 ·simp
theorem unrG_len (c:T27) (s:SS) (i:Nat):(unrG c s i).length≤1:=by unfold unrG;split<;>simp
theorem deadG_len (c:T27) (s:SS) (i:Nat):(deadG c s i).length≤1:=by unfold deadG;split<;>simp
theorem kindL_len (c:T27) (s:SS) (kind:Int):(kindL c s kind).length≤(leavesS c).length:=by
 have:=flatMap_len (kindG_len c s kind) (leavesS c).length
 unfold kindL;omega
theorem loop_app {A St X:Type} {b:St→Option (St⊕X)} (n:Nat) (mk:Nat→List A→St) (g:Nat→List A) (out:List A→X) (pre:List A)
  (hs:∀ i,i < n→b (mk i (pre++(List.range i).flatMap g))=some (.inl (mk (i+1) (pre++(List.range i).flatMap g++g i)))) (he:b (mk n (pre++(List.range n).flatMap g))=some (.inr (out (pre++(List.range n).flatMap g)))) :
  loopO b (mk 0 pre)=some (out (pre++(List.range n).flatMap g)):=by
 have key:∀ k i,i+k=n→loopO b (mk i (pre++(List.range i).flatMap g))=some (out (pre++(List.range n).flatMap g)):=by
  intro k
  induction k with
  | zero =>
   intro i hk
   obtain rfl:i=n:=by omega
   rw[loopO_eq,he];rfl
  | succ k ih =>
   intro i hk
   rw[loopO_eq,hs i (by omega),List.append_assoc,← flatMap_app]
   exact ih (i+1) (by omega)
 have:=key n 0 (by omega)
 simpa using this
def findM (c:T27):Option (List T44×Int):=(checkM c).bind fun e=>if(e != 0)=true then some ([],e)else match searchS c with | some s=>some (findS c s,0) | none=>some ([],3)
theorem leavesS_len {c:T27}:(leavesS c).length≤c.States.length:=by
 have:=flatMap_len (leafG_len c) c.States.length
 unfold leavesS;omega
end Go.Av
set_option maxRecDepth 100000
namespace Go.Av
open Ch Go.Proofs
theorem arr_get {zs:List Int} {j:Nat} (h:j < zs.length):(zs.toArray)[j]! = zs[j]:=by
 rw[getElem!_pos _ _ (by simpa using h)];simp
theorem cmpI_mem {zs:List Int} {x:Int}:x∈cmpI zs↔x∈zs:=by
 unfold cmpI Lib.compact Lib.compactUpTo
 rw[List.mem_map]
 constructor
 ·rintro⟨j,hj,rfl⟩
  have:=List.mem_range.1 (List.mem_filter.1 hj).1
  rw[arr_get this];exact List.getElem_mem _
 ·intro hx
  obtain⟨j,hj,e⟩:=List.getElem_of_mem hx
  -- the first place where it stands
  have key:∀ n j,j≤n→(h:j < zs.length)→∃ k,k < zs.length∧Lib.keeps zs.toArray k=true∧(zs.toArray)[k]! = zs[j]:=by
   intro n
   induction n with
   | zero =>
    intro j h1 h2
    obtain rfl:j=0:=by omega
    exact⟨0,h2,by simp[Lib.keeps],arr_get h2⟩
   | succ n ih =>
    intro j h1 h2
    cases hk:Lib.keeps zs.toArray j with
    | true=>exact⟨j,h2,hk,arr_get h2⟩
    | false =>
     have h3:¬ (j=0):=by rintro rfl;simp[Lib.keeps]at hk
     have h4:(zs.toArray)[j]! = (zs.toArray)[j - 1]! := by
      simp only[Lib.keeps,decide_eq_false_iff_not,not_or,Decidable.not_not]at hk;exact hk.2
     rw[arr_get h2,arr_get (show j - 1 < zs.length by omega)]at h4
     obtain⟨k,k1,k2,k3⟩:=ih (j - 1) (by omega) (by omega)
     exact⟨k,k1,k2,by rw[k3,← h4]⟩
  obtain⟨k,k1,k2,k3⟩:=key j j (Nat.le_refl _) hj
  exact⟨k,List.mem_filter.2 ⟨List.mem_range.2 k1,k2⟩,by rw[k3,e]⟩
theorem cmpI_lt {zs:List Int} (hs:zs.Pairwise (·≤·)):(cmpI zs).Pairwise (· < ·):=by
 unfold cmpI Lib.compact Lib.compactUpTo
 rw[List.pairwise_map]
 have h1:(List.range zs.length).Pairwise (· < ·):=List.pairwise_lt_range
 have h2:=h1.filter (Lib.keeps zs.toArray)
 refine h2.imp_of_mem (fun {a b} ha hb hab=>?_)
 have ha':=List.mem_range.1 (List.mem_filter.1 ha).1
 have hb':=List.mem_range.1 (List.mem_filter.1 hb).1
 have hk:=(List.mem_filter.1 hb).2
 rw[arr_get ha',arr_get hb']
 have h0:b≠0:=by omega
 have h4:(zs.toArray)[b]! ≠ (zs.toArray)[b - 1]! := by
  simp only[Lib.keeps,decide_eq_true_eq]at hk;exact hk.resolve_left h0
 rw[arr_get hb',arr_get (show b - 1 < zs.length by omega)]at h4
 have le:∀ i j,(hi:i < zs.length)→(hj:j < zs.length)→i≤j→zs[i]≤zs[j]:=fun i j hi hj hij=>by
  rcases Nat.eq_or_lt_of_le hij with rfl | h
  ·exact Int.le_refl _
  ·exact List.pairwise_iff_getElem.1 hs i j hi hj h
 have l1:=le a (b - 1) ha' (by omega) (by omega)
 have l2:=le (b - 1) b (by omega) hb' (by omega)
 omega
def lvs (s:SS):List Int:=(List.range s.1.length).flatMap fun i=>[(s.1.getD i default).Leaf]
def rL (c:T27) (s:SS):List Int:=(leavesS c).filter (reachB s)
theorem lvs_mem {s:SS} {x:Int}:x∈lvs s↔reachB s x=true:=by
 unfold lvs reachB
 rw[List.mem_flatMap,anyR_iff]
 constructor
 ·rintro⟨i,h1,h2⟩
  simp only[List.mem_singleton]at h2
  exact⟨i,List.mem_range.1 h1,by rw[h2];simp⟩
 ·rintro⟨i,h1,h2⟩
  exact⟨i,List.mem_range.2 h1,List.mem_singleton.2 (eq_of_beq h2).symm⟩
theorem leavesS_lt (c:T27):(leavesS c).Pairwise (· < ·):=by
 unfold leavesS
 generalize c.States.length=n
 induction n with
 | zero=>simp
 | succ n ih =>
  rw[flatMap_app,List.pairwise_append]
  refine⟨ih,?_,fun a ha b hb=>?_⟩
  ·unfold leafG;split<;>simp
  ·obtain⟨i,h1,h2⟩:=List.mem_flatMap.1 ha
   have:=List.mem_range.1 h1
   unfold leafG at h2 hb
   split at h2
   ·cases h2
   ·split at hb
    ·cases hb
    ·simp only[List.mem_singleton]at h2 hb
     omega
theorem lt_unique {l k:List Int} (h1:l.Pairwise (· < ·)) (h2:k.Pairwise (· < ·)) (h:∀ x,x∈l↔x∈k):l=k:=by
 have n1:l.Nodup:=h1.imp fun h=>by omega
 have n2:k.Nodup:=h2.imp fun h=>by omega
 exact List.Perm.eq_of_pairwise (le:=fun x y:Int=>x≤y) (fun a b _ _ h1 h2=>by omega) (h1.imp fun h=>by omega) (h2.imp fun h=>by omega) ((List.perm_ext_iff_of_nodup n1 n2).2 h)
theorem sorted_leaves {c:T27} {s:SS} (I:Inv c s):cmpI (sortI (lvs s))=rL c s:=by
 refine lt_unique (cmpI_lt (sortI_sorted _)) ((leavesS_lt c).filter _) fun x=>?_
 rw[cmpI_mem,(sortI_perm _).mem_iff,lvs_mem]
 unfold rL
 rw[List.mem_filter]
 constructor
 ·intro h
  refine⟨?_,h⟩
  obtain⟨g,hg,rfl⟩:=reachB_iff.1 h
  have:=validS_iff.1 (I.ok g hg)
  exact leavesS_iff.2 ⟨this.1,this.2.1⟩
 ·exact fun h=>h.2
theorem M100o1 (a0:T27) (a1:List T37) (a2 a3 a4:List Int):m100o1 a0 a1 a2 a3 a4=((Option.bind (some (.inl ())) (onS fun(_:Unit)=>(Option.bind (Option.bind (some (.inl ())) (onS fun(_:Unit)=>(loopO (fun(s1:(List Int)×Int)=>((if(decide (s1.2 < (a1.length:Int)))=true then(if(0≤s1.2)then(if(s1.2 < (a1.length:Int))then(Option.bind ((if(s1.1.length+1) * 8≤140737488355328 then some ()else none)) fun(x5:(Unit))=>(some (.inl ((s1.1++([(a1.getD s1.2.toNat default).Leaf]:List Int)),(IntKind.wrap .i64 (s1.2+1))))))else none)else none)else(some (.inr (.inl s1.1)))):Option (((List Int)×Int)⊕(((List Int))⊕((List Int)))))) (([]:List Int),(0:Int))))) (onS fun(y2:(List Int))=>(Option.bind (Option.bind (msrt y2) fun r=>some r) fun x7=>(Option.bind (Option.bind (mcmp (sortI y2)) fun r=>some r) fun x8=>(some (cmpI (sortI y2))))))))):Option ((List Int))):=by kernel_rfl
theorem sleaves_eq {c:T27} {s:SS} (I:Inv c s) (w:List Int):m100o1 c s.1 s.2.1 s.2.2 w=some (rL c s):=by
 have b1:=I.le
 simp only[M100o1,bind_id,bs,ol]
 refine on_l (loop_coll s.1.length (fun i l=>(l,(i:Int))) (fun i=>[(s.1.getD i default).Leaf]) Sum.inl (fun i hi=>?_) ?_) ?_
 ·have hgl:=flatMap_len (g:=fun i=>[(s.1.getD i default).Leaf]) (m:=1) (fun i=>by simp) i
  have c1:(((List.range i).flatMap fun i=>[(s.1.getD i default).Leaf]).length+1) * 8≤140737488355328:=by omega
  have w2:IntKind.wrap .i64 ((i:Int)+1)=((i+1:Nat):Int):=by rw[w64 (by omega) (by omega)];omega
  simp only[inL hi,decide_true,if_true,Int.toNat_natCast,eq_true c1,bs,w2]
 ·simp only[lt_irr,decide_false,Bool.false_eq_true,if_false]
 ·have hlen:(lvs s).length≤400:=by
   have:=flatMap_len (g:=fun i=>[(s.1.getD i default).Leaf]) (m:=1) (fun i=>by simp) s.1.length
   unfold lvs;omega
  have m1:msrt (lvs s)=some ():=by unfold msrt;rw[if_pos (by omega)]
  have m2:mcmp (sortI (lvs s))=some ():=by unfold mcmp;rw[if_pos (by rw[sortI_len];omega)]
  show (msrt (lvs s)).bind (fun _=>(mcmp (sortI (lvs s))).bind fun _=>some (cmpI (sortI (lvs s))))=_
  rw[m1,Option.bind_some,m2,Option.bind_some,sorted_leaves I]
end Go.Av
set_option maxRecDepth 100000
namespace Go.Av
open Ch Go.Proofs
theorem range_flat {α β:Type} [Inhabited α] (f:α→List β):∀ (l:List α),(List.range l.length).flatMap (fun j=>f (l.getD j default))=l.flatMap f
 | []=>rfl
 | x :: l=>by
  rw[List.length_cons,List.range_succ_eq_map,List.flatMap_cons,List.flatMap_map,List.flatMap_cons]
  congr 1
  exact range_flat f l
theorem filter_flat {α β:Type} (p:α→Bool) (f:α→List β):∀ (l:List α),(l.filter p).flatMap f=l.flatMap fun x=>if p x=true then f x else[]
 | []=>rfl
 | x :: l=>by
  rw[List.flatMap_cons,← filter_flat p f l]
  cases h:p x with
  | true=>rw[List.filter_cons_of_pos (by exact h),List.flatMap_cons,if_pos rfl]
  | false=>rw[List.filter_cons_of_neg (by rw[h];decide),if_neg (by decide),List.nil_append]
theorem firstR_list {α Y:Type} [Inhabited α] (f:α→Option Y) (l:List α):firstR (fun j=>f (l.getD j default)) l.length=l.findSome? f:=by
 unfold firstR
 induction l with
 | nil=>rfl
 | cons x l ih =>
  rw[List.length_cons,List.range_succ_eq_map,List.findSome?_cons,List.findSome?_cons,List.findSome?_map]
  show (match f x with | some b=>some b | none=>_)=_
  cases f x with
  | some b=>rfl
  | none=>exact ih
theorem anyR_list {α:Type} [Inhabited α] (p:α→Bool) (l:List α):anyR (fun j=>p (l.getD j default)) l.length=l.any p:=by
 rw[Bool.eq_iff_iff,anyR_iff,List.any_eq_true]
 constructor
 ·rintro⟨i,hi,h⟩;exact⟨_,getD_mem hi,h⟩
 ·rintro⟨x,hx,h⟩
  obtain⟨i,hi,rfl⟩:=List.getElem_of_mem hx
  exact⟨i,hi,by simpa [List.getD_eq_getElem?_getD,List.getElem?_eq_getElem hi] using h⟩
theorem findSome_flat {α β Y:Type} (f:β→Option Y) (g:α→List β):∀ l:List α,(l.flatMap g).findSome? f=l.findSome? fun x=>(g x).findSome? f
 | []=>rfl
 | x :: l=>by
  rw[List.flatMap_cons,List.findSome?_append,List.findSome?_cons,findSome_flat f g l]
  cases (g x).findSome? f<;>rfl
theorem firstR_orK {Y:Type} {f:Nat→Option Y} {n:Nat}:firstR f (n+1)=orK (firstR f n) (f n):=by
 rw[firstR_succ]
 cases firstR f n<;>rfl
def mkL (n:Nat) (B:Nat→Bool):List Bool:=(List.range n).map B
theorem mkL_len (n:Nat) (B:Nat→Bool):(mkL n B).length=n:=by simp[mkL]
theorem mkL_at {n:Nat} {B:Nat→Bool} {i:Nat} (h:i < n):(mkL n B).getD i default=B i:=by simp[mkL,List.getD_eq_getElem?_getD,h]
theorem mkL_congr {n:Nat} {B C:Nat→Bool} (h:∀ i,i < n→B i=C i):mkL n B=mkL n C:=by
 unfold mkL
 exact List.map_congr_left fun i hi=>h i (List.mem_range.1 hi)
theorem mkL_sub {n:Nat} {B:Nat→Bool}:subL (mkL n B) 0 n=mkL n B:=by
 rw[list_eq_iff (by rw[subL_len,mkL_len])]
 intro i hi
 rw[subL_len]at hi
 exact subL_getD hi
theorem mkL_set {n:Nat} {B:Nat→Bool} {t:Nat} (h:t < n):(mkL n B).set t true=mkL n fun u=>B u || t==u:=by
 apply List.ext_getElem?
 intro u
 simp only[mkL,List.getElem?_set,List.getElem?_map,List.length_map,List.length_range]
 by_cases e:t=u
 ·subst e;simp[h]
 ·rw[if_neg e]
  have:(t==u)=false:=by simpa using e
  by_cases hu:u < n
  ·simp[hu,this]
  ·simp[hu]
def f1 (c:T27) (leaf v:Int):Option T44:=if(((enabledS c leaf v).length:Int)==0)=true then some ⟨1,leaf,v,-1,-1⟩else none
def f2 (c:T27) (leaf v:Int):Option T44:=if decide (1 < ((enabledS c leaf v).length:Int))=true then some ⟨2,leaf,v,(enabledS c leaf v).getD 0 default,(enabledS c leaf v).getD 1 default⟩else none
def pA (c:T27) (leaf:Int) (u:Nat) (v:Int):Bool:=hasK (enabledS c leaf v) (enabledS c leaf v).length (u:Int)
theorem alG_find {c:T27} {Y:Type} (f:Int→Option Y) (v:Nat):(alG c v).findSome? f=if allowedS c (v:Int)=true then f (v:Int)else none:=by
 unfold alG
 split
 ·simp[List.findSome?_cons]
  cases f (v:Int)<;>rfl
 ·rfl
theorem f1_all {c:T27} {leaf:Int}:firstR (fun j=>f1 c leaf ((valsA c).getD j default)) (valsA c).length=leafFd c leaf 1:=by
 rw[firstR_list (f1 c leaf) (valsA c)]
 unfold valsA leafFd firstR
 rw[findSome_flat]
 congr 1
 funext v
 rw[alG_find]
 unfold finV f1
 simp only[show ((1:Int)==1)=true from rfl,show ((1:Int)==2)=false from rfl,Bool.true_and,Bool.false_and,Bool.false_eq_true,if_false]
theorem f2_all {c:T27} {leaf:Int}:firstR (fun j=>f2 c leaf ((valsA c).getD j default)) (valsA c).length=leafFd c leaf 2:=by
 rw[firstR_list (f2 c leaf) (valsA c)]
 unfold valsA leafFd firstR
 rw[findSome_flat]
 congr 1
 funext v
 rw[alG_find]
 unfold finV f2
 simp only[show ((2:Int)==2)=true from rfl,show ((2:Int)==1)=false from rfl,Bool.true_and,Bool.false_and,Bool.false_eq_true,if_false]
theorem pA_all {c:T27} {leaf:Int} {u:Nat}:anyR (fun j=>pA c leaf u ((valsA c).getD j default)) (valsA c).length=aliveB c leaf (u:Int):=by
 rw[anyR_list (pA c leaf u) (valsA c),Bool.eq_iff_iff,List.any_eq_true]
 unfold aliveB
 rw[anyR_iff]
 constructor
 ·rintro⟨x,hx,h⟩
  obtain⟨n,hn,rfl,ha⟩:=valsA_mem.1 hx
  exact⟨n,hn,by unfold aliveV;rw[ha];exact h⟩
 ·rintro⟨n,hn,h⟩
  unfold aliveV at h
  simp only[Bool.and_eq_true]at h
  exact⟨(n:Int),valsA_mem.2 ⟨n,hn,rfl,h.1⟩,h.2⟩
theorem enab_lt {c:T27} {leaf v:Int} {x:Int} (h:x∈enabledS c leaf v):∃ t:Nat,x=t∧t < c.Transitions.length:=by
 unfold enabledS at h
 obtain⟨i,hi,hx⟩:=List.mem_flatMap.1 h
 unfold enabG at hx
 split at hx
 ·simp only[List.mem_singleton]at hx
  exact⟨i,hx,List.mem_range.1 hi⟩
 ·cases hx
theorem toList_len {α:Type} (o:Option α):o.toList.length≤1:=by cases o<;>simp
theorem kind_rL {c:T27} {s:SS} {kind:Int}:(List.range (rL c s).length).flatMap (fun j=>(leafFd c ((rL c s).getD j default) kind).toList)=kindL c s kind:=by
 rw[range_flat (fun x=>(leafFd c x kind).toList) (rL c s)]
 unfold rL
 rw[filter_flat,← range_flat (fun x=>if reachB s x=true then(leafFd c x kind).toList else[]) (leavesS c)]
 rfl
theorem live_rL {c:T27} {s:SS} {t:Nat}:anyR (fun j=>aliveB c ((rL c s).getD j default) (t:Int)) (rL c s).length=liveB c s t:=by
 rw[anyR_list (fun x=>aliveB c x (t:Int)) (rL c s)]
 unfold liveB leafA
 rw[anyR_list (fun x=>reachB s x&&aliveB c x (t:Int)) (leavesS c),Bool.eq_iff_iff,List.any_eq_true,List.any_eq_true]
 unfold rL
 constructor
 ·rintro⟨x,hx,h⟩
  obtain⟨h1,h2⟩:=List.mem_filter.1 hx
  exact⟨x,h1,by rw[h2,h];rfl⟩
 ·rintro⟨x,hx,h⟩
  simp only[Bool.and_eq_true]at h
  exact⟨x,List.mem_filter.2 ⟨hx,h.1⟩,h.2⟩
theorem rL_has {c:T27} {s:SS} {x:Int} (hx:x∈leavesS c):hasK (rL c s) (rL c s).length x=reachB s x:=by
 rw[Bool.eq_iff_iff,hasK_iff]
 unfold rL
 rw[List.mem_filter]
 exact⟨fun h=>h.2,fun h=>⟨hx,h⟩⟩
theorem alive_loop {X:Type} {T:Nat} {l:List Int} (hm:∀ x∈l,∃ t:Nat,x=t∧t < T) {b:List Bool×Int→Option ((List Bool×Int)⊕X)} (out:List Bool→X)
  (hb:∀ (B:Nat→Bool) (j t:Nat),j < l.length→l.getD j default=(t:Int)→t < T→b (mkL T B,(j:Int))=some (.inl ((mkL T B).set t true,((j+1:Nat):Int)))) (he:∀ B,b (mkL T B,(l.length:Int))=some (.inr (out (mkL T B)))) (B:Nat→Bool) :
  loopO b (mkL T B,0)=some (out (mkL T fun t=>B t || hasK l l.length (t:Int))):=by
 have e0:(mkL T B,(0:Int))=(fun j:Nat=>(mkL T (fun t=>B t || anyR (fun i=>l.getD i default==(t:Int)) j),(j:Int))) 0:=by
  have:mkL T B=mkL T (fun t=>B t || anyR (fun i=>l.getD i default==(t:Int)) 0):=mkL_congr fun t _=>by simp[anyR]
  rw[this];rfl
 have e9:mkL T (fun t=>B t || hasK l l.length (t:Int))=mkL T (fun t=>B t || anyR (fun i=>l.getD i default==(t:Int)) l.length):=by
  refine mkL_congr fun t _=>?_
  unfold hasK
  congr 1
  refine anyR_congr fun i hi=>?_
  rw[Bool.eq_iff_iff,beq_iff_eq,beq_iff_eq];exact eq_comm
 rw[e0,e9]
 refine loop_st l.length (fun j:Nat=>(mkL T (fun t=>B t || anyR (fun i=>l.getD i default==(t:Int)) j),(j:Int))) _ (fun j hj=>?_) (he _)
 obtain⟨t,ht,htl⟩:=hm _ (getD_mem hj)
 have r4:mkL T (fun u=>B u || anyR (fun i=>l.getD i default==(u:Int)) (j+1))=mkL T (fun u=>(B u || anyR (fun i=>l.getD i default==(u:Int)) j) || t==u):=by
  refine mkL_congr fun u _=>?_
  unfold anyR
  rw[List.range_succ,List.any_append,← Bool.or_assoc]
  congr 1
  simp only[List.any_cons,List.any_nil,Bool.or_false,ht]
  rw[Bool.eq_iff_iff,beq_iff_eq,beq_iff_eq];omega
 show b _=some (.inl (mkL T (fun u=>B u || anyR (fun i=>l.getD i default==(u:Int)) (j+1)),((j+1:Nat):Int)))
 rw[r4,← mkL_set htl]
 exact hb _ j t hj ht htl
theorem M47o1 (a0:T27) (a1:List T37) (a2 a3 a4:List Int):m47o1 a0 a1 a2 a3 a4=((Option.bind (Option.bind (Option.bind (m100o1 a0 a1 a2 a3 a4) fun r=>some r) fun x1=>(if(0≤(a0.Transitions.length:Int))then(if((a0.Transitions.length:Int)=(a0.Transitions.length:Int))then(if((a0.Transitions.length:Int) * 1≤140737488355328)then(if((a0.Transitions.length:Int)≤9223372036854775807)then(some (.inl x1))else none)else none)else none)else none)) (onS fun(y1:(List Int))=>(Option.bind (Option.bind (some (.inl ())) (onS fun(_:Unit)=>(loopO (fun(s2:(List T44)×(List T44)×(List Bool)×Int)=>((Option.bind (if(decide (s2.2.2.2 < (y1.length:Int)))=true then(some (.inl ()))else(some (.inr (.inr (.inl (s2.1,s2.2.1,s2.2.2.1)))))) (onS fun(_:Unit)=>(Option.bind (Option.bind (if(0≤s2.2.2.2)then(if(s2.2.2.2 < (y1.length:Int))then(if(s2.2.2.2.toNat < y1.length)then(some (.inl ()))else none)else none)else none) (onS fun(_:Unit)=>(loopO (fun(s3:(List T44)×(List T44)×(List Bool)×Bool×Bool×Int)=>((Option.bind (if(decide (s3.2.2.2.2.2 < (a4.length:Int)))=true then(some (.inl ()))else(some (.inr (.inr (.inl (s3.1,s3.2.1,s3.2.2.1)))))) (onS fun(_:Unit)=>(Option.bind (Option.bind (if(0≤s3.2.2.2.2.2)then(if(s3.2.2.2.2.2 < (a4.length:Int))then(Option.bind (Option.bind (m19 a0 (y1.getD s2.2.2.2.toNat default) (a4.getD s3.2.2.2.2.2.toNat default)) fun r=>some r) fun x11=>(some (.inl x11)))else none)else none) (onS fun(y4:(List Int))=>(Option.bind (Option.bind (some (.inl ())) (onS fun(_:Unit)=>(loopO (fun(s5:(List Bool)×Int)=>((if(decide (s5.2 < (y4.length:Int)))=true then(if(0≤s5.2)then(if(s5.2 < (y4.length:Int))then(if(0≤(y4.getD s5.2.toNat default))then(if((y4.getD s5.2.toNat default) < ((a0.Transitions.length:Int).toNat:Int))then(if((y4.getD s5.2.toNat default).toNat < (a0.Transitions.length:Int).toNat)then(some (.inl (((subL s5.1 0 (a0.Transitions.length:Int).toNat).set (y4.getD s5.2.toNat default).toNat true),(IntKind.wrap .i64 (s5.2+1)))))else none)else none)else none)else none)else none)else(some (.inr (.inl s5.1)))):Option (((List Bool)×Int)⊕(((List Bool))⊕(((List T44)×(List T44)×(List Bool)×Bool×Bool)⊕(((List T44)×(List T44)×(List Bool)×Bool×Bool×Int)⊕(((List T44)×(List T44)×(List Bool))⊕(((List T44)×(List T44)×(List Bool)×Int)⊕(((List T44)×(List T44)×(List Bool))⊕((List T44))))))))))) (s3.2.2.1,(0:Int))))) (onS fun(y6:(List Bool))=>(if(((y4.length:Int)==(0:Int))&&(!s3.2.2.2.1))=true then(if((s3.1.length+1) * 40≤140737488355328)then(if((decide (1 < (y4.length:Int)))&&(!s3.2.2.2.2.1))=true then(if((0:Int)≤(0:Int))then(if(0 < (y4.length:Int))then(if((0:Int)≤(1:Int))then(if(1 < (y4.length:Int))then(if((s3.2.1.length+1) * 40≤140737488355328)then(some (.inl ((s3.1++([(⟨(1:Int),(y1.getD s2.2.2.2.toNat default),(a4.getD s3.2.2.2.2.2.toNat default),(-1:Int),(-1:Int)⟩:T44)]:List T44)),(s3.2.1++([(⟨(2:Int),(y1.getD s2.2.2.2.toNat default),(a4.getD s3.2.2.2.2.2.toNat default),(y4.getD (0:Int).toNat default),(y4.getD (1:Int).toNat default)⟩:T44)]:List T44)),y6,true,true)))else none)else none)else none)else none)else none)else(some (.inl ((s3.1++([(⟨(1:Int),(y1.getD s2.2.2.2.toNat default),(a4.getD s3.2.2.2.2.2.toNat default),(-1:Int),(-1:Int)⟩:T44)]:List T44)),s3.2.1,y6,true,s3.2.2.2.2.1))))else none)else(if((decide (1 < (y4.length:Int)))&&(!s3.2.2.2.2.1))=true then(if((0:Int)≤(0:Int))then(if(0 < (y4.length:Int))then(if((0:Int)≤(1:Int))then(if(1 < (y4.length:Int))then(if((s3.2.1.length+1) * 40≤140737488355328)then(some (.inl (s3.1,(s3.2.1++([(⟨(2:Int),(y1.getD s2.2.2.2.toNat default),(a4.getD s3.2.2.2.2.2.toNat default),(y4.getD (0:Int).toNat default),(y4.getD (1:Int).toNat default)⟩:T44)]:List T44)),y6,s3.2.2.2.1,true)))else none)else none)else none)else none)else none)else(some (.inl (s3.1,s3.2.1,y6,s3.2.2.2.1,s3.2.2.2.2.1))))))))) (onS fun(y7:(List T44)×(List T44)×(List Bool)×Bool×Bool)=>(some (.inl (y7.1,y7.2.1,y7.2.2.1,y7.2.2.2.1,y7.2.2.2.2,(IntKind.wrap .i64 (s3.2.2.2.2.2+1))))))))):Option (((List T44)×(List T44)×(List Bool)×Bool×Bool×Int)⊕(((List T44)×(List T44)×(List Bool))⊕(((List T44)×(List T44)×(List Bool)×Int)⊕(((List T44)×(List T44)×(List Bool))⊕((List T44)))))))) (s2.1,s2.2.1,s2.2.2.1,false,false,(0:Int))))) (onS fun(y8:(List T44)×(List T44)×(List Bool))=>(some (.inl (y8.1,y8.2.1,y8.2.2,(IntKind.wrap .i64 (s2.2.2.2+1))))))))):Option (((List T44)×(List T44)×(List Bool)×Int)⊕(((List T44)×(List T44)×(List Bool))⊕((List T44)))))) ([],[],(List.replicate (a0.Transitions.length:Int).toNat false),(0:Int))))) (onS fun(y9:(List T44)×(List T44)×(List Bool))=>(Option.bind (if((y9.1.length+y9.2.1.length) * 40≤140737488355328)then(some (.inl ()))else none) (onS fun(_:Unit)=>(Option.bind (Option.bind (Option.bind (Option.bind (m53 a0) fun r=>some r) fun x26=>(some (.inl (x26,(x26.length:Int))))) (onS fun(y10:(List Int)×Int)=>(loopO (fun(s11:(List T44)×Int)=>((if(decide (s11.2 < y10.2))=true then(if(0≤s11.2)then(if(s11.2 < (y10.1.length:Int))then(Option.bind (Option.bind (m49 y1 (y10.1.getD s11.2.toNat default)) fun r=>some r) fun x29=>(if(!x29)=true then(if((s11.1.length+1) * 40≤140737488355328)then(some (.inl ((s11.1++([(⟨(3:Int),(y10.1.getD s11.2.toNat default),(0:Int),(-1:Int),(-1:Int)⟩:T44)]:List T44)),(IntKind.wrap .i64 (s11.2+1)))))else none)else(some (.inl (s11.1,(IntKind.wrap .i64 (s11.2+1)))))))else none)else none)else(some (.inr (.inl s11.1)))):Option (((List T44)×Int)⊕(((List T44))⊕((List T44)))))) ((y9.1++y9.2.1),(0:Int))))) (onS fun(y12:(List T44))=>(Option.bind (Option.bind (some (.inl ())) (onS fun(_:Unit)=>(loopO (fun(s13:(List T44)×Int)=>((if(decide (s13.2 < ((a0.Transitions.length:Int).toNat:Int)))=true then(if(0≤s13.2)then(if(s13.2 < ((a0.Transitions.length:Int).toNat:Int))then(if(s13.2.toNat < (a0.Transitions.length:Int).toNat)then(if(!(y9.2.2.getD s13.2.toNat default))=true then(if((s13.1.length+1) * 40≤140737488355328)then(some (.inl ((s13.1++([(⟨(4:Int),(-1:Int),(0:Int),s13.2,(-1:Int)⟩:T44)]:List T44)),(IntKind.wrap .i64 (s13.2+1)))))else none)else(some (.inl (s13.1,(IntKind.wrap .i64 (s13.2+1))))))else none)else none)else none)else(some (.inr (.inl s13.1)))):Option (((List T44)×Int)⊕(((List T44))⊕((List T44)))))) (y12,(0:Int))))) (onS fun(y14:(List T44))=>(some y14))))))))))):Option ((List T44))):=by kernel_rfl
theorem sfind_eq {c:T27} (H:Fit c) (hn:c.Conds.length≤12) {s:SS} (I:Inv c s):m47o1 c s.1 s.2.1 s.2.2 (valsA c)=some (findS c s):=by
 have hst:=H.states
 have htr:=H.trans
 have h2:=numV_le hn
 have hv2:=valsA_len (c:=c)
 have hll:=leavesS_len (c:=c)
 have hrl:(rL c s).length≤(leavesS c).length:=by unfold rL;exact List.length_filter_le _ _
 have q0:=sleaves_eq I (valsA c)
 have q1:=Leaves_eq c H
 have q2:∀ (leaf v:Int),m19 c leaf v=some (enabledS c leaf v):=Enabled_eq c H
 have q3:∀ x,m49 (rL c s) x=some (hasK (rL c s) (rL c s).length x):=fun x=>containsI_eq (rL c s) x (by omega)
 have c0:((0:Int)≤(c.Transitions.length:Int))=True:=eq_true (by omega)
 have c1:((c.Transitions.length:Int) * 1≤140737488355328)=True:=eq_true (by omega)
 have c2:((c.Transitions.length:Int)≤9223372036854775807)=True:=eq_true (by omega)
 have z0:((0:Int)≤(0:Int))=True:=eq_true (by omega)
 have z1:((0:Int)≤(1:Int))=True:=eq_true (by omega)
 simp only[M47o1,bind_id,q0,q1,q2,q3,bs,c0,c1,c2,if_true,ol,Int.toNat_natCast]
 refine on_l (y:=(kindL c s 1,kindL c s 2,mkL c.Transitions.length fun t=>liveB c s t)) ?_ ?_
 ·have e0:(([]:List T44),([]:List T44),List.replicate c.Transitions.length false,(0:Int))=(fun i:Nat=>((List.range i).flatMap (fun j=>(leafFd c ((rL c s).getD j default) 1).toList),(List.range i).flatMap (fun j=>(leafFd c ((rL c s).getD j default) 2).toList),mkL c.Transitions.length (fun t=>anyR (fun j=>aliveB c ((rL c s).getD j default) (t:Int)) i),(i:Int))) 0:=by
   have:List.replicate c.Transitions.length false=mkL c.Transitions.length (fun t=>anyR (fun j=>aliveB c ((rL c s).getD j default) (t:Int)) 0):=by
    apply List.ext_getElem?
    intro u
    simp only[mkL,List.getElem?_replicate,List.getElem?_map]
    by_cases hu:u < c.Transitions.length
    ·simp[hu,anyR]
    ·simp[hu]
   rw[this];rfl
  have e9:(kindL c s 1,kindL c s 2,mkL c.Transitions.length fun t=>liveB c s t)=((List.range (rL c s).length).flatMap (fun j=>(leafFd c ((rL c s).getD j default) 1).toList),(List.range (rL c s).length).flatMap (fun j=>(leafFd c ((rL c s).getD j default) 2).toList),mkL c.Transitions.length (fun t=>anyR (fun j=>aliveB c ((rL c s).getD j default) (t:Int)) (rL c s).length)):=by
   rw[kind_rL,kind_rL,mkL_congr (fun t _=>live_rL.symm)]
  rw[e0,e9]
  refine loop_st (rL c s).length (fun i:Nat=>((List.range i).flatMap (fun j=>(leafFd c ((rL c s).getD j default) 1).toList),(List.range i).flatMap (fun j=>(leafFd c ((rL c s).getD j default) 2).toList),mkL c.Transitions.length (fun t=>anyR (fun j=>aliveB c ((rL c s).getD j default) (t:Int)) i),(i:Int))) (Sum.inl _) (fun i hi=>?_) ?_
  ·have g1:=flatMap_len (g:=fun j=>(leafFd c ((rL c s).getD j default) 1).toList) (m:=1) (fun j=>toList_len _) i
   have g2:=flatMap_len (g:=fun j=>(leafFd c ((rL c s).getD j default) 2).toList) (m:=1) (fun j=>toList_len _) i
   simp only[inL hi,decide_true,if_true,bs,ol,Int.toNat_natCast,eq_true hi]
   have r1:(List.range (i+1)).flatMap (fun j=>(leafFd c ((rL c s).getD j default) 1).toList)=(List.range i).flatMap (fun j=>(leafFd c ((rL c s).getD j default) 1).toList)++(leafFd c ((rL c s).getD i default) 1).toList:=flatMap_app _ _
   have r2:(List.range (i+1)).flatMap (fun j=>(leafFd c ((rL c s).getD j default) 2).toList)=(List.range i).flatMap (fun j=>(leafFd c ((rL c s).getD j default) 2).toList)++(leafFd c ((rL c s).getD i default) 2).toList:=flatMap_app _ _
   obtain⟨B,hB⟩:∃ B:Nat→Bool,B=fun t:Nat=>anyR (fun j=>aliveB c ((rL c s).getD j default) (t:Int)) i:=⟨_,rfl⟩
   have r0:mkL c.Transitions.length (fun t=>anyR (fun j=>aliveB c ((rL c s).getD j default) (t:Int)) i)=mkL c.Transitions.length B:=by rw[hB]
   have r3:mkL c.Transitions.length (fun t=>anyR (fun j=>aliveB c ((rL c s).getD j default) (t:Int)) (i+1))=mkL c.Transitions.length (fun t=>B t || aliveB c ((rL c s).getD i default) (t:Int)):=by
    rw[hB]
    refine mkL_congr fun t _=>?_
    unfold anyR
    rw[List.range_succ,List.any_append]
    simp
   rw[r1,r2,r3,r0]
   clear r1 r2 r3 r0 hB e0 e9
   generalize (List.range i).flatMap (fun j=>(leafFd c ((rL c s).getD j default) 1).toList)=K1 at g1 ⊢
   generalize (List.range i).flatMap (fun j=>(leafFd c ((rL c s).getD j default) 2).toList)=K2 at g2 ⊢
   generalize (rL c s).getD i default=leaf
   have w2:IntKind.wrap .i64 ((i:Int)+1)=((i+1:Nat):Int):=by rw[w64 (by omega) (by omega)];omega
   refine on_l (y:=(K1++(leafFd c leaf 1).toList,K2++(leafFd c leaf 2).toList,mkL c.Transitions.length fun t=>B t || aliveB c leaf (t:Int))) ?_ (by simp only[bs,ol,w2])
   have e0:(K1,K2,mkL c.Transitions.length B,false,false,(0:Int))=(fun k:Nat=>(K1++(firstR (fun j=>f1 c leaf ((valsA c).getD j default)) k).toList,K2++(firstR (fun j=>f2 c leaf ((valsA c).getD j default)) k).toList,mkL c.Transitions.length (fun t=>B t || anyR (fun j=>pA c leaf t ((valsA c).getD j default)) k),(firstR (fun j=>f1 c leaf ((valsA c).getD j default)) k).isSome,(firstR (fun j=>f2 c leaf ((valsA c).getD j default)) k).isSome,(k:Int))) 0:=by
    have:mkL c.Transitions.length B=mkL c.Transitions.length (fun t=>B t || anyR (fun j=>pA c leaf t ((valsA c).getD j default)) 0):=mkL_congr fun t _=>by simp[anyR]
    rw[this]
    simp[firstR]
   have e9:(K1++(leafFd c leaf 1).toList,K2++(leafFd c leaf 2).toList,mkL c.Transitions.length fun t=>B t || aliveB c leaf (t:Int))=(K1++(firstR (fun j=>f1 c leaf ((valsA c).getD j default)) (valsA c).length).toList,K2++(firstR (fun j=>f2 c leaf ((valsA c).getD j default)) (valsA c).length).toList,mkL c.Transitions.length (fun t=>B t || anyR (fun j=>pA c leaf t ((valsA c).getD j default)) (valsA c).length)):=by
    rw[f1_all,f2_all]
    congr 2
    exact mkL_congr fun t _=>by rw[pA_all]
   rw[e0,e9]
   refine loop_st (valsA c).length (fun k:Nat=>(K1++(firstR (fun j=>f1 c leaf ((valsA c).getD j default)) k).toList,K2++(firstR (fun j=>f2 c leaf ((valsA c).getD j default)) k).toList,mkL c.Transitions.length (fun t=>B t || anyR (fun j=>pA c leaf t ((valsA c).getD j default)) k),(firstR (fun j=>f1 c leaf ((valsA c).getD j default)) k).isSome,(firstR (fun j=>f2 c leaf ((valsA c).getD j default)) k).isSome,(k:Int))) (Sum.inl _) (fun k hk=>?_) ?_
   ·have w3:IntKind.wrap .i64 ((k:Int)+1)=((k+1:Nat):Int):=by rw[w64 (by omega) (by omega)];omega
    have t1:=toList_len (firstR (fun j=>f1 c leaf ((valsA c).getD j default)) k)
    have t2:=toList_len (firstR (fun j=>f2 c leaf ((valsA c).getD j default)) k)
    obtain⟨B',hB⟩:∃ B':Nat→Bool,B'=fun t:Nat=>B t || anyR (fun j=>pA c leaf t ((valsA c).getD j default)) k:=⟨_,rfl⟩
    have r0:mkL c.Transitions.length (fun t=>B t || anyR (fun j=>pA c leaf t ((valsA c).getD j default)) k)=mkL c.Transitions.length B':=by rw[hB]
    have r3:mkL c.Transitions.length (fun t=>B t || anyR (fun j=>pA c leaf t ((valsA c).getD j default)) (k+1))=mkL c.Transitions.length (fun t=>B' t || pA c leaf t ((valsA c).getD k default)):=by
     rw[hB]
     refine mkL_congr fun t _=>?_
     unfold anyR
     rw[List.range_succ,List.any_append,← Bool.or_assoc]
     simp
    simp only[inL hk,decide_true,if_true,bs,ol,Int.toNat_natCast]
    rw[r3,r0,firstR_orK (f:=fun j=>f1 c leaf ((valsA c).getD j default)),firstR_orK (f:=fun j=>f2 c leaf ((valsA c).getD j default))]
    generalize firstR (fun j=>f1 c leaf ((valsA c).getD j default)) k=o1 at t1 ⊢
    generalize firstR (fun j=>f2 c leaf ((valsA c).getD j default)) k=o2 at t2 ⊢
    clear r3 r0 hB e0 e9
    generalize (valsA c).getD k default=v
    have c3:(((K1++o1.toList).length+1) * 40≤140737488355328)=True:=eq_true (by rw[List.length_append];omega)
    have c4:(((K2++o2.toList).length+1) * 40≤140737488355328)=True:=eq_true (by rw[List.length_append];omega)
    have hel:=enabledS_len c leaf v
    refine on_l (y:=(K1++(orK o1 (f1 c leaf v)).toList,K2++(orK o2 (f2 c leaf v)).toList,mkL c.Transitions.length (fun t=>B' t || pA c leaf t v),(orK o1 (f1 c leaf v)).isSome,(orK o2 (f2 c leaf v)).isSome)) ?_ (by simp only[w3])
    refine on_l (alive_loop (l:=enabledS c leaf v) (fun x hx=>enab_lt hx) Sum.inl (fun B'' j t hj ht htl=>?_) (fun B''=>?_) B') ?_
    ·have w4:IntKind.wrap .i64 ((j:Int)+1)=((j+1:Nat):Int):=by rw[w64 (by omega) (by omega)];omega
     have c5:((t:Int) < (c.Transitions.length:Int))=True:=eq_true (by omega)
     have c6:((0:Int)≤(t:Int))=True:=eq_true (by omega)
     simp only[inL hj,decide_true,if_true,Int.toNat_natCast,ht,c5,c6,eq_true htl,mkL_sub,w4]
    ·simp only[lt_irr,decide_false,Bool.false_eq_true,if_false]
    unfold f1 f2 pA
    have c3':((K1.length+1) * 40≤140737488355328)=True:=eq_true (by omega)
    have c4':((K2.length+1) * 40≤140737488355328)=True:=eq_true (by omega)
    have g0:(((enabledS c leaf v).length:Int)==0)=true→decide (1 < ((enabledS c leaf v).length:Int))=false:=fun h=>by
     have:((enabledS c leaf v).length:Int)=0:=by simpa using h
     rw[this];rfl
    have g1:decide (1 < ((enabledS c leaf v).length:Int))=true→((0 < ((enabledS c leaf v).length:Int))=True∧(1 < ((enabledS c leaf v).length:Int))=True):=fun h=>by
     have:=of_decide_eq_true h
     exact⟨eq_true (by omega),eq_true this⟩
    cases e0:(((enabledS c leaf v).length:Int)==0) with
    | true =>
     have e1:=g0 e0
     cases o1 with
     | none=>cases o2<;>simp only[e1,c3',orK_some,orK_none,Option.isSome_none,Option.isSome_some,Option.toList_none,Option.toList_some,List.append_nil,Bool.not_false,Bool.not_true,Bool.and_true,Bool.and_false,Bool.false_and,Bool.true_and,Bool.false_eq_true,if_true,if_false]
     | some x=>cases o2<;>simp only[e1,orK_some,orK_none,Option.isSome_none,Option.isSome_some,Option.toList_none,Option.toList_some,List.append_nil,Bool.not_false,Bool.not_true,Bool.and_true,Bool.and_false,Bool.false_and,Bool.true_and,Bool.false_eq_true,if_true,if_false]
    | false =>
     cases e1:decide (1 < ((enabledS c leaf v).length:Int)) with
     | false =>
      cases o1<;>cases o2<;>simp only[orK_some,orK_none,Option.isSome_none,Option.isSome_some,Option.toList_none,Option.toList_some,List.append_nil,Bool.not_false,Bool.not_true,Bool.and_true,Bool.and_false,Bool.false_and,Bool.true_and,Bool.false_eq_true,if_true,if_false]
     | true =>
      obtain⟨z2,z3⟩:=g1 e1
      cases o1<;>cases o2<;>simp only[z0,z1,z2,z3,c4',orK_some,orK_none,Option.isSome_none,Option.isSome_some,Option.toList_none,Option.toList_some,List.append_nil,Bool.not_false,Bool.not_true,Bool.and_true,Bool.and_false,Bool.false_and,Bool.true_and,Bool.false_eq_true,if_true,if_false]<;>rfl
   ·simp only[lt_irr,decide_false,Bool.false_eq_true,if_false,bs,or_]
  ·simp only[lt_irr,decide_false,Bool.false_eq_true,if_false,bs,or_]
 ·have k1:=kindL_len c s 1
  have k2:=kindL_len c s 2
  have c9:(((kindL c s 1).length+(kindL c s 2).length) * 40≤140737488355328)=True:=eq_true (by omega)
  simp only[c9,if_true,bs,ol]
  refine on_l (y:=kindL c s 1++kindL c s 2++(List.range (leavesS c).length).flatMap (unrG c s)) ?_ ?_
  ·refine loop_app (leavesS c).length (fun j l=>(l,(j:Int))) (unrG c s) Sum.inl (kindL c s 1++kindL c s 2) (fun j hj=>?_) ?_
   ·have hgl:=flatMap_len (unrG_len c s) j
    have c1:(((kindL c s 1++kindL c s 2)++(List.range j).flatMap (unrG c s)).length+1) * 40≤140737488355328:=by rw[List.length_append,List.length_append];omega
    have w2:IntKind.wrap .i64 ((j:Int)+1)=((j+1:Nat):Int):=by rw[w64 (by omega) (by omega)];omega
    simp only[inL hj,decide_true,if_true,Int.toNat_natCast,rL_has (getD_mem hj),bs,w2,eq_true c1]
    cases hr:reachB s ((leavesS c).getD j default) with
    | false =>
     have hd:unrG c s j=[⟨3,(leavesS c).getD j default,0,-1,-1⟩]:=by unfold unrG leafA;rw[hr];rfl
     simp only[Bool.not_false,if_true,hd]
    | true =>
     have hd:unrG c s j=[]:=by unfold unrG leafA;rw[hr];rfl
     simp only[Bool.not_true,Bool.false_eq_true,if_false,hd,List.append_nil]
   ·simp only[lt_irr,decide_false,Bool.false_eq_true,if_false]
  ·have hul:=flatMap_len (unrG_len c s) (leavesS c).length
   refine on_l (y:=findS c s) ?_ rfl
   unfold findS
   refine loop_app c.Transitions.length (fun j l=>(l,(j:Int))) (deadG c s) Sum.inl _ (fun t ht=>?_) ?_
   ·have hgl:=flatMap_len (deadG_len c s) t
    have c1:(((kindL c s 1++kindL c s 2++(List.range (leavesS c).length).flatMap (unrG c s))++(List.range t).flatMap (deadG c s)).length+1) * 40≤140737488355328:=by simp only[List.length_append];omega
    have w2:IntKind.wrap .i64 ((t:Int)+1)=((t+1:Nat):Int):=by rw[w64 (by omega) (by omega)];omega
    simp only[inL ht,decide_true,if_true,Int.toNat_natCast,eq_true ht,mkL_at ht,w2]
    cases hl2:liveB c s t with
    | true =>
     have hd:deadG c s t=[]:=by unfold deadG;rw[hl2];rfl
     simp only[Bool.not_true,Bool.false_eq_true,if_true,if_false,hd,List.append_nil]
    | false =>
     have hd:deadG c s t=[⟨4,-1,0,(t:Int),-1⟩]:=by unfold deadG;rw[hl2];rfl
     simp only[Bool.not_false,Bool.false_eq_true,if_true,if_false,eq_true c1,hd]
   ·simp only[lt_irr,decide_false,Bool.false_eq_true,if_false]
theorem M18 (a0:T27):m18 a0=((orJ (Option.bind (Option.bind (m44o1 a0) fun r=>some r) fun x1=>(if(x1 != 0)=true then(some ([],x1))else(Option.bind (none) fun(x4:(Unit))=>none))) (Option.bind (Option.bind (m44o2 a0) fun r=>some r) fun x1=>(if((0:Int) != (0:Int))=true then(some ([],(0:Int)))else(Option.bind (((m47o1 a0 x1.1 x1.2.1 x1.2.2.1 x1.2.2.2).bind fun r4_0=>some (r4_0,x1))) fun(x4:((List T44)×((List T37)×(List Int)×(List Int)×(List Int))))=>(some (x4.1,(0:Int))))))):Option ((List T44)×Int)):=by kernel_rfl
theorem Findings_eq {c:T27} (H:Fit c) (hn:c.Conds.length≤12):m18 c=findM c:=by
 obtain⟨e,he⟩:=checkM_some c
 have q1:=srchE_eq H hn
 have q2:=srchR_eq H hn
 have q3:∀ s:SS,Inv c s→m47o1 c s.1 s.2.1 s.2.2 (valsA c)=some (findS c s):=fun s I=>sfind_eq H hn I
 unfold findM
 simp only[M18,bind_id,q1,q2,he,bs]
 generalize m47o1=F at q3 ⊢
 by_cases h0:(e != 0)=true
 ·simp only[h0,bs,if_true];rfl
 ·have h0:=Bool.eq_false_iff.2 h0
  have e0:e=0:=by simpa using h0
  subst e0
  simp only[h0,Bool.false_eq_true,if_false]
  cases hs:searchS c with
  | none=>rfl
  | some s =>
   have q4:=q3 s (searchS_inv H he hs)
   simp only[bs,bn,q4];rfl
end Go.Av
set_option maxRecDepth 100000
namespace Go.Av
open Ch Go.Proofs
theorem findS_len {c:T27} (H:Fit c) (s:SS):(findS c s).length≤4000:=by
 have hst:=H.states
 have htr:=H.trans
 have hll:=leavesS_len (c:=c)
 have k1:=kindL_len c s 1
 have k2:=kindL_len c s 2
 have hul:=flatMap_len (unrG_len c s) (leavesS c).length
 have hgl:=flatMap_len (deadG_len c s) c.Transitions.length
 unfold findS
 simp only[List.length_append];omega
theorem findM_some (c:T27):∃ r,findM c=some r:=by
 obtain⟨e,he⟩:=checkM_some c
 unfold findM
 rw[he,Option.bind_some]
 split
 ·exact⟨_,rfl⟩
 ·split<;>exact⟨_,rfl⟩
end Go.Av
set_option maxRecDepth 100000
namespace Go.Av
open Ch Go.Proofs
theorem leaf_in {c:T27} {s:SS} (I:Inv c s) {leaf:Int} (h:reachB s leaf=true):leaf∈leavesS c:=by
 obtain⟨g,hg,rfl⟩:=reachB_iff.1 h
 have:=validS_iff.1 (I.ok g hg)
 exact leavesS_iff.2 ⟨this.1,this.2.1⟩
theorem kind_mem {c:T27} {s:SS} {kind:Int} {x:T44}:x∈kindL c s kind↔∃ leaf∈leavesS c,reachB s leaf=true∧leafFd c leaf kind=some x:=by
 unfold kindL
 rw[List.mem_flatMap]
 constructor
 ·rintro⟨i,h1,h2⟩
  unfold kindG at h2
  split at h2
  ·rename_i h3
   refine⟨leafA c i,getD_mem (List.mem_range.1 h1),h3,?_⟩
   simpa using h2
  ·cases h2
 ·rintro⟨leaf,h1,h2,h3⟩
  obtain⟨i,hi,rfl⟩:=List.getElem_of_mem h1
  have e:leafA c i=(leavesS c)[i]:=by simp[leafA,List.getD_eq_getElem?_getD,List.getElem?_eq_getElem hi]
  refine⟨i,List.mem_range.2 hi,?_⟩
  unfold kindG
  rw[e,if_pos h2,h3];simp
theorem leafFd_some {c:T27} {leaf kind:Int} {x:T44} (h:leafFd c leaf kind=some x):∃ v:Nat,v < numV c∧allowedS c (v:Int)=true∧((kind=1∧(enabledS c leaf (v:Int)).length=0∧x=⟨1,leaf,(v:Int),-1,-1⟩)∨(kind=2∧1 < (enabledS c leaf (v:Int)).length∧x=⟨2,leaf,(v:Int),(enabledS c leaf (v:Int)).getD 0 default,(enabledS c leaf (v:Int)).getD 1 default⟩)):=by
 obtain⟨v,hv,h2⟩:=firstR_some h
 unfold finV at h2
 split at h2
 ·rename_i ha
  refine⟨v,hv,ha,?_⟩
  split at h2
  ·rename_i h3
   simp only[Bool.and_eq_true,beq_iff_eq]at h3
   obtain⟨rfl,h3⟩:=h3
   injection h2 with h2
   exact .inl ⟨rfl,by omega,h2.symm⟩
  ·split at h2
   ·rename_i h3
    simp only[Bool.and_eq_true,beq_iff_eq,decide_eq_true_eq]at h3
    obtain⟨rfl,h3⟩:=h3
    injection h2 with h2
    exact .inr ⟨rfl,by omega,h2.symm⟩
   ·cases h2
 ·cases h2
theorem leafFd_kind {c:T27} {leaf kind:Int} {x:T44} (h:leafFd c leaf kind=some x):x.Kind=kind:=by
 obtain⟨v,_,_,⟨rfl,_,rfl⟩ | ⟨rfl,_,rfl⟩⟩:=leafFd_some h<;>rfl
theorem findS_mem {c:T27} {s:SS} {x:T44} (h:x∈findS c s):x∈kindL c s 1∨x∈kindL c s 2∨(∃ leaf∈leavesS c,reachB s leaf=false∧x=⟨3,leaf,0,-1,-1⟩)∨∃ t:Nat,t < c.Transitions.length∧x=⟨4,-1,0,(t:Int),-1⟩:=by
 unfold findS at h
 simp only[List.mem_append]at h
 rcases h with((h | h) | h) | h
 ·exact .inl h
 ·exact .inr (.inl h)
 ·obtain⟨i,h1,h2⟩:=List.mem_flatMap.1 h
  unfold unrG at h2
  split at h2
  ·cases h2
  ·rename_i h3
   exact .inr (.inr (.inl ⟨leafA c i,getD_mem (List.mem_range.1 h1),by simpa using h3,by simpa using h2⟩))
 ·obtain⟨t,h1,h2⟩:=List.mem_flatMap.1 h
  unfold deadG at h2
  split at h2
  ·cases h2
  ·exact .inr (.inr (.inr ⟨t,List.mem_range.1 h1,by simpa using h2⟩))
theorem one_enabled {c:T27} {s:SS} (I:Inv c s) (n1:∀ x∈findS c s,x.Kind≠1) (n2:∀ x∈findS c s,x.Kind≠2) {leaf:Int} (h:reachB s leaf=true) {v:Nat} (hv:v < numV c) (ha:allowedS c (v:Int)=true):(enabledS c leaf (v:Int)).length=1:=by
 have hl:=leaf_in I h
 have k:∀ kind:Int,kind=1∨kind=2→leafFd c leaf kind=none:=fun kind hk=>by
  cases hf:leafFd c leaf kind with
  | none=>rfl
  | some x =>
   exfalso
   have hm:x∈kindL c s kind:=kind_mem.2 ⟨leaf,hl,h,hf⟩
   have hx:=leafFd_kind hf
   rcases hk with rfl | rfl
   ·exact n1 x (by unfold findS;simp only[List.mem_append];exact .inl (.inl (.inl hm))) hx
   ·exact n2 x (by unfold findS;simp only[List.mem_append];exact .inl (.inl (.inr hm))) hx
 have k1:=firstR_none.1 (k 1 (.inl rfl)) v hv
 have k2:=firstR_none.1 (k 2 (.inr rfl)) v hv
 unfold finV at k1 k2
 rw[if_pos ha]at k1 k2
 have c1:¬ (enabledS c leaf (v:Int)).length=0:=fun h0=>by
  rw[if_pos (by simp[h0])]at k1;cases k1
 have c2:¬ 1 < (enabledS c leaf (v:Int)).length:=fun h0=>by
  have d1:decide (1 < ((enabledS c leaf (v:Int)).length:Int))=true:=by simp;omega
  simp only[show ((2:Int)==1)=false from rfl,Bool.false_and,Bool.false_eq_true,if_false,show ((2:Int)==2)=true from rfl,Bool.true_and,d1,if_true]at k2
  cases k2
 omega
theorem run_sound {c:T27} {s:SS} (hc:checkM c=some 0) (I:Inv c s) (hs:searchS c=some s) (one:∀ leaf,reachB s leaf=true→∀ v:Nat,v < numV c→allowedS c (v:Int)=true→(enabledS c leaf (v:Int)).length=1):∀ {l:List Int} {g:T37} {ls:List Int} {a:List (List UInt8)},(∀ v∈l,∃ n:Nat,v=n∧n < numV c∧allowedS c v=true)→g∈s.1→(∀ x∈ls,reachB s x=true) →
  ∃ z,runS c l g ls a=some z∧z.2.2=0∧z.1.length=ls.length+l.length∧∀ x∈z.1,reachB s x=true
 | [],g,ls,a,hl,hg,hx=>⟨_,rfl,rfl,by simp,hx⟩
 | v :: l,g,ls,a,hl,hg,hx=>by
  obtain⟨n,hvn,hn,ha⟩:=hl v (by simp)
  have hr:reachB s g.Leaf=true:=reachB_iff.2 ⟨g,hg,rfl⟩
  have h1:=one g.Leaf hr n hn (by rw[← hvn];exact ha)
  have h2:=enab_one hc (I.ok g hg) ha
  rw[hvn,h1]at h2
  rw[show ((((1:Nat):Int))==1)=true from rfl,if_pos rfl]at h2
  have hm:=reach_step hs hg hn h2
  unfold stepO at h2
  rw[Option.bind_eq_some_iff]at h2
  obtain⟨r,h3,h4⟩:=h2
  split at h4
  ·rename_i h5
   injection h4 with h4
   rw[← h4]at hm
   obtain⟨z,z1,z2,z3,z4⟩:=run_sound hc I hs one (l:=l) (ls:=ls++[r.1.Leaf]) (a:=a++r.2.1) (fun w hw=>hl w (by simp[hw])) hm (fun x h=>by
    rcases List.mem_append.1 h with h | h
    ·exact hx x h
    ·simp only[List.mem_singleton]at h
     subst h
     exact reachB_iff.2 ⟨r.1,hm,rfl⟩)
   refine⟨z,?_,z2,by rw[z3];simp;omega,z4⟩
   unfold runS
   have h6:(r.2.2 != 0)=false:=by simpa using h5
   rw[hvn,h3,Option.bind_some,h6,if_neg (by decide)]
   exact z1
  ·cases h4
end Go.Av
set_option maxRecDepth 100000
namespace Go.Av
open Ch Go.Proofs
def Clr (m l:List Int):Prop:=∀ x∈l,m.getD x.toNat default = -1
def NoneP (c:T27) (g:T37):Prop:=Clr g.Memory (pathS c g.Leaf)
theorem clr_set {m l:List Int} {x:Int} (hx:x.toNat < m.length) (h:Clr m l):Clr (m.set x.toNat (-1)) (x :: l):=fun z hz=>by
 rw[getD_set hx]
 rcases List.mem_cons.1 hz with rfl | hz
 ·rw[if_pos rfl]
 ·split
  ·rfl
  ·exact h z hz
theorem tail_lt {c:T27} {s:Int} (h:isS c s=true):∀ x∈(pathS c s).tail,x < s:=fun x hx=>by
 rw[pathS_step h,List.tail_cons]at hx
 split at hx
 ·cases hx
 ·rename_i ht
  have h1:=topB_false (Bool.eq_false_iff.2 ht)
  have h2:=(pathS_is _ _ (Nat.le_refl _) x hx).2
  omega
theorem child_path {c:T27} (G:Ch.Good c) {x y:Int} (hx:isS c x=true) (h:childS c y x=true):(pathS c y).tail=pathS c x:=by
 have h1:=child_is G h
 have h2:=isS_iff.1 hx
 have h3:(c.States.getD y.toNat default).Parent=x:=by
  unfold childS at h
  simp only[Bool.and_eq_true,beq_iff_eq]at h
  exact h.2
 have ht:topB c y=false:=by
  unfold topB
  rw[h3]
  simp only[Bool.or_eq_false_iff,decide_eq_false_iff_not];omega
 rw[pathS_step h1.1,ht,if_neg (by decide),List.tail_cons,h3]
theorem path_cons {c:T27} {x:Int} (hx:isS c x=true):pathS c x=x :: (pathS c x).tail:=by
 rw[pathS_step hx,List.tail_cons]
theorem enterF_clr {c:T27} (G:Ch.Good c):∀ (n:Nat) (x:Int) (m:List Int) (a:List (List UInt8)),isS c x=true→MemOk c m→c.States.length≤n+x.toNat→Clr m (pathS c x).tail→Clr (enterF c n x m a).2.1 (pathS c (enterF c n x m a).1)
 | 0,x,m,a,hx,M,hn,hm=>by have:=(isS_lt hx).2.2;omega
 | n+1,x,m,a,hx,M,hn,hm=>by
  have hl:=(isS_lt hx).2.2
  unfold enterF
  cases hc:comp c x with
  | true =>
   rw[if_pos rfl]
   have hch:=nextS_child G M hx hc
   have h1:=child_is G hch
   have h2:=isS_iff.1 hx
   refine enterF_clr G n _ _ _ h1.1 (M.set (.inl rfl) hx) (by omega) ?_
   rw[child_path G hx hch,path_cons hx]
   exact clr_set (by rw[M.len];exact hl) hm
  | false =>
   rw[if_neg (by decide)]
   show Clr m (pathS c x)
   rw[path_cons hx]
   intro z hz
   rcases List.mem_cons.1 hz with rfl | hz
   ·exact M.none hx (G.leafI _ hx hc).2
   ·exact hm z hz
theorem aroundS_clr {c:T27} (G:Ch.Good c) {m:List Int} {a:List (List UInt8)} (M:MemOk c m) {r:List Int} (hr:Clr m r):∀ (l:List Int),(∀ x∈l,isS c x=true)→Clr (aroundS c l m a).1 (l++r)
 | [],_=>hr
 | x :: l,h=>by
  have h1:=(aroundS_ok G (a:=a) M l fun y hy=>h y (List.mem_cons_of_mem _ hy)).1
  have hx:=(isS_lt (h x (by simp))).2.2
  have hx2:x.toNat < (aroundS c l m a).1.length:=by rw[h1.len];exact hx
  exact clr_set hx2 (aroundS_clr G M hr l fun y hy=>h y (List.mem_cons_of_mem _ hy))
theorem until_ne {s x:Int} {l:List Int} (h:s≠x):untilS s (x :: l)=x :: untilS s l:=by
 unfold untilS
 rw[List.takeWhile_cons_of_pos (p:=fun x=>!(s==x)) (by simpa using h)]
theorem until_self {s:Int} {l:List Int}:untilS s (s :: l)=[]:=by
 unfold untilS
 rw[List.takeWhile_cons_of_neg (p:=fun x=>!(s==x)) (by simp)]
theorem leave_keep {c:T27} {s z:Int} (hz:0≤z):∀ (l:List Int) (last:Int) (m:List Int) (a:List (List UInt8)),(∀ x∈l,0≤x)→z ∉ untilS s l→(leaveS c s l last m a).1.getD z.toNat default=m.getD z.toNat default
 | [],_,_,_,_,_=>rfl
 | x :: l,last,m,a,hl,hn=>by
  unfold leaveS
  by_cases hs:(x==s)=true
  ·rw[if_pos hs]
  ·rw[if_neg hs]
   have hu:untilS s (x :: l)=x :: untilS s l:=until_ne fun e=>hs (by simp[e])
   rw[hu]at hn
   simp only[List.mem_cons,not_or]at hn
   rw[leave_keep hz l _ _ _ (fun y hy=>hl y (List.mem_cons_of_mem _ hy)) hn.2]
   split
   ·have h0:=hl x (by simp)
    by_cases hx:x.toNat < m.length
    ·rw[getD_set hx,if_neg]
     intro e
     exact hn.1 (by omega)
    ·rw[List.set_eq_of_length_le (by omega)]
   ·rfl
theorem path_split {c:T27} {s:Int}:∀ (n:Nat) (x:Int),x.toNat≤n→s∈pathS c x→pathS c x=untilS s (pathS c x)++pathS c s:=by
 intro n
 induction n with
 | zero =>
  intro x hn h
  have hx:isS c x=true:=by
   cases hx:isS c x with
   | true=>rfl
   | false=>unfold pathS at h;rw[hx,if_neg (by decide)]at h;cases h
  by_cases e:s=x
  ·subst e
   have:untilS s (pathS c s)=[]:=by rw[path_cons hx];exact until_self
   rw[this];rfl
  ·rw[path_cons hx]at h
   have h1:=(List.mem_cons.1 h).resolve_left e
   have h2:=tail_lt hx s h1
   have h3:=isS_iff.1 (tail_is s h1)
   omega
 | succ n ih =>
  intro x hn h
  have hx:isS c x=true:=by
   cases hx:isS c x with
   | true=>rfl
   | false=>unfold pathS at h;rw[hx,if_neg (by decide)]at h;cases h
  by_cases e:s=x
  ·subst e
   have:untilS s (pathS c s)=[]:=by rw[path_cons hx];exact until_self
   rw[this];rfl
  ·rw[path_cons hx]at h
   have h1:=(List.mem_cons.1 h).resolve_left e
   have h4:pathS c x=x :: (pathS c x).tail:=path_cons hx
   have h5:untilS s (x :: (pathS c x).tail)=x :: untilS s (pathS c x).tail:=until_ne e
   have h6:(pathS c x).tail=pathS c (c.States.getD x.toNat default).Parent:=by
    rw[pathS_step hx,List.tail_cons]
    rw[pathS_step hx,List.tail_cons]at h1
    split
    ·rename_i ht;rw[if_pos ht]at h1;cases h1
    ·rfl
   have h10:s∈pathS c (c.States.getD x.toNat default).Parent:=by rw[← h6];exact h1
   have ht:topB c x=false:=by
    cases ht:topB c x with
    | false=>rfl
    | true =>
     exfalso
     have:(pathS c x).tail=[]:=by rw[pathS_step hx,List.tail_cons,ht,if_pos rfl]
     rw[this]at h1;cases h1
   have h8:=topB_false ht
   have h9:=isS_iff.1 hx
   have h11:=ih _ (by omega) h10
   rw[← h6]at h11
   rw[h4,h5,List.cons_append,← h11]
theorem tail_split {c:T27} {s x:Int} (hx:isS c x=true) (h:s∈(pathS c x).tail):(pathS c x).tail=untilS s (pathS c x).tail++pathS c s:=by
 have h6:(pathS c x).tail=pathS c (c.States.getD x.toNat default).Parent:=by
  rw[pathS_step hx,List.tail_cons]
  rw[pathS_step hx,List.tail_cons]at h
  split
  ·rename_i ht;rw[if_pos ht]at h;cases h
  ·rfl
 rw[h6]
 rw[h6]at h
 exact path_split _ _ (Nat.le_refl _) h
theorem path_nodup {c:T27}:∀ (n:Nat) (x:Int),x.toNat≤n→(pathS c x).Nodup:=by
 intro n
 induction n with
 | zero =>
  intro x hn
  cases hx:isS c x with
  | false=>unfold pathS;rw[hx,if_neg (by decide)];exact List.nodup_nil
  | true =>
   have hx2:=isS_iff.1 hx
   have:(pathS c x).tail=[]:=by
    cases h:(pathS c x).tail with
    | nil=>rfl
    | cons y l =>
     have h1:y∈(pathS c x).tail:=by rw[h];simp
     have h2:=tail_lt hx y h1
     have h3:=isS_iff.1 (tail_is y h1)
     omega
   rw[path_cons hx,this];simp
 | succ n ih =>
  intro x hn
  cases hx:isS c x with
  | false=>unfold pathS;rw[hx,if_neg (by decide)];exact List.nodup_nil
  | true =>
   have hx2:=isS_iff.1 hx
   rw[path_cons hx,List.nodup_cons]
   refine⟨fun h=>by have:=tail_lt hx x h;omega,?_⟩
   rw[pathS_step hx,List.tail_cons]
   split
   ·exact List.nodup_nil
   ·rename_i ht
    have h8:=topB_false (Bool.eq_false_iff.2 ht)
    exact ih _ (by omega)
theorem scope_cases {c:T27} (a b:Int):scopeS c a b = -1∨(scopeS c a b∈(pathS c a).tail∧scopeS c a b∈(pathS c b).tail):=by
 unfold scopeS
 cases h:(pathS c a).tail.find? fun x=>hasK (pathS c b).tail (pathS c b).tail.length x with
 | none=>exact .inl rfl
 | some s=>exact .inr ⟨List.mem_of_find?_eq_some h,hasK_iff.1 (List.find?_some h)⟩
theorem start_none {c:T27} (G:Ch.Good c):NoneP c (begG c):=by
 have h0:Clr (List.replicate c.States.length (-1)) []:=fun x hx=>by cases hx
 have h1:=aroundS_ok G (a:=[]) mem_begin (pathS c c.Start).tail tail_is
 have h2:=aroundS_clr G (a:=[]) mem_begin h0 (pathS c c.Start).tail tail_is
 rw[List.append_nil]at h2
 exact enterF_clr G c.States.length c.Start _ _ G.start h1.1 (by omega) h2
theorem fire_none {c:T27} (G:Ch.Good c) {g:T37} (hg:validS c g=true) (N:NoneP c g) {i:Nat} (hi:i < c.Transitions.length) (hon:(c.Transitions.getD i default).From∈pathS c g.Leaf):NoneP c ⟨(fireS c g (c.Transitions.getD i default)).1,(fireS c g (c.Transitions.getD i default)).2.1⟩:=by
 obtain⟨v1,v2,v3⟩:=validS_iff.1 hg
 have ht:=(G.tr i hi).2
 generalize c.Transitions.getD i default=t at *
 obtain⟨a1,_⟩:=leaveS_ok G (s:=scopeS c t.From t.To) g.Leaf.toNat g.Leaf (-1) g.Memory [] (Nat.le_refl _) v1 v3 (.inl rfl)
 have hu:∀ x∈untilS (scopeS c t.From t.To) (pathS c t.To).tail,isS c x=true:=fun x hx=>tail_is x (untilS_sub x hx)
 have key:Clr (aroundS c (untilS (scopeS c t.From t.To) (pathS c t.To).tail) (leaveS c (scopeS c t.From t.To) (pathS c g.Leaf) (-1) g.Memory []).1 ((leaveS c (scopeS c t.From t.To) (pathS c g.Leaf) (-1) g.Memory []).2++t.Actions)).1 (pathS c t.To).tail:=by
  rcases scope_cases (c:=c) t.From t.To with hs | ⟨hs1,hs2⟩
  ·have h0:Clr (leaveS c (scopeS c t.From t.To) (pathS c g.Leaf) (-1) g.Memory []).1 []:=fun x hx=>by cases hx
   have:=aroundS_clr G (a:=(leaveS c (scopeS c t.From t.To) (pathS c g.Leaf) (-1) g.Memory []).2++t.Actions) a1 h0 _ hu
   rw[List.append_nil]at this
   have e:untilS (scopeS c t.From t.To) (pathS c t.To).tail=(pathS c t.To).tail:=untilS_all fun x hx=>by
    have:=isS_iff.1 (tail_is x hx)
    rw[hs];omega
   rw[e]at this ⊢
   exact this
  ·have hsl:scopeS c t.From t.To∈pathS c g.Leaf:=by
    rw[path_split _ _ (Nat.le_refl _) hon]
    exact List.mem_append_right _ (List.mem_of_mem_tail hs1)
   have hsp:=path_split _ _ (Nat.le_refl _) hsl
   have hnd:=path_nodup (c:=c) _ g.Leaf (Nat.le_refl _)
   rw[hsp,List.nodup_append]at hnd
   have h0:Clr (leaveS c (scopeS c t.From t.To) (pathS c g.Leaf) (-1) g.Memory []).1 (pathS c (scopeS c t.From t.To)):=fun z hz=>by
    have hz0:=isS_iff.1 (pathS_is _ _ (Nat.le_refl _) z hz).1
    rw[leave_keep hz0.1 _ _ _ _ (fun y hy=>(isS_iff.1 (pathS_is _ _ (Nat.le_refl _) y hy).1).1) (fun hm=>hnd.2.2 z hm z hz rfl)]
    exact N z (by rw[hsp];exact List.mem_append_right _ hz)
   have:=aroundS_clr G (a:=(leaveS c (scopeS c t.From t.To) (pathS c g.Leaf) (-1) g.Memory []).2++t.Actions) a1 h0 _ hu
   rw[← tail_split ht hs2]at this
   exact this
 obtain⟨h1,_⟩:=aroundS_ok G (a:=(leaveS c (scopeS c t.From t.To) (pathS c g.Leaf) (-1) g.Memory []).2++t.Actions) a1 _ hu
 exact enterF_clr G c.States.length t.To _ _ ht h1 (by omega) key
theorem stepO_none {c:T27} (hc:checkM c=some 0) {g h:T37} (hg:validS c g=true) (N:NoneP c g) {v:Int} (hs:stepO c g v=some h):NoneP c h:=by
 cases ha:allowedS c v with
 | false=>rw[stepO_not ha]at hs;cases hs
 | true =>
  rw[enab_one hc hg ha]at hs
  split at hs
  ·rename_i h1
   have hl:(enabledS c g.Leaf v).length=1:=by have:=eq_of_beq h1;omega
   obtain⟨i,hi,hx,hon⟩:=enabled_at (c:=c) (leaf:=g.Leaf) (v:=v) (by omega)
   injection hs with hs
   subst hs
   rw[hx]
   unfold fireR
   rw[Int.toNat_natCast]
   exact fire_none (good_of hc) hg N hi (hasK_iff.1 hon)
  ·cases hs
theorem found_none {c:T27} (hc:checkM c=some 0) {s:SS} (I:Inv c s) (W:Wy c (begG c) s):∀ (n k:Nat),k≤n→k < s.1.length→NoneP c (s.1.getD k default)
 | 0,k,h1,h2=>by
  obtain rfl:k=0:=by omega
  rw[W.i0];exact start_none (good_of hc)
 | n+1,k,h1,h2=>by
  by_cases hk:k=0
  ·subst hk;rw[W.i0];exact start_none (good_of hc)
  ·obtain⟨j,v,q1,q2,q3,q4,q5⟩:=W.w k (by omega) h2
   exact stepO_none hc (I.ok _ (getD_mem (by omega))) (found_none hc I W n j (by omega) (by omega)) q5
end Go.Av
set_option maxRecDepth 100000
namespace Go.Av
open Ch Go.Proofs
theorem nodup_bound:∀ (n:Nat) (l:List Nat),l.Nodup→(∀ x∈l,x < n)→l.length≤n
 | 0,l,_,h=>by
  cases l with
  | nil=>simp
  | cons x l=>have:=h x (by simp);omega
 | n+1,l,hd,h=>by
  have h1:=nodup_bound n (l.erase n) (hd.erase n) (fun x hx=>by
   have h2:=(hd.mem_erase_iff).1 hx
   have h3:=h x h2.2
   have h4:x≠n:=h2.1
   omega)
  rw[List.length_erase]at h1
  split at h1<;>omega
def codeN (p:Nat→Bool):Nat→Nat
 | 0=>0
 | n+1=>codeN p n+if p n=true then 2 ^ n else 0
theorem codeN_lt (p:Nat→Bool):∀ n,codeN p n < 2 ^ n
 | 0=>by simp[codeN]
 | n+1=>by
  have:=codeN_lt p n
  unfold codeN
  rw[Nat.pow_succ]
  split<;>omega
theorem codeN_inj {p q:Nat→Bool}:∀ n,codeN p n=codeN q n→∀ i,i < n→p i=q i
 | 0,_,i,hi=>by omega
 | n+1,h,i,hi=>by
  have h1:=codeN_lt p n
  have h2:=codeN_lt q n
  unfold codeN at h
  have h3:p n=q n:=by
   cases hp:p n<;>cases hq:q n<;>rw[hp,hq]at h<;>simp at h<;>first | rfl | omega
  have h4:codeN p n=codeN q n:=by rw[h3]at h;omega
  by_cases e:i=n
  ·subst e;exact h3
  ·exact codeN_inj n h4 i (by omega)
theorem path_parent {c:T27} (G:Ch.Good c) {x l:Int} (hx:x∈pathS c l) (ht:topB c x=false):(stA c x).Parent∈pathS c l:=by
 have h1:=(pathS_is _ _ (Nat.le_refl _) x hx).1
 have h2:=(parent_is G h1 ht).1
 rw[path_split _ _ (Nat.le_refl _) hx]
 refine List.mem_append_right _ ?_
 rw[pathS_step h1,ht,if_neg (by decide)]
 refine List.mem_cons_of_mem _ ?_
 show (stA c x).Parent∈pathS c (stA c x).Parent
 rw[path_cons h2];simp
theorem path_last {c:T27} {x l:Int} (hx:x∈pathS c l) (ht:topB c x=true):(pathS c l).getLast?=some x:=by
 have h1:=(pathS_is _ _ (Nat.le_refl _) x hx).1
 rw[path_split _ _ (Nat.le_refl _) hx,pathS_step h1,ht,if_pos rfl]
 simp
theorem path_one {c:T27} {x t l:Int} (hx:x∈pathS c l) (hxt:topB c x=true) (ht:t∈pathS c l) (htt:topB c t=true):x=t:=by
 have h1:=path_last hx hxt
 rw[path_last ht htt]at h1
 injection h1 with h1;exact h1.symm
theorem path_top {c:T27} (G:Ch.Good c):∀ (n:Nat) (l:Int),l.toNat≤n→isS c l=true→∃ t∈pathS c l,topB c t=true:=by
 intro n
 induction n with
 | zero =>
  intro l hn hl
  refine⟨l,by rw[path_cons hl];simp,?_⟩
  cases ht:topB c l with
  | true=>rfl
  | false =>
   have:=(parent_is G hl ht).2.1
   omega
 | succ n ih =>
  intro l hn hl
  cases ht:topB c l with
  | true=>exact⟨l,by rw[path_cons hl];simp,ht⟩
  | false =>
   have h1:=parent_is G hl ht
   obtain⟨t,h2,h3⟩:=ih (stA c l).Parent (by omega) h1.1
   refine⟨t,?_,h3⟩
   rw[pathS_step hl,ht,if_neg (by decide)]
   exact List.mem_cons_of_mem _ h2
def inQ (c:T27) (g:T37) (x:Int):Prop:=x∈pathS c g.Leaf∨(0≤(stA c x).Parent∧g.Memory.getD (stA c x).Parent.toNat default=x)
theorem top_par {c:T27} (G:Ch.Good c) {x:Int} (hx:isS c x=true) (ht:topB c x=true):¬ 0≤(stA c x).Parent:=fun h=>by
 have h1:=(G.parent x hx).2
 unfold topB at ht
 simp only[Bool.or_eq_true,decide_eq_true_eq]at ht
 have e:(stA c x).Parent=(c.States.getD x.toNat default).Parent:=rfl
 omega
theorem path_sub {c:T27} (G:Ch.Good c) {g h:T37} (hg:validS c g=true) (hh:validS c h=true) (Nh:NoneP c h) (Eg:∀ x,isS c x=true→0 < x→inQ c g x→inQ c h x) (Eh:∀ x,isS c x=true→0 < x→inQ c h x→inQ c g x):∀ (n:Nat) (x:Int),x.toNat≤n→x∈pathS c g.Leaf→x∈pathS c h.Leaf:=by
 intro n
 induction n with
 | zero =>
  intro x hn hx
  have h1:=(pathS_is _ _ (Nat.le_refl _) x hx).1
  have h2:=isS_iff.1 h1
  have hxt:topB c x=true:=by
   cases ht:topB c x with
   | true=>rfl
   | false=>have:=(parent_is G h1 ht).2.1;omega
  obtain⟨t,t1,t2⟩:=path_top G _ h.Leaf (Nat.le_refl _) (validS_iff.1 hh).1
  have t3:=(pathS_is _ _ (Nat.le_refl _) t t1).1
  have t4:=isS_iff.1 t3
  by_cases e:t=0
  ·have:x=t:=by omega
   rw[this];exact t1
  ·rcases Eh t t3 (by omega) (.inl t1) with q | ⟨q,_⟩
   ·have:=path_one hx hxt q t2
    omega
   ·exact absurd q (top_par G t3 t2)
 | succ n ih =>
  intro x hn hx
  have h1:=(pathS_is _ _ (Nat.le_refl _) x hx).1
  have h2:=isS_iff.1 h1
  by_cases hx0:x.toNat≤n
  ·exact ih x hx0 hx
  ·have hp:0 < x:=by omega
   rcases Eg x h1 hp (.inl hx) with q | ⟨q1,q2⟩
   ·exact q
   ·exfalso
    cases ht:topB c x with
    | true=>exact top_par G h1 ht q1
    | false =>
     have h3:=parent_is G h1 ht
     have h4:=ih _ (by omega) (path_parent G hx ht)
     have h5:=Nh _ h4
     rw[q2]at h5
     omega
theorem conf_inj {c:T27} (G:Ch.Good c) {g h:T37} (hg:validS c g=true) (hh:validS c h=true) (Ng:NoneP c g) (Nh:NoneP c h) (Eg:∀ x,isS c x=true→0 < x→inQ c g x→inQ c h x) (Eh:∀ x,isS c x=true→0 < x→inQ c h x→inQ c g x):g=h:=by
 have s1:=fun x=>path_sub G hg hh Nh Eg Eh x.toNat x (Nat.le_refl _)
 have s2:=fun x=>path_sub G hh hg Ng Eh Eg x.toNat x (Nat.le_refl _)
 obtain⟨g1,g2,g3⟩:=validS_iff.1 hg
 obtain⟨h1,h2,h3⟩:=validS_iff.1 hh
 have l1:=(pathS_is _ _ (Nat.le_refl _) g.Leaf (s1 g.Leaf (by rw[path_cons g1];simp))).2
 have l2:=(pathS_is _ _ (Nat.le_refl _) h.Leaf (s2 h.Leaf (by rw[path_cons h1];simp))).2
 have el:g.Leaf=h.Leaf:=by omega
 have half:∀ (a b:T37),MemOk c a.Memory→a.Leaf=b.Leaf→(∀ x,isS c x=true→0 < x→inQ c a x→inQ c b x)→∀ i:Nat,i < c.States.length→(i:Int) ∉ pathS c a.Leaf→a.Memory.getD i default ≠ -1→b.Memory.getD i default=a.Memory.getD i default:=fun a b Ma e E i hi hn hm=>by
  have hx:isS c (i:Int)=true:=isS_iff.2 ⟨by omega,by omega⟩
  have hc:=Ma.child hx (by simpa using hm)
  rw[Int.toNat_natCast]at hc
  have h4:=child_is G hc
  have h5:(stA c (a.Memory.getD i default)).Parent=(i:Int):=by
   unfold childS at hc
   simp only[Bool.and_eq_true,beq_iff_eq]at hc
   exact hc.2
  rcases E _ h4.1 (by omega) (.inr ⟨by rw[h5];omega,by rw[h5,Int.toNat_natCast]⟩) with q | ⟨_,q⟩
  ·exfalso
   apply hn
   have ht:topB c (a.Memory.getD i default)=false:=by
    cases ht:topB c (a.Memory.getD i default) with
    | false=>rfl
    | true=>exact absurd (by rw[h5];omega) (top_par G h4.1 ht)
   have:=path_parent G q ht
   rw[h5]at this
   rw[e];exact this
  ·rw[h5,Int.toNat_natCast]at q
   exact q
 have em:g.Memory=h.Memory:=by
  rw[list_eq_iff (by rw[g3.len,h3.len])]
  intro i hi
  rw[g3.len]at hi
  by_cases hp:(i:Int)∈pathS c g.Leaf
  ·have a1:=Ng _ hp
   have a2:=Nh _ (by rw[← el];exact hp)
   rw[Int.toNat_natCast]at a1 a2
   rw[a1,a2]
  ·by_cases hm:g.Memory.getD i default = -1
   ·by_cases hk:h.Memory.getD i default = -1
    ·rw[hm,hk]
    ·exact half h g h3 el.symm Eh i hi (by rw[← el];exact hp) hk
   ·exact(half g h g3 el Eg i hi hp hm).symm
 obtain⟨a,b⟩:=g
 obtain⟨a',b'⟩:=h
 simp only at el em
 rw[el,em]
noncomputable def inB (c:T27) (g:T37) (i:Nat):Bool:=@decide (isS c ((i:Int)+1)=true∧inQ c g ((i:Int)+1)) (Classical.propDecidable _)
theorem found_few {c:T27} (T:Tiny c) (hc:checkM c=some 0) {s:SS} (I:Inv c s) (W:Wy c (begG c) s):s.1.length≤64:=by
 have G:=good_of hc
 have hst:=T.states
 have hN:∀ g∈s.1,NoneP c g:=fun g hg=>by
  obtain⟨i,hi,rfl⟩:=List.getElem_of_mem hg
  have:=found_none hc I W i i (Nat.le_refl _) hi
  simpa [List.getD_eq_getElem?_getD,List.getElem?_eq_getElem hi] using this
 have inj:∀ g∈s.1,∀ h∈s.1,codeN (inB c g) 6=codeN (inB c h) 6→g=h:=fun g hg h hh e=>by
  have hb:=codeN_inj 6 e
  have one:∀ a b:T37,(∀ i,i < 6→inB c a i=inB c b i)→∀ x,isS c x=true→0 < x→inQ c a x→inQ c b x:=fun a b hab x hx h0 hq=>by
   have h1:=isS_iff.1 hx
   have h2:=hab (x.toNat - 1) (by omega)
   have h3:((x.toNat - 1:Nat):Int)+1=x:=by omega
   unfold inB at h2
   rw[h3]at h2
   have h4:(isS c x=true∧inQ c a x)=(isS c x=true∧inQ c b x):=by
    have:=decide_eq_decide.1 h2
    exact propext this
   have h5:isS c x=true∧inQ c b x:=by rw[← h4];exact⟨hx,hq⟩
   exact h5.2
  exact conf_inj G (I.ok g hg) (I.ok h hh) (hN g hg) (hN h hh) (one g h hb) (one h g fun i hi=>(hb i hi).symm)
 have nd:(s.1.map fun g=>codeN (inB c g) 6).Nodup:=List.pairwise_map.2 (W.nd.imp_of_mem fun ha hb hne e=>hne (inj _ ha _ hb e))
 have:=nodup_bound 64 _ nd fun x hx=>by
  obtain⟨g,_,rfl⟩:=List.mem_map.1 hx
  exact codeN_lt _ 6
 rw[List.length_map]at this
 exact this
end Go.Av
set_option maxRecDepth 100000
namespace Go.Av
open Ch Go.Proofs
def stG (i:Nat):T119:=⟨([83]:List UInt8)++Lib.decDigits i,-1,-1,false,[],[]⟩
def cfgA (s:SS) (i:Nat):T37:=s.1.getD i default
def trG (c:T27) (s:SS) (i t:Nat):List T85:=if aliveB c (cfgA s i).Leaf (t:Int)=true then[⟨(i:Int),findC s.1 (fireR c (cfgA s i) (t:Int)).1,(c.Transitions.getD t default).When,(fireR c (cfgA s i) (t:Int)).2.1⟩]else[]
def limG (c:T27) (s:SS) (i t:Nat):Bool:=aliveB c (cfgA s i).Leaf (t:Int)&&decide (8 < ((fireR c (cfgA s i) (t:Int)).2.1.length:Int))
def stF (n:Nat):List T119:=(List.range n).flatMap fun i=>[stG i]
def trR (c:T27) (s:SS) (i n:Nat):List T85:=(List.range n).flatMap (trG c s i)
def limR (c:T27) (s:SS) (i n:Nat):Bool:=anyR (limG c s i) n
def trF (c:T27) (s:SS) (n:Nat):List T85:=(List.range n).flatMap fun i=>trR c s i c.Transitions.length
def limF (c:T27) (s:SS) (n:Nat):Bool:=decide (40 < (s.1.length:Int)) || anyR (fun i=>limR c s i c.Transitions.length) n
theorem anyR_app (F:Nat→Bool) (n:Nat):anyR F (n+1)=(anyR F n || F n):=by
 unfold anyR
 rw[List.range_succ,List.any_append];simp
theorem stF_app (n:Nat):stF (n+1)=stF n++[stG n]:=flatMap_app _ _
theorem trR_app (c:T27) (s:SS) (i n:Nat):trR c s i (n+1)=trR c s i n++trG c s i n:=flatMap_app _ _
theorem limR_app (c:T27) (s:SS) (i n:Nat):limR c s i (n+1)=(limR c s i n || limG c s i n):=anyR_app _ _
theorem trF_app (c:T27) (s:SS) (n:Nat):trF c s (n+1)=trF c s n++trR c s n c.Transitions.length:=flatMap_app _ _
theorem limF_app (c:T27) (s:SS) (n:Nat):limF c s (n+1)=(limF c s n || limR c s n c.Transitions.length):=by
 unfold limF;rw[anyR_app,Bool.or_assoc]
theorem trG_len (c:T27) (s:SS) (i t:Nat):(trG c s i t).length≤1:=by unfold trG;split<;>simp
theorem trR_len (c:T27) (s:SS) (i n:Nat):(trR c s i n).length≤n:=by
 have:=flatMap_len (trG_len c s i) n
 unfold trR;omega
theorem trF_len (c:T27) (s:SS) (n:Nat):(trF c s n).length≤n * c.Transitions.length:=flatMap_len (fun i=>trR_len c s i c.Transitions.length) n
theorem stF_len (n:Nat):(stF n).length=n:=by
 induction n with
 | zero=>rfl
 | succ n ih=>rw[stF_app,List.length_append,ih];rfl
theorem dec_len {i:Nat} (h:i < 100):(Lib.decDigits i).length≤2:=by
 by_cases h1:i < 10
 ·rw[Lib.decDigits_one h1];simp
 ·rw[Lib.decDigits_two h1 h];simp
def flatC (c:T27) (s:SS):T27:=⟨c.Name,c.Conds,c.Never,stF s.1.length,0,trF c s s.1.length⟩
def badK (x:T44):Bool:=x.Kind==1 || x.Kind==2
def zeroC:T27:=⟨[],[],[],[],0,[]⟩
def flatM (c:T27):Option (T27×Int):=(checkM c).bind fun e=>if(e != 0)=true then some (zeroC,e)else match searchS c with
 | none=>some (zeroC,3)
 | some s=>if anyR (fun i=>badK ((findS c s).getD i default)) (findS c s).length=true then some (zeroC,11)else if(limF c s s.1.length || decide (120 < ((trF c s s.1.length).length:Int)))=true then some (zeroC,3)else some (flatC c s,0)
theorem enab_mem {c:T27} {leaf v:Int} {t:Nat} (h:(t:Int)∈enabledS c leaf v):t < c.Transitions.length∧hasK (pathS c leaf) (pathS c leaf).length (c.Transitions.getD t default).From=true:=by
 unfold enabledS at h
 obtain⟨i,hi,hx⟩:=List.mem_flatMap.1 h
 unfold enabG at hx
 split at hx
 ·rename_i h1
  simp only[List.mem_singleton]at hx
  have:t=i:=by omega
  subst this
  simp only[Bool.and_eq_true]at h1
  exact⟨List.mem_range.1 hi,h1.1⟩
 ·cases hx
theorem alive_from {c:T27} {leaf:Int} {t:Nat} (h:aliveB c leaf (t:Int)=true):t < c.Transitions.length∧hasK (pathS c leaf) (pathS c leaf).length (c.Transitions.getD t default).From=true:=by
 obtain⟨v,hv,h2⟩:=anyR_iff.1 h
 unfold aliveV at h2
 simp only[Bool.and_eq_true]at h2
 exact enab_mem (hasK_iff.1 h2.2)
theorem fire_alive {c:T27} (H:Fit c) (hc:checkM c=some 0) {g:T37} (hg:validS c g=true) {t:Nat} (ha:aliveB c g.Leaf (t:Int)=true):m67 c g (t:Int)=some (fireR c g (t:Int)):=by
 obtain⟨h1,h2⟩:=alive_from ha
 rw[fire_err H]
 have hn:(decide ((t:Int) < 0) || decide ((c.Transitions.length:Int)≤(t:Int)))=false:=by
  simp only[Bool.or_eq_false_iff,decide_eq_false_iff_not];omega
 simp only[hc,Option.bind_some,bne_self,hg,hn,Int.toNat_natCast,h2,Bool.not_true,Bool.false_eq_true,if_false]
 rfl
end Go.Av
set_option maxRecDepth 100000
namespace Go.Av
open Ch Go.Proofs
theorem orJ_none {R:Type} {b:Option R}:orJ none b=b:=Eq.mpr rfl rfl
theorem M35 (a0:T27):m35 a0=((orJ (Option.bind (Option.bind (Option.bind (m44o1 a0) fun r=>some r) fun x1=>(if(x1 != 0)=true then(some (.inr (((⟨([]:List UInt8),[],[],[],(0:Int),[]⟩:T27),x1))))else(some (.inl ())))) (onS fun(_:Unit)=>(Option.bind (Option.bind (Option.bind (none) fun(x4:(Unit))=>none) (onS fun(y:Empty)=>(y.elim))) onE))) (Option.bind (Option.bind (Option.bind (m44o2 a0) fun r=>some r) fun x1=>(if((0:Int) != (0:Int))=true then(some (.inr (((⟨([]:List UInt8),[],[],[],(0:Int),[]⟩:T27),(0:Int)))))else(some (.inl (x1.1,x1.2.1,x1.2.2.1,x1.2.2.2))))) (onS fun(y1:(List T37)×(List Int)×(List Int)×(List Int))=>(Option.bind (Option.bind (Option.bind (Option.bind (m47o1 a0 y1.1 y1.2.1 y1.2.2.1 y1.2.2.2) fun r=>some r) fun x4=>(some (.inl (x4,(x4.length:Int))))) (onS fun(y2:(List T44)×Int)=>(loopO (fun(s3:Int)=>((if(decide (s3 < y2.2))=true then(if(0≤s3)then(if(s3 < (y2.1.length:Int))then(if(((y2.1.getD s3.toNat default).Kind==1) || ((y2.1.getD s3.toNat default).Kind==2))=true then(some (.inr (.inr (((⟨([]:List UInt8),[],[],[],(0:Int),[]⟩:T27),(11:Int))))))else(some (.inl (IntKind.wrap .i64 (s3+1)))))else none)else none)else(some (.inr (.inl ())))):Option ((Int)⊕((Unit)⊕(T27×Int))))) (0:Int)))) (onS fun(_:Unit)=>(Option.bind (Option.bind (Option.bind (m77 a0.Conds) fun r=>some r) fun x10=>(some (.inl x10))) (onS fun(y4:(List (List UInt8)))=>(Option.bind (Option.bind (some (.inl ())) (onS fun(_:Unit)=>(loopO (fun(s5:Int×(List (List T116)))=>((if(decide (s5.1 < (a0.Never.length:Int)))=true then(if(0≤s5.1)then(if(s5.1 < (a0.Never.length:Int))then(Option.bind (((m78 (a0.Never.getD s5.1.toNat default)).bind fun r14_0=>(if(s5.2.length+1) * 24≤140737488355328 then some r14_0 else none))) fun(x14:((List T116)))=>(some (.inl ((IntKind.wrap .i64 (s5.1+1)),(s5.2++([x14]:List (List T116)))))))else none)else none)else(some (.inr (.inl s5.2)))):Option ((Int×(List (List T116)))⊕(((List (List T116)))⊕(T27×Int))))) ((0:Int),[])))) (onS fun(y6:(List (List T116)))=>(Option.bind (some (.inl ())) (onS fun(_:Unit)=>(Option.bind (Option.bind (some (.inl ())) (onS fun(_:Unit)=>(loopO (fun(s7:Bool×Int×(List T119)×(List T85))=>((Option.bind (if(decide (s7.2.1 < (y1.1.length:Int)))=true then(some (.inl ()))else(some (.inr (.inr (.inl (s7.1,s7.2.2.1,s7.2.2.2)))))) (onS fun(_:Unit)=>(Option.bind (Option.bind (if(0≤s7.2.1)then(if(s7.2.1 < (y1.1.length:Int))then(Option.bind (((m79 s7.2.1).bind fun r20_0=>(if([83]:List UInt8).length+r20_0.length≤9223372036854775807 then(if(s7.2.2.1.length+1) * 88≤140737488355328 then some r20_0 else none)else none))) fun(x20:((List UInt8)))=>(if(0≤(a0.Transitions.length:Int))then(if((a0.Transitions.length:Int)=(a0.Transitions.length:Int))then(if((a0.Transitions.length:Int) * 1≤140737488355328)then(if((a0.Transitions.length:Int)≤9223372036854775807)then(some (.inl (s7.2.2.1++([(⟨(([83]:List UInt8)++x20),(-1:Int),(-1:Int),false,[],[]⟩:T119)]:List T119))))else none)else none)else none)else none))else none)else none) (onS fun(y8:(List T119))=>(Option.bind (Option.bind (some (.inl ())) (onS fun(_:Unit)=>(loopO (fun(s9:(List Bool)×Int)=>((Option.bind (if(decide (s9.2 < (y1.2.2.2.length:Int)))=true then(some (.inl ()))else(some (.inr (.inr (.inl s9.1))))) (onS fun(_:Unit)=>(Option.bind (Option.bind (if(0≤s9.2)then(if(s9.2 < (y1.2.2.2.length:Int))then(Option.bind (Option.bind (m19 a0 (y1.1.getD s7.2.1.toNat default).Leaf (y1.2.2.2.getD s9.2.toNat default)) fun r=>some r) fun x25=>(some (.inl (x25,(x25.length:Int)))))else none)else none) (onS fun(y10:(List Int)×Int)=>(loopO (fun(s11:(List Bool)×Int)=>((if(decide (s11.2 < y10.2))=true then(if(0≤s11.2)then(if(s11.2 < (y10.1.length:Int))then(if(0≤(y10.1.getD s11.2.toNat default))then(if((y10.1.getD s11.2.toNat default) < ((a0.Transitions.length:Int).toNat:Int))then(if((y10.1.getD s11.2.toNat default).toNat < (a0.Transitions.length:Int).toNat)then(some (.inl (((subL s11.1 0 (a0.Transitions.length:Int).toNat).set (y10.1.getD s11.2.toNat default).toNat true),(IntKind.wrap .i64 (s11.2+1)))))else none)else none)else none)else none)else none)else(some (.inr (.inl s11.1)))):Option (((List Bool)×Int)⊕(((List Bool))⊕(((List Bool)×Int)⊕(((List Bool))⊕((Bool×(List T119)×(List T85))⊕((Bool×Int×(List T119)×(List T85))⊕((Bool×(List T119)×(List T85))⊕(T27×Int)))))))))) (s9.1,(0:Int))))) (onS fun(y12:(List Bool))=>(some (.inl (y12,(IntKind.wrap .i64 (s9.2+1))))))))):Option (((List Bool)×Int)⊕(((List Bool))⊕((Bool×(List T119)×(List T85))⊕((Bool×Int×(List T119)×(List T85))⊕((Bool×(List T119)×(List T85))⊕(T27×Int)))))))) ((List.replicate (a0.Transitions.length:Int).toNat false),(0:Int))))) (onS fun(y13:(List Bool))=>(Option.bind (some (.inl ())) (onS fun(_:Unit)=>(loopO (fun(s14:Bool×Int×(List T85))=>((if(decide (s14.2.1 < ((a0.Transitions.length:Int).toNat:Int)))=true then(if(0≤s14.2.1)then(if(s14.2.1 < ((a0.Transitions.length:Int).toNat:Int))then(if(s14.2.1.toNat < (a0.Transitions.length:Int).toNat)then(if(!(y13.getD s14.2.1.toNat default))=true then(some (.inl (s14.1,(IntKind.wrap .i64 (s14.2.1+1)),s14.2.2)))else(Option.bind (Option.bind (m67 a0 (y1.1.getD s7.2.1.toNat default) s14.2.1) fun r=>some r) fun x35=>(Option.bind (((m80 y1.1 x35.1).bind fun r37_0=>(if 0≤s14.2.1 then(if s14.2.1 < (a0.Transitions.length:Int)then((m78 (a0.Transitions.getD s14.2.1.toNat default).When).bind fun r37_1=>(if(s14.2.2.length+1) * 64≤140737488355328 then some (r37_0,r37_1)else none))else none)else none))) fun(x37:(Int×(List T116)))=>(some (.inl ((s14.1 || (decide (8 < (x35.2.1.length:Int)))),(IntKind.wrap .i64 (s14.2.1+1)),(s14.2.2++([(⟨s7.2.1,x37.1,x37.2,x35.2.1⟩:T85)]:List T85))))))))else none)else none)else none)else(some (.inr (.inl (s14.1,y8,s14.2.2))))):Option ((Bool×Int×(List T85))⊕((Bool×(List T119)×(List T85))⊕((Bool×Int×(List T119)×(List T85))⊕((Bool×(List T119)×(List T85))⊕(T27×Int))))))) (s7.1,(0:Int),s7.2.2.2)))))))) (onS fun(y15:Bool×(List T119)×(List T85))=>(some (.inl (y15.1,(IntKind.wrap .i64 (s7.2.1+1)),y15.2.1,y15.2.2))))))):Option ((Bool×Int×(List T119)×(List T85))⊕((Bool×(List T119)×(List T85))⊕(T27×Int))))) ((decide (40 < (y1.1.length:Int))),(0:Int),[],[])))) (onS fun(y16:Bool×(List T119)×(List T85))=>(if(y16.1 || (decide (120 < (y16.2.2.length:Int))))=true then(some ((⟨([]:List UInt8),[],[],[],(0:Int),[]⟩:T27),(3:Int)))else(some ((⟨a0.Name,y4,y6,y16.2.1,(0:Int),y16.2.2⟩:T27),(0:Int))))))))))))))))):Option (T27×Int)):=by kernel_rfl
theorem Flatten_eq {c:T27} (T:Tiny c):m35 c=flatM c:=by
 have H:=T.fit
 have hn:c.Conds.length≤12:=by have:=T.conds;omega
 have hcd:=H.conds
 have hnv:=H.never
 have htr:=T.trans
 have h2:=numV_le hn
 have hv2:=valsA_len (c:=c)
 have q1:=srchE_eq H hn
 have q2:=srchR_eq H hn
 have q3:∀ s:SS,Inv c s→m47o1 c s.1 s.2.1 s.2.2 (valsA c)=some (findS c s):=fun s I=>sfind_eq H hn I
 have q4:∀ i:Nat,i < 100→m79 (i:Int)=some (Lib.decDigits i):=fun i hi=>by
  unfold m79
  rw[if_pos ⟨by omega,by omega⟩,Int.toNat_natCast]
 have q5:checkM c=some 0→∀ g:T37,validS c g=true→∀ t:Nat,aliveB c g.Leaf (t:Int)=true→m67 c g (t:Int)=some (fireR c g (t:Int)):=fun hc g hg t ha=>fire_alive H hc hg ha
 have q6:∀ (l:List T37) (g:T37),Short l→l.length≤1000000→m80 l g=some (findC l g):=find_eq
 have q7:∀ (leaf v:Int),m19 c leaf v=some (enabledS c leaf v):=Enabled_eq c H
 have q8:m77 c.Conds=some c.Conds:=by unfold m77;rw[if_pos (by omega)]
 have q9:∀ l:List T116,l.length≤1000→m78 l=some l:=fun l hl=>by
  unfold m78 cloneM
  rw[if_pos (by omega)]
 obtain⟨e,he⟩:=checkM_some c
 simp only[M35,bind_id,q1,q2,he,bs]
 generalize m47o1=F1 at q3 ⊢
 generalize m79=F2 at q4 ⊢
 generalize m67=F3 at q5 ⊢
 generalize m80=F4 at q6 ⊢
 generalize m19=F5 at q7 ⊢
 generalize m77=F6 at q8 ⊢
 generalize m78=F7 at q9 ⊢
 unfold flatM
 simp only[he,bs]
 by_cases h0:(e != 0)=true
 ·simp only[h0,bs,bn,if_true,or_];rfl
 have h0:=Bool.eq_false_iff.2 h0
 have e0:e=0:=by simpa using h0
 subst e0
 simp only[h0,Bool.false_eq_true,if_false]
 cases hs:searchS c with
 | none=>rfl
 | some s =>
  have I:=searchS_inv H he hs
  have W:=searchS_wy H he hs
  have few:=found_few T he I W
  have fl:=findS_len H s
  have q3':=q3 s I
  simp only[bs,bn,bne_self,Bool.false_eq_true,if_false,ol,q3',orJ_none]
  rw[loop_ex (findS c s).length (fun i=>if badK ((findS c s).getD i default)=true then some (zeroC,(11:Int))else none) (fun i hi=>?_) (by simp only[lt_irr,decide_false,Bool.false_eq_true,if_false]),firstR_const]
  rotate_left
  ·simp only[exB_ite,exB_some,exB_none,inL hi,decide_true,Int.toNat_natCast,if_true,wr1 hi (by omega)]
   rfl
  by_cases hb:anyR (fun i=>badK ((findS c s).getD i default)) (findS c s).length=true
  ·simp only[hb,if_true];rfl
  have hb:=Bool.eq_false_iff.2 hb
  simp only[hb,Bool.false_eq_true,if_false,orK_none,q8,bs,ol]
  refine on_l (y:=c.Never) ?_ ?_
  ·have e1:c.Never=(List.range c.Never.length).flatMap (fun j=>[c.Never.getD j default]):=by
    rw[range_flat (fun x=>[x]) c.Never];simp
   refine Eq.trans (loop_coll c.Never.length (fun i k=>((i:Int),k)) (fun j=>[c.Never.getD j default]) Sum.inl (fun i hi=>?_) ?_) (by rw[← e1])
   ·have hgl:=flatMap_len (g:=fun j=>[c.Never.getD j default]) (m:=1) (fun j=>by simp) i
    have hll:=H.lits _ (getD_mem hi)
    have c2:((((List.range i).flatMap fun j=>[c.Never.getD j default]).length+1) * 24≤140737488355328)=True:=eq_true (by omega)
    have w2:IntKind.wrap .i64 ((i:Int)+1)=((i+1:Nat):Int):=by rw[w64 (by omega) (by omega)];omega
    simp only[inL hi,decide_true,Int.toNat_natCast,if_true,q9 _ hll,bs,c2,w2]
   ·simp only[lt_irr,decide_false,Bool.false_eq_true,if_false]
  ·refine on_l (y:=(limF c s s.1.length,stF s.1.length,trF c s s.1.length)) ?_ ?_
   ·have e0:(decide (40 < (s.1.length:Int)),(0:Int),([]:List T119),([]:List T85))=(fun i:Nat=>(limF c s i,(i:Int),stF i,trF c s i)) 0:=by simp[limF,anyR,stF,trF]
    rw[e0]
    refine loop_st s.1.length (fun i:Nat=>(limF c s i,(i:Int),stF i,trF c s i)) (Sum.inl _) (fun i hi=>?_) ?_
    ·have d1:=q4 i (by omega)
     have d2:=dec_len (i:=i) (by omega)
     have d3:=stF_len i
     have d4:=trF_len c s i
     have d5:i * c.Transitions.length≤64 * 14:=Nat.mul_le_mul (by omega) htr
     have c1:(([83]:List UInt8).length+(Lib.decDigits i).length≤9223372036854775807)=True:=eq_true (by show 1+_≤_;omega)
     have c2:(((stF i).length+1) * 88≤140737488355328)=True:=eq_true (by omega)
     have c5:((0:Int)≤(c.Transitions.length:Int))=True:=eq_true (by omega)
     have c6:((c.Transitions.length:Int) * 1≤140737488355328)=True:=eq_true (by omega)
     have c7:((c.Transitions.length:Int)≤9223372036854775807)=True:=eq_true (by omega)
     have w2:IntKind.wrap .i64 ((i:Int)+1)=((i+1:Nat):Int):=by rw[w64 (by omega) (by omega)];omega
     have hg:=I.ok _ (getD_mem hi)
     simp only[inL hi,decide_true,Int.toNat_natCast,if_true,bs,ol,d1,c1,c2,c5,c6,c7]
     refine on_l (y:=(limF c s (i+1),stF (i+1),trF c s (i+1))) ?_ (by simp only[w2])
     rw[limF_app,stF_app,trF_app]
     refine on_l (y:=mkL c.Transitions.length fun t=>aliveB c (s.1.getD i default).Leaf (t:Int)) ?_ ?_
     ·generalize (s.1.getD i default).Leaf=leaf
      have e1:(List.replicate c.Transitions.length false,(0:Int))=(fun k:Nat=>(mkL c.Transitions.length (fun t=>anyR (fun j=>pA c leaf t ((valsA c).getD j default)) k),(k:Int))) 0:=by
       have:List.replicate c.Transitions.length false=mkL c.Transitions.length (fun t=>anyR (fun j=>pA c leaf t ((valsA c).getD j default)) 0):=by
        apply List.ext_getElem?
        intro u
        simp only[mkL,List.getElem?_replicate,List.getElem?_map]
        by_cases hu:u < c.Transitions.length
        ·simp[hu,anyR]
        ·simp[hu]
       rw[this];rfl
      have e2:(mkL c.Transitions.length fun t=>aliveB c leaf (t:Int))=mkL c.Transitions.length (fun t=>anyR (fun j=>pA c leaf t ((valsA c).getD j default)) (valsA c).length):=mkL_congr fun t _=>pA_all.symm
      rw[e1,e2]
      refine loop_st (valsA c).length (fun k:Nat=>(mkL c.Transitions.length (fun t=>anyR (fun j=>pA c leaf t ((valsA c).getD j default)) k),(k:Int))) (Sum.inl _) (fun k hk=>?_) ?_
      ·have w3:IntKind.wrap .i64 ((k:Int)+1)=((k+1:Nat):Int):=by rw[w64 (by omega) (by omega)];omega
       have r3:mkL c.Transitions.length (fun t=>anyR (fun j=>pA c leaf t ((valsA c).getD j default)) (k+1))=mkL c.Transitions.length (fun t=>anyR (fun j=>pA c leaf t ((valsA c).getD j default)) k || pA c leaf t ((valsA c).getD k default)):=mkL_congr fun t _=>anyR_app _ _
       simp only[inL hk,decide_true,Int.toNat_natCast,if_true,bs,ol,q7,r3]
       generalize (valsA c).getD k default=v
       have hel:=enabledS_len c leaf v
       refine bind_eq (alive_loop (l:=enabledS c leaf v) (fun x hx=>enab_lt hx) Sum.inl (fun B'' j t hj ht htl=>?_) (fun B''=>?_) _) ?_
       ·have w4:IntKind.wrap .i64 ((j:Int)+1)=((j+1:Nat):Int):=by rw[w64 (by omega) (by omega)];omega
        have c8:((t:Int) < (c.Transitions.length:Int))=True:=eq_true (by omega)
        have c9:((0:Int)≤(t:Int))=True:=eq_true (by omega)
        simp only[inL hj,decide_true,if_true,Int.toNat_natCast,ht,c8,c9,eq_true htl,mkL_sub,w4]
       ·simp only[lt_irr,decide_false,Bool.false_eq_true,if_false]
       ·simp only[bs,ol,w3];rfl
      ·simp only[lt_irr,decide_false,Bool.false_eq_true,if_false,bs,or_]
     have e1:(limF c s i,(0:Int),trF c s i)=(fun t:Nat=>(limF c s i || limR c s i t,(t:Int),trF c s i++trR c s i t)) 0:=by simp[limR,anyR,trR]
     simp only[e1]
     refine loop_st c.Transitions.length (fun t:Nat=>(limF c s i || limR c s i t,(t:Int),trF c s i++trR c s i t)) (Sum.inl _) (fun t ht=>?_) ?_
     ·have w3:IntKind.wrap .i64 ((t:Int)+1)=((t+1:Nat):Int):=by rw[w64 (by omega) (by omega)];omega
      have d6:=trR_len c s i t
      have c8:((t:Int) < (c.Transitions.length:Int))=True:=eq_true (by omega)
      have c9:((0:Int)≤(t:Int))=True:=eq_true (by omega)
      simp only[inL ht,decide_true,Int.toNat_natCast,if_true,bs,ol,eq_true ht,mkL_at ht,w3,limR_app,trR_app]
      cases ha:aliveB c (s.1.getD i default).Leaf (t:Int) with
      | false =>
       have g1:trG c s i t=[]:=by unfold trG cfgA;rw[ha,if_neg (by decide)]
       have g2:limG c s i t=false:=by unfold limG cfgA;rw[ha,Bool.false_and]
       simp only[Bool.not_false,if_true,g1,g2,List.append_nil,Bool.or_false]
      | true =>
       have g1:trG c s i t=[⟨(i:Int),findC s.1 (fireR c (s.1.getD i default) (t:Int)).1,(c.Transitions.getD t default).When,(fireR c (s.1.getD i default) (t:Int)).2.1⟩]:=by unfold trG cfgA;rw[ha,if_pos rfl]
       have g2:limG c s i t=decide (8 < ((fireR c (s.1.getD i default) (t:Int)).2.1.length:Int)):=by unfold limG cfgA;rw[ha,Bool.true_and]
       have f1:=q5 he _ hg t ha
       have f2:=q6 s.1 (fireR c (s.1.getD i default) (t:Int)).1 (I.short H) (by omega)
       have f3:=q9 _ (H.when_ _ (getD_mem ht))
       have c4:(((trF c s i++trR c s i t).length+1) * 64≤140737488355328)=True:=eq_true (by rw[List.length_append];omega)
       simp only[Bool.not_true,Bool.false_eq_true,if_false,f1,f2,f3,bs,c4,c8,c9,if_true,g1,g2,List.append_assoc,Bool.or_assoc]
     ·simp only[lt_irr,decide_false,Bool.false_eq_true,if_false];rfl
    ·simp only[lt_irr,decide_false,Bool.false_eq_true,if_false,bs,or_]
   ·rfl
end Go.Av
set_option maxRecDepth 100000
namespace Go.Av
open Ch Go.Proofs
structure Chk (c:T27):Prop where
 name:nm c.Name=true
 pos:0 < c.States.length
 conds:c.Conds.length≤12
 never:c.Never.length≤16
 states:c.States.length≤40
 trans:c.Transitions.length≤120
 cond:∀ i,i < c.Conds.length→condF c i=none
 nev:∀ i,i < c.Never.length→nevF c i=none
 st:∀ i,i < c.States.length→Ch.stF c i=none
 start:isS c c.Start=true
 tr:∀ i,i < c.Transitions.length→Ch.trF c i=none
theorem chk_of {c:T27} (h:checkM c=some 0):Chk c:=by
 unfold checkM at h
 obtain⟨hn,h⟩:=ite_err h (by decide)
 obtain⟨h1,h⟩:=ite_err h (by decide)
 obtain⟨hcap,h⟩:=ite_err h (by decide)
 have n1:firstR (condF c) c.Conds.length≠some 0:=fun e=>by
  obtain⟨i,_,e⟩:=firstR_some e
  unfold condF at e
  split at e
  ·rename_i hh;injection e with e;rw[e]at hh;simp at hh
  ·cases e
 obtain⟨hcd,h⟩:=orK_ok h n1
 have n2:firstR (nevF c) c.Never.length≠some 0:=fun e=>by
  obtain⟨i,_,e⟩:=firstR_some e
  unfold nevF at e
  split at e
  ·cases e
  ·split at e
   ·rename_i hh;injection e with e;rw[e]at hh;simp at hh
   ·cases e
 obtain⟨hnv,h⟩:=orK_ok h n2
 have n3:firstR (Ch.stF c) c.States.length≠some 0:=fun e=>by
  obtain⟨i,_,e⟩:=firstR_some e
  unfold Ch.stF at e
  split at e
  ·rename_i hh;injection e with e;rw[e]at hh;simp at hh
  ·cases e
 obtain⟨hst,h⟩:=orK_ok h n3
 obtain⟨hs,h⟩:=ite_err h (by decide)
 have n4:firstR (Ch.trF c) c.Transitions.length≠some 0:=fun e=>by
  obtain⟨i,_,e⟩:=firstR_some e
  unfold Ch.trF at e
  split at e
  ·cases e
  ·split at e
   ·rename_i hh;injection e with e;rw[e]at hh;simp at hh
   ·split at e
    ·rename_i hh;injection e with e;rw[e]at hh;simp at hh
    ·cases e
 obtain⟨htr,-⟩:=orK_ok h n4
 simp only[Bool.or_eq_true,decide_eq_true_eq,not_or,Int.not_lt]at hcap
 have h1:¬ ((c.States.length:Int)=0):=by simpa using h1
 exact⟨by simpa using hn,by omega,by omega,by omega,by omega,by omega,firstR_none.1 hcd,firstR_none.1 hnv,firstR_none.1 hst,by simpa using hs,firstR_none.1 htr⟩
theorem of_chk {c:T27} (h:Chk c):checkM c=some 0:=by
 have h1:=h.conds
 have h2:=h.never
 have h3:=h.states
 have h4:=h.trans
 have h5:=h.pos
 unfold checkM
 rw[if_neg (by rw[h.name];decide),if_neg (by simp;intro h;simp[h]at h5),if_neg (by simp only[Bool.or_eq_true,decide_eq_true_eq,not_or,Int.not_lt];omega),firstR_none.2 h.cond,orK_none,firstR_none.2 h.nev,orK_none,firstR_none.2 h.st,orK_none,if_neg (by rw[h.start];decide),firstR_none.2 h.tr,orK_none]
def NmL (l:List (List UInt8)):Prop:=∀ a∈l,nm a=true
theorem NmL.nil:NmL []:=fun a h=>by cases h
theorem NmL.app {l k:List (List UInt8)} (h1:NmL l) (h2:NmL k):NmL (l++k):=fun a h=>(List.mem_append.1 h).elim (h1 a) (h2 a)
theorem act_iff {l:List (List UInt8)}:actS l=0↔l.length≤8∧NmL l:=by
 unfold actS
 constructor
 ·intro h
  split at h
  ·cases h
  rename_i h1
  split at h
  ·cases h
  rename_i h2
  have h2:=Bool.eq_false_iff.2 h2
  refine⟨by simp only[decide_eq_true_eq]at h1;omega,fun a ha=>?_⟩
  obtain⟨i,hi,rfl⟩:=List.getElem_of_mem ha
  have:=anyR_false.1 h2 i hi
  simpa [List.getD_eq_getElem?_getD,List.getElem?_eq_getElem hi] using this
 ·rintro⟨h1,h2⟩
  rw[if_neg (by simp;omega),if_neg]
  rw[Bool.not_eq_true,anyR_false]
  intro i hi
  rw[h2 _ (getD_mem hi)];rfl
theorem getD_out {α:Type} [Inhabited α] {l:List α} {i:Nat} (h:¬ i < l.length):l.getD i default=default:=by
 rw[List.getD_eq_getElem?_getD,List.getElem?_eq_none (by omega)];rfl
theorem stateT_names {c:T27} {i:Nat} (h:stateT c i=0):NmL (c.States.getD i default).Entry∧NmL (c.States.getD i default).Exit:=by
 unfold stateT at h
 split at h
 ·cases h
 split at h
 ·cases h
 split at h
 ·cases h
 split at h
 ·rename_i a4;rw[h]at a4;simp at a4
 rename_i a4
 exact⟨(act_iff.1 (by simpa using a4)).2,(act_iff.1 h).2⟩
theorem state_names {c:T27} (K:Chk c) (x:Int):NmL (stA c x).Entry∧NmL (stA c x).Exit:=by
 unfold stA
 by_cases hx:x.toNat < c.States.length
 ·have h:=K.st _ hx
  unfold Ch.stF at h
  split at h
  ·cases h
  ·rename_i hh
   have hh:stateS c x.toNat=0:=by simpa using hh
   unfold stateS at hh
   split at hh
   ·rename_i h2;rw[hh]at h2;simp at h2
   ·exact stateT_names hh
 ·rw[getD_out hx]
  exact⟨NmL.nil,NmL.nil⟩
theorem trans_ok {c:T27} (K:Chk c) {i:Nat} (hi:i < c.Transitions.length):litS c (c.Transitions.getD i default).When=0∧NmL (c.Transitions.getD i default).Actions:=by
 have h:=K.tr i hi
 unfold Ch.trF at h
 split at h
 ·cases h
 split at h
 ·cases h
 rename_i h2
 split at h
 ·cases h
 rename_i h3
 exact⟨by simpa using h2,(act_iff.1 (by simpa using h3)).2⟩
theorem enter_nm {c:T27} (K:Chk c):∀ (n:Nat) (x:Int) (m:List Int) (a:List (List UInt8)),NmL a→NmL (enterF c n x m a).2.2
 | 0,x,m,a,h=>h
 | n+1,x,m,a,h=>by
  unfold enterF
  split
  ·exact enter_nm K n _ _ _ (h.app (state_names K x).1)
  ·exact h.app (state_names K x).1
theorem around_nm {c:T27} (K:Chk c) {m:List Int} {a:List (List UInt8)} (h:NmL a):∀ l:List Int,NmL (aroundS c l m a).2
 | []=>h
 | x :: l=>by
  show NmL ((aroundS c l m a).2++(stA c x).Entry)
  exact(around_nm K h l).app (state_names K x).1
theorem leave_nm {c:T27} (K:Chk c) {s:Int}:∀ (l:List Int) (last:Int) (m:List Int) (a:List (List UInt8)),NmL a→NmL (leaveS c s l last m a).2
 | [],_,m,a,h=>h
 | x :: l,last,m,a,h=>by
  unfold leaveS
  split
  ·exact h
  ·exact leave_nm K l x _ _ (h.app (state_names K x).2)
theorem fire_nm {c:T27} (K:Chk c) {g:T37} {i:Nat} (hi:i < c.Transitions.length):NmL (fireR c g (i:Int)).2.1:=by
 unfold fireR fireS enterS
 rw[Int.toNat_natCast]
 exact enter_nm K _ _ _ _ (around_nm K ((leave_nm K _ _ _ _ NmL.nil).app (trans_ok K hi).2) _)
def nmN (i:Nat):List UInt8:=([83]:List UInt8)++Lib.decDigits i
theorem nmN_ok:∀ i:Nat,i < 40→nm (nmN i)=true∧∀ j:Nat,j < i→(nmN i==nmN j)=false:=by
 have h:((List.range 40).all fun i=>nm (nmN i)&&(List.range i).all fun j=>!(nmN i==nmN j))=true:=by kernel_rfl
 intro i hi
 have h1:=List.all_eq_true.1 h i (List.mem_range.2 hi)
 simp only[Bool.and_eq_true]at h1
 refine⟨h1.1,fun j hj=>?_⟩
 have h2:=List.all_eq_true.1 h1.2 j (List.mem_range.2 hj)
 simpa using h2
theorem stF_eq (n:Nat):stF n=(List.range n).map stG:=(List.map_eq_flatMap ..).symm
theorem stF_get {n i:Nat} (h:i < n):(stF n).getD i default=stG i:=by
 rw[stF_eq,List.getD_eq_getElem?_getD,List.getElem?_map,List.getElem?_range h];rfl
structure Flt (c:T27) (s:SS):Prop where
 tiny:Tiny c
 check:checkM c=some 0
 search:searchS c=some s
 good:anyR (fun i=>badK ((findS c s).getD i default)) (findS c s).length=false
 lim:limF c s s.1.length=false
 cap:(trF c s s.1.length).length≤120
section
variable {c:T27} {s:SS}
theorem Flt.inv (F:Flt c s):Inv c s:=searchS_inv F.tiny.fit F.check F.search
theorem Flt.wy (F:Flt c s):Wy c (begG c) s:=searchS_wy F.tiny.fit F.check F.search
theorem Flt.len (F:Flt c s):s.1.length≤40:=by
 have:=F.lim
 unfold limF at this
 simp only[Bool.or_eq_false_iff,decide_eq_false_iff_not]at this
 omega
theorem Flt.chk (F:Flt c s):Chk c:=chk_of F.check
theorem Flt.kind (F:Flt c s) {k:Int} (hk:k=1∨k=2):∀ x∈findS c s,x.Kind≠k:=fun x hx e=>by
 obtain⟨i,hi,rfl⟩:=List.getElem_of_mem hx
 have:=anyR_false.1 F.good i hi
 unfold badK at this
 simp only[List.getD_eq_getElem?_getD,List.getElem?_eq_getElem hi,Option.getD_some,Bool.or_eq_false_iff,beq_eq_false_iff_ne]at this
 rcases hk with rfl | rfl
 ·exact this.1 e
 ·exact this.2 e
theorem Flt.one (F:Flt c s) {k:Nat} (hk:k < s.1.length) {v:Nat} (hv:v < numV c) (ha:allowedS c (v:Int)=true):(enabledS c (cfgA s k).Leaf (v:Int)).length=1 :=
 one_enabled F.inv (F.kind (.inl rfl)) (F.kind (.inr rfl)) (reachB_iff.2 ⟨_,getD_mem hk,rfl⟩) hv ha
theorem Flt.acts (F:Flt c s) {k t:Nat} (hk:k < s.1.length) (ht:t < c.Transitions.length) (ha:aliveB c (cfgA s k).Leaf (t:Int)=true):(fireR c (cfgA s k) (t:Int)).2.1.length≤8:=by
 have h:=F.lim
 unfold limF at h
 simp only[Bool.or_eq_false_iff]at h
 have h1:=anyR_false.1 h.2 k hk
 unfold limR at h1
 have h2:=anyR_false.1 h1 t ht
 unfold limG at h2
 rw[ha,Bool.true_and,decide_eq_false_iff_not]at h2
 omega
theorem Flt.next (F:Flt c s) {k t:Nat} (hk:k < s.1.length) (ha:aliveB c (cfgA s k).Leaf (t:Int)=true):t < c.Transitions.length∧(fireR c (cfgA s k) (t:Int)).1∈s.1:=by
 obtain⟨h1,h2⟩:=alive_from ha
 refine⟨h1,?_⟩
 obtain⟨v,hv,h3⟩:=anyR_iff.1 ha
 unfold aliveV at h3
 simp only[Bool.and_eq_true]at h3
 have h4:=F.one hk hv h3.1
 have h5:=hasK_iff.1 h3.2
 have hg:validS c (cfgA s k)=true:=F.inv.ok _ (getD_mem hk)
 have h6:(enabledS c (cfgA s k).Leaf (v:Int)).getD 0 default=(t:Int):=by
  match hl:enabledS c (cfgA s k).Leaf (v:Int),h4,h5 with
  | [x],_,h5=>simp only[List.mem_singleton]at h5;rw[h5];rfl
 refine reach_step F.search (getD_mem hk) hv ?_
 unfold stepO stepM
 simp only[F.check,Option.bind_some,bne_self,Bool.false_eq_true,if_false]
 have hg':validS c (s.1.getD k default)=true:=hg
 have h4':(enabledS c (s.1.getD k default).Leaf (v:Int)).length=1:=h4
 have h6':(enabledS c (s.1.getD k default).Leaf (v:Int)).getD 0 default=(t:Int):=h6
 simp only[hg',h3.1,h4',h6',Bool.not_true,Bool.false_eq_true,if_false,show (((1:Nat):Int)==0)=false from rfl,show (((1:Nat):Int)==1)=true from rfl,if_true,Option.bind_some]
 rfl
theorem findC_mem {l:List T37} {g:T37} (h:g∈l):∃ k:Nat,k < l.length∧findC l g=(k:Int)∧l.getD k default=g:=by
 rcases findR_cases (fun i=>eqC (l.getD i default) g) l.length with⟨_,h1⟩ | ⟨k,h1,h2,h3⟩
 ·exfalso
  obtain⟨i,hi,rfl⟩:=List.getElem_of_mem h
  have:=anyR_false.1 h1 i hi
  rw[show l.getD i default=l[i] by simp[List.getD_eq_getElem?_getD,List.getElem?_eq_getElem hi],eqC_refl]at this
  cases this
 ·exact⟨k,h1,h2,eqC_iff.1 h3⟩
theorem tr_mem {x:T85} {n:Nat} (h:x∈trF c s n):∃ k t,k < n∧t < c.Transitions.length∧aliveB c (cfgA s k).Leaf (t:Int)=true∧x=⟨(k:Int),findC s.1 (fireR c (cfgA s k) (t:Int)).1,(c.Transitions.getD t default).When,(fireR c (cfgA s k) (t:Int)).2.1⟩:=by
 unfold trF at h
 obtain⟨k,h1,h2⟩:=List.mem_flatMap.1 h
 unfold trR at h2
 obtain⟨t,h3,h4⟩:=List.mem_flatMap.1 h2
 unfold trG at h4
 split at h4
 ·rename_i ha
  simp only[List.mem_singleton]at h4
  exact⟨k,t,List.mem_range.1 h1,List.mem_range.1 h3,ha,h4⟩
 ·cases h4
theorem Flt.chkF (F:Flt c s):Chk (flatC c s):=by
 have K:=F.chk
 have L:=F.len
 have P:=F.inv.pos
 have hl:(flatC c s).States.length=s.1.length:=stF_len _
 have hp:∀ i:Nat,i < s.1.length→(flatC c s).States.getD i default=stG i:=fun i hi=>stF_get hi
 have hc:∀ x:Int,0≤x→comp (flatC c s) x=false:=fun x hx=>by
  unfold comp
  rw[anyR_false]
  intro i hi
  rw[hl]at hi
  rw[hp i hi]
  show ((-1:Int)==x)=false
  simp;omega
 refine⟨K.name,by omega,K.conds,K.never,by omega,F.cap,K.cond,K.nev,fun i hi=>?_,?_,fun i hi=>?_⟩
 ·rw[hl]at hi
  have e1:stateT (flatC c s) i=0:=by
   unfold stateT
   rw[hp i hi,hc _ (by omega)]
   show (if(decide ((-1:Int) < -1) || decide ((i:Int) ≤ -1))=true then(9:Int)else _)=0
   rw[if_neg (by simp;omega)]
   rfl
  have e2:listedS (namesS (flatC c s)) i=0:=by
   have g:∀ j:Nat,j < s.1.length→(namesS (flatC c s)).getD j default=nmN j:=fun j hj=>by
    rw[namesS_getD _ (by rw[hl];exact hj),hp j hj];rfl
   obtain⟨n1,n2⟩:=nmN_ok i (by omega)
   unfold listedS
   rw[g i hi,n1,if_neg (by decide),if_neg]
   rw[Bool.not_eq_true]
   unfold hasK
   rw[anyR_false]
   intro j hj
   rw[g j (by omega)]
   exact n2 j hj
  unfold Ch.stF stateS
  rw[e2,e1];rfl
 ·rw[isS_iff,hl]
  show (0:Int)≤0∧(0:Int) < _
  omega
 ·have hm:(flatC c s).Transitions.getD i default∈trF c s s.1.length:=getD_mem hi
  generalize (flatC c s).Transitions.getD i default=x at hm
  have hx:∀ (y:T85),y∈trF c s s.1.length→isS (flatC c s) y.From=true∧isS (flatC c s) y.To=true∧litS (flatC c s) y.When=0∧actS y.Actions=0:=fun y hy=>by
   obtain⟨k,t,k1,t1,ha,rfl⟩:=tr_mem hy
   obtain⟨_,n2⟩:=F.next k1 ha
   obtain⟨j,j1,j2,_⟩:=findC_mem n2
   refine⟨by rw[isS_iff,hl];show (0:Int)≤(k:Int)∧(k:Int) < _;omega,?_,(trans_ok K t1).1,act_iff.2 ⟨F.acts k1 t1 ha,fire_nm K t1⟩⟩
   rw[isS_iff,hl]
   show (0:Int)≤findC s.1 (fireR c (cfgA s k) (t:Int)).1∧findC s.1 (fireR c (cfgA s k) (t:Int)).1 < _
   rw[j2];omega
  have hm:(flatC c s).Transitions.getD i default∈trF c s s.1.length:=getD_mem hi
  obtain⟨a1,a2,a3,a4⟩:=hx _ hm
  unfold Ch.trF
  rw[a1,a2,a3,a4];rfl
theorem Flt.checkF (F:Flt c s):checkM (flatC c s)=some 0:=of_chk F.chkF
theorem Flt.fitF (F:Flt c s):Fit (flatC c s):=by
 have K:=F.chkF
 have H:=F.tiny.fit
 have h1:=K.conds
 have h2:=K.never
 have h3:=K.states
 have h4:=K.trans
 have e:∀ x∈stF s.1.length,x.Entry=[]∧x.Exit=[]:=fun x hx=>by
  rw[stF_eq]at hx
  obtain⟨i,_,rfl⟩:=List.mem_map.1 hx
  exact⟨rfl,rfl⟩
 refine⟨by omega,by omega,H.lits,by omega,fun x hx=>by rw[(e x hx).1];simp,fun x hx=>by rw[(e x hx).2];simp,by omega,fun x hx=>?_,fun x hx=>?_⟩
 ·obtain⟨k,t,k1,t1,ha,rfl⟩:=tr_mem hx
  show (c.Transitions.getD t default).When.length≤1000
  exact H.when_ _ (getD_mem t1)
 ·obtain⟨k,t,k1,t1,ha,rfl⟩:=tr_mem hx
  have:=F.acts k1 t1 ha
  show (fireR c (cfgA s k) (t:Int)).2.1.length≤1000
  omega
end
end Go.Av
set_option maxRecDepth 100000
namespace Go.Av
open Ch Go.Proofs
theorem allowed_small {c:T27} (hn:c.Conds.length≤12) {v:Int} (h0:0≤v) (ha:allowedS c v=true):∃ n:Nat,v=n∧n < numV c:=by
 refine⟨v.toNat,by omega,?_⟩
 unfold allowedS at ha
 simp only[Bool.and_eq_true,Bool.not_eq_true']at ha
 have hw:=ha.1
 unfold wideB at hw
 have d:decide ((c.Conds.length:Int) < 16)=true:=by simp;omega
 rw[d,Bool.true_and]at hw
 have e1:min ((c.Conds.length:Int)).toNat IntKind.u16.bits=c.Conds.length:=by
  show min ((c.Conds.length:Int)).toNat 16=_
  omega
 rw[e1]at hw
 have h2:v.fdiv (2 ^ c.Conds.length)=0:=by simpa using hw
 rw[Int.fdiv_eq_ediv_of_nonneg _ (Int.le_of_lt (Int.pow_pos (by omega)))]at h2
 have h3:v < 2 ^ c.Conds.length:=by
  apply Classical.byContradiction
  intro hn'
  have hp:(0:Int) < 2 ^ c.Conds.length:=Int.pow_pos (by omega)
  have h4:1≤v / 2 ^ c.Conds.length:=by
   rw[Int.le_ediv_iff_mul_le hp];omega
  omega
 unfold numV
 have h5:((2 ^ c.Conds.length:Nat):Int)=2 ^ c.Conds.length:=by push_cast;rfl
 omega
def onB (p:List Int) (v:Int) (x:T85):Bool:=hasK p p.length x.From&&holdsS x.When v
theorem flat_filter {α:Type} (P:α→Bool):∀ l:List α,l.flatMap (fun x=>if P x=true then[x]else[])=l.filter P
 | []=>rfl
 | x :: l=>by
  rw[List.flatMap_cons,flat_filter P l,List.filter_cons]
  split<;>rfl
theorem enabled_trans (c:T27) (leaf v:Int):(enabledS c leaf v).map (fun j=>c.Transitions.getD j.toNat default)=c.Transitions.filter (onB (pathS c leaf) v):=by
 rw[← flat_filter,← range_flat]
 unfold enabledS
 rw[List.map_flatMap]
 congr 1
 funext i
 unfold enabG onB
 split
 ·rfl
 ·rfl
theorem flat_only {α:Type} {g:Nat→List α} {k:Nat}:∀ n:Nat,(∀ i,i < n→i≠k→g i=[])→k < n→(List.range n).flatMap g=g k
 | 0,h,hk=>by omega
 | n+1,h,hk=>by
  rw[flatMap_app]
  by_cases e:k=n
  ·subst e
   have:(List.range k).flatMap g=[]:=by
    rw[List.flatMap_eq_nil_iff]
    intro i hi
    have:=List.mem_range.1 hi
    exact h i (by omega) (by omega)
   rw[this];rfl
  ·rw[flat_only n (fun i hi=>h i (by omega)) (by omega),h n (by omega) (by omega),List.append_nil]
section
variable {c:T27} {s:SS}
def mkT (c:T27) (s:SS) (k:Nat) (t:Int):T85:=⟨(k:Int),findC s.1 (fireR c (cfgA s k) t).1,(c.Transitions.getD t.toNat default).When,(fireR c (cfgA s k) t).2.1⟩
theorem Flt.filt (F:Flt c s) {k v:Nat} (hk:k < s.1.length) (hv:v < numV c) (ha:allowedS c (v:Int)=true):(trF c s s.1.length).filter (onB [(k:Int)] (v:Int))=(enabledS c (cfgA s k).Leaf (v:Int)).map (mkT c s k):=by
 have on:∀ x:T85,onB [(k:Int)] (v:Int) x=(x.From==(k:Int)&&holdsS x.When (v:Int)):=fun x=>by
  unfold onB hasK
  simp only[List.length_cons,List.length_nil,anyR,List.range_succ,List.range_zero,List.nil_append,List.any_cons,List.any_nil,Bool.or_false]
  rfl
 unfold trF
 rw[List.filter_flatMap,flat_only (k:=k) _ (fun i hi hne=>?_) hk]
 ·unfold trR enabledS
  rw[List.filter_flatMap,List.map_flatMap]
  have cg:∀ (f g:Nat→List T85) (n:Nat),(∀ i,i < n→f i=g i)→(List.range n).flatMap f=(List.range n).flatMap g:=fun f g n h=>by
   induction n with
   | zero=>rfl
   | succ n ih=>rw[flatMap_app,flatMap_app,ih (fun i hi=>h i (by omega)),h n (by omega)]
  refine cg _ _ _ fun t ht=>?_
  unfold trG enabG
  have key:(aliveB c (cfgA s k).Leaf (t:Int)&&holdsS (c.Transitions.getD t default).When (v:Int))=(hasK (pathS c (cfgA s k).Leaf) (pathS c (cfgA s k).Leaf).length (c.Transitions.getD t default).From&&holdsS (c.Transitions.getD t default).When (v:Int)):=by
   cases hh:holdsS (c.Transitions.getD t default).When (v:Int) with
   | false=>rw[Bool.and_false,Bool.and_false]
   | true =>
    rw[Bool.and_true,Bool.and_true,Bool.eq_iff_iff]
    constructor
    ·intro h;exact(alive_from h).2
    ·intro h
     refine anyR_iff.2 ⟨v,hv,?_⟩
     unfold aliveV
     rw[ha,Bool.true_and,hasK_iff]
     unfold enabledS
     rw[List.mem_flatMap]
     refine⟨t,List.mem_range.2 ht,?_⟩
     unfold enabG
     rw[h,hh];simp
  rw[← key]
  cases h1:aliveB c (cfgA s k).Leaf (t:Int) with
  | false=>rfl
  | true =>
   simp only[if_true,Bool.true_and]
   rw[List.filter_cons,on]
   show (if(((k:Int)==(k:Int))&&holdsS (c.Transitions.getD t default).When (v:Int))=true then _ else _)=_
   rw[beq_self_eq_true,Bool.true_and]
   split<;>rfl
 ·unfold trR
  rw[List.filter_flatMap,List.flatMap_eq_nil_iff]
  intro t _
  unfold trG
  split
  ·rw[List.filter_cons,on]
   show (if(((i:Int)==(k:Int))&&_)=true then _ else _)=_
   have:((i:Int)==(k:Int))=false:=by simp;omega
   rw[this,Bool.false_and];rfl
  ·rfl
def flatG (s:SS) (k:Nat):T37:=⟨(k:Int),List.replicate s.1.length (-1)⟩
theorem flat_len (c:T27) (s:SS):(flatC c s).States.length=s.1.length:=stF_len _
theorem flat_st {k:Nat} (hk:k < s.1.length):stA (flatC c s) (k:Int)=stG k:=by
 unfold stA
 rw[Int.toNat_natCast]
 exact stF_get hk
theorem flat_is {k:Nat} (hk:k < s.1.length):isS (flatC c s) (k:Int)=true:=by
 rw[isS_iff,flat_len];omega
theorem flat_comp (x:Int) (hx:0≤x):comp (flatC c s) x=false:=by
 unfold comp
 rw[anyR_false]
 intro i hi
 rw[flat_len]at hi
 rw[show (flatC c s).States.getD i default=stG i from stF_get hi]
 show ((-1:Int)==x)=false
 simp;omega
theorem flat_path {k:Nat} (hk:k < s.1.length):pathS (flatC c s) (k:Int)=[(k:Int)]:=by
 rw[pathS_step (flat_is hk),if_pos]
 unfold topB
 have:(flatC c s).States.getD (k:Int).toNat default=stG k:=flat_st hk
 rw[this];rfl
theorem flat_valid {k:Nat} (hk:k < s.1.length):validS (flatC c s) (flatG s k)=true:=by
 refine validS_iff.2 ⟨flat_is hk,flat_comp _ (by show (0:Int)≤(k:Int);omega),?_⟩
 have:=mem_begin (c:=flatC c s)
 rw[flat_len]at this
 exact this
theorem flat_enter {k:Nat} (hk:k < s.1.length) (m:List Int) (a:List (List UInt8)):enterS (flatC c s) (k:Int) m a=((k:Int),m,a):=by
 unfold enterS
 rw[flat_len]
 obtain⟨n,hn⟩:∃ n,s.1.length=n+1:=⟨s.1.length - 1,by omega⟩
 rw[hn]
 unfold enterF
 rw[flat_comp _ (by omega),if_neg (by decide),flat_st hk]
 show (_,_,a++[])=_
 rw[List.append_nil]
theorem flat_start (F:Flt c s):startS (flatC c s)=(0,List.replicate s.1.length (-1),[]):=by
 have P:=F.inv.pos
 have h:=flat_path (c:=c) P
 have e0:(flatC c s).Start=((0:Nat):Int):=rfl
 unfold startS
 rw[e0,h,flat_len]
 show enterS (flatC c s) ((0:Nat):Int) (List.replicate s.1.length (-1)) []=_
 rw[flat_enter P];rfl
theorem flat_fire {k j:Nat} (hk:k < s.1.length) (hj:j < s.1.length) {t:T85} (h1:t.From=(k:Int)) (h2:t.To=(j:Int)):fireS (flatC c s) (flatG s k) t=((j:Int),List.replicate s.1.length (-1),t.Actions):=by
 have e1:scopeS (flatC c s) (k:Int) (j:Int) = -1:=by
  unfold scopeS
  rw[flat_path hk];rfl
 have e2:leaveS (flatC c s) (-1) [(k:Int)] (-1) (List.replicate s.1.length (-1)) []=(List.replicate s.1.length (-1),[]):=by
  unfold leaveS
  rw[if_neg (by simp),flat_st hk]
  rfl
 unfold fireS
 rw[h1,h2,e1,flat_path hj]
 show enterS (flatC c s) (j:Int) (aroundS (flatC c s) (untilS (-1) [(j:Int)].tail) (leaveS (flatC c s) (-1) (pathS (flatC c s) (k:Int)) (-1) (List.replicate s.1.length (-1)) []).1 ((leaveS (flatC c s) (-1) (pathS (flatC c s) (k:Int)) (-1) (List.replicate s.1.length (-1)) []).2++t.Actions)).1 (aroundS (flatC c s) (untilS (-1) [(j:Int)].tail) (leaveS (flatC c s) (-1) (pathS (flatC c s) (k:Int)) (-1) (List.replicate s.1.length (-1)) []).1 ((leaveS (flatC c s) (-1) (pathS (flatC c s) (k:Int)) (-1) (List.replicate s.1.length (-1)) []).2++t.Actions)).2=_
 rw[flat_path hk,e2]
 show enterS (flatC c s) (j:Int) (List.replicate s.1.length (-1)) ([]++t.Actions)=_
 rw[flat_enter hj];rfl
theorem Flt.step (F:Flt c s) {k:Nat} (hk:k < s.1.length) {v:Int} (h0:0≤v) :
  (allowedS c v=false∧stepM c (cfgA s k) v=some (⟨0,[]⟩,[],1)∧stepM (flatC c s) (flatG s k) v=some (⟨0,[]⟩,[],1)) ∨
  (allowedS c v=true∧∃ (j:Nat) (a:List (List UInt8)),j < s.1.length∧stepM c (cfgA s k) v=some (cfgA s j,a,0)∧stepM (flatC c s) (flatG s k) v=some (flatG s j,a,0)∧a.length≤8):=by
 have hg:validS c (cfgA s k)=true:=F.inv.ok _ (getD_mem hk)
 have hgf:=flat_valid (c:=c) hk
 have al:allowedS (flatC c s) v=allowedS c v:=rfl
 cases ha:allowedS c v with
 | false =>
  refine .inl ⟨rfl,?_,?_⟩
  ·unfold stepM
   simp only[F.check,Option.bind_some,bne_self,hg,ha,Bool.not_true,Bool.not_false,Bool.false_eq_true,if_false,if_true]
  ·unfold stepM
   simp only[F.checkF,Option.bind_some,bne_self,hgf,al,ha,Bool.not_true,Bool.not_false,Bool.false_eq_true,if_false,if_true]
 | true =>
  obtain⟨n,rfl,hn⟩:=allowed_small (c:=c) (by have:=F.tiny.conds;omega) h0 ha
  have h1:=F.one hk hn ha
  obtain⟨t0,ht0⟩:∃ t0,enabledS c (cfgA s k).Leaf (n:Int)=[t0]:=by
   match hl:enabledS c (cfgA s k).Leaf (n:Int),h1 with
   | [x],_=>exact⟨x,rfl⟩
  have ht1:t0∈enabledS c (cfgA s k).Leaf (n:Int):=by rw[ht0];simp
  obtain⟨t,rfl⟩:∃ t:Nat,t0=(t:Int):=by
   unfold enabledS at ht1
   obtain⟨i,hi,hx⟩:=List.mem_flatMap.1 ht1
   unfold enabG at hx
   split at hx
   ·simp only[List.mem_singleton]at hx;exact⟨i,hx⟩
   ·cases hx
  have hal:aliveB c (cfgA s k).Leaf (t:Int)=true:=by
   refine anyR_iff.2 ⟨n,hn,?_⟩
   unfold aliveV
   rw[ha,Bool.true_and,hasK_iff]
   exact ht1
  obtain⟨htl,hm⟩:=F.next hk hal
  obtain⟨j,j1,j2,j3⟩:=findC_mem hm
  have hac:=F.acts hk htl hal
  have hfl:=F.filt hk hn ha
  rw[ht0]at hfl
  have he:(enabledS (flatC c s) (k:Int) (n:Int)).map (fun j=>(flatC c s).Transitions.getD j.toNat default)=[mkT c s k (t:Int)]:=by
   rw[enabled_trans,flat_path hk]
   exact hfl
  obtain⟨u,hu,hu2⟩:∃ u,enabledS (flatC c s) (k:Int) (n:Int)=[u]∧(flatC c s).Transitions.getD u.toNat default=mkT c s k (t:Int):=by
   have h1:(enabledS (flatC c s) (k:Int) (n:Int)).length=1:=by
    have:=congrArg List.length he
    simpa using this
   obtain⟨u,hu⟩:∃ u,enabledS (flatC c s) (k:Int) (n:Int)=[u]:=by
    match hl:enabledS (flatC c s) (k:Int) (n:Int),h1 with
    | [x],_=>exact⟨x,rfl⟩
   rw[hu]at he
   simp only[List.map_cons,List.map_nil]at he
   injection he with he _
   exact⟨u,hu,he⟩
  refine .inr ⟨rfl,j,(fireR c (cfgA s k) (t:Int)).2.1,j1,?_,?_,hac⟩
  ·unfold stepM
   simp only[F.check,Option.bind_some,bne_self,hg,ha,ht0,Bool.not_true,Bool.false_eq_true,if_false,List.length_cons,List.length_nil,show (((0+1:Nat):Int)==0)=false from rfl,show (((0+1:Nat):Int)==1)=true from rfl,if_true]
   show some (fireR c (cfgA s k) (t:Int))=_
   have:cfgA s j=(fireR c (cfgA s k) (t:Int)).1:=j3
   rw[this];rfl
  ·have e1:enabledS (flatC c s) (flatG s k).Leaf (n:Int)=[u]:=hu
   unfold stepM
   simp only[F.checkF,Option.bind_some,bne_self,hgf,al,ha,e1,Bool.not_true,Bool.false_eq_true,if_false,List.length_cons,List.length_nil,show (((0+1:Nat):Int)==0)=false from rfl,show (((0+1:Nat):Int)==1)=true from rfl,if_true]
   show some (fireR (flatC c s) (flatG s k) u)=_
   unfold fireR
   rw[hu2,flat_fire hk j1 (t:=mkT c s k (t:Int)) rfl j2]
   rfl
theorem Flt.run (F:Flt c s):∀ {l:List Int} {k:Nat} {ls ls':List Int} {a a':List (List UInt8)},(∀ v∈l,0≤v)→k < s.1.length→ls.length=ls'.length →
  (∃ e,e≠0∧runS c l (cfgA s k) ls a=some ([],[],e)∧runS (flatC c s) l (flatG s k) ls' a'=some ([],[],e)) ∨
  ∃ x y b,x.length=y.length∧b.length≤8 * l.length∧runS c l (cfgA s k) ls a=some (x,a++b,0)∧runS (flatC c s) l (flatG s k) ls' a'=some (y,a'++b,0)
 | [],k,ls,ls',a,a',_,_,hl=>.inr ⟨ls,ls',[],hl,by simp,by simp[runS],by simp[runS]⟩
 | v :: l,k,ls,ls',a,a',hv,hk,hl=>by
  rcases F.step hk (hv v (by simp)) with⟨_,h1,h2⟩ | ⟨_,j,b,hj,h1,h2,hb⟩
  ·refine .inl ⟨1,by decide,?_,?_⟩
   ·unfold runS;rw[h1];rfl
   ·unfold runS;rw[h2];rfl
  ·have e1:runS c (v :: l) (cfgA s k) ls a=runS c l (cfgA s j) (ls++[(cfgA s j).Leaf]) (a++b):=by
    conv=>lhs;unfold runS
    rw[h1];rfl
   have e2:runS (flatC c s) (v :: l) (flatG s k) ls' a'=runS (flatC c s) l (flatG s j) (ls'++[(flatG s j).Leaf]) (a'++b):=by
    conv=>lhs;unfold runS
    rw[h2];rfl
   rw[e1,e2]
   rcases F.run (l:=l) (k:=j) (ls:=ls++[(cfgA s j).Leaf]) (ls':=ls'++[(flatG s j).Leaf]) (a:=a++b) (a':=a'++b) (fun w hw=>hv w (by simp[hw])) hj (by simp[hl]) with h | ⟨x,y,b2,g1,g2,g3,g4⟩
   ·exact .inl h
   ·refine .inr ⟨x,y,b++b2,g1,by rw[List.length_append,List.length_cons];omega,by rw[g3,List.append_assoc],by rw[g4,List.append_assoc]⟩
theorem Flt.beg (F:Flt c s):begG c=cfgA s 0∧begG (flatC c s)=flatG s 0:=by
 refine⟨F.wy.i0.symm,?_⟩
 unfold begG
 rw[flat_start F];rfl
theorem Flt.runM (F:Flt c s) {l:List Int} (hv:∀ v∈l,0≤v):(∃ e,e≠0∧runM c l=some ([],[],e)∧Ch.runM (flatC c s) l=some ([],[],e)) ∨
  ∃ x y b,x.length=y.length∧b.length≤8 * l.length∧Ch.runM c l=some (x,(startS c).2.2++b,0)∧Ch.runM (flatC c s) l=some (y,b,0):=by
 have st:∀ d:T27,checkM d=some 0→Ch.runM d l=runS d l (begG d) [(startS d).1] (startS d).2.2:=fun d hd=>by
  unfold Ch.runM startM
  rw[hd];rfl
 have P:=F.inv.pos
 rw[st c F.check,st _ F.checkF,F.beg.1,F.beg.2]
 rcases F.run (l:=l) (k:=0) (ls:=[(startS c).1]) (ls':=[(startS (flatC c s)).1]) (a:=(startS c).2.2) (a':=(startS (flatC c s)).2.2) hv P rfl with h | ⟨x,y,b,g1,g2,g3,g4⟩
 ·exact .inl h
 ·refine .inr ⟨x,y,b,g1,g2,g3,?_⟩
  rw[g4,flat_start F];rfl
end
end Go.Av
set_option maxRecDepth 1000000
namespace Go.Av.Mo
theorem M91 (a0:T129) (a1:Int):m91 a0 a1=((Option.bind (Option.bind (Option.bind (m134 a0) fun r=>some r) fun x1=>(if(!x1)=true then(some (.inr (((⟨(0:Int),(0:Int),(0:Int)⟩:T129),[],(8:Int)))))else(Option.bind (((m135 ).bind fun r3_0=>(if 0≤(r3_0.length:Int)then some r3_0 else none))) fun(x3:((List (List UInt8))))=>(if((Int.fdiv a1 (2 ^ (min (x3.length:Int).toNat (IntKind.bits .u32)))) != 0)=true then(some (.inr (((⟨(0:Int),(0:Int),(0:Int)⟩:T129),[],(1:Int)))))else(some (.inl ())))))) (onS fun(_:Unit)=>(Option.bind (Option.bind (some (.inl ())) (onS fun(_:Unit)=>(Option.bind (Option.bind (some (.inl ())) (onS fun(_:Unit)=>(Option.bind (some (.inl ())) (onS fun(_:Unit)=>(Option.bind (Option.bind (Option.bind (Option.bind (m136 (1:Int)) fun r=>some r) fun x11=>(Option.bind (Option.bind (m137 x11.1 a1) fun r=>some r) fun x12=>(some (.inl (x12.1,x12.2,x11.1))))) (onS fun(y1:Int×Bool×T27)=>(Option.bind (Option.bind (some (.inl ())) (onS fun(_:Unit)=>(if(!y1.2.1)=true then(some (.inr (.inr (.inr (.inr (((⟨(0:Int),(0:Int),(0:Int)⟩:T129),[],(11:Int))))))))else(some (.inl ()))))) (onS fun(_:Unit)=>(some (.inl (y1.2.2,y1.1))))))) (onS fun(y2:T27×Int)=>(some (.inl (y2.1,y2.2))))))))) (onS fun(y3:T27×Int)=>(Option.bind (Option.bind (some (.inl ())) (onS fun(_:Unit)=>(Option.bind (some (.inl ())) (onS fun(_:Unit)=>(Option.bind (Option.bind (Option.bind (Option.bind (m136 (2:Int)) fun r=>some r) fun x11=>(Option.bind (Option.bind (m137 x11.1 a1) fun r=>some r) fun x12=>(some (.inl (x12.1,x12.2,x11.1))))) (onS fun(y4:Int×Bool×T27)=>(Option.bind (Option.bind (some (.inl ())) (onS fun(_:Unit)=>(if(!y4.2.1)=true then(some (.inr (.inr (.inr (.inr (((⟨(0:Int),(0:Int),(0:Int)⟩:T129),[],(11:Int))))))))else(some (.inl ()))))) (onS fun(_:Unit)=>(some (.inl (y4.2.2,y4.1))))))) (onS fun(y5:T27×Int)=>(some (.inl (y5.1,y5.2))))))))) (onS fun(y6:T27×Int)=>(Option.bind (Option.bind (some (.inl ())) (onS fun(_:Unit)=>(Option.bind (some (.inl ())) (onS fun(_:Unit)=>(Option.bind (Option.bind (Option.bind (Option.bind (m136 (3:Int)) fun r=>some r) fun x11=>(Option.bind (Option.bind (m137 x11.1 a1) fun r=>some r) fun x12=>(some (.inl (x12.1,x12.2,x11.1))))) (onS fun(y7:Int×Bool×T27)=>(Option.bind (Option.bind (some (.inl ())) (onS fun(_:Unit)=>(if(!y7.2.1)=true then(some (.inr (.inr (.inr (.inr (((⟨(0:Int),(0:Int),(0:Int)⟩:T129),[],(11:Int))))))))else(some (.inl ()))))) (onS fun(_:Unit)=>(some (.inl (y7.2.2,y7.1))))))) (onS fun(y8:T27×Int)=>(some (.inl (y8.1,y8.2))))))))) (onS fun(y9:T27×Int)=>(Option.bind (Option.bind (some (.inl ())) (onS fun(_:Unit)=>(Option.bind (some (.inr (.inr (.inl (y3.1,y6.1,y9.1,y3.2,y6.2,y9.2))))) onE))) onE))))))))) (onS fun(y10:T27×T27×T27×Int×Int×Int)=>(Option.bind (some (.inl ())) (onS fun(_:Unit)=>(Option.bind (Option.bind (some (.inl ())) (onS fun(_:Unit)=>(Option.bind (Option.bind (some (.inl ())) (onS fun(_:Unit)=>(Option.bind (some (.inl ())) (onS fun(_:Unit)=>(Option.bind (Option.bind (Option.bind (Option.bind (m64 ([(-1:Int)]:List Int) (y10.1.States.length:Int)) fun r=>some r) fun x22=>(Option.bind (Option.bind (m29 y10.1 (⟨(IntKind.wrap .i64 (a0.Lateral)),x22⟩:T37) y10.2.2.2.1) fun r=>some r) fun x23=>(some (.inl (x23.2.1,x23.2.2,x23.1))))) (onS fun(y11:(List (List UInt8))×Int×T37)=>(Option.bind (Option.bind (some (.inl ())) (onS fun(_:Unit)=>(if(y11.2.1 != 0)=true then(some (.inr (.inr (.inr (.inr (((⟨(0:Int),(0:Int),(0:Int)⟩:T129),[],y11.2.1)))))))else(some (.inl ()))))) (onS fun(_:Unit)=>(if(y11.1.length * 16≤140737488355328)then(some (.inl (y11.1,(IntKind.wrap .u8 (y11.2.2.Leaf)))))else none))))) (onS fun(y12:(List (List UInt8))×Int)=>(some (.inl (y12.1,y12.2))))))))) (onS fun(y13:(List (List UInt8))×Int)=>(Option.bind (Option.bind (some (.inl ())) (onS fun(_:Unit)=>(Option.bind (some (.inl ())) (onS fun(_:Unit)=>(Option.bind (Option.bind (Option.bind (Option.bind (m64 ([(-1:Int)]:List Int) (y10.2.1.States.length:Int)) fun r=>some r) fun x22=>(Option.bind (Option.bind (m29 y10.2.1 (⟨(IntKind.wrap .i64 (a0.Vertical)),x22⟩:T37) y10.2.2.2.2.1) fun r=>some r) fun x23=>(some (.inl (x23.2.1,x23.2.2,x23.1))))) (onS fun(y14:(List (List UInt8))×Int×T37)=>(Option.bind (Option.bind (some (.inl ())) (onS fun(_:Unit)=>(if(y14.2.1 != 0)=true then(some (.inr (.inr (.inr (.inr (((⟨(0:Int),(0:Int),(0:Int)⟩:T129),[],y14.2.1)))))))else(some (.inl ()))))) (onS fun(_:Unit)=>(if((y13.1.length+y14.1.length) * 16≤140737488355328)then(some (.inl ((y13.1++y14.1),(IntKind.wrap .u8 (y14.2.2.Leaf)))))else none))))) (onS fun(y15:(List (List UInt8))×Int)=>(some (.inl (y15.1,y15.2))))))))) (onS fun(y16:(List (List UInt8))×Int)=>(Option.bind (Option.bind (some (.inl ())) (onS fun(_:Unit)=>(Option.bind (some (.inl ())) (onS fun(_:Unit)=>(Option.bind (Option.bind (Option.bind (Option.bind (m64 ([(-1:Int)]:List Int) (y10.2.2.1.States.length:Int)) fun r=>some r) fun x22=>(Option.bind (Option.bind (m29 y10.2.2.1 (⟨(IntKind.wrap .i64 (a0.Phase)),x22⟩:T37) y10.2.2.2.2.2) fun r=>some r) fun x23=>(some (.inl (x23.2.1,x23.2.2,x23.1))))) (onS fun(y17:(List (List UInt8))×Int×T37)=>(Option.bind (Option.bind (some (.inl ())) (onS fun(_:Unit)=>(if(y17.2.1 != 0)=true then(some (.inr (.inr (.inr (.inr (((⟨(0:Int),(0:Int),(0:Int)⟩:T129),[],y17.2.1)))))))else(some (.inl ()))))) (onS fun(_:Unit)=>(if((y16.1.length+y17.1.length) * 16≤140737488355328)then(some (.inl ((y16.1++y17.1),(IntKind.wrap .u8 (y17.2.2.Leaf)))))else none))))) (onS fun(y18:(List (List UInt8))×Int)=>(some (.inl (y18.1,y18.2))))))))) (onS fun(y19:(List (List UInt8))×Int)=>(Option.bind (Option.bind (some (.inl ())) (onS fun(_:Unit)=>(Option.bind (some (.inr (.inr (.inl (y19.1,y13.2,y16.2,y19.2))))) onE))) onE))))))))) (onS fun(y20:(List (List UInt8))×Int×Int×Int)=>(some ((⟨y20.2.1,y20.2.2.1,y20.2.2.2⟩:T129),y20.1,(0:Int))))))))))):Option (T129×(List (List UInt8))×Int)):=by kernel_rfl
theorem Step_of {l v p b:Int} {c1 c2 c3:T27} {v1 v2 v3:Int} {g1 g2 g3:T37×List (List UInt8)×Int} {nl:List (List UInt8)} {q1 q2 q3:List Int}
  (e0:m134 ⟨l,v,p⟩=some true) (en:m135=some nl) (hn:(0:Int)≤(nl.length:Int)) (hs:(Int.fdiv b (2 ^ (min (nl.length:Int).toNat (IntKind.bits .u32))) != (0:Int))=false)
  (r1:m136 1=some (c1,0)) (r2:m136 2=some (c2,0)) (r3:m136 3=some (c3,0)) (w1:m137 c1 b=some (v1,true)) (w2:m137 c2 b=some (v2,true)) (w3:m137 c3 b=some (v3,true))
  (p1:m64 ([-1]:List Int) (c1.States.length:Int)=some q1) (p2:m64 ([-1]:List Int) (c2.States.length:Int)=some q2) (p3:m64 ([-1]:List Int) (c3.States.length:Int)=some q3)
  (s1:m29 c1 ⟨l,q1⟩ v1=some g1) (s2:m29 c2 ⟨v,q2⟩ v2=some g2) (s3:m29 c3 ⟨p,q3⟩ v3=some g3) (o1:g1.2.2=0) (o2:g2.2.2=0) (o3:g3.2.2=0)
  (f1:g1.2.1.length≤100000) (f2:g2.2.1.length≤100000) (f3:g3.2.1.length≤100000) (hl:0≤l∧l < 256) (hv:0≤v∧v < 256) (hp:0≤p∧p < 256)
  (k1:0≤g1.1.Leaf∧g1.1.Leaf < 256) (k2:0≤g2.1.Leaf∧g2.1.Leaf < 256) (k3:0≤g3.1.Leaf∧g3.1.Leaf < 256) :
  m91 ⟨l,v,p⟩ b=some (⟨g1.1.Leaf,g2.1.Leaf,g3.1.Leaf⟩,g1.2.1++g2.2.1++g3.2.1,0):=by
 have z1:IntKind.wrap .i64 l=l:=w64 (by omega) (by omega)
 have z2:IntKind.wrap .i64 v=v:=w64 (by omega) (by omega)
 have z3:IntKind.wrap .i64 p=p:=w64 (by omega) (by omega)
 have k1:IntKind.wrap .u8 g1.1.Leaf=g1.1.Leaf:=IntWalk.u8_in _ (by omega)
 have k2:IntKind.wrap .u8 g2.1.Leaf=g2.1.Leaf:=IntWalk.u8_in _ (by omega)
 have k3:IntKind.wrap .u8 g3.1.Leaf=g3.1.Leaf:=IntWalk.u8_in _ (by omega)
 have m1:g1.2.1.length * 16≤140737488355328:=by omega
 have m2:(g1.2.1.length+g2.2.1.length) * 16≤140737488355328:=by omega
 have m3:((g1.2.1++g2.2.1).length+g3.2.1.length) * 16≤140737488355328:=by rw[List.length_append];omega
 simp only[M91,bind_id]
 generalize m136=F at r1 r2 r3 ⊢
 generalize m137=G at w1 w2 w3 ⊢
 generalize m29=S at s1 s2 s3 ⊢
 generalize m64=Q at p1 p2 p3 ⊢
 generalize m134=V at e0 ⊢
 generalize m135=M at en ⊢
 simp only[e0,en,hn,hs,r1,w1,r2,w2,r3,w3,p1,p2,p3,z1,z2,z3,s1,s2,s3,o1,o2,o3,m1,m2,m3,k1,k2,k3,
  bs,ol,or_,oe,bne_self_eq_false,Bool.not_true,Bool.not_false,Bool.true_and,Bool.false_and,Bool.false_eq_true,if_false,if_true]
end Go.Av.Mo
namespace Go.Av.Mo
def C1:T27:=⟨[76,65,84,69,82,65,76],[[71,82,79,85,78,68],[72,69,65,68,73,78,71],[78,65,86],[82,69,65,68,89],[90,79,78,69],[70,73,78,65,76],[71,79]],[],[⟨[79,78],(-1),1,false,[],[]⟩,⟨[82,79,76,76],0,(-1),false,[],[]⟩,⟨[72,69,65,68,73,78,71],0,(-1),false,[],[]⟩,⟨[65,82,77,69,68],0,(-1),false,[],[]⟩,⟨[78,65,86],0,(-1),false,[],[]⟩,⟨[65,80,80,82,79,65,67,72],0,(-1),false,[],[]⟩,⟨[71,79,65,82,79,85,78,68],0,(-1),false,[],[]⟩],1,[⟨0,1,[⟨0,false⟩],[]⟩,⟨0,6,[⟨0,true⟩,⟨6,false⟩],[]⟩,⟨0,2,[⟨0,true⟩,⟨1,false⟩,⟨6,true⟩],[]⟩,⟨1,1,[⟨0,true⟩,⟨1,true⟩,⟨2,true⟩,⟨6,true⟩],[]⟩,⟨1,1,[⟨0,true⟩,⟨1,true⟩,⟨2,false⟩,⟨3,true⟩,⟨6,true⟩],[]⟩,⟨1,3,[⟨0,true⟩,⟨1,true⟩,⟨2,false⟩,⟨3,false⟩,⟨4,true⟩,⟨6,true⟩],[]⟩,⟨1,4,[⟨0,true⟩,⟨1,true⟩,⟨2,false⟩,⟨3,false⟩,⟨4,false⟩,⟨5,true⟩,⟨6,true⟩],[[67,65,80,84,85,82,69,68]]⟩,⟨1,5,[⟨0,true⟩,⟨1,true⟩,⟨2,false⟩,⟨3,false⟩,⟨4,false⟩,⟨5,false⟩,⟨6,true⟩],[[67,65,80,84,85,82,69,68]]⟩,⟨2,2,[⟨0,true⟩,⟨1,true⟩,⟨2,true⟩,⟨6,true⟩],[]⟩,⟨2,2,[⟨0,true⟩,⟨1,true⟩,⟨2,false⟩,⟨3,true⟩,⟨6,true⟩],[]⟩,⟨2,3,[⟨0,true⟩,⟨1,true⟩,⟨2,false⟩,⟨3,false⟩,⟨4,true⟩,⟨6,true⟩],[]⟩,⟨2,4,[⟨0,true⟩,⟨1,true⟩,⟨2,false⟩,⟨3,false⟩,⟨4,false⟩,⟨5,true⟩,⟨6,true⟩],[[67,65,80,84,85,82,69,68]]⟩,⟨2,5,[⟨0,true⟩,⟨1,true⟩,⟨2,false⟩,⟨3,false⟩,⟨4,false⟩,⟨5,false⟩,⟨6,true⟩],[[67,65,80,84,85,82,69,68]]⟩,⟨3,2,[⟨0,true⟩,⟨1,true⟩,⟨3,true⟩,⟨6,true⟩],[[76,65,84,82,69,86]]⟩,⟨3,3,[⟨0,true⟩,⟨1,true⟩,⟨3,false⟩,⟨4,true⟩,⟨6,true⟩],[]⟩,⟨3,4,[⟨0,true⟩,⟨1,true⟩,⟨3,false⟩,⟨4,false⟩,⟨5,true⟩,⟨6,true⟩],[[67,65,80,84,85,82,69,68]]⟩,⟨3,5,[⟨0,true⟩,⟨1,true⟩,⟨3,false⟩,⟨4,false⟩,⟨5,false⟩,⟨6,true⟩],[[67,65,80,84,85,82,69,68]]⟩,⟨4,2,[⟨0,true⟩,⟨1,true⟩,⟨3,true⟩,⟨6,true⟩],[[76,65,84,82,69,86]]⟩,⟨4,4,[⟨0,true⟩,⟨1,true⟩,⟨3,false⟩,⟨5,true⟩,⟨6,true⟩],[]⟩,⟨4,5,[⟨0,true⟩,⟨1,true⟩,⟨3,false⟩,⟨5,false⟩,⟨6,true⟩],[]⟩,⟨5,2,[⟨0,true⟩,⟨1,true⟩,⟨3,true⟩,⟨6,true⟩],[[76,65,84,82,69,86]]⟩,⟨5,4,[⟨0,true⟩,⟨1,true⟩,⟨3,false⟩,⟨5,true⟩,⟨6,true⟩],[]⟩,⟨5,5,[⟨0,true⟩,⟨1,true⟩,⟨3,false⟩,⟨5,false⟩,⟨6,true⟩],[]⟩,⟨6,6,[⟨0,true⟩,⟨1,true⟩,⟨2,true⟩,⟨6,true⟩],[]⟩,⟨6,6,[⟨0,true⟩,⟨1,true⟩,⟨2,false⟩,⟨3,true⟩,⟨6,true⟩],[]⟩,⟨6,3,[⟨0,true⟩,⟨1,true⟩,⟨2,false⟩,⟨3,false⟩,⟨4,true⟩,⟨6,true⟩],[]⟩,⟨6,4,[⟨0,true⟩,⟨1,true⟩,⟨2,false⟩,⟨3,false⟩,⟨4,false⟩,⟨5,true⟩,⟨6,true⟩],[[67,65,80,84,85,82,69,68]]⟩,⟨6,5,[⟨0,true⟩,⟨1,true⟩,⟨2,false⟩,⟨3,false⟩,⟨4,false⟩,⟨5,false⟩,⟨6,true⟩],[[67,65,80,84,85,82,69,68]]⟩]⟩
def C2:T27:=⟨[86,69,82,84,73,67,65,76],[[71,82,79,85,78,68],[82,69,65,68,89],[70,73,78,65,76],[71,79],[72,79,76,68],[83,80,69,69,68],[67,72,65,78,71,69],[65,66,79,86,69],[84,65,75,69],[78,69,65,82],[65,84]],[[⟨1,true⟩,⟨8,false⟩],[⟨9,true⟩,⟨10,false⟩]],[⟨[79,78],(-1),1,false,[],[]⟩,⟨[72,79,76,68],0,(-1),false,[],[]⟩,⟨[67,76,73,77,66],0,(-1),false,[],[]⟩,⟨[68,69,83,67,69,78,68],0,(-1),false,[],[]⟩,⟨[83,80,69,69,68],0,(-1),false,[],[]⟩,⟨[67,65,80,84,85,82,69],0,(-1),false,[],[]⟩,⟨[80,65,84,72],0,(-1),false,[],[]⟩,⟨[71,76,73,68,69],0,(-1),false,[],[]⟩,⟨[71,79,65,82,79,85,78,68],0,(-1),false,[],[]⟩],1,[⟨0,1,[⟨0,false⟩],[]⟩,⟨0,8,[⟨0,true⟩,⟨3,false⟩],[]⟩,⟨0,1,[⟨0,true⟩,⟨3,true⟩,⟨4,false⟩],[]⟩,⟨0,4,[⟨0,true⟩,⟨3,true⟩,⟨4,true⟩,⟨5,false⟩],[]⟩,⟨0,2,[⟨0,true⟩,⟨3,true⟩,⟨4,true⟩,⟨5,true⟩,⟨6,false⟩,⟨7,false⟩],[]⟩,⟨0,3,[⟨0,true⟩,⟨3,true⟩,⟨4,true⟩,⟨5,true⟩,⟨6,false⟩,⟨7,true⟩],[]⟩,⟨0,6,[⟨0,true⟩,⟨2,true⟩,⟨3,true⟩,⟨4,true⟩,⟨5,true⟩,⟨6,true⟩,⟨8,false⟩],[[67,65,80,84,85,82,69,68]]⟩,⟨0,7,[⟨0,true⟩,⟨2,false⟩,⟨3,true⟩,⟨4,true⟩,⟨5,true⟩,⟨6,true⟩,⟨8,false⟩],[[67,65,80,84,85,82,69,68]]⟩,⟨1,1,[⟨0,true⟩,⟨3,true⟩,⟨4,true⟩,⟨5,true⟩,⟨6,true⟩,⟨8,true⟩],[]⟩,⟨2,5,[⟨0,true⟩,⟨3,true⟩,⟨4,true⟩,⟨5,true⟩,⟨6,true⟩,⟨8,true⟩,⟨9,false⟩],[]⟩,⟨2,2,[⟨0,true⟩,⟨3,true⟩,⟨4,true⟩,⟨5,true⟩,⟨6,true⟩,⟨8,true⟩,⟨9,true⟩],[]⟩,⟨3,5,[⟨0,true⟩,⟨3,true⟩,⟨4,true⟩,⟨5,true⟩,⟨6,true⟩,⟨8,true⟩,⟨9,false⟩],[]⟩,⟨3,3,[⟨0,true⟩,⟨3,true⟩,⟨4,true⟩,⟨5,true⟩,⟨6,true⟩,⟨8,true⟩,⟨9,true⟩],[]⟩,⟨4,5,[⟨0,true⟩,⟨3,true⟩,⟨4,true⟩,⟨5,true⟩,⟨6,true⟩,⟨8,true⟩,⟨9,false⟩],[]⟩,⟨4,4,[⟨0,true⟩,⟨3,true⟩,⟨4,true⟩,⟨5,true⟩,⟨6,true⟩,⟨8,true⟩,⟨9,true⟩],[]⟩,⟨5,1,[⟨0,true⟩,⟨3,true⟩,⟨4,true⟩,⟨5,true⟩,⟨6,true⟩,⟨8,true⟩,⟨10,false⟩],[]⟩,⟨5,5,[⟨0,true⟩,⟨3,true⟩,⟨4,true⟩,⟨5,true⟩,⟨6,true⟩,⟨8,true⟩,⟨9,false⟩,⟨10,true⟩],[]⟩,⟨5,2,[⟨0,true⟩,⟨3,true⟩,⟨4,true⟩,⟨5,true⟩,⟨6,true⟩,⟨7,false⟩,⟨8,true⟩,⟨9,true⟩,⟨10,true⟩],[[79,86,69,82,83,72,79,84]]⟩,⟨5,3,[⟨0,true⟩,⟨3,true⟩,⟨4,true⟩,⟨5,true⟩,⟨6,true⟩,⟨7,true⟩,⟨8,true⟩,⟨9,true⟩,⟨10,true⟩],[[79,86,69,82,83,72,79,84]]⟩,⟨6,1,[⟨0,true⟩,⟨1,true⟩,⟨3,true⟩,⟨4,true⟩,⟨5,true⟩,⟨6,true⟩,⟨8,true⟩],[[86,69,82,84,82,69,86]]⟩,⟨6,6,[⟨0,true⟩,⟨1,false⟩,⟨2,true⟩,⟨3,true⟩,⟨4,true⟩,⟨5,true⟩,⟨6,true⟩,⟨8,true⟩],[]⟩,⟨6,7,[⟨0,true⟩,⟨1,false⟩,⟨2,false⟩,⟨3,true⟩,⟨4,true⟩,⟨5,true⟩,⟨6,true⟩,⟨8,true⟩],[]⟩,⟨7,1,[⟨0,true⟩,⟨1,true⟩,⟨3,true⟩,⟨4,true⟩,⟨5,true⟩,⟨6,true⟩,⟨8,true⟩],[[86,69,82,84,82,69,86]]⟩,⟨7,6,[⟨0,true⟩,⟨1,false⟩,⟨2,true⟩,⟨3,true⟩,⟨4,true⟩,⟨5,true⟩,⟨6,true⟩,⟨8,true⟩],[]⟩,⟨7,7,[⟨0,true⟩,⟨1,false⟩,⟨2,false⟩,⟨3,true⟩,⟨4,true⟩,⟨5,true⟩,⟨6,true⟩,⟨8,true⟩],[]⟩,⟨8,5,[⟨0,true⟩,⟨3,true⟩,⟨4,true⟩,⟨5,true⟩,⟨6,true⟩,⟨8,true⟩,⟨9,false⟩],[]⟩,⟨8,8,[⟨0,true⟩,⟨3,true⟩,⟨4,true⟩,⟨5,true⟩,⟨6,true⟩,⟨8,true⟩,⟨9,true⟩],[]⟩]⟩
def C3:T27:=⟨[80,72,65,83,69],[[71,82,79,85,78,68],[70,73,78,65,76],[71,79],[84,72,82,85,83,84],[65,67,67,69,76],[76,69,86,69,76],[68,79,87,78],[83,84,79,80,80,69,68]],[[⟨0,false⟩,⟨4,false⟩],[⟨0,true⟩,⟨7,false⟩]],[⟨[65,73,82],(-1),3,false,[],[]⟩,⟨[80,82,69,70,76,84],(-1),(-1),false,[],[]⟩,⟨[84,65,75,69,79,70,70],(-1),(-1),false,[],[]⟩,⟨[67,76,73,77,66],0,(-1),false,[],[]⟩,⟨[67,82,85,73,83,69],0,(-1),false,[],[]⟩,⟨[68,69,83,67,69,78,84],0,(-1),false,[],[]⟩,⟨[65,80,80,82,79,65,67,72],0,(-1),false,[],[]⟩,⟨[71,79,65,82,79,85,78,68],0,(-1),false,[],[]⟩,⟨[76,65,78,68,69,68],(-1),(-1),false,[],[]⟩],1,[⟨0,8,[⟨0,false⟩],[[76,65,78,68,73,78,71]]⟩,⟨0,7,[⟨0,true⟩,⟨2,false⟩],[]⟩,⟨1,3,[⟨0,true⟩],[]⟩,⟨1,2,[⟨0,false⟩,⟨3,false⟩],[]⟩,⟨1,1,[⟨0,false⟩,⟨3,true⟩],[]⟩,⟨2,2,[⟨0,false⟩,⟨3,false⟩],[]⟩,⟨2,1,[⟨0,false⟩,⟨3,true⟩],[[82,69,74,69,67,84,69,68]]⟩,⟨2,2,[⟨0,true⟩,⟨4,true⟩],[]⟩,⟨2,0,[⟨0,true⟩,⟨4,false⟩],[]⟩,⟨3,6,[⟨0,true⟩,⟨1,false⟩,⟨2,true⟩],[]⟩,⟨3,4,[⟨0,true⟩,⟨1,true⟩,⟨2,true⟩,⟨5,false⟩],[]⟩,⟨3,5,[⟨0,true⟩,⟨1,true⟩,⟨2,true⟩,⟨5,true⟩,⟨6,false⟩],[]⟩,⟨3,3,[⟨0,true⟩,⟨1,true⟩,⟨2,true⟩,⟨5,true⟩,⟨6,true⟩],[]⟩,⟨4,6,[⟨0,true⟩,⟨1,false⟩,⟨2,true⟩],[]⟩,⟨4,5,[⟨0,true⟩,⟨1,true⟩,⟨2,true⟩,⟨6,false⟩],[]⟩,⟨4,4,[⟨0,true⟩,⟨1,true⟩,⟨2,true⟩,⟨5,false⟩,⟨6,true⟩],[]⟩,⟨4,3,[⟨0,true⟩,⟨1,true⟩,⟨2,true⟩,⟨5,true⟩,⟨6,true⟩],[]⟩,⟨5,6,[⟨0,true⟩,⟨1,false⟩,⟨2,true⟩],[]⟩,⟨5,5,[⟨0,true⟩,⟨1,true⟩,⟨2,true⟩,⟨6,false⟩],[]⟩,⟨5,4,[⟨0,true⟩,⟨1,true⟩,⟨2,true⟩,⟨5,false⟩,⟨6,true⟩],[]⟩,⟨5,3,[⟨0,true⟩,⟨1,true⟩,⟨2,true⟩,⟨5,true⟩,⟨6,true⟩],[]⟩,⟨6,6,[⟨0,true⟩,⟨1,false⟩,⟨2,true⟩],[]⟩,⟨6,5,[⟨0,true⟩,⟨1,true⟩,⟨2,true⟩,⟨6,false⟩],[]⟩,⟨6,3,[⟨0,true⟩,⟨1,true⟩,⟨2,true⟩,⟨6,true⟩],[]⟩,⟨7,7,[⟨0,true⟩,⟨2,true⟩,⟨4,true⟩],[]⟩,⟨7,3,[⟨0,true⟩,⟨1,true⟩,⟨2,true⟩,⟨4,false⟩],[]⟩,⟨7,6,[⟨0,true⟩,⟨1,false⟩,⟨2,true⟩,⟨4,false⟩],[]⟩,⟨8,3,[⟨0,true⟩],[[84,79,85,67,72,71,79]]⟩,⟨8,2,[⟨0,false⟩,⟨3,false⟩],[]⟩,⟨8,1,[⟨0,false⟩,⟨3,true⟩,⟨7,false⟩],[]⟩,⟨8,8,[⟨0,false⟩,⟨3,true⟩,⟨7,true⟩],[]⟩]⟩
end Go.Av.Mo
set_option maxRecDepth 1000000
namespace Go.Av.Mo
theorem read1:(m136 1)=some (C1,0):=by kernel_rfl
end Go.Av.Mo
set_option maxRecDepth 1000000
namespace Go.Av.Mo
theorem read2:(m136 2)=some (C2,0):=by kernel_rfl
end Go.Av.Mo
set_option maxRecDepth 1000000
namespace Go.Av.Mo
theorem read3:(m136 3)=some (C3,0):=by kernel_rfl
end Go.Av.Mo
set_option maxRecDepth 1000000
namespace Go.Av.Mo
theorem M39:m39  = ((Option.bind (((m92 ).bind fun r1_0=>((m91 r1_0 (16385:Int)).bind fun r1_1=>some (r1_0,r1_1)))) fun(x1:(T129×(T129×(List (List UInt8))×Int)))=>(some ((x1.2.1.Phase==2)&&(x1.2.2.2==0)))):Option (Bool)):=by kernel_rfl
theorem names_len:∃ nl,m135=some nl∧nl.length=19:=⟨(m135).getD [],by kernel_rfl,by kernel_rfl⟩
theorem wakeS1:m91 ⟨1,1,1⟩ 16385=some (⟨1,1,2⟩,[],0):=by
 obtain⟨nl,hn,hl⟩:=names_len
 exact Step_of (g1:=(⟨1,[-1,-1,-1,-1,-1,-1,-1]⟩,[],0)) (g2:=(⟨1,[-1,-1,-1,-1,-1,-1,-1,-1,-1]⟩,[],0)) (g3:=(⟨2,[-1,-1,-1,-1,-1,-1,-1,-1,-1]⟩,[],0)) (v1:=1) (v2:=1) (v3:=9) (q1:=[-1,-1,-1,-1,-1,-1,-1]) (q2:=[-1,-1,-1,-1,-1,-1,-1,-1,-1]) (q3:=[-1,-1,-1,-1,-1,-1,-1,-1,-1]) (by kernel_rfl) hn (by omega) (by rw[hl];rfl) read1 read2 read3 (by kernel_rfl) (by kernel_rfl) (by kernel_rfl) (by kernel_rfl) (by kernel_rfl) (by kernel_rfl) (by kernel_rfl) (by kernel_rfl) (by kernel_rfl) rfl rfl rfl (by decide) (by decide) (by decide) (by decide) (by decide) (by decide) (by decide) (by decide) (by decide)
theorem start_eq:m92=some ⟨1,1,1⟩:=by kernel_rfl
theorem mAwake_true:m39=some true:=by
 have e1:=wakeS1
 have e5:=start_eq
 simp only[M39,bind_id]
 generalize m91=F at e1 ⊢
 generalize m92=S at e5 ⊢
 simp only[e5,bs,e1]
 rfl
end Go.Av.Mo
