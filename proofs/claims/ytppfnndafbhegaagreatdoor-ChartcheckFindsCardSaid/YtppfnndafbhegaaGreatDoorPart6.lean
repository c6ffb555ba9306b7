/- A part of the proof. -/
import Derived.Test.YtppfnndafbhegaaGreatDoorPart5
set_option linter.unusedVariables false
set_option linter.unusedSimpArgs false
namespace Go.Av
def firstR {Y:Type} (f:Nat→Option Y) (n:Nat):Option Y:=(List.range n).findSome? f
theorem firstR_succ {Y:Type} {f:Nat→Option Y} {n:Nat}:firstR f (n+1)=match firstR f n with | some y=>some y | none=>f n:=by
 unfold firstR
 rw[List.range_succ,List.findSome?_append]
 cases (List.range n).findSome? f with
 | some y=>rfl
 | none=>simp
theorem firstR_none {Y:Type} {f:Nat→Option Y} {n:Nat}:firstR f n=none↔∀ i,i < n→f i=none:=by
 unfold firstR
 rw[List.findSome?_eq_none_iff]
 exact⟨fun h i hi=>h i (List.mem_range.2 hi),fun h i hi=>h i (List.mem_range.1 hi)⟩
theorem firstR_some {Y:Type} {f:Nat→Option Y} {n:Nat} {y:Y} (h:firstR f n=some y):∃ i,i < n∧f i=some y:=by
 unfold firstR at h
 obtain⟨i,hi,h⟩:=List.exists_of_findSome?_eq_some h
 exact⟨i,List.mem_range.1 hi,h⟩
theorem firstR_at {Y:Type} {f:Nat→Option Y} {n i:Nat} {y:Y} (hi:i < n) (h0:∀ j,j < i→f j=none) (h:f i=some y):firstR f n=some y:=by
 induction n with
 | zero=>omega
 | succ n ih =>
  rw[firstR_succ]
  by_cases hn:i < n
  ·rw[ih hn]
  ·obtain rfl:i=n:=by omega
   rw[firstR_none.2 h0,h]
def anyR (F:Nat→Bool) (n:Nat):Bool:=(List.range n).any F
theorem anyR_iff {F:Nat→Bool} {n:Nat}:anyR F n=true↔∃ i,i < n∧F i=true:=by
 simp only[anyR,List.any_eq_true,List.mem_range]
theorem anyR_false {F:Nat→Bool} {n:Nat}:anyR F n=false↔∀ i,i < n→F i=false:=by
 rw[← Bool.not_eq_true,anyR_iff]
 exact⟨fun h i hi=>by cases hf:F i with | false=>rfl | true=>exact absurd ⟨i,hi,hf⟩ h,fun h ⟨i,hi,hf⟩=>by rw[h i hi]at hf;cases hf⟩
theorem anyR_congr {F G:Nat→Bool} {n:Nat} (h:∀ i,i < n→F i=G i):anyR F n=anyR G n:=by
 rw[Bool.eq_iff_iff,anyR_iff,anyR_iff]
 exact⟨fun⟨i,hi,hf⟩=>⟨i,hi,by rw[← h i hi];exact hf⟩,fun⟨i,hi,hf⟩=>⟨i,hi,by rw[h i hi];exact hf⟩⟩
theorem firstR_any {Y:Type} {F:Nat→Bool} {g:Nat→Y} {n:Nat}:(firstR (fun i=>if F i=true then some (g i)else none) n).isSome=anyR F n:=by
 rw[Bool.eq_iff_iff,anyR_iff,Option.isSome_iff_ne_none,ne_eq,firstR_none]
 constructor
 ·intro h
  apply Classical.byContradiction
  intro hn
  exact h fun i hi=>by
   rw[if_neg]
   exact fun hf=>hn ⟨i,hi,hf⟩
 ·rintro⟨i,hi,hf⟩ h
  have:=h i hi
  rw[if_pos hf]at this;cases this
theorem firstR_const {Y:Type} {F:Nat→Bool} {y:Y} {n:Nat}:firstR (fun i=>if F i=true then some y else none) n=if anyR F n=true then some y else none:=by
 rw[← firstR_any (g:=fun _=>y)]
 cases h:firstR (fun i=>if F i=true then some y else none) n with
 | none=>rfl
 | some z =>
  obtain⟨i,_,h⟩:=firstR_some h
  split at h
  ·injection h with h;subst h;rfl
  ·cases h
def findR (F:Nat→Bool) (n:Nat):Int:=(firstR (fun i=>if F i=true then some (i:Int)else none) n).getD (-1)
theorem findR_any {F:Nat→Bool} {n:Nat}:decide (0≤findR F n)=anyR F n:=by
 rw[← firstR_any (g:=fun i=>(i:Int))]
 unfold findR
 cases h:firstR (fun i=>if F i=true then some (i:Int)else none) n with
 | none=>rfl
 | some y =>
  obtain⟨i,_,h⟩:=firstR_some h
  split at h
  ·injection h with h;subst h;simp
  ·cases h
def orK {R:Type} (o k:Option R):Option R:=match o with
 | some y=>some y
 | none=>k
theorem orK_some {R:Type} {y:R} {k:Option R}:orK (some y) k=some y:=rfl
theorem orK_none {R:Type} {k:Option R}:orK none k=k:=rfl
theorem orK_ite {R:Type} {p:Prop} [Decidable p] {a b k:Option R}:orK (if p then a else b) k=if p then orK a k else orK b k:=by split<;>rfl
theorem orK_getD {R:Type} {a:Option R} {d:R}:orK a (some d)=some (a.getD d):=by cases a<;>rfl
theorem orK_total {R:Type} {o k:Option R} (h:∃ y,k=some y):∃ y,orK o k=some y:=by
 cases o with
 | some y=>exact⟨y,rfl⟩
 | none=>exact h
theorem ite_total {R:Type} {p:Prop} [Decidable p] {y:R} {k:Option R} (h:∃ y,k=some y):∃ z,(if p then some y else k)=some z:=by
 split
 ·exact⟨y,rfl⟩
 ·exact h
def exB {S R:Type} (o:Option R) (s:S):Option (S⊕(Unit⊕R)):=match o with
 | some y=>some (.inr (.inr y))
 | none=>some (.inl s)
theorem exB_some {S R:Type} {y:R} {s:S}:exB (some y) s=some (.inr (.inr y)):=rfl
theorem exB_none {S R:Type} {s:S}:exB (none:Option R) s=some (.inl s):=rfl
theorem exB_ite {S R:Type} {p:Prop} [Decidable p] {a b:Option R} {s:S}:exB (if p then a else b) s=if p then exB a s else exB b s:=by split<;>rfl
theorem some_ite {α:Type} {p:Prop} [Decidable p] {a b:α}:some (if p then a else b)=if p then some a else some b:=by split<;>rfl
theorem loop_ex_from {R:Type} {b:Int→Option (Int⊕(Unit⊕R))} (n:Nat) (f:Nat→Option R) (hb:∀ i:Nat,i < n→b i=exB (f i) ((i:Int)+1)) (hd:b n=some (.inr (.inl ()))) :
  ∀ (k i0:Nat),i0+k=n→(∀ i,i < i0→f i=none)→loopO b i0=match firstR f n with | some y=>some (.inr y) | none=>some (.inl ())
 | 0,i0,hk,h0=>by
  obtain rfl:i0=n:=by omega
  rw[loopO_eq,hd,firstR_none.2 h0];rfl
 | k+1,i0,hk,h0=>by
  rw[loopO_eq,hb i0 (by omega)]
  cases hf:f i0 with
  | some y=>rw[firstR_at (by omega) h0 hf];rfl
  | none =>
   have:=loop_ex_from n f hb hd k (i0+1) (by omega) (fun i hi=>by
    by_cases h:i < i0
    ·exact h0 i h
    ·obtain rfl:i=i0:=by omega
     exact hf)
   rw[exB_none]
   simpa using this
theorem loop_ex {R:Type} {b:Int→Option (Int⊕(Unit⊕R))} {k:Unit→Option R} (n:Nat) (f:Nat→Option R) (hb:∀ i:Nat,i < n→b i=exB (f i) ((i:Int)+1)) (hd:b n=some (.inr (.inl ()))) :
  (loopO b 0).bind (onS k)=orK (firstR f n) (k ()):=by
 have:=loop_ex_from n f hb hd n 0 (by omega) (fun i hi=>by omega)
 rw[show ((0:Nat):Int)=0 from rfl]at this
 rw[this]
 cases firstR f n<;>rfl
theorem loop_ex0 {R:Type} {b:Int→Option (Int⊕(Unit⊕R))} (n:Nat) (f:Nat→Option R) (hb:∀ i:Nat,i < n→b i=exB (f i) ((i:Int)+1)) (hd:b n=some (.inr (.inl ()))) :
  loopO b 0=match firstR f n with | some y=>some (.inr y) | none=>some (.inl ()):=loop_ex_from n f hb hd n 0 (by omega) (fun i hi=>by omega)
theorem loop_or {R:Type} {b:Int→Option (Int⊕(Unit⊕R))} {k:Unit→Option R} (n:Nat) (f:Nat→Option R) (hb:∀ i:Nat,i < n→b i=exB (f i) ((i:Int)+1)) (hd:b n=some (.inr (.inl ()))) {z:Option R} (hk:k ()=z) :
  (loopO b 0).bind (onS k)=orK (firstR f n) z:=by rw[loop_ex n f hb hd,hk]
theorem loop_pass {R:Type} {b:Int→Option (Int⊕(Unit⊕R))} {k:Unit→Option R} (n:Nat) (hb:∀ i:Nat,i < n→b i=some (.inl ((i:Int)+1))) (hd:b n=some (.inr (.inl ()))) {z:Option R} (hk:k ()=z) :
  (loopO b 0).bind (onS k)=z:=by
 rw[loop_or n (fun _=>none) hb hd hk,firstR_none.2 fun _ _=>rfl];rfl
theorem ite_else {α:Type} {p:Prop} [Decidable p] {a b b':α} (h:b=b'):(if p then a else b)=if p then a else b':=by rw[h]
theorem bind_to {α β:Type} {m:Option α} {x:α} {f:α→Option β} {z:Option β} (h:m=some x) (hf:f x=z):m.bind f=z:=by rw[h];exact hf
theorem bind_eq {α β:Type} {m m':Option α} {f:α→Option β} {z:Option β} (h:m=m') (h2:m'.bind f=z):m.bind f=z:=by rw[h];exact h2
theorem on_l {Y R:Type} {m:Option (Y⊕R)} {y:Y} {f:Y→Option R} {z:Option R} (h:m=some (.inl y)) (hf:f y=z):m.bind (onS f)=z:=by rw[h];exact hf
theorem flatMap_app {A:Type} (g:Nat→List A) (n:Nat):(List.range (n+1)).flatMap g=(List.range n).flatMap g++g n:=by rw[List.range_succ,List.flatMap_append];simp
theorem loop_coll {A St X:Type} {b:St→Option (St⊕X)} (n:Nat) (mk:Nat→List A→St) (g:Nat→List A) (out:List A→X)
  (hs:∀ i,i < n→b (mk i ((List.range i).flatMap g))=some (.inl (mk (i+1) ((List.range i).flatMap g++g i)))) (he:b (mk n ((List.range n).flatMap g))=some (.inr (out ((List.range n).flatMap g)))) :
  loopO b (mk 0 [])=some (out ((List.range n).flatMap g)):=by
 have key:∀ k i,i+k=n→loopO b (mk i ((List.range i).flatMap g))=some (out ((List.range n).flatMap g)):=by
  intro k
  induction k with
  | zero =>
   intro i hk
   obtain rfl:i=n:=by omega
   rw[loopO_eq,he];rfl
  | succ k ih =>
   intro i hk
   rw[loopO_eq,hs i (by omega),← flatMap_app]
   exact ih (i+1) (by omega)
 exact key n 0 (by omega)
theorem flatMap_len {A:Type} {g:Nat→List A} {m:Nat} (h:∀ i,(g i).length≤m):∀ n,((List.range n).flatMap g).length≤n * m
 | 0=>by simp
 | n+1=>by
  have:=flatMap_len h n
  have:=h n
  rw[flatMap_app,List.length_append,Nat.succ_mul];omega
theorem wr1 {i n:Nat} (h:i < n) (hn:n≤4611686018427387904):IntKind.wrap .i64 ((i:Int)+1)=(i:Int)+1:=w64 (by omega) (by omega)
theorem lt_irr {n:Nat}:¬ ((n:Int) < (n:Int)):=Int.lt_irrefl _
theorem subL_getD {α:Type} [Inhabited α] {l:List α} {k j:Nat} (h:j < k):(subL l 0 k).getD j default=l.getD j default:=by
 simp[subL,List.getD_eq_getElem?_getD,List.getElem?_range h]
theorem inL {i:Nat} {n:Nat} (h:i < n):((0:Int)≤(i:Int))=True∧((i:Int) < (n:Int))=True∧(decide ((i:Int) < (n:Int))=true)=True:=by
 refine⟨eq_true (by omega),eq_true (by omega),eq_true (by simpa using h)⟩
end Go.Av
set_option maxRecDepth 100000
namespace Go.Av.Ch
def odd1 (c:Int):Bool:=(decide (c < 65) || decide (90 < c))&&(decide (c < 48) || decide (57 < c))
def nm0 (s:List UInt8):Bool:=decide (s.length=0) || decide (8 < s.length) || decide (byteAt s 0 < 65) || decide (90 < byteAt s 0)
def nm (s:List UInt8):Bool:=!nm0 s&&!anyR (fun i=>odd1 (byteAt s i)) s.length
theorem nm_loop {s:List UInt8} (hl:s.length≤8) {b:Int→Option (Int⊕(Unit⊕Bool))} (hb:∀ i:Nat,i < s.length→b i=exB (if odd1 (byteAt s i)=true then some false else none) ((i:Int)+1)) (hd:b s.length=some (.inr (.inl ()))) :
  (loopO b 0).bind (onS fun _=>some true)=some (!anyR (fun i=>odd1 (byteAt s i)) s.length):=by
 rw[loop_ex s.length _ hb hd,firstR_const]
 cases anyR (fun i=>odd1 (byteAt s i)) s.length<;>rfl
theorem nm_rname (s:List UInt8):m130 s 8=some (nm s):=by
 have e0:(((s.length:Int)==(0:Int)) || (decide ((8:Int) < (s.length:Int))))=(decide (s.length=0) || decide (8 < s.length)):=by
  rw[Bool.eq_iff_iff];simp only[Bool.or_eq_true,decide_eq_true_eq,beq_iff_eq];omega
 delta m130 d130
 simp only[↓JD.sg_m,↓JD.sq_m,↓JD.sc_m,↓JD.bk_m,↓JD.lp_m,↓JD.cd_m,↓JD.lu_m,↓JD.ct_m,↓JD.ce_m,↓JL.r_m,↓JL.z_m,↓JD.se_m,onE_r,↓Tr.run,↓Tr.run_nd,↓Tr.run_c3,↓Tr.run_c2,↓Tr.run_nx,↓onS,bind_ite,Option.bind_some,Option.bind_none,obR,e0,Int.toNat_zero,Int.le_refl,implies_true,if_true]
 cases h1:(decide (s.length=0) || decide (8 < s.length)) with
 | true=>simp only[Bool.true_or,Bool.not_true,Bool.false_eq_true,false_implies,if_true,nm,nm0,h1,Bool.false_and]
 | false =>
  have hl:s.length≤8∧0 < s.length:=by simp only[Bool.or_eq_false_iff,decide_eq_false_iff_not]at h1;omega
  have z2:(0:Int) < s.length:=by omega
  simp only[Bool.false_or,z2,implies_true,if_true,nm,nm0,h1]
  cases h2:(decide (byteAt s 0 < 65) || decide (90 < byteAt s 0)) with
  | true=>rfl
  | false =>
   simp only[Bool.false_eq_true,if_false,Bool.not_false,Bool.true_and]
   refine nm_loop hl.1 (fun i hi=>?_) ?_
   ·(simp only[exB_ite,exB_some,exB_none];simp only[inL hi,decide_true,Int.toNat_natCast,if_true,implies_true,wr1 hi (by omega)];try rfl)
   ·(simp only[lt_irr,decide_false,Bool.false_eq_true,if_false];try rfl)
theorem nm_r8name (s:List UInt8):m116 s 8=some (nm s):=by
 have e0:(decide ((s.length:Int) < (1:Int)) || (decide ((8:Int) < (s.length:Int))))=(decide (s.length=0) || decide (8 < s.length)):=by
  rw[Bool.eq_iff_iff];simp only[Bool.or_eq_true,decide_eq_true_eq];omega
 delta m116 d116
 simp only[↓JD.sg_m,↓JD.sq_m,↓JD.sc_m,↓JD.bk_m,↓JD.lp_m,↓JD.cd_m,↓JD.lu_m,↓JD.ct_m,↓JD.ce_m,↓JL.r_m,↓JL.z_m,↓JD.se_m,onE_r,↓Tr.run,↓Tr.run_nd,↓Tr.run_c3,↓Tr.run_c2,↓Tr.run_nx,↓onS,bind_ite,Option.bind_some,Option.bind_none,obR,e0,Int.toNat_zero,Int.le_refl,implies_true,if_true]
 cases h1:(decide (s.length=0) || decide (8 < s.length)) with
 | true=>simp only[Bool.true_or,Bool.not_true,Bool.false_eq_true,false_implies,if_true,nm,nm0,h1,Bool.false_and]
 | false =>
  have hl:s.length≤8∧0 < s.length:=by simp only[Bool.or_eq_false_iff,decide_eq_false_iff_not]at h1;omega
  have z2:(0:Int) < s.length:=by omega
  simp only[Bool.false_or,z2,implies_true,if_true,nm,nm0,h1]
  cases h2:(decide (byteAt s 0 < 65) || decide (90 < byteAt s 0)) with
  | true=>rfl
  | false =>
   simp only[Bool.false_eq_true,if_false,Bool.not_false,Bool.true_and]
   refine nm_loop hl.1 (fun i hi=>?_) ?_
   ·(simp only[exB_ite,exB_some,exB_none];simp only[inL hi,decide_true,Int.toNat_natCast,if_true,implies_true,wr1 hi (by omega)];try rfl)
   ·(simp only[lt_irr,decide_false,Bool.false_eq_true,if_false];try rfl)
theorem nm_name (s:List UInt8):m85 s=some (nm s):=by
 delta m85 d85
 simp only[↓JD.sg_m,↓JD.sq_m,↓JD.sc_m,↓JD.bk_m,↓JD.lp_m,↓JD.cd_m,↓JD.lu_m,↓JD.ct_m,↓JD.ce_m,↓JL.r_m,↓JL.z_m,↓JD.se_m,onE_r,↓Tr.run,↓Tr.run_nd,↓Tr.run_c3,↓Tr.run_c2,↓Tr.run_nx,↓onS,bind_ite,Option.bind_some,Option.bind_none,obR,nm_rname]
def hasK {α:Type} [BEq α] [Inhabited α] (l:List α) (k:Nat) (x:α):Bool:=anyR (fun i=>x==l.getD i default) k
theorem hasK_sub {α:Type} [BEq α] [Inhabited α] {l:List α} {k:Nat} {x:α}:hasK (subL l 0 k) k x=hasK l k x:=anyR_congr fun i hi=>by rw[subL_getD hi]
theorem hasK_iff {α:Type} [BEq α] [LawfulBEq α] [Inhabited α] {l:List α} {x:α}:hasK l l.length x=true↔x∈l:=by
 unfold hasK
 rw[anyR_iff]
 constructor
 ·rintro⟨i,hi,h⟩
  rw[eq_of_beq h];exact getD_mem hi
 ·intro h
  obtain⟨i,hi,h⟩:=List.getElem_of_mem h
  exact⟨i,hi,by simp[List.getD_eq_getElem?_getD,List.getElem?_eq_getElem hi,h]⟩
theorem idx_loop {n:Nat} {F:Nat→Bool} {b:Int→Option (Int⊕(Unit⊕Int))} (hb:∀ i:Nat,i < n→b i=exB (if F i=true then some (i:Int)else none) ((i:Int)+1)) (hd:b n=some (.inr (.inl ()))) :
  (loopO b 0).bind (onS fun _=>some (-1))=some (findR F n):=by
 rw[loop_ex n _ hb hd,orK_getD];rfl
theorem containsS_eq (l:List (List UInt8)) (x:List UInt8) (hl:l.length≤100000):m131 l x=some (hasK l l.length x):=by
 have e:m162 l x=some (findR (fun i=>x==l.getD i default) l.length):=by
  delta m162 d162
  simp only[↓JD.sg_m,↓JD.sq_m,↓JD.sc_m,↓JD.bk_m,↓JD.lp_m,↓JD.cd_m,↓JD.lu_m,↓JD.ct_m,↓JD.ce_m,↓JL.r_m,↓JL.z_m,↓JD.se_m,onE_r,↓Tr.run,↓Tr.run_nd,↓Tr.run_c3,↓Tr.run_c2,↓Tr.run_nx,↓onS,bind_ite,Option.bind_some,Option.bind_none,obR]
  refine idx_loop (fun i hi=>?_) ?_
  ·(simp only[exB_ite,exB_some,exB_none];simp only[inL hi,decide_true,Int.toNat_natCast,if_true,implies_true,wr1 hi (by omega)];try rfl)
  ·(simp only[lt_irr,decide_false,Bool.false_eq_true,if_false];try rfl)
 delta m131 d131
 simp only[↓JD.sg_m,↓JD.sq_m,↓JD.sc_m,↓JD.bk_m,↓JD.lp_m,↓JD.cd_m,↓JD.lu_m,↓JD.ct_m,↓JD.ce_m,↓JL.r_m,↓JL.z_m,↓JD.se_m,onE_r,↓Tr.run,↓Tr.run_nd,↓Tr.run_c3,↓Tr.run_c2,↓Tr.run_nx,↓onS,bind_ite,Option.bind_some,Option.bind_none,obR,e,findR_any,hasK]
theorem indexI_eq (l:List Int) (x:Int) (hl:l.length≤100000):m101 l x=some (findR (fun i=>x==l.getD i default) l.length):=by
 delta m101 d101
 simp only[↓JD.sg_m,↓JD.sq_m,↓JD.sc_m,↓JD.bk_m,↓JD.lp_m,↓JD.cd_m,↓JD.lu_m,↓JD.ct_m,↓JD.ce_m,↓JL.r_m,↓JL.z_m,↓JD.se_m,onE_r,↓Tr.run,↓Tr.run_nd,↓Tr.run_c3,↓Tr.run_c2,↓Tr.run_nx,↓onS,bind_ite,Option.bind_some,Option.bind_none,obR]
 refine idx_loop (fun i hi=>?_) ?_
 ·(simp only[exB_ite,exB_some,exB_none];simp only[inL hi,decide_true,Int.toNat_natCast,if_true,implies_true,wr1 hi (by omega)];try rfl)
 ·(simp only[lt_irr,decide_false,Bool.false_eq_true,if_false];try rfl)
theorem containsI_eq (l:List Int) (x:Int) (hl:l.length≤100000):m49 l x=some (hasK l l.length x):=by
 delta m49 d49
 simp only[↓JD.sg_m,↓JD.sq_m,↓JD.sc_m,↓JD.bk_m,↓JD.lp_m,↓JD.cd_m,↓JD.lu_m,↓JD.ct_m,↓JD.ce_m,↓JL.r_m,↓JL.z_m,↓JD.se_m,onE_r,↓Tr.run,↓Tr.run_nd,↓Tr.run_c3,↓Tr.run_c2,↓Tr.run_nx,↓onS,bind_ite,Option.bind_some,Option.bind_none,obR,indexI_eq l x hl,findR_any,hasK]
theorem on_eq (l:List Int) (x:Int) (hl:l.length≤100000):m129 l x=some (hasK l l.length x):=by
 delta m129 d129
 simp only[↓JD.sg_m,↓JD.sq_m,↓JD.sc_m,↓JD.bk_m,↓JD.lp_m,↓JD.cd_m,↓JD.lu_m,↓JD.ct_m,↓JD.ce_m,↓JL.r_m,↓JL.z_m,↓JD.se_m,onE_r,↓Tr.run,↓Tr.run_nd,↓Tr.run_c3,↓Tr.run_c2,↓Tr.run_nx,↓onS,bind_ite,Option.bind_some,Option.bind_none,obR]
 rw[loop_ex l.length (fun i=>if(x==l.getD i default)=true then some true else none) ?_ ?_,firstR_const,hasK]
 ·cases anyR (fun i=>x==l.getD i default) l.length<;>rfl
 ·intro i hi
  (simp only[exB_ite,exB_some,exB_none];simp only[inL hi,decide_true,Int.toNat_natCast,if_true,implies_true,wr1 hi (by omega)];try rfl)
 ·(simp only[lt_irr,decide_false,Bool.false_eq_true,if_false];try rfl)
def listedS (l:List (List UInt8)) (i:Nat):Int:=if(!nm (l.getD i default))=true then 5 else if hasK l i (l.getD i default)=true then 7 else 0
theorem listed_eq (l:List (List UInt8)) (i:Nat) (hi:i < l.length) (hl:l.length≤100000):m86 l i=some (listedS l i):=by
 have e:=containsS_eq (subL l 0 i) (l.getD i default) (by rw[subL_len];omega)
 rw[subL_len,hasK_sub]at e
 delta m86 d86
 simp only[↓JD.sg_m,↓JD.sq_m,↓JD.sc_m,↓JD.bk_m,↓JD.lp_m,↓JD.cd_m,↓JD.lu_m,↓JD.ct_m,↓JD.ce_m,↓JL.r_m,↓JL.z_m,↓JD.se_m,onE_r,↓Tr.run,↓Tr.run_nd,↓Tr.run_c3,↓Tr.run_c2,↓Tr.run_nx,↓onS,bind_ite,Option.bind_some,Option.bind_none,obR,inL hi,Int.toNat_natCast,if_true,nm_name,e,listedS,some_ite,show (i:Int)≤l.length by omega]
def litF (c:T27) (l:List T116) (i:Nat):Option Int :=
 if(decide ((l.getD i default).Cond < 0) || decide ((c.Conds.length:Int)≤(l.getD i default).Cond))=true then some 2
 else if(decide ((0:Int) < (i:Int))&&decide ((l.getD i default).Cond≤(l.getD ((i:Int) - 1).toNat default).Cond))=true then some 9 else none
def litS (c:T27) (l:List T116):Int:=(firstR (litF c l) l.length).getD 0
theorem literals_eq (c:T27) (l:List T116) (hl:l.length≤100000):m87 c l=some (litS c l):=by
 delta m87 d87
 simp only[↓JD.sg_m,↓JD.sq_m,↓JD.sc_m,↓JD.bk_m,↓JD.lp_m,↓JD.cd_m,↓JD.lu_m,↓JD.ct_m,↓JD.ce_m,↓JL.r_m,↓JL.z_m,↓JD.se_m,onE_r,↓Tr.run,↓Tr.run_nd,↓Tr.run_c3,↓Tr.run_c2,↓Tr.run_nx,↓onS,bind_ite,Option.bind_some,Option.bind_none,obR]
 rw[loop_ex l.length (litF c l) ?_ ?_,orK_getD];rfl
 ·intro i hi
  have w1:IntKind.wrap .i64 ((i:Int) - 1)=(i:Int) - 1:=w64 (by omega) (by omega)
  have h3:=eq_true (show decide ((0:Int) < i)=true→(0:Int)≤(i:Int) - 1 from fun h=>by simp only[decide_eq_true_eq]at h;omega)
  have h4:=eq_true (show decide ((0:Int) < i)=true→(i:Int) - 1 < l.length from fun h=>by omega)
  unfold litF
  (simp only[exB_ite,exB_some,exB_none];simp only[w1,h3,h4,inL hi,decide_true,Int.toNat_natCast,if_true,implies_true,wr1 hi (by omega)];try rfl)
 ·(simp only[lt_irr,decide_false,Bool.false_eq_true,if_false];try rfl)
theorem rliterals_eq (c:T27) (l:List T116) (hl:l.length≤100000):m117 c l=some (litS c l):=by
 delta m117 d117
 simp only[↓JD.sg_m,↓JD.sq_m,↓JD.sc_m,↓JD.bk_m,↓JD.lp_m,↓JD.cd_m,↓JD.lu_m,↓JD.ct_m,↓JD.ce_m,↓JL.r_m,↓JL.z_m,↓JD.se_m,onE_r,↓Tr.run,↓Tr.run_nd,↓Tr.run_c3,↓Tr.run_c2,↓Tr.run_nx,↓onS,bind_ite,Option.bind_some,Option.bind_none,obR]
 rw[loop_ex l.length (litF c l) ?_ ?_,orK_getD];rfl
 ·intro i hi
  have w1:IntKind.wrap .i64 ((i:Int) - 1)=(i:Int) - 1:=w64 (by omega) (by omega)
  have h3:=eq_true (show decide ((0:Int) < i)=true→(0:Int)≤(i:Int) - 1 from fun h=>by simp only[decide_eq_true_eq]at h;omega)
  have h4:=eq_true (show decide ((0:Int) < i)=true→(i:Int) - 1 < l.length from fun h=>by omega)
  unfold litF
  (simp only[exB_ite,exB_some,exB_none];simp only[w1,h3,h4,inL hi,decide_true,Int.toNat_natCast,if_true,implies_true,wr1 hi (by omega)];try rfl)
 ·(simp only[lt_irr,decide_false,Bool.false_eq_true,if_false];try rfl)
def actS (l:List (List UInt8)):Int:=if decide ((8:Int) < (l.length:Int))=true then 3 else if anyR (fun i=>!nm (l.getD i default)) l.length=true then 5 else 0
theorem actS_len {l:List (List UInt8)} (h:actS l=0):l.length≤8:=by
 unfold actS at h
 split at h
 ·cases h
 ·rename_i h1;simp only[decide_eq_true_eq]at h1;omega
theorem actions_eq (l:List (List UInt8)) (hl:l.length≤100000):m90 l=some (actS l):=by
 have e:m163o0 l=some (findR (fun i=>!nm (l.getD i default)) l.length):=by
  delta m163o0 d163o0
  simp only[↓JD.sg_m,↓JD.sq_m,↓JD.sc_m,↓JD.bk_m,↓JD.lp_m,↓JD.cd_m,↓JD.lu_m,↓JD.ct_m,↓JD.ce_m,↓JL.r_m,↓JL.z_m,↓JD.se_m,onE_r,↓Tr.run,↓Tr.run_nd,↓Tr.run_c3,↓Tr.run_c2,↓Tr.run_nx,↓onS,bind_ite,Option.bind_some,Option.bind_none,obR,m133o0,d133o0,nm_name]
  refine idx_loop (fun i hi=>?_) ?_
  ·(simp only[exB_ite,exB_some,exB_none];simp only[inL hi,decide_true,Int.toNat_natCast,if_true,implies_true,wr1 hi (by omega)];try rfl)
  ·(simp only[lt_irr,decide_false,Bool.false_eq_true,if_false];try rfl)
 delta m90 d90
 simp only[↓JD.sg_m,↓JD.sq_m,↓JD.sc_m,↓JD.bk_m,↓JD.lp_m,↓JD.cd_m,↓JD.lu_m,↓JD.ct_m,↓JD.ce_m,↓JL.r_m,↓JL.z_m,↓JD.se_m,onE_r,↓Tr.run,↓Tr.run_nd,↓Tr.run_c3,↓Tr.run_c2,↓Tr.run_nx,↓onS,bind_ite,Option.bind_some,Option.bind_none,obR,m132o0,d132o0,e,findR_any,actS,some_ite]
theorem ractions_eq (l:List (List UInt8)) (hl:l.length≤100000):m119 l=some (actS l):=by
 delta m119 d119
 simp only[↓JD.sg_m,↓JD.sq_m,↓JD.sc_m,↓JD.bk_m,↓JD.lp_m,↓JD.cd_m,↓JD.lu_m,↓JD.ct_m,↓JD.ce_m,↓JL.r_m,↓JL.z_m,↓JD.se_m,onE_r,↓Tr.run,↓Tr.run_nd,↓Tr.run_c3,↓Tr.run_c2,↓Tr.run_nx,↓onS,bind_ite,Option.bind_some,Option.bind_none,obR,nm_r8name]
 rw[loop_ex l.length (fun i=>if(!nm (l.getD i default))=true then some 5 else none) ?_ ?_,firstR_const]
 ·simp only[orK_ite,orK_some,orK_none,actS,some_ite]
 ·intro i hi
  (simp only[exB_ite,exB_some,exB_none];simp only[inL hi,decide_true,Int.toNat_natCast,if_true,implies_true,wr1 hi (by omega)];try rfl)
 ·(simp only[lt_irr,decide_false,Bool.false_eq_true,if_false];try rfl)
def comp (c:T27) (x:Int):Bool:=anyR (fun i=>(c.States.getD i default).Parent==x) c.States.length
theorem composite_eq (c:T27) (x:Int) (hl:c.States.length≤100000):m103 c x=some (comp c x):=by
 have e:m175o0 c.States x=some (findR (fun i=>(c.States.getD i default).Parent==x) c.States.length):=by
  delta m175o0 d175o0
  simp only[↓JD.sg_m,↓JD.sq_m,↓JD.sc_m,↓JD.bk_m,↓JD.lp_m,↓JD.cd_m,↓JD.lu_m,↓JD.ct_m,↓JD.ce_m,↓JL.r_m,↓JL.z_m,↓JD.se_m,onE_r,↓Tr.run,↓Tr.run_nd,↓Tr.run_c3,↓Tr.run_c2,↓Tr.run_nx,↓onS,bind_ite,Option.bind_some,Option.bind_none,obR,m154o0,d154o0]
  refine idx_loop (fun i hi=>?_) ?_
  ·(simp only[exB_ite,exB_some,exB_none];simp only[inL hi,decide_true,Int.toNat_natCast,if_true,implies_true,wr1 hi (by omega)];try rfl)
  ·(simp only[lt_irr,decide_false,Bool.false_eq_true,if_false];try rfl)
 delta m103 d103
 simp only[↓JD.sg_m,↓JD.sq_m,↓JD.sc_m,↓JD.bk_m,↓JD.lp_m,↓JD.cd_m,↓JD.lu_m,↓JD.ct_m,↓JD.ce_m,↓JL.r_m,↓JL.z_m,↓JD.se_m,onE_r,↓Tr.run,↓Tr.run_nd,↓Tr.run_c3,↓Tr.run_c2,↓Tr.run_nx,↓onS,bind_ite,Option.bind_some,Option.bind_none,obR,m153o0,d153o0,e,findR_any,comp]
theorem rcomposite_eq (c:T27) (x:Int) (hl:c.States.length≤100000):m105 c x=some (comp c x):=by
 delta m105 d105
 simp only[↓JD.sg_m,↓JD.sq_m,↓JD.sc_m,↓JD.bk_m,↓JD.lp_m,↓JD.cd_m,↓JD.lu_m,↓JD.ct_m,↓JD.ce_m,↓JL.r_m,↓JL.z_m,↓JD.se_m,onE_r,↓Tr.run,↓Tr.run_nd,↓Tr.run_c3,↓Tr.run_c2,↓Tr.run_nx,↓onS,bind_ite,Option.bind_some,Option.bind_none,obR]
 rw[loop_ex c.States.length (fun i=>if((c.States.getD i default).Parent==x)=true then some true else none) ?_ ?_,firstR_const,comp]
 ·cases anyR (fun i=>(c.States.getD i default).Parent==x) c.States.length<;>rfl
 ·intro i hi
  (simp only[exB_ite,exB_some,exB_none];simp only[inL hi,decide_true,Int.toNat_natCast,if_true,implies_true,wr1 hi (by omega)];try rfl)
 ·(simp only[lt_irr,decide_false,Bool.false_eq_true,if_false];try rfl)
def isS (c:T27) (x:Int):Bool:=decide ((0:Int)≤x)&&decide (x < (c.States.length:Int))
theorem is_eq (c:T27) (x:Int):m89 c x=some (isS c x):=rfl
theorem isS_iff {c:T27} {x:Int}:isS c x=true↔0≤x∧x < c.States.length:=by simp[isS]
def childS (c:T27) (x y:Int):Bool:=isS c x&&((c.States.getD x.toNat default).Parent==y)
theorem rchild_eq (c:T27) (x y:Int):m159 c x y=some (childS c x y):=by
 have h1:=eq_true (show (decide ((0:Int)≤x)&&decide (x < (c.States.length:Int)))=true→(0:Int)≤x from fun h=>(isS_iff (c:=c).1 h).1)
 have h2:=eq_true (show (decide ((0:Int)≤x)&&decide (x < (c.States.length:Int)))=true→x < (c.States.length:Int) from fun h=>(isS_iff (c:=c).1 h).2)
 delta m159 d159
 simp only[↓JD.sg_m,↓JD.sq_m,↓JD.sc_m,↓JD.bk_m,↓JD.lp_m,↓JD.cd_m,↓JD.lu_m,↓JD.ct_m,↓JD.ce_m,↓JL.r_m,↓JL.z_m,↓JD.se_m,onE_r,↓Tr.run,↓Tr.run_nd,↓Tr.run_c3,↓Tr.run_c2,↓Tr.run_nx,↓onS,bind_ite,Option.bind_some,Option.bind_none,obR,h1,h2,if_true,childS,isS]
end Go.Av.Ch
set_option maxRecDepth 100000
namespace Go.Av.Ch
structure Fit (c:T27):Prop where
 conds:c.Conds.length≤1000
 never:c.Never.length≤1000
 lits:∀ l∈c.Never,l.length≤1000
 states:c.States.length≤1000
 entry:∀ s∈c.States,s.Entry.length≤1000
 exit_:∀ s∈c.States,s.Exit.length≤1000
 trans:c.Transitions.length≤1000
 when_:∀ t∈c.Transitions,t.When.length≤1000
 acts:∀ t∈c.Transitions,t.Actions.length≤1000
def namesS (c:T27):List (List UInt8):=(List.range c.States.length).flatMap fun i=>[(c.States.getD i default).Name]
theorem namesS_map (c:T27):namesS c=(List.range c.States.length).map fun i=>(c.States.getD i default).Name:=(List.map_eq_flatMap ..).symm
theorem namesS_len (c:T27):(namesS c).length=c.States.length:=by rw[namesS_map];simp
theorem namesS_getD (c:T27) {i:Nat} (h:i < c.States.length):(namesS c).getD i default=(c.States.getD i default).Name:=by
 rw[namesS_map,List.getD_eq_getElem?_getD,List.getElem?_map,List.getElem?_range h];rfl
def stateT (c:T27) (i:Nat):Int :=
 if(decide ((c.States.getD i default).Parent < (-1:Int)) || decide ((i:Int)≤(c.States.getD i default).Parent))=true then 9
 else if((comp c i&&!childS c (c.States.getD i default).Initial i) || (!comp c i&&((c.States.getD i default).Initial != (-1:Int))))=true then 2
 else if(!comp c i&&(c.States.getD i default).History)=true then 17
 else if(actS (c.States.getD i default).Entry != 0)=true then actS (c.States.getD i default).Entry
 else actS (c.States.getD i default).Exit
def stateS (c:T27) (i:Nat):Int:=if(listedS (namesS c) i != 0)=true then listedS (namesS c) i else stateT c i
theorem state_eq (c:T27) (H:Fit c) (i:Nat) (hi:i < c.States.length):m88 c (namesS c) i=some (stateS c i):=by
 have hs:=H.states
 have he:=H.entry _ (getD_mem hi)
 have hx:=H.exit_ _ (getD_mem hi)
 have e1:=listed_eq (namesS c) i (by rw[namesS_len];exact hi) (by rw[namesS_len];omega)
 delta m88 d88
 simp only[↓JD.sg_m,↓JD.sq_m,↓JD.sc_m,↓JD.bk_m,↓JD.lp_m,↓JD.cd_m,↓JD.lu_m,↓JD.ct_m,↓JD.ce_m,↓JL.r_m,↓JL.z_m,↓JD.se_m,onE_r,↓Tr.run,↓Tr.run_nd,↓Tr.run_c3,↓Tr.run_c2,↓Tr.run_nx,↓onS,bind_ite,Option.bind_some,Option.bind_none,obR,inL hi,e1,Int.toNat_natCast,if_true,composite_eq c _ (Nat.le_trans hs (by omega)),is_eq,actions_eq _ (Nat.le_trans he (by omega)),actions_eq _ (Nat.le_trans hx (by omega)),stateS,stateT,some_ite]
 refine ite_else (ite_else ?_)
 cases hc:comp c i with
 | false=>simp only[Bool.false_and,Bool.not_false,Bool.true_and,Bool.false_or,Bool.false_eq_true,if_false,false_implies,if_true]
 | true =>
  have g1:=eq_true (show (!!isS c (c.States.getD i default).Initial)=true→(0:Int)≤(c.States.getD i default).Initial from fun h=>by simp only[Bool.not_not]at h;exact(isS_iff.1 h).1)
  have g2:=eq_true (show (!!isS c (c.States.getD i default).Initial)=true→(c.States.getD i default).Initial < (c.States.length:Int) from fun h=>by simp only[Bool.not_not]at h;exact(isS_iff.1 h).2)
  simp only[if_true,Option.bind_some,g1,g2,childS,bne,Bool.not_and,Bool.true_and,Bool.not_true,Bool.false_and,Bool.or_false,Bool.false_eq_true,if_false]
theorem rstate_eq (c:T27) (H:Fit c) (i:Nat) (hi:i < c.States.length):m118 c i=some (stateS c i):=by
 have hs:=H.states
 have he:=H.entry _ (getD_mem hi)
 have hx:=H.exit_ _ (getD_mem hi)
 have hl:listedS (namesS c) i=if(!nm (c.States.getD i default).Name)=true then 5 else if anyR (fun j=>(c.States.getD j default).Name==(c.States.getD i default).Name) i=true then 7 else 0:=by
  unfold listedS hasK
  rw[namesS_getD c hi,anyR_congr (G:=fun j=>(c.States.getD j default).Name==(c.States.getD i default).Name)]
  intro j hj
  rw[namesS_getD c (by omega),Bool.eq_iff_iff,beq_iff_eq,beq_iff_eq]
  exact⟨Eq.symm,Eq.symm⟩
 have hx2:m118 c i=some (if(!nm (c.States.getD i default).Name)=true then 5 else if anyR (fun j=>(c.States.getD j default).Name==(c.States.getD i default).Name) i=true then 7 else stateT c i):=by
  delta m118 d118
  simp only[↓JD.sg_m,↓JD.sq_m,↓JD.sc_m,↓JD.bk_m,↓JD.lp_m,↓JD.cd_m,↓JD.lu_m,↓JD.ct_m,↓JD.ce_m,↓JL.r_m,↓JL.z_m,↓JD.se_m,onE_r,↓Tr.run,↓Tr.run_nd,↓Tr.run_c3,↓Tr.run_c2,↓Tr.run_nx,↓onS,bind_ite,Option.bind_some,Option.bind_none,obR,inL hi,nm_r8name,Int.toNat_natCast,if_true,rcomposite_eq c _ (Nat.le_trans hs (by omega)),rchild_eq,ractions_eq _ (Nat.le_trans he (by omega)),ractions_eq _ (Nat.le_trans hx (by omega)),some_ite,show (i:Int)≤c.States.length by omega]
  refine ite_else ?_
  rw[loop_ex i (fun j=>if((c.States.getD j default).Name==(c.States.getD i default).Name)=true then some 7 else none) ?_ ?_,firstR_const]
  ·simp only[orK_ite,orK_some,orK_none,stateT,some_ite]
   refine ite_else (ite_else ?_)
   cases hc:comp c i with
   | false=>simp only[Bool.false_and,Bool.not_false,Bool.true_and,Bool.false_or,Bool.false_eq_true,if_false,Option.bind_some,if_true]
   | true =>
    cases hd:childS c (c.States.getD i default).Initial i<;>simp only[Bool.true_and,Bool.true_or,Bool.not_true,Bool.not_false,Bool.false_and,Bool.or_false,Bool.false_eq_true,if_false,Option.bind_some,if_true]
  ·intro j hj
   have j3:((j:Int) < (((subL c.States 0 i).length:Nat):Int)):=by rw[subL_len];omega
   simp only[exB_ite,exB_some,exB_none]
   simp only[inL hj,decide_true,j3,Int.toNat_natCast,if_true,subL_getD hj,wr1 hj (by omega)]
  ·(simp only[lt_irr,decide_false,Bool.false_eq_true,if_false];try rfl)
 rw[hx2]
 unfold stateS
 rw[hl]
 split
 ·rfl
 ·split<;>rfl
def condF (c:T27) (i:Nat):Option Int:=if(listedS c.Conds i != 0)=true then some (listedS c.Conds i)else none
def nevF (c:T27) (i:Nat):Option Int:=if(((c.Never.getD i default).length:Int)==0)=true then some 1 else if(litS c (c.Never.getD i default) != 0)=true then some (litS c (c.Never.getD i default))else none
def stF (c:T27) (i:Nat):Option Int:=if(stateS c i != 0)=true then some (stateS c i)else none
def trF (c:T27) (i:Nat):Option Int :=
 if((!isS c (c.Transitions.getD i default).From) || (!isS c (c.Transitions.getD i default).To))=true then some 2
 else if(litS c (c.Transitions.getD i default).When != 0)=true then some (litS c (c.Transitions.getD i default).When)
 else if(actS (c.Transitions.getD i default).Actions != 0)=true then some (actS (c.Transitions.getD i default).Actions)else none
def checkM (c:T27):Option Int :=
 if(!nm c.Name)=true then some 5
 else if((c.States.length:Int)==0)=true then some 6
 else if((((decide ((12:Int) < (c.Conds.length:Int))) || (decide ((16:Int) < (c.Never.length:Int)))) || (decide ((40:Int) < (c.States.length:Int)))) || (decide ((120:Int) < (c.Transitions.length:Int))))=true then some 3
 else orK (firstR (condF c) c.Conds.length) (orK (firstR (nevF c) c.Never.length) (orK (firstR (stF c) c.States.length) (if(!isS c c.Start)=true then some 2 else orK (firstR (trF c) c.Transitions.length) (some 0))))
theorem checkM_some (c:T27):∃ e,checkM c=some e:=ite_total (ite_total (ite_total (orK_total (orK_total (orK_total (ite_total (orK_total ⟨0,rfl⟩)))))))
theorem Check_eq (c:T27) (H:Fit c):m38 c=checkM c:=by
 have hcl:=H.conds
 have hnl:=H.never
 have hsl:=H.states
 have htl:=H.trans
 delta m38 d38
 simp only[↓JD.sg_m,↓JD.sq_m,↓JD.sc_m,↓JD.bk_m,↓JD.lp_m,↓JD.cd_m,↓JD.lu_m,↓JD.ct_m,↓JD.ce_m,↓JL.r_m,↓JL.z_m,↓JD.se_m,onE_r,↓Tr.run,↓Tr.run_nd,↓Tr.run_c3,↓Tr.run_c2,↓Tr.run_nx,↓onS,bind_ite,Option.bind_some,Option.bind_none,obR,nm_name,is_eq,checkM]
 refine ite_else (ite_else (ite_else (loop_or _ (condF c) (fun i hi=>?_) (by (simp only[lt_irr,decide_false,Bool.false_eq_true,if_false];try rfl)) (loop_or _ (nevF c) (fun i hi=>?_) (by (simp only[lt_irr,decide_false,Bool.false_eq_true,if_false];try rfl)) (on_l (loop_coll c.States.length (fun i l=>(l,(i:Int))) (fun i=>[(c.States.getD i default).Name]) Sum.inl (fun i hi=>?_) (by (simp only[lt_irr,decide_false,Bool.false_eq_true,if_false];try rfl))) (loop_or _ (stF c) (fun i hi=>?_) (by (simp only[lt_irr,decide_false,Bool.false_eq_true,if_false];try rfl)) (ite_else (loop_or _ (trF c) (fun i hi=>?_) (by (simp only[lt_irr,decide_false,Bool.false_eq_true,if_false];try rfl)) rfl))))))))
 ·unfold condF
  (simp only[exB_ite,exB_some,exB_none];simp only[listed_eq c.Conds i hi (by omega),Option.bind_some,inL hi,decide_true,Int.toNat_natCast,if_true,implies_true,wr1 hi (by omega)];try rfl)
 ·have hl:=H.lits _ (getD_mem hi)
  unfold nevF
  (simp only[exB_ite,exB_some,exB_none];simp only[literals_eq c _ (Nat.le_trans hl (by omega)),Option.bind_some,inL hi,decide_true,Int.toNat_natCast,if_true,implies_true,wr1 hi (by omega)];try rfl)
 ·have hl:=flatMap_len (g:=fun i=>[(c.States.getD i default).Name]) (m:=1) (fun i=>by simp) i
  have h3:(((List.range i).flatMap fun i=>[(c.States.getD i default).Name]).length+1) * 16≤140737488355328:=by omega
  simp only[inL hi,h3,Int.toNat_natCast,if_true,wr1 hi (by omega)];rfl
 ·unfold stF
  have e:=state_eq c H i hi
  unfold namesS at e
  (simp only[exB_ite,exB_some,exB_none];simp only[e,Option.bind_some,inL hi,decide_true,Int.toNat_natCast,if_true,implies_true,wr1 hi (by omega)];try rfl)
 ·have hw:=H.when_ _ (getD_mem hi)
  have ha:=H.acts _ (getD_mem hi)
  unfold trF
  simp only[exB_ite,exB_some,exB_none]
  simp only[inL hi,is_eq,literals_eq c _ (Nat.le_trans hw (by omega)),actions_eq _ (Nat.le_trans ha (by omega)),Option.bind_some,decide_true,Int.toNat_natCast,if_true,wr1 hi (by omega)]
  cases isS c (c.Transitions.getD i default).From<;>simp only[Bool.not_true,Bool.not_false,Bool.false_eq_true,Bool.true_or,Bool.false_or,if_true,if_false,Option.bind_some]
theorem rCheck_eq (c:T27) (H:Fit c):m68 c=checkM c:=by
 have hcl:=H.conds
 have hnl:=H.never
 have hsl:=H.states
 have htl:=H.trans
 have isn:∀ x y:Int,((((decide (x < (0:Int))) || (decide ((c.States.length:Int)≤x))) || (decide (y < (0:Int)))) || (decide ((c.States.length:Int)≤y)))=((!isS c x) || (!isS c y)):=fun x y=>by
  rw[Bool.eq_iff_iff]
  simp only[isS,Bool.or_eq_true,decide_eq_true_eq,Bool.not_eq_true',Bool.and_eq_false_iff,decide_eq_false_iff_not]
  omega
 have st:((decide (c.Start < (0:Int))) || (decide ((c.States.length:Int)≤c.Start)))=!isS c c.Start:=by
  rw[Bool.eq_iff_iff]
  simp only[isS,Bool.or_eq_true,decide_eq_true_eq,Bool.not_eq_true',Bool.and_eq_false_iff,decide_eq_false_iff_not]
  omega
 delta m68 d68
 simp only[↓JD.sg_m,↓JD.sq_m,↓JD.sc_m,↓JD.bk_m,↓JD.lp_m,↓JD.cd_m,↓JD.lu_m,↓JD.ct_m,↓JD.ce_m,↓JL.r_m,↓JL.z_m,↓JD.se_m,onE_r,↓Tr.run,↓Tr.run_nd,↓Tr.run_c3,↓Tr.run_c2,↓Tr.run_nx,↓onS,bind_ite,Option.bind_some,Option.bind_none,obR,nm_r8name,st,checkM]
 refine ite_else (ite_else (ite_else (loop_or _ (condF c) (fun i hi=>?_) (by (simp only[lt_irr,decide_false,Bool.false_eq_true,if_false];try rfl)) (loop_or _ (nevF c) (fun i hi=>?_) (by (simp only[lt_irr,decide_false,Bool.false_eq_true,if_false];try rfl)) (loop_or _ (stF c) (fun i hi=>?_) (by (simp only[lt_irr,decide_false,Bool.false_eq_true,if_false];try rfl)) (ite_else (loop_or _ (trF c) (fun i hi=>?_) (by (simp only[lt_irr,decide_false,Bool.false_eq_true,if_false];try rfl)) rfl)))))))
 ·unfold condF listedS hasK
  simp only[inL hi,decide_true,nm_r8name,Option.bind_some,Int.toNat_natCast,if_true,wr1 hi (by omega),show (i:Int)≤c.Conds.length by omega]
  cases nm (c.Conds.getD i default) with
  | false=>rfl
  | true =>
   simp only[Bool.not_true,Bool.false_eq_true,if_false,Option.bind_some,onS_l]
   rw[loop_ex0 i (fun j=>if(c.Conds.getD i default==c.Conds.getD j default)=true then some (.inr (.inr 7))else none) ?_ ?_,firstR_const]
   ·cases anyR (fun j=>c.Conds.getD i default==c.Conds.getD j default) i<;>rfl
   ·intro j hj
    have j3:((j:Int) < (((subL c.Conds 0 i).length:Nat):Int)):=by rw[subL_len];omega
    simp only[exB_ite,exB_some,exB_none]
    simp only[inL hj,decide_true,j3,Int.toNat_natCast,if_true,subL_getD hj,wr1 hj (by omega)]
   ·(simp only[lt_irr,decide_false,Bool.false_eq_true,if_false];try rfl)
 ·have hl:=H.lits _ (getD_mem hi)
  unfold nevF
  (simp only[exB_ite,exB_some,exB_none];simp only[rliterals_eq c _ (Nat.le_trans hl (by omega)),Option.bind_some,inL hi,decide_true,Int.toNat_natCast,if_true,implies_true,wr1 hi (by omega)];try rfl)
 ·unfold stF
  (simp only[exB_ite,exB_some,exB_none];simp only[rstate_eq c H i hi,Option.bind_some,inL hi,decide_true,Int.toNat_natCast,if_true,implies_true,wr1 hi (by omega)];try rfl)
 ·have hw:=H.when_ _ (getD_mem hi)
  have ha:=H.acts _ (getD_mem hi)
  unfold trF
  simp only[exB_ite,exB_some,exB_none]
  simp only[isn,inL hi,rliterals_eq c _ (Nat.le_trans hw (by omega)),ractions_eq _ (Nat.le_trans ha (by omega)),Option.bind_some,decide_true,Int.toNat_natCast,if_true,wr1 hi (by omega)]
  refine ite_else ?_
  by_cases h0:litS c (c.Transitions.getD i default).When=0
  ·simp only[h0,bne_self_eq_false,beq_self_eq_true,Bool.false_eq_true,if_true,if_false,Option.bind_some]
  ·have h1:(litS c (c.Transitions.getD i default).When==0)=false:=by simpa using h0
   simp only[bne,h1,Bool.not_false,Bool.false_eq_true,if_true,if_false,Option.bind_some]
end Go.Av.Ch
set_option maxRecDepth 100000
namespace Go.Av.Ch
def topB (c:T27) (s:Int):Bool:=decide ((c.States.getD s.toNat default).Parent < 0) || decide (s≤(c.States.getD s.toNat default).Parent)
def pathT (c:T27):Nat→Int→List Int
 | 0,_=>[]
 | n+1,s=>if topB c s=true then[]else(c.States.getD s.toNat default).Parent :: pathT c n (c.States.getD s.toNat default).Parent
def pathS (c:T27) (s:Int):List Int:=if isS c s=true then s :: pathT c s.toNat s else[]
theorem pathT_len (c:T27):∀ n s,(pathT c n s).length≤n
 | 0,_=>by simp[pathT]
 | n+1,s=>by
  unfold pathT
  split
  ·simp
  ·have:=pathT_len c n (c.States.getD s.toNat default).Parent
   simp only[List.length_cons];omega
theorem pathS_len (c:T27) (s:Int):(pathS c s).length≤c.States.length:=by
 unfold pathS
 split
 ·rename_i h
  have:=isS_iff.1 h
  have:=pathT_len c s.toNat s
  simp only[List.length_cons];omega
 ·simp
theorem topB_false {c:T27} {s:Int} (h:topB c s=false):0≤(c.States.getD s.toNat default).Parent∧(c.States.getD s.toNat default).Parent < s:=by
 simp only[topB,Bool.or_eq_false_iff,decide_eq_false_iff_not]at h;omega
theorem pathT_fuel (c:T27):∀ n m s,0≤s→s.toNat≤n→s.toNat≤m→pathT c n s=pathT c m s:=by
 intro n
 induction n with
 | zero =>
  intro m s h0 hn hm
  cases m with
  | zero=>rfl
  | succ m =>
   unfold pathT
   cases ht:topB c s with
   | true=>simp
   | false=>have:=topB_false ht;omega
 | succ n ih =>
  intro m s h0 hn hm
  cases ht:topB c s with
  | true =>
   cases m with
   | zero=>unfold pathT;simp[ht]
   | succ m=>unfold pathT;simp[ht]
  | false =>
   have:=topB_false ht
   cases m with
   | zero=>omega
   | succ m =>
    unfold pathT
    simp only[ht,Bool.false_eq_true,if_false]
    rw[ih m _ this.1 (by omega) (by omega)]
theorem pathS_step {c:T27} {s:Int} (h:isS c s=true):pathS c s=s :: if topB c s=true then[]else pathS c (c.States.getD s.toNat default).Parent:=by
 have hs:=isS_iff.1 h
 unfold pathS
 rw[if_pos h,pathT_fuel c s.toNat (s.toNat+1) s hs.1 (Nat.le_refl _) (by omega)]
 congr 1
 show (if topB c s=true then[]else(c.States.getD s.toNat default).Parent :: pathT c s.toNat (c.States.getD s.toNat default).Parent)=_
 cases ht:topB c s with
 | true=>rfl
 | false =>
  have hp:=topB_false ht
  simp only[Bool.false_eq_true,if_false]
  rw[if_pos (isS_iff.2 ⟨hp.1,by omega⟩),pathT_fuel c s.toNat (c.States.getD s.toNat default).Parent.toNat _ hp.1 (by omega) (Nat.le_refl _)]
theorem pathS_is {c:T27}:∀ (n:Nat) (s:Int),s.toNat≤n→∀ x∈pathS c s,isS c x=true∧x≤s:=by
 intro n
 induction n with
 | zero =>
  intro s hn x hx
  cases h:isS c s with
  | false=>unfold pathS at hx;rw[if_neg (by rw[h];decide)]at hx;cases hx
  | true =>
   have hs:=isS_iff.1 h
   rw[pathS_step h]at hx
   cases ht:topB c s with
   | true=>rw[ht]at hx;simp at hx;subst hx;exact⟨h,Int.le_refl _⟩
   | false=>have:=topB_false ht;omega
 | succ n ih =>
  intro s hn x hx
  cases h:isS c s with
  | false=>unfold pathS at hx;rw[if_neg (by rw[h];decide)]at hx;cases hx
  | true =>
   rw[pathS_step h]at hx
   rcases List.mem_cons.1 hx with rfl | hx
   ·exact⟨h,Int.le_refl _⟩
   ·cases ht:topB c s with
    | true=>rw[ht]at hx;simp at hx
    | false =>
     have:=topB_false ht
     rw[ht]at hx
     have:=ih _ (by omega) x hx
     exact⟨this.1,by omega⟩
theorem path_loop {c:T27} {b:Int×List Int→Option ((Int×List Int)⊕List Int)}
  (hb:∀ (s:Int) (acc:List Int),0≤s→s < c.States.length→b (s,acc)=if topB c s=true then some (.inr acc)else if(acc.length+1) * 8≤140737488355328 then some (.inl ((c.States.getD s.toNat default).Parent,acc++[(c.States.getD s.toNat default).Parent]))else none) :
  ∀ (n:Nat) (s:Int) (acc:List Int),0≤s→s < c.States.length→s.toNat≤n→acc.length+n≤100000→loopO b (s,acc)=some (acc++pathT c n s):=by
 intro n
 induction n with
 | zero =>
  intro s acc h0 h1 hn hl
  rw[loopO_eq,hb s acc h0 h1]
  cases ht:topB c s with
  | true=>simp[pathT]
  | false=>have:=topB_false ht;omega
 | succ n ih =>
  intro s acc h0 h1 hn hl
  rw[loopO_eq,hb s acc h0 h1]
  unfold pathT
  cases ht:topB c s with
  | true=>simp
  | false =>
   have hp:=topB_false ht
   have h8:(acc.length+1) * 8≤140737488355328:=by omega
   simp only[Bool.false_eq_true,if_false,if_pos h8,Option.bind_some]
   rw[ih _ _ hp.1 (by omega) (by omega) (by simp only[List.length_append,List.length_cons,List.length_nil];omega)]
   simp
theorem Path_eq (c:T27) (H:Fit c) (s:Int):m48 c s=some (pathS c s):=by
 have hs:=H.states
 delta m48 d48
 simp only[↓JD.sg_m,↓JD.sq_m,↓JD.sc_m,↓JD.bk_m,↓JD.lp_m,↓JD.cd_m,↓JD.lu_m,↓JD.ct_m,↓JD.ce_m,↓JL.r_m,↓JL.z_m,↓JD.se_m,onE_r,↓Tr.run,↓Tr.run_nd,↓Tr.run_c3,↓Tr.run_c2,↓Tr.run_nx,↓onS,bind_ite,Option.bind_some,Option.bind_none,obR,is_eq]
 unfold pathS
 cases h:isS c s with
 | false=>rfl
 | true =>
  have hi:=isS_iff.1 h
  simp only[Bool.not_true,Bool.false_eq_true,if_false,if_true]
  rw[path_loop (c:=c) (fun s acc h0 h1=>?_) s.toNat s [s] hi.1 hi.2 (Nat.le_refl _) (by simp;omega)]
  ·simp
  ·simp only[h0,h1,if_true];rfl
theorem rPath_eq (c:T27) (H:Fit c) (s:Int):m123 c s=some (pathS c s):=by
 have hs:=H.states
 have e:(decide (s < 0) || decide ((c.States.length:Int)≤s))=!isS c s:=by
  rw[Bool.eq_iff_iff];simp only[isS,Bool.or_eq_true,decide_eq_true_eq,Bool.not_eq_true',Bool.and_eq_false_iff,decide_eq_false_iff_not];omega
 delta m123 d123
 simp only[↓JD.sg_m,↓JD.sq_m,↓JD.sc_m,↓JD.bk_m,↓JD.lp_m,↓JD.cd_m,↓JD.lu_m,↓JD.ct_m,↓JD.ce_m,↓JL.r_m,↓JL.z_m,↓JD.se_m,onE_r,↓Tr.run,↓Tr.run_nd,↓Tr.run_c3,↓Tr.run_c2,↓Tr.run_nx,↓onS,bind_ite,Option.bind_some,Option.bind_none,obR,e]
 unfold pathS
 cases h:isS c s with
 | false=>rfl
 | true =>
  have hi:=isS_iff.1 h
  simp only[Bool.not_true,Bool.false_eq_true,if_false,if_true]
  rw[path_loop (c:=c) (fun s acc h0 h1=>?_) s.toNat s [s] hi.1 hi.2 (Nat.le_refl _) (by simp;omega)]
  ·simp
  ·simp only[h0,h1,if_true];rfl
def leafG (c:T27) (i:Nat):List Int:=if comp c i=true then[]else[(i:Int)]
def leavesS (c:T27):List Int:=(List.range c.States.length).flatMap (leafG c)
theorem leafG_len (c:T27) (i:Nat):(leafG c i).length≤1:=by unfold leafG;split<;>simp
theorem leavesS_iff {c:T27} {x:Int}:x∈leavesS c↔isS c x=true∧comp c x=false:=by
 unfold leavesS leafG
 rw[List.mem_flatMap,isS_iff]
 constructor
 ·rintro⟨i,hi,hx⟩
  rw[List.mem_range]at hi
  split at hx
  ·cases hx
  ·rename_i h;simp only[List.mem_singleton]at hx;subst hx;exact⟨by omega,by simpa using h⟩
 ·rintro⟨h1,h2⟩
  refine⟨x.toNat,List.mem_range.2 (by omega),?_⟩
  rw[Int.toNat_of_nonneg h1.1,if_neg (by rw[h2];decide)];simp
theorem Leaves_eq (c:T27) (H:Fit c):m53 c=some (leavesS c):=by
 have hs:=H.states
 delta m53 d53
 simp only[↓JD.sg_m,↓JD.sq_m,↓JD.sc_m,↓JD.bk_m,↓JD.lp_m,↓JD.cd_m,↓JD.lu_m,↓JD.ct_m,↓JD.ce_m,↓JL.r_m,↓JL.z_m,↓JD.se_m,onE_r,↓Tr.run,↓Tr.run_nd,↓Tr.run_c3,↓Tr.run_c2,↓Tr.run_nx,↓onS,bind_ite,Option.bind_some,Option.bind_none,obR,composite_eq c _ (Nat.le_trans hs (by omega))]
 refine on_l (loop_coll c.States.length (fun i l=>(l,(i:Int))) (leafG c) Sum.inl (fun i hi=>?_) (by (simp only[lt_irr,decide_false,Bool.false_eq_true,if_false];try rfl))) rfl
 have hl:=flatMap_len (leafG_len c) i
 have h3:(((List.range i).flatMap (leafG c)).length+1) * 8≤140737488355328:=by omega
 simp only[inL hi,decide_true,h3,if_true,wr1 hi (by omega),leafG]
 cases comp c i<;>simp
theorem rLeaves_eq (c:T27) (H:Fit c):m57 c=some (leavesS c):=by
 have hs:=H.states
 delta m57 d57
 simp only[↓JD.sg_m,↓JD.sq_m,↓JD.sc_m,↓JD.bk_m,↓JD.lp_m,↓JD.cd_m,↓JD.lu_m,↓JD.ct_m,↓JD.ce_m,↓JL.r_m,↓JL.z_m,↓JD.se_m,onE_r,↓Tr.run,↓Tr.run_nd,↓Tr.run_c3,↓Tr.run_c2,↓Tr.run_nx,↓onS,bind_ite,Option.bind_some,Option.bind_none,obR,rcomposite_eq c _ (Nat.le_trans hs (by omega))]
 refine on_l (loop_coll c.States.length (fun i l=>(l,(i:Int))) (leafG c) Sum.inl (fun i hi=>?_) (by (simp only[lt_irr,decide_false,Bool.false_eq_true,if_false];try rfl))) rfl
 have hl:=flatMap_len (leafG_len c) i
 have h3:(((List.range i).flatMap (leafG c)).length+1) * 8≤140737488355328:=by omega
 simp only[inL hi,decide_true,h3,if_true,wr1 hi (by omega),leafG]
 cases comp c i<;>simp
def bitV (v:Int) (k:Nat):Bool:=IntKind.u16.wrap ((BitVec.ofInt IntKind.u16.bits (v.fdiv (2 ^ min k IntKind.u16.bits)) &&& BitVec.ofInt IntKind.u16.bits 1).toNat:Int)==1
theorem bitV_eq {v:Int} {k:Nat} (h0:0≤v) (hk:k≤16):bitV v k=v.toNat.testBit k:=by
 obtain⟨n,rfl⟩:=Int.eq_ofNat_of_zero_le h0
 unfold bitV
 have e1:min k IntKind.u16.bits=k:=by show min k 16=k;omega
 have e2:(n:Int).fdiv (2 ^ k)=((n / 2 ^ k:Nat):Int):=by
  rw[Int.fdiv_eq_ediv_of_nonneg _ (Int.le_of_lt (Int.pow_pos (by omega)))]
  push_cast
  rfl
 rw[e1,e2]
 have e3:(BitVec.ofInt IntKind.u16.bits ((n / 2 ^ k:Nat):Int) &&& BitVec.ofInt IntKind.u16.bits 1).toNat=n / 2 ^ k % 2:=by
  show (BitVec.ofInt 16 ((n / 2 ^ k:Nat):Int) &&& 1#16).toNat=_
  rw[BitVec.ofInt_natCast,BitVec.toNat_and,BitVec.toNat_ofNat]
  show n / 2 ^ k % 65536 &&& 1=_
  rw[Nat.and_one_is_mod]
  omega
 rw[e3]
 have e4:IntKind.u16.wrap ((n / 2 ^ k % 2:Nat):Int)=((n / 2 ^ k % 2:Nat):Int):=by
  have:n / 2 ^ k % 2 < 2:=Nat.mod_lt _ (by omega)
  generalize n / 2 ^ k % 2=m at *
  match m,this with
  | 0,_=>rfl
  | 1,_=>rfl
 rw[e4,Int.toNat_natCast,Nat.testBit_eq_decide_div_mod_eq,Bool.eq_iff_iff,beq_iff_eq,decide_eq_true_eq]
 omega
def litN (v:Int) (x:T116):Bool:=decide (x.Cond < 0) || decide (15 < x.Cond) || bitV v x.Cond.toNat==x.Neg
def holdsS (l:List T116) (v:Int):Bool:=!anyR (fun i=>litN v (l.getD i default)) l.length
theorem holds_loop {l:List T116} {v:Int} (hl:l.length≤100000) {b:Int→Option (Int⊕(Unit⊕Bool))} (hb:∀ i:Nat,i < l.length→b i=exB (if litN v (l.getD i default)=true then some false else none) ((i:Int)+1)) (hd:b l.length=some (.inr (.inl ()))) :
  (loopO b 0).bind (onS fun _=>some true)=some (holdsS l v):=by
 rw[loop_ex l.length _ hb hd,firstR_const,holdsS]
 cases anyR (fun i=>litN v (l.getD i default)) l.length<;>rfl
theorem Holds_eq (l:List T116) (v:Int) (hl:l.length≤100000):m50 l v=some (holdsS l v):=by
 delta m50 d50
 simp only[↓JD.sg_m,↓JD.sq_m,↓JD.sc_m,↓JD.bk_m,↓JD.lp_m,↓JD.cd_m,↓JD.lu_m,↓JD.ct_m,↓JD.ce_m,↓JL.r_m,↓JL.z_m,↓JD.se_m,onE_r,↓Tr.run,↓Tr.run_nd,↓Tr.run_c3,↓Tr.run_c2,↓Tr.run_nx,↓onS,bind_ite,Option.bind_some,Option.bind_none,obR]
 refine holds_loop hl (fun i hi=>?_) (by (simp only[lt_irr,decide_false,Bool.false_eq_true,if_false];try rfl))
 have h1:=eq_true (show (!(decide ((l.getD i default).Cond < 0) || decide (15 < (l.getD i default).Cond)))=true→0≤(l.getD i default).Cond from fun h=>by simp only[Bool.not_eq_true',Bool.or_eq_false_iff,decide_eq_false_iff_not]at h;omega)
 (simp only[exB_ite,exB_some,exB_none];simp only[h1,inL hi,decide_true,Int.toNat_natCast,if_true,implies_true,wr1 hi (by omega)];try rfl)
theorem rHolds_eq (l:List T116) (v:Int) (hl:l.length≤100000):m155 l v=some (holdsS l v):=by
 delta m155 d155
 simp only[↓JD.sg_m,↓JD.sq_m,↓JD.sc_m,↓JD.bk_m,↓JD.lp_m,↓JD.cd_m,↓JD.lu_m,↓JD.ct_m,↓JD.ce_m,↓JL.r_m,↓JL.z_m,↓JD.se_m,onE_r,↓Tr.run,↓Tr.run_nd,↓Tr.run_c3,↓Tr.run_c2,↓Tr.run_nx,↓onS,bind_ite,Option.bind_some,Option.bind_none,obR]
 refine holds_loop hl (fun i hi=>?_) (by (simp only[lt_irr,decide_false,Bool.false_eq_true,if_false];try rfl))
 have h1:=eq_true (show (!(decide ((l.getD i default).Cond < 0) || decide (15 < (l.getD i default).Cond)))=true→0≤(l.getD i default).Cond from fun h=>by simp only[Bool.not_eq_true',Bool.or_eq_false_iff,decide_eq_false_iff_not]at h;omega)
 (simp only[exB_ite,exB_some,exB_none];simp only[h1,inL hi,decide_true,Int.toNat_natCast,if_true,implies_true,wr1 hi (by omega)];try rfl)
def wideB (c:T27) (v:Int):Bool:=decide ((c.Conds.length:Int) < 16)&&(v.fdiv (2 ^ min (c.Conds.length:Int).toNat IntKind.u16.bits) != 0)
def allowedS (c:T27) (v:Int):Bool:=!wideB c v&&!anyR (fun i=>holdsS (c.Never.getD i default) v) c.Never.length
theorem Allowed_eq (c:T27) (H:Fit c) (v:Int):m20 c v=some (allowedS c v):=by
 have hn:=H.never
 have e:m102o0 c.Never v=some (findR (fun i=>holdsS (c.Never.getD i default) v) c.Never.length):=by
  delta m102o0 d102o0
  simp only[↓JD.sg_m,↓JD.sq_m,↓JD.sc_m,↓JD.bk_m,↓JD.lp_m,↓JD.cd_m,↓JD.lu_m,↓JD.ct_m,↓JD.ce_m,↓JL.r_m,↓JL.z_m,↓JD.se_m,onE_r,↓Tr.run,↓Tr.run_nd,↓Tr.run_c3,↓Tr.run_c2,↓Tr.run_nx,↓onS,bind_ite,Option.bind_some,Option.bind_none,obR,m52o0,d52o0]
  refine idx_loop (fun i hi=>?_) (by (simp only[lt_irr,decide_false,Bool.false_eq_true,if_false];try rfl))
  have hl:=H.lits _ (getD_mem hi)
  (simp only[exB_ite,exB_some,exB_none];simp only[Holds_eq _ _ (Nat.le_trans hl (by omega)),Option.bind_some,inL hi,decide_true,Int.toNat_natCast,if_true,implies_true,wr1 hi (by omega)];try rfl)
 have h1:=eq_true (show decide ((c.Conds.length:Int) < 16)=true→(0:Int)≤(c.Conds.length:Int) from fun _=>by omega)
 delta m20 d20
 simp only[↓JD.sg_m,↓JD.sq_m,↓JD.sc_m,↓JD.bk_m,↓JD.lp_m,↓JD.cd_m,↓JD.lu_m,↓JD.ct_m,↓JD.ce_m,↓JL.r_m,↓JL.z_m,↓JD.se_m,onE_r,↓Tr.run,↓Tr.run_nd,↓Tr.run_c3,↓Tr.run_c2,↓Tr.run_nx,↓onS,bind_ite,Option.bind_some,Option.bind_none,obR,m51o0,d51o0,e,findR_any,h1,if_true]
 unfold allowedS
 cases hw:wideB c v with
 | true=>unfold wideB at hw;simp only[hw,if_true];rfl
 | false=>unfold wideB at hw;simp only[hw,if_false,Bool.false_eq_true];rfl
theorem wide_any {c:T27} {v:Int} (h0:0≤v) (h1:v < 65536):anyR (fun i=>decide ((c.Conds.length:Int)≤(i:Int))&&bitV v i) 16=wideB c v:=by
 obtain⟨n,rfl⟩:=Int.eq_ofNat_of_zero_le h0
 generalize hk:c.Conds.length=k
 unfold wideB
 rw[Bool.eq_iff_iff,anyR_iff,hk,Int.toNat_natCast]
 have e2:k < 16→(n:Int).fdiv (2 ^ min k IntKind.u16.bits)=((n / 2 ^ k:Nat):Int):=fun hk16=>by
  have e1:min k IntKind.u16.bits=k:=by show min k 16=k;omega
  rw[e1,Int.fdiv_eq_ediv_of_nonneg _ (Int.le_of_lt (Int.pow_pos (by omega)))]
  push_cast
  rfl
 constructor
 ·rintro⟨i,hi,h⟩
  simp only[Bool.and_eq_true,decide_eq_true_eq]at h
  obtain⟨h2,h3⟩:=h
  rw[bitV_eq h0 (by omega),Int.toNat_natCast]at h3
  have hk16:k < 16:=by omega
  simp only[Bool.and_eq_true,decide_eq_true_eq,bne_iff_ne,ne_eq]
  refine⟨by omega,?_⟩
  rw[e2 hk16]
  intro hz
  have hz:n / 2 ^ k=0:=by omega
  have hlt:n < 2 ^ k:=by
   rcases Nat.div_eq_zero_iff.1 hz with h | h
   ·have:=Nat.two_pow_pos k;omega
   ·exact h
  have:=Nat.testBit_lt_two_pow (Nat.lt_of_lt_of_le hlt (Nat.pow_le_pow_right (by omega) (show k≤i by omega)))
  rw[this]at h3;cases h3
 ·intro h
  simp only[Bool.and_eq_true,decide_eq_true_eq,bne_iff_ne,ne_eq]at h
  obtain⟨h2,h3⟩:=h
  have hk16:k < 16:=by omega
  rw[e2 hk16]at h3
  have h3:n / 2 ^ k≠0:=by omega
  apply Classical.byContradiction
  intro hno
  apply h3
  apply Nat.eq_of_testBit_eq
  intro j
  rw[Nat.testBit_div_two_pow,Nat.zero_testBit]
  rcases Nat.lt_or_ge (j+k) 16 with hj | hj
  ·cases hb:n.testBit (j+k) with
   | false=>rfl
   | true =>
    exfalso
    refine hno ⟨j+k,hj,?_⟩
    simp only[Bool.and_eq_true,decide_eq_true_eq]
    exact⟨by omega,by rw[bitV_eq h0 (by omega),Int.toNat_natCast];exact hb⟩
  ·exact Nat.testBit_lt_two_pow (Nat.lt_of_lt_of_le (show n < 2 ^ 16 by omega) (Nat.pow_le_pow_right (by omega) hj))
theorem rAllowed_eq (c:T27) (H:Fit c) (v:Int) (h0:0≤v) (h1:v < 65536):m106 c v=some (allowedS c v):=by
 have hn:=H.never
 delta m106 d106
 simp only[↓JD.sg_m,↓JD.sq_m,↓JD.sc_m,↓JD.bk_m,↓JD.lp_m,↓JD.cd_m,↓JD.lu_m,↓JD.ct_m,↓JD.ce_m,↓JL.r_m,↓JL.z_m,↓JD.se_m,onE_r,↓Tr.run,↓Tr.run_nd,↓Tr.run_c3,↓Tr.run_c2,↓Tr.run_nx,↓onS,bind_ite,Option.bind_some,Option.bind_none,obR]
 have e:∀ {b:Int→Option (Int⊕(Unit⊕Bool))} {k:Unit→Option Bool},(∀ i:Nat,i < 16→b i=exB (if(decide ((c.Conds.length:Int)≤(i:Int))&&bitV v i)=true then some false else none) ((i:Int)+1))→b 16=some (.inr (.inl ())) →
   k ()=some (!anyR (fun i=>holdsS (c.Never.getD i default) v) c.Never.length)→(loopO b 0).bind (onS k)=some (allowedS c v):=fun hb hd hk=>by
  rw[loop_ex 16 _ hb hd,firstR_const,hk,wide_any h0 h1,allowedS]
  cases wideB c v<;>rfl
 refine e (fun i hi=>?_) (by rfl) ?_
 ·have a1:=eq_true (show decide ((c.Conds.length:Int)≤(i:Int))=true→(0:Int)≤(i:Int) from fun _=>by omega)
  have a2:=eq_true (show decide ((i:Int) < 16)=true by simp;omega)
  simp only[exB_ite,exB_some,exB_none];simp only[a1,a2,if_true,Int.toNat_natCast,wr1 hi (by omega)];rfl
 ·rw[loop_ex c.Never.length (fun i=>if holdsS (c.Never.getD i default) v=true then some false else none) ?_ ?_,firstR_const]
  ·cases anyR (fun i=>holdsS (c.Never.getD i default) v) c.Never.length<;>rfl
  ·intro i hi
   have hl:=H.lits _ (getD_mem hi)
   (simp only[exB_ite,exB_some,exB_none];simp only[rHolds_eq _ _ (Nat.le_trans hl (by omega)),Option.bind_some,inL hi,decide_true,Int.toNat_natCast,if_true,implies_true,wr1 hi (by omega)];try rfl)
  ·(simp only[lt_irr,decide_false,Bool.false_eq_true,if_false];try rfl)
def enabG (c:T27) (p:List Int) (v:Int) (i:Nat):List Int:=if(hasK p p.length (c.Transitions.getD i default).From&&holdsS (c.Transitions.getD i default).When v)=true then[(i:Int)]else[]
def enabledS (c:T27) (leaf v:Int):List Int:=(List.range c.Transitions.length).flatMap (enabG c (pathS c leaf) v)
theorem enabG_len (c:T27) (p:List Int) (v:Int) (i:Nat):(enabG c p v i).length≤1:=by unfold enabG;split<;>simp
theorem enabledS_len (c:T27) (leaf v:Int):(enabledS c leaf v).length≤c.Transitions.length:=by
 have:=flatMap_len (enabG_len c (pathS c leaf) v) c.Transitions.length;unfold enabledS;omega
theorem Enabled_eq (c:T27) (H:Fit c) (leaf v:Int):m19 c leaf v=some (enabledS c leaf v):=by
 have hs:=H.states
 have ht:=H.trans
 have hp:=pathS_len c leaf
 delta m19 d19
 simp only[↓JD.sg_m,↓JD.sq_m,↓JD.sc_m,↓JD.bk_m,↓JD.lp_m,↓JD.cd_m,↓JD.lu_m,↓JD.ct_m,↓JD.ce_m,↓JL.r_m,↓JL.z_m,↓JD.se_m,onE_r,↓Tr.run,↓Tr.run_nd,↓Tr.run_c3,↓Tr.run_c2,↓Tr.run_nx,↓onS,bind_ite,Option.bind_some,Option.bind_none,obR,Path_eq c H,onS_l]
 refine on_l (loop_coll c.Transitions.length (fun i l=>(l,(i:Int))) (enabG c (pathS c leaf) v) Sum.inl (fun i hi=>?_) (by (simp only[lt_irr,decide_false,Bool.false_eq_true,if_false];try rfl))) rfl
 have hl:=flatMap_len (enabG_len c (pathS c leaf) v) i
 have h3:(((List.range i).flatMap (enabG c (pathS c leaf) v)).length+1) * 8≤140737488355328:=by omega
 have hw:=H.when_ _ (getD_mem hi)
 simp only[inL hi,decide_true,h3,Int.toNat_natCast,if_true,wr1 hi (by omega),containsI_eq _ _ (show (pathS c leaf).length≤100000 by omega),Holds_eq _ _ (Nat.le_trans hw (by omega)),Option.bind_some,enabG]
 cases hasK (pathS c leaf) (pathS c leaf).length (c.Transitions.getD i default).From with
 | false=>simp
 | true=>cases holdsS (c.Transitions.getD i default).When v<;>simp
theorem rEnabled_eq (c:T27) (H:Fit c) (leaf v:Int):m107 c leaf v=some (enabledS c leaf v):=by
 have hs:=H.states
 have ht:=H.trans
 have hp:=pathS_len c leaf
 delta m107 d107
 simp only[↓JD.sg_m,↓JD.sq_m,↓JD.sc_m,↓JD.bk_m,↓JD.lp_m,↓JD.cd_m,↓JD.lu_m,↓JD.ct_m,↓JD.ce_m,↓JL.r_m,↓JL.z_m,↓JD.se_m,onE_r,↓Tr.run,↓Tr.run_nd,↓Tr.run_c3,↓Tr.run_c2,↓Tr.run_nx,↓onS,bind_ite,Option.bind_some,Option.bind_none,obR,rPath_eq c H,onS_l]
 refine on_l (loop_coll c.Transitions.length (fun i l=>(l,(i:Int))) (enabG c (pathS c leaf) v) Sum.inl (fun i hi=>?_) (by (simp only[lt_irr,decide_false,Bool.false_eq_true,if_false];try rfl))) rfl
 have hl:=flatMap_len (enabG_len c (pathS c leaf) v) i
 have h3:(((List.range i).flatMap (enabG c (pathS c leaf) v)).length+1) * 8≤140737488355328:=by omega
 have hw:=H.when_ _ (getD_mem hi)
 simp only[inL hi,decide_true,h3,Int.toNat_natCast,if_true,wr1 hi (by omega),on_eq _ _ (show (pathS c leaf).length≤100000 by omega),rHolds_eq _ _ (Nat.le_trans hw (by omega)),Option.bind_some,enabG]
 cases hasK (pathS c leaf) (pathS c leaf).length (c.Transitions.getD i default).From with
 | false=>simp
 | true=>cases holdsS (c.Transitions.getD i default).When v<;>simp
end Go.Av.Ch
set_option maxRecDepth 100000
namespace Go.Av.Ch
abbrev stA (c:T27) (x:Int):T119:=c.States.getD x.toNat default
structure Good (c:T27):Prop where
 ne:0 < c.States.length
 cap:c.States.length≤40
 parent:∀ x,isS c x=true → -1≤(stA c x).Parent∧(stA c x).Parent < x
 init:∀ x,isS c x=true→comp c x=true→childS c (stA c x).Initial x=true
 leafI:∀ x,isS c x=true→comp c x=false→(stA c x).Initial = -1∧(stA c x).History=false
 start:isS c c.Start=true
 tr:∀ i,i < c.Transitions.length→isS c (c.Transitions.getD i default).From=true∧isS c (c.Transitions.getD i default).To=true
 entry:∀ x,isS c x=true→(stA c x).Entry.length≤8
 exit_:∀ x,isS c x=true→(stA c x).Exit.length≤8
 acts:∀ i,i < c.Transitions.length→(c.Transitions.getD i default).Actions.length≤8
theorem orK_ok {R:Type} {a b:Option R} {z:R} (h:orK a b=some z) (hn:a≠some z):a=none∧b=some z:=by
 cases a with
 | none=>exact⟨rfl,h⟩
 | some y=>exact absurd h hn
theorem ite_err {p:Prop} [Decidable p] {e z:Int} {k:Option Int} (h:(if p then some e else k)=some z) (he:e≠z):¬ p∧k=some z:=by
 split at h
 ·injection h with h;exact absurd h he
 ·rename_i hp;exact⟨hp,h⟩
theorem good_of {c:T27} (h:checkM c=some 0):Good c:=by
 unfold checkM at h
 obtain⟨-,h⟩:=ite_err h (by decide)
 obtain⟨h1,h⟩:=ite_err h (by decide)
 obtain⟨hcap,h⟩:=ite_err h (by decide)
 have n1:firstR (condF c) c.Conds.length≠some 0:=fun e=>by
  obtain⟨i,_,e⟩:=firstR_some e
  unfold condF at e
  split at e
  ·rename_i hh;injection e with e;rw[e]at hh;simp at hh
  ·cases e
 obtain⟨-,h⟩:=orK_ok h n1
 have n2:firstR (nevF c) c.Never.length≠some 0:=fun e=>by
  obtain⟨i,_,e⟩:=firstR_some e
  unfold nevF at e
  split at e
  ·cases e
  ·split at e
   ·rename_i hh;injection e with e;rw[e]at hh;simp at hh
   ·cases e
 obtain⟨-,h⟩:=orK_ok h n2
 have n3:firstR (stF c) c.States.length≠some 0:=fun e=>by
  obtain⟨i,_,e⟩:=firstR_some e
  unfold stF at e
  split at e
  ·rename_i hh;injection e with e;rw[e]at hh;simp at hh
  ·cases e
 obtain⟨hst,h⟩:=orK_ok h n3
 obtain⟨hs,h⟩:=ite_err h (by decide)
 have n4:firstR (trF c) c.Transitions.length≠some 0:=fun e=>by
  obtain⟨i,_,e⟩:=firstR_some e
  unfold trF at e
  split at e
  ·cases e
  ·split at e
   ·rename_i hh;injection e with e;rw[e]at hh;simp at hh
   ·split at e
    ·rename_i hh;injection e with e;rw[e]at hh;simp at hh
    ·cases e
 obtain⟨htr,-⟩:=orK_ok h n4
 have st:∀ i,i < c.States.length→stateT c i=0:=fun i hi=>by
  have:=firstR_none.1 hst i hi
  unfold stF at this
  split at this
  ·cases this
  ·rename_i hh
   have hh:stateS c i=0:=by simpa using hh
   unfold stateS at hh
   split at hh
   ·rename_i h2;rw[hh]at h2;simp at h2
   ·exact hh
 have key:∀ x,isS c x=true→x=(x.toNat:Int)∧x.toNat < c.States.length:=fun x hx=>by have:=isS_iff.1 hx;omega
 have rows:∀ x,isS c x=true→(-1≤(stA c x).Parent∧(stA c x).Parent < x)∧(comp c x=true→childS c (stA c x).Initial x=true)∧(comp c x=false→(stA c x).Initial = -1∧(stA c x).History=false)∧(stA c x).Entry.length≤8∧(stA c x).Exit.length≤8:=fun x hx=>by
  obtain⟨e,hlt⟩:=key x hx
  have h:=st _ hlt
  unfold stateT at h
  rw[← e]at h
  split at h
  ·cases h
  rename_i a1
  split at h
  ·cases h
  rename_i a2
  split at h
  ·cases h
  rename_i a3
  split at h
  ·rename_i a4;rw[h]at a4;simp at a4
  rename_i a4
  simp only[Bool.or_eq_true,decide_eq_true_eq,not_or,Int.not_lt,Int.not_le]at a1
  refine⟨⟨a1.1,a1.2⟩,fun hc=>?_,fun hc=>?_,actS_len (by simpa using a4),actS_len h⟩
  ·rw[hc]at a2
   simpa using a2
  ·rw[hc]at a2 a3
   exact⟨by simpa using a2,by simpa using a3⟩
 have trs:∀ i,i < c.Transitions.length→(isS c (c.Transitions.getD i default).From=true∧isS c (c.Transitions.getD i default).To=true)∧(c.Transitions.getD i default).Actions.length≤8:=fun i hi=>by
  have:=firstR_none.1 htr i hi
  unfold trF at this
  split at this
  ·cases this
  rename_i a1
  split at this
  ·cases this
  split at this
  ·cases this
  rename_i a3
  exact⟨by simpa using a1,actS_len (by simpa using a3)⟩
 refine⟨?_,by simp only[Bool.or_eq_true,decide_eq_true_eq,not_or,Int.not_lt]at hcap;omega,fun x hx=>(rows x hx).1,fun x hx=>(rows x hx).2.1,fun x hx=>(rows x hx).2.2.1,by simpa using hs,fun i hi=>(trs i hi).1,fun x hx=>(rows x hx).2.2.2.1,fun x hx=>(rows x hx).2.2.2.2,fun i hi=>(trs i hi).2⟩
 have:¬ ((c.States.length:Int)=0):=by simpa using h1
 omega
def memBad (c:T27) (i m:Int):Bool:=(m != (-1:Int))&&(!isS c m || !(stA c i).History || ((stA c m).Parent != i))
def validS (c:T27) (g:T37):Bool:=!(!isS c g.Leaf || comp c g.Leaf || ((g.Memory.length:Int) != (c.States.length:Int)))&&!anyR (fun i=>memBad c i (g.Memory.getD i default)) g.Memory.length
structure MemOk (c:T27) (m:List Int):Prop where
 len:m.length=c.States.length
 ok:∀ i:Nat,i < m.length→memBad c i (m.getD i default)=false
theorem validS_iff {c:T27} {g:T37}:validS c g=true↔isS c g.Leaf=true∧comp c g.Leaf=false∧MemOk c g.Memory:=by
 unfold validS
 simp only[Bool.and_eq_true,Bool.not_eq_true',Bool.or_eq_false_iff,Bool.not_eq_false',bne_eq_false_iff_eq,anyR_false]
 constructor
 ·rintro⟨⟨⟨h1,h2⟩,h3⟩,h4⟩;exact⟨h1,h2,⟨by omega,h4⟩⟩
 ·rintro⟨h1,h2,h3⟩;exact⟨⟨⟨h1,h2⟩,by have:=h3.len;omega⟩,h3.ok⟩
theorem MemOk.none {c:T27} {m:List Int} (h:MemOk c m) {x:Int} (hx:isS c x=true) (hh:(stA c x).History=false):m.getD x.toNat default = -1:=by
 have hi:=isS_iff.1 hx
 have:=h.ok x.toNat (by rw[h.len];omega)
 unfold memBad at this
 rw[Int.toNat_of_nonneg hi.1,hh]at this
 simpa using this
theorem MemOk.child {c:T27} {m:List Int} (h:MemOk c m) {x:Int} (hx:isS c x=true) (hm:m.getD x.toNat default ≠ -1):childS c (m.getD x.toNat default) x=true:=by
 have hi:=isS_iff.1 hx
 have:=h.ok x.toNat (by rw[h.len];omega)
 unfold memBad at this
 rw[Int.toNat_of_nonneg hi.1]at this
 simp only[Bool.and_eq_false_iff,bne_eq_false_iff_eq,Bool.or_eq_false_iff,Bool.not_eq_false']at this
 rcases this with h1 | ⟨⟨h1,h2⟩,h3⟩
 ·exact absurd h1 hm
 ·unfold childS;rw[h1,h3];simp
theorem MemOk.set {c:T27} {m:List Int} (h:MemOk c m) {x v:Int} (hv:v = -1∨((stA c x).History=true∧childS c v x=true)) (hx:isS c x=true):MemOk c (m.set x.toNat v):=by
 have hi:=isS_iff.1 hx
 refine⟨by rw[List.length_set];exact h.len,fun i hl=>?_⟩
 rw[List.length_set]at hl
 by_cases he:x.toNat=i
 ·subst he
  rw[List.getD_eq_getElem?_getD,List.getElem?_set_self hl,Option.getD_some,Int.toNat_of_nonneg hi.1]
  unfold memBad
  rcases hv with rfl | ⟨h1,h2⟩
  ·rfl
  ·unfold childS at h2
   simp only[Bool.and_eq_true,beq_iff_eq]at h2
   rw[h1,h2.1,h2.2];simp
 ·rw[List.getD_eq_getElem?_getD,List.getElem?_set_ne he,← List.getD_eq_getElem?_getD]
  exact h.ok i hl
theorem set_same {m:List Int} {i:Nat} {v:Int} (hi:i < m.length) (h:m.getD i default=v):m.set i v=m:=by
 apply List.ext_getElem?
 intro j
 rw[List.getElem?_set]
 split
 ·rename_i e;subst e
  rw[← h,List.getD_eq_getElem?_getD,List.getElem?_eq_getElem hi,Option.getD_some]
 ·rfl
theorem Valid_eq (c:T27) (H:Fit c) (g:T37):m66 c g=some (validS c g):=by
 have hs:=H.states
 delta m66 d66
 simp only[↓JD.sg_m,↓JD.sq_m,↓JD.sc_m,↓JD.bk_m,↓JD.lp_m,↓JD.cd_m,↓JD.lu_m,↓JD.ct_m,↓JD.ce_m,↓JL.r_m,↓JL.z_m,↓JD.se_m,onE_r,↓Tr.run,↓Tr.run_nd,↓Tr.run_c3,↓Tr.run_c2,↓Tr.run_nx,↓onS,bind_ite,Option.bind_some,Option.bind_none,obR,is_eq,composite_eq c _ (Nat.le_trans hs (by omega))]
 unfold validS
 have e0:(if(!!isS c g.Leaf)=true then some (isS c g.Leaf,comp c g.Leaf)else some (isS c g.Leaf,default))=some (isS c g.Leaf,if isS c g.Leaf=true then comp c g.Leaf else default):=by
  cases isS c g.Leaf<;>rfl
 cases h1:(!isS c g.Leaf || comp c g.Leaf || ((g.Memory.length:Int) != (c.States.length:Int))) with
 | true =>
  cases h2:isS c g.Leaf with
  | false=>simp
  | true =>
   rw[h2]at h1
   simp only[Bool.not_true,Bool.false_or]at h1
   simp only[Bool.not_true,Bool.not_false,Bool.false_or,if_true,h1,onS_r,Bool.false_and]
 | false =>
  simp only[Bool.or_eq_false_iff,Bool.not_eq_false',bne_eq_false_iff_eq]at h1
  obtain⟨⟨h2,h3⟩,h4⟩:=h1
  have h5:g.Memory.length=c.States.length:=by omega
  simp only[h2,h3,h5,bne_self_eq_false,Bool.not_true,Bool.not_false,Bool.or_false,Bool.false_eq_true,if_false,if_true,onS_l,Bool.true_and]
  rw[loop_ex c.States.length (fun i=>if memBad c i (g.Memory.getD i default)=true then some false else none) ?_ ?_,firstR_const]
  ·cases anyR (fun i=>memBad c i (g.Memory.getD i default)) c.States.length<;>rfl
  ·intro i hi
   simp only[exB_ite,exB_some,exB_none]
   simp only[inL hi,decide_true,Int.toNat_natCast,if_true,implies_true,wr1 hi (by omega)]
   unfold memBad stA
   simp only[Int.toNat_natCast]
   by_cases hm:g.Memory.getD i default = -1
   ·simp only[hm,bne_self_eq_false,Bool.false_and,Bool.false_eq_true,false_implies,if_false,if_true]
   ·have hm':(g.Memory.getD i default != (-1:Int))=true:=by simpa using hm
    have a3:=eq_true (show (true&&!(!isS c (g.Memory.getD i default) || !(c.States.getD i default).History))=true→(0:Int)≤g.Memory.getD i default from fun h=>by
     simp only[Bool.true_and,Bool.not_eq_true',Bool.or_eq_false_iff,Bool.not_eq_false']at h;exact(isS_iff.1 h.1).1)
    have a4:=eq_true (show (true&&!(!isS c (g.Memory.getD i default) || !(c.States.getD i default).History))=true→g.Memory.getD i default < (c.States.length:Int) from fun h=>by
     simp only[Bool.true_and,Bool.not_eq_true',Bool.or_eq_false_iff,Bool.not_eq_false']at h;exact(isS_iff.1 h.1).2)
    simp only[hm',a3,a4,if_true,Option.bind_some]
  ·(simp only[lt_irr,decide_false,Bool.false_eq_true,if_false];try rfl)
theorem rValid_eq (c:T27) (H:Fit c) (g:T37):m125 c g=some (validS c g):=by
 have hs:=H.states
 have hL:(leavesS c).length≤100000:=by have:=flatMap_len (leafG_len c) c.States.length;unfold leavesS;omega
 have hl:hasK (leavesS c) (leavesS c).length g.Leaf=(isS c g.Leaf&&!comp c g.Leaf):=by
  rw[Bool.eq_iff_iff,hasK_iff,leavesS_iff,Bool.and_eq_true,Bool.not_eq_true']
 delta m125 d125
 simp only[↓JD.sg_m,↓JD.sq_m,↓JD.sc_m,↓JD.bk_m,↓JD.lp_m,↓JD.cd_m,↓JD.lu_m,↓JD.ct_m,↓JD.ce_m,↓JL.r_m,↓JL.z_m,↓JD.se_m,onE_r,↓Tr.run,↓Tr.run_nd,↓Tr.run_c3,↓Tr.run_c2,↓Tr.run_nx,↓onS,bind_ite,Option.bind_some,Option.bind_none,obR,rLeaves_eq c H,on_eq _ _ hL,hl,rchild_eq]
 unfold validS
 cases h1:(!isS c g.Leaf || comp c g.Leaf || ((g.Memory.length:Int) != (c.States.length:Int))) with
 | true =>
  have:(!(isS c g.Leaf&&!comp c g.Leaf) || ((g.Memory.length:Int) != (c.States.length:Int)))=true:=by rw[← h1];cases isS c g.Leaf<;>cases comp c g.Leaf<;>rfl
  simp only[this,if_true,onS_r,Bool.not_true,Bool.false_and]
 | false =>
  simp only[Bool.or_eq_false_iff,Bool.not_eq_false',bne_eq_false_iff_eq]at h1
  obtain⟨⟨h2,h3⟩,h4⟩:=h1
  have h5:g.Memory.length=c.States.length:=by omega
  simp only[h2,h3,h5,bne_self_eq_false,Bool.not_true,Bool.not_false,Bool.and_true,Bool.or_false,Bool.false_eq_true,if_false,if_true,onS_l,Bool.true_and]
  rw[loop_ex c.States.length (fun i=>if memBad c i (g.Memory.getD i default)=true then some false else none) ?_ ?_,firstR_const]
  ·cases anyR (fun i=>memBad c i (g.Memory.getD i default)) c.States.length<;>rfl
  ·intro i hi
   simp only[exB_ite,exB_some,exB_none]
   simp only[inL hi,decide_true,Int.toNat_natCast,if_true,implies_true,wr1 hi (by omega)]
   unfold memBad childS stA
   simp only[Int.toNat_natCast]
   by_cases hm:(g.Memory.getD i default != (-1:Int))=true
   ·by_cases hh:(c.States.getD i default).History=true
    ·by_cases hq:isS c (g.Memory.getD i default)=true
     ·simp only[hm,hh,hq,Bool.true_and,Bool.not_true,Bool.not_false,Bool.false_or,if_true,Option.bind_some];simp only[bne]
     ·have hq:=Bool.eq_false_iff.2 hq
      simp only[hm,hh,hq,Bool.true_and,Bool.false_and,Bool.not_true,Bool.not_false,Bool.false_or,Bool.true_or,if_true,Option.bind_some]
    ·have hh:=Bool.eq_false_iff.2 hh
     simp only[hm,hh,Bool.true_and,Bool.not_true,Bool.not_false,Bool.true_or,Bool.or_true,Bool.false_eq_true,if_false,if_true]
   ·have hm:=Bool.eq_false_iff.2 hm
    simp only[hm,Bool.false_and,Bool.false_eq_true,if_false]
  ·(simp only[lt_irr,decide_false,Bool.false_eq_true,if_false];try rfl)
end Go.Av.Ch
set_option maxRecDepth 100000
namespace Go.Av.Ch
theorem isS_lt {c:T27} {x:Int} (h:isS c x=true):((0:Int)≤x)=True∧(x < (c.States.length:Int))=True∧x.toNat < c.States.length:=by
 have:=isS_iff.1 h
 exact⟨eq_true this.1,eq_true this.2,by omega⟩
theorem child_is {c:T27} (G:Good c) {x y:Int} (h:childS c y x=true):isS c y=true∧x < y:=by
 unfold childS at h
 simp only[Bool.and_eq_true,beq_iff_eq]at h
 have:=(G.parent y h.1).2
 exact⟨h.1,by unfold stA at this;omega⟩
def nextS (c:T27) (m:List Int) (x:Int):Int:=if((stA c x).History&&(m.getD x.toNat default != (-1:Int)))=true then m.getD x.toNat default else(stA c x).Initial
theorem nextS_child {c:T27} (G:Good c) {m:List Int} (M:MemOk c m) {x:Int} (hx:isS c x=true) (hc:comp c x=true):childS c (nextS c m x) x=true:=by
 unfold nextS
 split
 ·rename_i h
  simp only[Bool.and_eq_true,bne_iff_ne,ne_eq]at h
  exact M.child hx h.2
 ·exact G.init x hx hc
def enterF (c:T27):Nat→Int→List Int→List (List UInt8)→Int×List Int×List (List UInt8)
 | 0,x,m,a=>(x,m,a)
 | n+1,x,m,a=>if comp c x=true then enterF c n (nextS c m x) (m.set x.toNat (-1)) (a++(stA c x).Entry)else(x,m,a++(stA c x).Entry)
theorem enterF_ok {c:T27} (G:Good c):∀ (n:Nat) (x:Int) (m:List Int) (a:List (List UInt8)),isS c x=true→MemOk c m→c.States.length≤n+x.toNat →
  isS c (enterF c n x m a).1=true∧comp c (enterF c n x m a).1=false∧MemOk c (enterF c n x m a).2.1∧(enterF c n x m a).2.2.length≤a.length+8 * n
 | 0,x,m,a,hx,M,hn=>by have:=(isS_lt hx).2.2;omega
 | n+1,x,m,a,hx,M,hn=>by
  have he:=G.entry x hx
  unfold enterF
  cases hc:comp c x with
  | false=>simp only[Bool.false_eq_true,if_false,List.length_append];exact⟨hx,hc,M,by omega⟩
  | true =>
   simp only[if_true]
   obtain⟨h1,h2⟩:=child_is G (nextS_child G M hx hc)
   have h3:=isS_iff.1 hx
   obtain⟨k1,k2,k3,k4⟩:=enterF_ok G n _ _ (a++(stA c x).Entry) h1 (M.set (.inl rfl) hx) (by omega)
   exact⟨k1,k2,k3,by rw[List.length_append]at k4;omega⟩
theorem enter_loop {c:T27} (G:Good c) {b:Int×List Int×List (List UInt8)→Option ((Int×List Int×List (List UInt8))⊕(Int×List Int×List (List UInt8)))}
  (hb:∀ (x:Int) (m:List Int) (a:List (List UInt8)),isS c x=true→MemOk c m→a.length≤100000→b (x,m,a)=if comp c x=true then some (.inl (nextS c m x,m.set x.toNat (-1),a++(stA c x).Entry))else some (.inr (x,m,a++(stA c x).Entry))) :
  ∀ (n:Nat) (x:Int) (m:List Int) (a:List (List UInt8)),isS c x=true→MemOk c m→c.States.length≤n+x.toNat→a.length+8 * n≤100000→loopO b (x,m,a)=some (enterF c n x m a)
 | 0,x,m,a,hx,M,hn,hl=>by have:=(isS_lt hx).2.2;omega
 | n+1,x,m,a,hx,M,hn,hl=>by
  have he:=G.entry x hx
  rw[loopO_eq,hb x m a hx M (by omega)]
  unfold enterF
  cases hc:comp c x with
  | false=>rfl
  | true =>
   simp only[if_true,Option.bind_some]
   obtain⟨h1,h2⟩:=child_is G (nextS_child G M hx hc)
   have h3:=isS_iff.1 hx
   exact enter_loop G hb n _ _ _ h1 (M.set (.inl rfl) hx) (by omega) (by rw[List.length_append];omega)
theorem renter_loop {c:T27} (G:Good c) {b:List Int×Int×List (List UInt8)→Option ((List Int×Int×List (List UInt8))⊕((List Int×Int×List (List UInt8))⊕(List (List UInt8)×Int×List Int×List (List UInt8))))}
  (hb:∀ (x:Int) (m:List Int) (a:List (List UInt8)),isS c x=true→MemOk c m→a.length≤100000→b (m,x,a)=if comp c x=true then some (.inl (m.set x.toNat (-1),nextS c m x,a++(stA c (nextS c m x)).Entry))else some (.inr (.inl (m,x,a)))) :
  ∀ (n:Nat) (x:Int) (m:List Int) (a:List (List UInt8)),isS c x=true→MemOk c m→c.States.length≤n+x.toNat→a.length+8 * n≤100000→loopO b (m,x,a++(stA c x).Entry)=some (.inl ((enterF c n x m a).2.1,(enterF c n x m a).1,(enterF c n x m a).2.2))
 | 0,x,m,a,hx,M,hn,hl=>by have:=(isS_lt hx).2.2;omega
 | n+1,x,m,a,hx,M,hn,hl=>by
  have he:=G.entry x hx
  rw[loopO_eq,hb x m _ hx M (by rw[List.length_append];omega)]
  unfold enterF
  cases hc:comp c x with
  | false=>rfl
  | true =>
   simp only[if_true,Option.bind_some]
   obtain⟨h1,h2⟩:=child_is G (nextS_child G M hx hc)
   have h3:=isS_iff.1 hx
   exact renter_loop G hb n _ _ _ h1 (M.set (.inl rfl) hx) (by omega) (by rw[List.length_append];omega)
def enterS (c:T27) (x:Int) (m:List Int) (a:List (List UInt8)):Int×List Int×List (List UInt8):=enterF c c.States.length x m a
def aroundS (c:T27) (l:List Int) (m:List Int) (a:List (List UInt8)):List Int×List (List UInt8):=l.foldr (fun x s=>(s.1.set x.toNat (-1),s.2++(stA c x).Entry)) (m,a)
theorem aroundS_ok {c:T27} (G:Good c) {m:List Int} {a:List (List UInt8)} (M:MemOk c m):∀ (l:List Int),(∀ x∈l,isS c x=true)→MemOk c (aroundS c l m a).1∧(aroundS c l m a).2.length≤a.length+8 * l.length
 | [],_=>⟨M,Nat.le_refl _⟩
 | x :: l,h=>by
  obtain⟨h1,h2⟩:=aroundS_ok G (a:=a) M l fun y hy=>h y (List.mem_cons_of_mem _ hy)
  have hx:=h x (by simp)
  have he:=G.entry x hx
  refine⟨h1.set (.inl rfl) hx,?_⟩
  show ((aroundS c l m a).2++(stA c x).Entry).length≤_
  rw[List.length_append,List.length_cons];omega
def leaveS (c:T27) (s:Int):List Int→Int→List Int→List (List UInt8)→List Int×List (List UInt8)
 | [],_,m,a=>(m,a)
 | x :: l,last,m,a=>if(x==s)=true then(m,a)else leaveS c s l x (if((stA c x).History&&(last != (-1:Int)))=true then m.set x.toNat last else m) (a++(stA c x).Exit)
theorem mem_leave {c:T27} {m:List Int} (M:MemOk c m) {x last:Int} (hx:isS c x=true) (hl:last = -1∨childS c last x=true):MemOk c (if((stA c x).History&&(last != (-1:Int)))=true then m.set x.toNat last else m):=by
 split
 ·rename_i h
  simp only[Bool.and_eq_true,bne_iff_ne,ne_eq]at h
  exact M.set (hl.imp (fun e=>absurd e h.2) fun e=>⟨h.1,e⟩) hx
 ·exact M
theorem parent_is {c:T27} (G:Good c) {x:Int} (hx:isS c x=true) (ht:topB c x=false):isS c (stA c x).Parent=true∧(stA c x).Parent.toNat < x.toNat∧childS c x (stA c x).Parent=true:=by
 have h1:=topB_false ht
 have h2:=isS_iff.1 hx
 refine⟨isS_iff.2 ⟨h1.1,by show (c.States.getD x.toNat default).Parent < _;omega⟩,by show (c.States.getD x.toNat default).Parent.toNat < _;omega,?_⟩
 unfold childS;rw[hx];simp[stA]
theorem leaveS_ok {c:T27} (G:Good c) {s:Int}:∀ (n:Nat) (x last:Int) (m:List Int) (a:List (List UInt8)),x.toNat≤n→isS c x=true→MemOk c m→(last = -1∨childS c last x=true) →
  MemOk c (leaveS c s (pathS c x) last m a).1∧(leaveS c s (pathS c x) last m a).2.length≤a.length+8 * (n+1):=by
 intro n
 induction n with
 | zero =>
  intro x last m a hn hx M hl
  have he:=G.exit_ x hx
  rw[pathS_step hx]
  unfold leaveS
  split
  ·exact⟨M,by show a.length≤_;omega⟩
  ·cases ht:topB c x with
   | false=>have:=(parent_is G hx ht).2.1;omega
   | true=>exact⟨mem_leave M hx hl,by simp only[if_true,leaveS,List.length_append];omega⟩
 | succ n ih =>
  intro x last m a hn hx M hl
  have he:=G.exit_ x hx
  rw[pathS_step hx]
  unfold leaveS
  split
  ·exact⟨M,by show a.length≤_;omega⟩
  ·cases ht:topB c x with
   | true=>exact⟨mem_leave M hx hl,by simp only[if_true,leaveS,List.length_append];omega⟩
   | false =>
    obtain⟨p1,p2,p3⟩:=parent_is G hx ht
    simp only[Bool.false_eq_true,if_false]
    obtain⟨k1,k2⟩:=ih (stA c x).Parent x _ (a++(stA c x).Exit) (by omega) p1 (mem_leave M hx hl) (.inr p3)
    exact⟨k1,Nat.le_trans k2 (by rw[List.length_append];omega)⟩
def scopeS (c:T27) (a b:Int):Int:=((pathS c a).tail.find? fun x=>hasK (pathS c b).tail (pathS c b).tail.length x).getD (-1)
def untilS (s:Int) (l:List Int):List Int:=l.takeWhile fun x=>!(s==x)
def startS (c:T27):Int×List Int×List (List UInt8):=enterS c c.Start (aroundS c (pathS c c.Start).tail (List.replicate c.States.length (-1)) []).1 (aroundS c (pathS c c.Start).tail (List.replicate c.States.length (-1)) []).2
def fireS (c:T27) (g:T37) (t:T85):Int×List Int×List (List UInt8) :=
 let s:=scopeS c t.From t.To
 let l:=leaveS c s (pathS c g.Leaf) (-1) g.Memory []
 let r:=aroundS c (untilS s (pathS c t.To).tail) l.1 (l.2++t.Actions)
 enterS c t.To r.1 r.2
theorem tail_is {c:T27} {x:Int}:∀ y∈(pathS c x).tail,isS c y=true:=fun y hy=>(pathS_is x.toNat x (Nat.le_refl _) y (List.mem_of_mem_tail hy)).1
theorem mem_begin {c:T27}:MemOk c (List.replicate c.States.length (-1)):=⟨by simp,fun i hi=>by
 have:(List.replicate c.States.length (-1:Int)).getD i default = -1:=by simp at hi;simp[List.getD_eq_getElem?_getD,List.getElem?_replicate,hi]
 unfold memBad;rw[this];rfl⟩
theorem startS_ok {c:T27} (G:Good c) (H:Fit c):validS c ⟨(startS c).1,(startS c).2.1⟩=true∧(startS c).2.2.length≤16000:=by
 have hs:=H.states
 have hp:=pathS_len c c.Start
 obtain⟨h1,h2⟩:=aroundS_ok G (a:=[]) mem_begin (pathS c c.Start).tail tail_is
 obtain⟨k1,k2,k3,k4⟩:=enterF_ok G c.States.length c.Start _ (aroundS c (pathS c c.Start).tail (List.replicate c.States.length (-1)) []).2 G.start h1 (by omega)
 refine⟨validS_iff.2 ⟨k1,k2,k3⟩,?_⟩
 have:(startS c).2.2.length≤_:=k4
 simp only[List.length_nil,List.length_tail]at h2
 omega
theorem untilS_sub {s:Int} {l:List Int}:∀ x∈untilS s l,x∈l:=fun x hx=>(List.takeWhile_prefix _).sublist.mem hx
theorem untilS_len {s:Int} {l:List Int}:(untilS s l).length≤l.length:=(List.takeWhile_prefix _).length_le
theorem fireS_ok {c:T27} (G:Good c) (H:Fit c) {g:T37} (hg:validS c g=true) {i:Nat} (hi:i < c.Transitions.length):validS c ⟨(fireS c g (c.Transitions.getD i default)).1,(fireS c g (c.Transitions.getD i default)).2.1⟩=true∧(fireS c g (c.Transitions.getD i default)).2.2.length≤32000:=by
 have hs:=H.states
 obtain⟨v1,v2,v3⟩:=validS_iff.1 hg
 have ha:=G.acts i hi
 have ht:=(G.tr i hi).2
 generalize c.Transitions.getD i default=t at *
 have hp:=pathS_len c t.To
 have hl:=(isS_lt v1).2.2
 obtain⟨a1,a2⟩:=leaveS_ok G (s:=scopeS c t.From t.To) g.Leaf.toNat g.Leaf (-1) g.Memory [] (Nat.le_refl _) v1 v3 (.inl rfl)
 obtain⟨h1,h2⟩:=aroundS_ok G (a:=(leaveS c (scopeS c t.From t.To) (pathS c g.Leaf) (-1) g.Memory []).2++t.Actions) a1 (untilS (scopeS c t.From t.To) (pathS c t.To).tail) fun x hx=>tail_is x (untilS_sub x hx)
 have hu:=untilS_len (s:=scopeS c t.From t.To) (l:=(pathS c t.To).tail)
 obtain⟨k1,k2,k3,k4⟩:=enterF_ok G c.States.length t.To _ (aroundS c (untilS (scopeS c t.From t.To) (pathS c t.To).tail) (leaveS c (scopeS c t.From t.To) (pathS c g.Leaf) (-1) g.Memory []).1 ((leaveS c (scopeS c t.From t.To) (pathS c g.Leaf) (-1) g.Memory []).2++t.Actions)).2 ht h1 (by omega)
 refine⟨validS_iff.2 ⟨k1,k2,k3⟩,?_⟩
 have:(fireS c g t).2.2.length≤_:=k4
 simp only[List.length_nil,List.length_tail,List.length_append]at h2 hu a2
 omega
theorem firstR_cons {Y:Type} {f:Nat→Option Y} {n:Nat}:firstR f (n+1)=orK (f 0) (firstR (fun i=>f (i+1)) n):=by
 unfold firstR
 rw[List.range_succ_eq_map,List.findSome?_cons,List.findSome?_map]
 cases f 0<;>rfl
theorem firstR_find {F:Int→Bool}:∀ {l:List Int},firstR (fun i=>if F (l.getD i default)=true then some (l.getD i default)else none) l.length=l.find? F
 | []=>rfl
 | x :: l=>by
  rw[List.length_cons,firstR_cons]
  simp only[List.getD_cons_zero,List.getD_cons_succ]
  rw[firstR_find,List.find?_cons]
  by_cases hf:F x=true
  ·simp only[hf,if_true,orK_some]
  ·have hf:=Bool.eq_false_iff.2 hf
   simp only[hf,Bool.false_eq_true,if_false,orK_none]
theorem until_eq {s:Int}:∀ (l:List Int),(if decide (0≤findR (fun i=>s==l.getD i default) l.length)=true then subL l 0 (findR (fun i=>s==l.getD i default) l.length).toNat else l)=untilS s l∧findR (fun i=>s==l.getD i default) l.length≤l.length
 | []=>by simp[untilS,findR,firstR]
 | x :: l=>by
  obtain⟨h1,h2⟩:=until_eq l (s:=s)
  have e:findR (fun i=>s==(x :: l).getD i default) (x :: l).length=if(s==x)=true then 0 else if decide (0≤findR (fun i=>s==l.getD i default) l.length)=true then findR (fun i=>s==l.getD i default) l.length+1 else -1:=by
   unfold findR
   rw[List.length_cons,firstR_cons]
   simp only[List.getD_cons_zero,List.getD_cons_succ]
   by_cases hx:(s==x)=true
   ·simp only[hx,if_true,orK_some];rfl
   ·simp only[hx,if_false,Bool.false_eq_true,orK_none]
    have key:firstR (fun i=>if(s==l.getD i default)=true then some (((i+1:Nat):Int))else none) l.length=(firstR (fun i=>if(s==l.getD i default)=true then some (i:Int)else none) l.length).map (·+1):=by
     unfold firstR
     induction List.range l.length with
     | nil=>rfl
     | cons i r ih =>
      simp only[List.findSome?_cons]
      by_cases hf:(s==l.getD i default)=true
      ·simp only[hf,if_true];simp
      ·simp only[hf,if_false,Bool.false_eq_true];exact ih
    rw[key]
    cases hf:firstR (fun i=>if(s==l.getD i default)=true then some (i:Int)else none) l.length with
    | none=>rfl
    | some y =>
     obtain⟨i,_,h⟩:=firstR_some hf
     split at h
     ·injection h with h;subst h;simp
     ·cases h
  rw[e]
  by_cases hx:(s==x)=true
  ·simp only[hx,if_true]
   exact⟨by simp[untilS,hx,subL],by rw[List.length_cons];omega⟩
  ·have hx':=Bool.eq_false_iff.2 hx
   simp only[hx',if_false,Bool.false_eq_true]
   unfold untilS at h1 ⊢
   rw[List.takeWhile_cons,hx']
   simp only[Bool.not_false,if_true]
   rw[← h1]
   by_cases hf:decide (0≤findR (fun i=>s==l.getD i default) l.length)=true
   ·have h0:0≤findR (fun i=>s==l.getD i default) l.length:=by simpa using hf
    simp only[hf,if_true]
    have h3:decide (0≤findR (fun i=>s==l.getD i default) l.length+1)=true:=by rw[decide_eq_true_eq];omega
    refine⟨?_,by rw[List.length_cons];omega⟩
    rw[if_pos h3,subL_eq (by rw[List.length_cons];omega),subL_eq (by omega)]
    rw[show (findR (fun i=>s==l.getD i default) l.length+1).toNat=(findR (fun i=>s==l.getD i default) l.length).toNat+1 by omega]
    simp
   ·simp only[hf,if_false,Bool.false_eq_true]
    exact⟨by simp,by rw[List.length_cons];omega⟩
theorem tail_sub (l:List Int):subL l 1 (l.length - 1)=l.tail:=by
 cases l with
 | nil=>rfl
 | cons x l=>rw[subL_eq (by rw[List.length_cons];omega)];simp
theorem pathS_pos {c:T27} {x:Int} (hx:isS c x=true):(1:Int)≤((pathS c x).length:Int):=by rw[pathS_step hx,List.length_cons];omega
end Go.Av.Ch
set_option maxRecDepth 100000
namespace Go.Av.Ch
theorem pass_eq {c:T27} (G:Good c) {x:Int} (hx:isS c x=true) {m:List Int} (M:MemOk c m) (leaf:Int) {a:List (List UInt8)} (ha:a.length≤100000):m112o0 x c leaf m a=some (m.set x.toNat (-1)):=by
 have he:=G.entry x hx
 have hl:=(isS_lt hx).2.2
 have h1:(a.length+(c.States.getD x.toNat default).Entry.length) * 16≤140737488355328:=by unfold stA at he;omega
 have h2:x < (m.length:Int):=by have:=M.len;have:=isS_iff.1 hx;omega
 have h3:x.toNat < m.length:=by have:=M.len;omega
 delta m112o0 d112o0
 simp only[↓JD.sg_m,↓JD.sq_m,↓JD.sc_m,↓JD.bk_m,↓JD.lp_m,↓JD.cd_m,↓JD.lu_m,↓JD.ct_m,↓JD.ce_m,↓JL.r_m,↓JL.z_m,↓JD.se_m,onE_r,↓Tr.run,↓Tr.run_nd,↓Tr.run_c3,↓Tr.run_c2,↓Tr.run_nx,↓onS,bind_ite,Option.bind_some,Option.bind_none,obR,isS_lt hx,h1,h2,h3,if_true]
 by_cases hh:(c.States.getD x.toNat default).History=true
 ·simp only[hh,if_true]
 ·have hh:=Bool.eq_false_iff.2 hh
  simp only[hh,Bool.false_eq_true,if_false]
  rw[set_same h3 (M.none hx hh)]
theorem enter_eq {c:T27} (G:Good c) (H:Fit c) {x:Int} (hx:isS c x=true) {m:List Int} (M:MemOk c m) (leaf:Int) {a:List (List UInt8)} (ha:a.length≤80000):m113o0 x c leaf m a=some (enterS c x m a):=by
 have hs:=H.states
 have hm:=M.len
 delta m113o0 d113o0
 simp only[↓JD.sg_m,↓JD.sq_m,↓JD.sc_m,↓JD.bk_m,↓JD.lp_m,↓JD.cd_m,↓JD.lu_m,↓JD.ct_m,↓JD.ce_m,↓JL.r_m,↓JL.z_m,↓JD.se_m,onE_r,↓Tr.run,↓Tr.run_nd,↓Tr.run_c3,↓Tr.run_c2,↓Tr.run_nx,↓onS,bind_ite,Option.bind_some,Option.bind_none,obR]
 refine enter_loop G (fun x m' a hx M' ha=>?_) _ _ _ _ hx M (by omega) (by omega)
 have hl:=(isS_lt hx).2.2
 have h2:x < (m.length:Int):=by have:=isS_iff.1 hx;omega
 have h3:x.toNat < m.length:=by omega
 have h4:subL m' 0 m.length=m':=subL_all (by rw[M'.len,hm])
 simp only[isS_lt hx,h2,h3,h4,implies_true,if_true,pass_eq G hx M' leaf ha,Option.bind_some]
 cases hc:comp c x with
 | true =>
  obtain⟨q1,q2⟩:=child_is G (nextS_child G M' hx hc)
  have q3:=isS_iff.1 q1
  unfold nextS stA at *
  simp only[if_true]
  by_cases hh:((c.States.getD x.toNat default).History&&(m'.getD x.toNat default != (-1:Int)))=true
  ·rw[if_pos hh]at q3
   have:(m'.getD x.toNat default==(-1:Int))=false:=by simp only[beq_eq_false_iff_ne,ne_eq];omega
   simp only[hh,this,if_true,Bool.false_eq_true,if_false]
  ·rw[if_neg hh]at q3
   have hh:=Bool.eq_false_iff.2 hh
   have:((c.States.getD x.toNat default).Initial==(-1:Int))=false:=by simp only[beq_eq_false_iff_ne,ne_eq];omega
   simp only[hh,this,if_true,Bool.false_eq_true,if_false]
 | false =>
  obtain⟨q1,q2⟩:=G.leafI x hx hc
  unfold stA at *
  simp only[q1,q2,Bool.false_and,Bool.false_eq_true,if_false,beq_self_eq_true,if_true]
  rw[set_same (by rw[M'.len];omega) (M'.none hx q2)]
theorem scope_eq {c:T27} (H:Fit c) {a b:Int} (ha:isS c a=true) (hb:isS c b=true):m114 c a b=some (scopeS c a b):=by
 have hs:=H.states
 have hla:=pathS_len c a
 have hlb:=pathS_len c b
 have hl:(pathS c b).tail.length≤100000:=by rw[List.length_tail];omega
 delta m114 d114
 simp only[↓JD.sg_m,↓JD.sq_m,↓JD.sc_m,↓JD.bk_m,↓JD.lp_m,↓JD.cd_m,↓JD.lu_m,↓JD.ct_m,↓JD.ce_m,↓JL.r_m,↓JL.z_m,↓JD.se_m,onE_r,↓Tr.run,↓Tr.run_nd,↓Tr.run_c3,↓Tr.run_c2,↓Tr.run_nx,↓onS,bind_ite,Option.bind_some,Option.bind_none,obR,Path_eq c H,Option.bind_some,Int.reduceLE,pathS_pos ha,pathS_pos hb,if_true,onS_l,Int.toNat_one,tail_sub,containsI_eq _ _ hl]
 rw[show ((pathS c a).length - 1)=(pathS c a).tail.length by rw[List.length_tail]]
 rw[loop_ex (pathS c a).tail.length (fun i=>if hasK (pathS c b).tail (pathS c b).tail.length ((pathS c a).tail.getD i default)=true then some ((pathS c a).tail.getD i default)else none) ?_ ?_,firstR_find,orK_getD];rfl
 ·intro i hi
  rw[List.length_tail]at hi
  have hi':i < (pathS c a).tail.length:=by rw[List.length_tail];exact hi
  have hta:(pathS c a).tail.length≤1000:=by rw[List.length_tail];omega
  simp only[exB_ite,exB_some,exB_none]
  simp only[inL hi',decide_true,Int.toNat_natCast,if_true,wr1 hi' (by omega)]
 ·(simp only[lt_irr,decide_false,Bool.false_eq_true,if_false];try rfl)
theorem leave_key {c:T27} (G:Good c) (s:Int) {p:List Int} {S X:Type} {b:S→Option (S⊕X)} (mk:Int→Int→List Int→List (List UInt8)→S) (out:List Int×List (List UInt8)→X)
  (hb:∀ (pre l:List Int) (x last:Int) (m:List Int) (a:List (List UInt8)),p=pre++x :: l→isS c x=true→MemOk c m→((last = -1∧(stA c x).History=false)∨childS c last x=true)→a.length≤90000 →
   b (mk last (pre.length:Int) m a)=if(x==s)=true then some (.inr (out (m,a)))else some (.inl (mk x ((pre.length+1:Nat):Int) (if((stA c x).History&&(last != (-1:Int)))=true then m.set x.toNat last else m) (a++(stA c x).Exit))))
  (he:∀ last m a,b (mk last (p.length:Int) m a)=some (.inr (out (m,a)))) :
  ∀ (n:Nat) (pre:List Int) (x last:Int) (m:List Int) (a:List (List UInt8)),p=pre++pathS c x→x.toNat≤n→isS c x=true→MemOk c m→((last = -1∧(stA c x).History=false)∨childS c last x=true)→a.length+8 * (n+1)≤90000 →
   loopO b (mk last (pre.length:Int) m a)=some (out (leaveS c s (pathS c x) last m a)):=by
 intro n
 induction n with
 | zero =>
  intro pre x last m' a hpre hn hx M' hl ha
  have he8:=G.exit_ x hx
  rw[pathS_step hx]at hpre ⊢
  rw[loopO_eq,hb pre _ x last m' a hpre hx M' hl (by omega)]
  unfold leaveS
  by_cases hxs:(x==s)=true
  ·simp only[hxs,if_true,Option.bind_some]
  ·simp only[hxs,if_false,Bool.false_eq_true,Option.bind_some]
   cases ht:topB c x with
   | false=>have:=(parent_is G hx ht).2.1;omega
   | true =>
    rw[ht]at hpre
    simp only[if_true]at hpre ⊢
    rw[loopO_eq,show pre.length+1=p.length by rw[hpre];simp,he];rfl
 | succ n ih =>
  intro pre x last m' a hpre hn hx M' hl ha
  have he8:=G.exit_ x hx
  rw[pathS_step hx]at hpre ⊢
  rw[loopO_eq,hb pre _ x last m' a hpre hx M' hl (by omega)]
  unfold leaveS
  by_cases hxs:(x==s)=true
  ·simp only[hxs,if_true,Option.bind_some]
  ·simp only[hxs,if_false,Bool.false_eq_true,Option.bind_some]
   cases ht:topB c x with
   | true =>
    rw[ht]at hpre
    simp only[if_true]at hpre ⊢
    rw[loopO_eq,show pre.length+1=p.length by rw[hpre];simp,he];rfl
   | false =>
    obtain⟨p1,p2,p3⟩:=parent_is G hx ht
    rw[ht]at hpre
    simp only[Bool.false_eq_true,if_false]at hpre ⊢
    have:=ih (pre++[x]) (stA c x).Parent x _ (a++(stA c x).Exit) (by rw[hpre];simp[stA]) (by omega) p1 (mem_leave M' hx (hl.imp (·.1) id)) (.inr p3) (by rw[List.length_append];omega)
    rw[List.length_append]at this
    exact this
theorem leave_eq {c:T27} (G:Good c) (H:Fit c) (s:Int) {leaf:Int} (hx:isS c leaf=true) (hc:comp c leaf=false) {m:List Int} (M:MemOk c m):m115o0 s c leaf m []=some (leaveS c s (pathS c leaf) (-1) m []):=by
 have hs:=H.states
 have hm:=M.len
 have hp:=pathS_len c leaf
 have hlf:=(isS_lt hx).2.2
 have hh:=(G.leafI leaf hx hc).2
 delta m115o0 d115o0
 simp only[↓JD.sg_m,↓JD.sq_m,↓JD.sc_m,↓JD.bk_m,↓JD.lp_m,↓JD.cd_m,↓JD.lu_m,↓JD.ct_m,↓JD.ce_m,↓JL.r_m,↓JL.z_m,↓JD.se_m,onE_r,↓Tr.run,↓Tr.run_nd,↓Tr.run_c3,↓Tr.run_c2,↓Tr.run_nx,↓onS,bind_ite,Option.bind_some,Option.bind_none,obR,Path_eq c H,onS_l]
 generalize hP:pathS c leaf=p at *
 rw[show leaveS c s p (-1) m []=leaveS c s (pathS c leaf) (-1) m [] by rw[hP]]
 refine leave_key G s (p:=p) (fun last i m a=>(last,i,m,a)) id (fun pre l x last m' a hpre hx M' hl ha=>?_) (fun last m' a=>?_) leaf.toNat [] leaf (-1) m [] (by rw[hP];rfl) (Nat.le_refl _) hx M (.inl ⟨rfl,hh⟩) (by simp;omega)
 ·have hi:pre.length < p.length:=by rw[hpre];simp
  have hg:p.getD pre.length default=x:=by rw[hpre];simp[List.getD_eq_getElem?_getD]
  have he8:=G.exit_ x hx
  have h1:(a.length+(c.States.getD x.toNat default).Exit.length) * 16≤140737488355328:=by unfold stA at he8;omega
  have h2:x < (m.length:Int):=by have:=isS_iff.1 hx;omega
  have h3:x.toNat < m.length:=by have:=(isS_lt hx).2.2;omega
  have h4:subL m' 0 m.length=m':=subL_all (by rw[M'.len,hm])
  simp only[inL hi,decide_true,Int.toNat_natCast,if_true,hg,isS_lt hx,h1,h2,h3,h4,wr1 hi (by omega)]
  refine ite_else ?_
  unfold stA
  by_cases hh:((c.States.getD x.toNat default).History&&(last != (-1:Int)))=true
  ·simp only[hh,if_true];rfl
  ·simp only[hh,if_false,Bool.false_eq_true];rfl
 ·simp only[lt_irr,decide_false,Bool.false_eq_true,if_false];rfl
theorem around_fold {c:T27} (G:Good c) {l:List Int} (hl:∀ x∈l,isS c x=true) (h1:l.length≤2000) {m:List Int} (M:MemOk c m) {a:List (List UInt8)} (ha:a.length≤60000) {f:List Int×List (List UInt8)→Nat→Option (List Int×List (List UInt8))}
  (hf:∀ (x:Int) (i:Nat) (m':List Int) (a':List (List UInt8)),i < l.length→l.getD i 0=x→isS c x=true→MemOk c m'→a'.length≤100000→f (m',a') i=some (m'.set x.toNat (-1),a'++(stA c x).Entry)) :
  (dn l.length l.length).foldlM f (m,a)=some (aroundS c l m a):=by
 have key:∀ k,k≤l.length→(dn l.length k).foldlM f (m,a)=some (aroundS c (l.drop (l.length - k)) m a):=by
  intro k
  induction k with
  | zero=>intro _;simp[dn,aroundS]
  | succ k ih =>
   intro hk
   have e:dn l.length (k+1)=dn l.length k++[l.length - 1 - k]:=by unfold dn;rw[List.range_succ,List.map_append];rfl
   have hi:l.length - 1 - k < l.length:=by omega
   have hd:l.drop (l.length - (k+1))=l.getD (l.length - 1 - k) 0 :: l.drop (l.length - k):=by
    rw[show l.length - (k+1)=l.length - 1 - k by omega,List.drop_eq_getElem_cons hi,show l.length - 1 - k+1=l.length - k by omega]
    simp[List.getD_eq_getElem?_getD,List.getElem?_eq_getElem hi]
   have hx:isS c (l.getD (l.length - 1 - k) 0)=true:=hl _ (by rw[List.getD_eq_getElem?_getD,List.getElem?_eq_getElem hi];exact List.getElem_mem hi)
   obtain⟨k1,k2⟩:=aroundS_ok G (a:=a) M (l.drop (l.length - k)) fun x hx=>hl x (List.mem_of_mem_drop hx)
   rw[e,List.foldlM_append,ih (by omega),hd]
   show (f _ _).bind _=_
   rw[hf _ _ _ _ hi rfl hx k1 (by rw[List.length_drop]at k2;omega)]
   rfl
 have:=key l.length (Nat.le_refl _)
 rwa [Nat.sub_self,List.drop_zero]at this
theorem into_eq {c:T27} (G:Good c) (H:Fit c) {to:Int} (ht:isS c to=true) (s:Int) (leaf:Int) {m:List Int} (M:MemOk c m) {a:List (List UInt8)} (ha:a.length≤60000) :
  m65o0 to s c leaf m a=some (enterS c to (aroundS c (untilS s (pathS c to).tail) m a).1 (aroundS c (untilS s (pathS c to).tail) m a).2):=by
 have hs:=H.states
 have hm:=M.len
 have hp:=pathS_len c to
 have hl:(pathS c to).tail.length≤100000:=by rw[List.length_tail];omega
 obtain⟨u1,u2⟩:=until_eq (s:=s) (pathS c to).tail
 have hu:=untilS_len (s:=s) (l:=(pathS c to).tail)
 have e1:(d65o0_1 to s c leaf m a).m=some (pathS c to).tail:=by
  delta d65o0_1
  simp only[↓JD.sg_m,↓JD.sq_m,↓JD.sc_m,↓JD.bk_m,↓JD.lp_m,↓JD.cd_m,↓JD.lu_m,↓JD.ct_m,↓JD.ce_m,↓JL.r_m,↓JL.z_m,↓JD.se_m,onE_r,↓Tr.run,↓Tr.run_nd,↓Tr.run_c3,↓Tr.run_c2,↓Tr.run_nx,↓onS,bind_ite,Option.bind_some,Option.bind_none,obR,Path_eq c H,Option.bind_some,Int.reduceLE,pathS_pos ht,if_true,Int.toNat_one,tail_sub]
 have e2:(d65o0_2 to s c leaf m a (pathS c to).tail).m=some (untilS s (pathS c to).tail):=by
  delta d65o0_2
  simp only[↓JD.sg_m,↓JD.sq_m,↓JD.sc_m,↓JD.bk_m,↓JD.lp_m,↓JD.cd_m,↓JD.lu_m,↓JD.ct_m,↓JD.ce_m,↓JL.r_m,↓JL.z_m,↓JD.se_m,onE_r,↓Tr.run,↓Tr.run_nd,↓Tr.run_c3,↓Tr.run_c2,↓Tr.run_nx,↓onS,bind_ite,Option.bind_some,Option.bind_none,obR,indexI_eq _ _ hl]
  rw[← u1]
  by_cases h0:decide (0≤findR (fun i=>s==(pathS c to).tail.getD i default) (pathS c to).tail.length)=true
  ·have h1:0≤findR (fun i=>s==(pathS c to).tail.getD i default) (pathS c to).tail.length:=by simpa using h0
   simp only[h1,u2,decide_true,if_true]
  ·simp only[h0,if_false,Bool.false_eq_true]
 have e3:(d65o0_3 to s c leaf m a (pathS c to).tail (untilS s (pathS c to).tail)).m=some ():=by
  delta d65o0_3
  simp only[↓JD.sg_m,↓JD.sq_m,↓JD.sc_m,↓JD.bk_m,↓JD.lp_m,↓JD.cd_m,↓JD.lu_m,↓JD.ct_m,↓JD.ce_m,↓JL.r_m,↓JL.z_m,↓JD.se_m,onE_r,↓Tr.run,↓Tr.run_nd,↓Tr.run_c3,↓Tr.run_c2,↓Tr.run_nx,↓onS,bind_ite,Option.bind_some,Option.bind_none,obR,m111o0,d111o0]
 obtain⟨r1,r2⟩:=aroundS_ok G (a:=a) M (untilS s (pathS c to).tail) fun x hx=>tail_is x (untilS_sub x hx)
 rw[List.length_tail]at hu
 delta m65o0
 rw[show (d65o0_0 to s c leaf m a).m=some () from rfl,Option.bind_some,e1,Option.bind_some,e2,Option.bind_some,e3,Option.bind_some,if_pos (by omega)]
 rw[around_fold G (fun x hx=>tail_is x (untilS_sub x hx)) (by omega) M ha ?_,Option.bind_some]
 ·delta d65o0_p
  have h4:subL (aroundS c (untilS s (pathS c to).tail) m a).1 0 m.length=(aroundS c (untilS s (pathS c to).tail) m a).1:=subL_all (by rw[r1.len,hm])
  simp only[↓JD.sg_m,↓JD.sq_m,↓JD.sc_m,↓JD.bk_m,↓JD.lp_m,↓JD.cd_m,↓JD.lu_m,↓JD.ct_m,↓JD.ce_m,↓JL.r_m,↓JL.z_m,↓JD.se_m,onE_r,↓Tr.run,↓Tr.run_nd,↓Tr.run_c3,↓Tr.run_c2,↓Tr.run_nx,↓onS,bind_ite,Option.bind_some,Option.bind_none,obR,h4,enter_eq G H ht r1 leaf (a:=(aroundS c (untilS s (pathS c to).tail) m a).2) (by omega)]
 ·intro x i m' a' hi hg hx M' ha'
  have h4:subL m' 0 m.length=m':=subL_all (by rw[M'.len,hm])
  delta mr65o0
  simp only[hg,h4,pass_eq G hx M' leaf ha',Option.map_some]
theorem begun_eq {c:T27} (H:Fit c) {g:T37} (hl:g.Memory.length=c.States.length):m63o0 c g=some ():=by
 have hs:=H.states
 have h1:((0:Int)≤(g.Memory.length:Int)):=by omega
 have h2:(g.Memory.length:Int) * 8≤140737488355328:=by omega
 have h3:(g.Memory.length:Int)≤9223372036854775807:=by omega
 delta m63o0 d63o0
 simp only[↓JD.sg_m,↓JD.sq_m,↓JD.sc_m,↓JD.bk_m,↓JD.lp_m,↓JD.cd_m,↓JD.lu_m,↓JD.ct_m,↓JD.ce_m,↓JL.r_m,↓JL.z_m,↓JD.se_m,onE_r,↓Tr.run,↓Tr.run_nd,↓Tr.run_c3,↓Tr.run_c2,↓Tr.run_nx,↓onS,bind_ite,Option.bind_some,Option.bind_none,obR,h1,h2,h3,if_true]
theorem copyL_full {l:List Int} {n:Nat} (h:l.length=n):copyL (List.replicate n (0:Int)) l=l:=by
 subst h
 rw[copyL,List.length_replicate,List.take_length,List.drop_eq_nil_of_le (by simp),List.append_nil]
theorem fire_of {c:T27} (G:Good c) (H:Fit c) {g:T37} (hg:validS c g=true) {i:Nat} (hi:i < c.Transitions.length) (he:checkM c=some 0) (hon:hasK (pathS c g.Leaf) (pathS c g.Leaf).length (c.Transitions.getD i default).From=true) :
  m67 c g i=some (⟨(fireS c g (c.Transitions.getD i default)).1,(fireS c g (c.Transitions.getD i default)).2.1⟩,(fireS c g (c.Transitions.getD i default)).2.2,0):=by
 have hs:=H.states
 obtain⟨v1,v2,v3⟩:=validS_iff.1 hg
 have hml:=v3.len
 have hp:=pathS_len c g.Leaf
 have hlf:=(isS_lt v1).2.2
 have ha:=G.acts i hi
 obtain⟨hf,ht⟩:=G.tr i hi
 obtain⟨a1,a2⟩:=leaveS_ok G (s:=scopeS c (c.Transitions.getD i default).From (c.Transitions.getD i default).To) g.Leaf.toNat g.Leaf (-1) g.Memory [] (Nat.le_refl _) v1 v3 (.inl rfl)
 simp only[List.length_nil]at a2
 have h16:((leaveS c (scopeS c (c.Transitions.getD i default).From (c.Transitions.getD i default).To) (pathS c g.Leaf) (-1) g.Memory []).2.length+(c.Transitions.getD i default).Actions.length) * 16≤140737488355328:=by omega
 have hsub:∀ m:List Int,m.length=c.States.length→subL m 0 g.Memory.length=m:=fun m h=>subL_all (by rw[h,hml])
 have hrange:(decide ((i:Int) < 0) || decide ((c.Transitions.length:Int)≤(i:Int)))=false:=by simp;omega
 have hend:=(fireS_ok G H hg hi).1
 have hmend:=(validS_iff.1 hend).2.2.len
 delta m67 d67
 simp only[↓JD.sg_m,↓JD.sq_m,↓JD.sc_m,↓JD.bk_m,↓JD.lp_m,↓JD.cd_m,↓JD.lu_m,↓JD.ct_m,↓JD.ce_m,↓JL.r_m,↓JL.z_m,↓JD.se_m,onE_r,↓Tr.run,↓Tr.run_nd,↓Tr.run_c3,↓Tr.run_c2,↓Tr.run_nx,↓onS,bind_ite,Option.bind_some,Option.bind_none,obR,Check_eq c H,he,Valid_eq c H,hg,Path_eq c H,inL hi,Int.toNat_natCast,if_true,Option.bind_some,containsI_eq _ _ (show (pathS c g.Leaf).length≤100000 by omega),hon,hrange,begun_eq H hml,scope_eq H hf ht,copyL_full (rfl:g.Memory.length=_),leave_eq G H _ v1 v2 v3,h16,
  hsub _ a1.len,bne_self_eq_false,Bool.not_true,Bool.false_eq_true,if_false]
 rw[into_eq G H ht _ _ a1 (by rw[List.length_append];omega)]
 simp only[Option.bind_some]
 have:=hsub _ hmend
 unfold fireS at this
 rw[this]
 rfl
theorem fire_err {c:T27} (H:Fit c) {g:T37} {t:Int}:m67 c g t=(checkM c).bind fun e=>if(e != 0)=true then some (⟨0,[]⟩,[],e)else if(!validS c g)=true then some (⟨0,[]⟩,[],8)else if(decide (t < 0) || decide ((c.Transitions.length:Int)≤t))=true then some (⟨0,[]⟩,[],2)else
  if(!hasK (pathS c g.Leaf) (pathS c g.Leaf).length (c.Transitions.getD t.toNat default).From)=true then some (⟨0,[]⟩,[],9)else some (⟨(fireS c g (c.Transitions.getD t.toNat default)).1,(fireS c g (c.Transitions.getD t.toNat default)).2.1⟩,(fireS c g (c.Transitions.getD t.toNat default)).2.2,0):=by
 have hs:=H.states
 have hp:=pathS_len c g.Leaf
 obtain⟨e,he⟩:=checkM_some c
 rw[he,Option.bind_some]
 by_cases h0:(e != 0)=true
 ·delta m67 d67
  simp only[↓JD.sg_m,↓JD.sq_m,↓JD.sc_m,↓JD.bk_m,↓JD.lp_m,↓JD.cd_m,↓JD.lu_m,↓JD.ct_m,↓JD.ce_m,↓JL.r_m,↓JL.z_m,↓JD.se_m,onE_r,↓Tr.run,↓Tr.run_nd,↓Tr.run_c3,↓Tr.run_c2,↓Tr.run_nx,↓onS,bind_ite,Option.bind_some,Option.bind_none,obR,Check_eq c H,he,Option.bind_some,h0,if_true]
 have h0':e=0:=by simpa using h0
 subst h0'
 simp only[h0,if_false,Bool.false_eq_true]
 cases hv:validS c g with
 | false =>
  delta m67 d67
  simp only[↓JD.sg_m,↓JD.sq_m,↓JD.sc_m,↓JD.bk_m,↓JD.lp_m,↓JD.cd_m,↓JD.lu_m,↓JD.ct_m,↓JD.ce_m,↓JL.r_m,↓JL.z_m,↓JD.se_m,onE_r,↓Tr.run,↓Tr.run_nd,↓Tr.run_c3,↓Tr.run_c2,↓Tr.run_nx,↓onS,bind_ite,Option.bind_some,Option.bind_none,obR,Check_eq c H,he,Option.bind_some,h0,if_false,Bool.false_eq_true,Valid_eq c H,hv,Bool.not_false,if_true]
 | true =>
  by_cases hr:(decide (t < 0) || decide ((c.Transitions.length:Int)≤t))=true
  ·delta m67 d67
   simp only[↓JD.sg_m,↓JD.sq_m,↓JD.sc_m,↓JD.bk_m,↓JD.lp_m,↓JD.cd_m,↓JD.lu_m,↓JD.ct_m,↓JD.ce_m,↓JL.r_m,↓JL.z_m,↓JD.se_m,onE_r,↓Tr.run,↓Tr.run_nd,↓Tr.run_c3,↓Tr.run_c2,↓Tr.run_nx,↓onS,bind_ite,Option.bind_some,Option.bind_none,obR,Check_eq c H,he,Option.bind_some,h0,if_false,Bool.false_eq_true,Valid_eq c H,hv,Bool.not_true,hr,if_true]
  ·have hr':=Bool.eq_false_iff.2 hr
   simp only[Bool.or_eq_false_iff,decide_eq_false_iff_not]at hr'
   obtain⟨i,rfl⟩:=Int.eq_ofNat_of_zero_le (show 0≤t by omega)
   have hi:i < c.Transitions.length:=by omega
   cases hon:hasK (pathS c g.Leaf) (pathS c g.Leaf).length (c.Transitions.getD i default).From with
   | true=>rw[fire_of (good_of he) H hv hi he hon];simp only[hr,Int.toNat_natCast,hon,Bool.not_true,Bool.false_eq_true,if_false]
   | false =>
    delta m67 d67
    simp only[↓JD.sg_m,↓JD.sq_m,↓JD.sc_m,↓JD.bk_m,↓JD.lp_m,↓JD.cd_m,↓JD.lu_m,↓JD.ct_m,↓JD.ce_m,↓JL.r_m,↓JL.z_m,↓JD.se_m,onE_r,↓Tr.run,↓Tr.run_nd,↓Tr.run_c3,↓Tr.run_c2,↓Tr.run_nx,↓onS,bind_ite,Option.bind_some,Option.bind_none,obR,Check_eq c H,he,Option.bind_some,h0,if_false,Bool.false_eq_true,Valid_eq c H,hv,Bool.not_true,hr,if_true,inL hi,Int.toNat_natCast,Path_eq c H,containsI_eq _ _ (show (pathS c g.Leaf).length≤100000 by omega),hon,Bool.not_false]
end Go.Av.Ch
set_option maxRecDepth 100000
namespace Go.Av.Ch
theorem untilS_all {s:Int} {l:List Int} (h:∀ x∈l,x≠s):untilS s l=l:=by
 unfold untilS
 induction l with
 | nil=>rfl
 | cons x l ih =>
  have hx:(s==x)=false:=by simp only[beq_eq_false_iff_ne,ne_eq];exact fun e=>h x (by simp) e.symm
  rw[List.takeWhile_cons,hx,ih fun y hy=>h y (List.mem_cons_of_mem _ hy)];rfl
def startM (c:T27):Option (Int×List (List UInt8)×Int×List Int):=(checkM c).bind fun e=>if(e != 0)=true then some (e,[],0,[])else some (0,(startS c).2.2,(startS c).1,(startS c).2.1)
theorem Start_eq (c:T27) (H:Fit c):m28o0 c=startM c:=by
 obtain⟨e,he⟩:=checkM_some c
 unfold startM
 rw[he,Option.bind_some]
 delta m28o0 d28o0
 by_cases h0:(e != 0)=true
 ·simp only[↓JD.sg_m,↓JD.sq_m,↓JD.sc_m,↓JD.bk_m,↓JD.lp_m,↓JD.cd_m,↓JD.lu_m,↓JD.ct_m,↓JD.ce_m,↓JL.r_m,↓JL.z_m,↓JD.se_m,onE_r,↓Tr.run,↓Tr.run_nd,↓Tr.run_c3,↓Tr.run_c2,↓Tr.run_nx,↓onS,bind_ite,Option.bind_some,Option.bind_none,obR,Check_eq c H,he,h0,if_true]
 ·have h0':e=0:=by simpa using h0
  subst h0'
  have G:=good_of he
  have hcap:=G.cap
  have hrep:m64 [-1] (c.States.length:Int)=some (List.replicate c.States.length (-1)):=by
   unfold m64
   simp only[Int.toNat_natCast]
   rw[if_pos (by omega)]
  have hb:=begun_eq H (g:=⟨0,List.replicate c.States.length (-1)⟩) (by simp)
  have hl:(List.replicate c.States.length (-1:Int)).length=c.States.length:=by simp
  have hu:untilS (-1) (pathS c c.Start).tail=(pathS c c.Start).tail:=untilS_all fun x hx=>by
   have:=isS_iff.1 (tail_is x hx);omega
  have hi:=into_eq G H G.start (-1) 0 mem_begin (a:=[]) (by simp)
  rw[hu]at hi
  have hend:=(startS_ok G H).1
  have hmend:=(validS_iff.1 hend).2.2.len
  simp only[↓JD.sg_m,↓JD.sq_m,↓JD.sc_m,↓JD.bk_m,↓JD.lp_m,↓JD.cd_m,↓JD.lu_m,↓JD.ct_m,↓JD.ce_m,↓JL.r_m,↓JL.z_m,↓JD.se_m,onE_r,↓Tr.run,↓Tr.run_nd,↓Tr.run_c3,↓Tr.run_c2,↓Tr.run_nx,↓onS,bind_ite,Option.bind_some,Option.bind_none,obR,Check_eq c H,he,h0,if_false,Bool.false_eq_true,hrep,hb,hl,Int.toNat_natCast,copyL_full hl,hi]
  rw[subL_all (by unfold startS at hmend;exact hmend)]
  rfl
theorem enabled_at {c:T27} {leaf v:Int} (h:0 < (enabledS c leaf v).length):∃ i,i < c.Transitions.length∧(enabledS c leaf v).getD 0 default=(i:Int)∧hasK (pathS c leaf) (pathS c leaf).length (c.Transitions.getD i default).From=true:=by
 have hm:(enabledS c leaf v).getD 0 default∈enabledS c leaf v:=getD_mem h
 generalize (enabledS c leaf v).getD 0 default=x at *
 unfold enabledS at hm
 obtain⟨i,hi,hx⟩:=List.mem_flatMap.1 hm
 unfold enabG at hx
 split at hx
 ·rename_i h1
  simp only[Bool.and_eq_true]at h1
  exact⟨i,List.mem_range.1 hi,by simpa using hx,h1.1⟩
 ·cases hx
def fireR (c:T27) (g:T37) (t:Int):T37×List (List UInt8)×Int:=(⟨(fireS c g (c.Transitions.getD t.toNat default)).1,(fireS c g (c.Transitions.getD t.toNat default)).2.1⟩,(fireS c g (c.Transitions.getD t.toNat default)).2.2,0)
def stepM (c:T27) (g:T37) (v:Int):Option (T37×List (List UInt8)×Int):=(checkM c).bind fun e=>if(e != 0)=true then some (⟨0,[]⟩,[],e)else if(!validS c g)=true then some (⟨0,[]⟩,[],8)else if(!allowedS c v)=true then some (⟨0,[]⟩,[],1)else
 if(((enabledS c g.Leaf v).length:Int)==0)=true then some (⟨0,[]⟩,[],6)else if(((enabledS c g.Leaf v).length:Int)==1)=true then some (fireR c g ((enabledS c g.Leaf v).getD 0 default))else some (⟨0,[]⟩,[],11)
theorem stepM_some (c:T27) (g:T37) (v:Int):∃ r,stepM c g v=some r:=by
 obtain⟨e,he⟩:=checkM_some c
 unfold stepM
 rw[he,Option.bind_some]
 exact ite_total (ite_total (ite_total (ite_total (ite_total ⟨_,rfl⟩))))
theorem stepM_ok {c:T27} (H:Fit c) {g:T37} {v:Int} {r:T37×List (List UInt8)×Int} (h:stepM c g v=some r):r.2.1.length≤32000∧(r.2.2=0→checkM c=some 0∧validS c g=true∧validS c r.1=true):=by
 obtain⟨e,he⟩:=checkM_some c
 unfold stepM at h
 rw[he,Option.bind_some]at h
 split at h
 ·rename_i h0;injection h with h;subst h;exact⟨by simp,fun h=>absurd h (by simpa using h0)⟩
 rename_i h0
 have h0':e=0:=by simpa using h0
 subst h0'
 split at h
 ·injection h with h;subst h;exact⟨by simp,fun h=>absurd h (by decide)⟩
 rename_i hv
 have hv:validS c g=true:=by simpa using hv
 split at h
 ·injection h with h;subst h;exact⟨by simp,fun h=>absurd h (by decide)⟩
 split at h
 ·injection h with h;subst h;exact⟨by simp,fun h=>absurd h (by decide)⟩
 split at h
 ·rename_i h1
  have hl:(enabledS c g.Leaf v).length=1:=by have:=eq_of_beq h1;omega
  obtain⟨i,hi,hx,hon⟩:=enabled_at (c:=c) (leaf:=g.Leaf) (v:=v) (by omega)
  injection h with h;subst h
  rw[hx]
  unfold fireR
  rw[Int.toNat_natCast]
  obtain⟨k1,k2⟩:=fireS_ok (good_of he) H hv hi
  exact⟨k2,fun _=>⟨he,hv,k1⟩⟩
 ·injection h with h;subst h;exact⟨by simp,fun h=>absurd h (by decide)⟩
end Go.Av.Ch
set_option maxRecDepth 100000
namespace Go.Av.Ch
theorem down_loop {c:T27} (G:Good c) {l:List Int} (hl:∀ x∈l,isS c x=true) (h1:l.length≤2000) {m:List Int} (M:MemOk c m) {a:List (List UInt8)} (ha:a.length≤60000) {R:Type} {b:List Int×List (List UInt8)×Int→Option ((List Int×List (List UInt8)×Int)⊕((List Int×List (List UInt8))⊕R))}
  (hb:∀ (j:Nat) (m:List Int) (a:List (List UInt8)) (x:Int),j < l.length→l.getD j default=x→isS c x=true→MemOk c m→a.length≤100000→b (m,a,(j:Int))=some (.inl (m.set x.toNat (-1),a++(stA c x).Entry,(j:Int) - 1)))
  (he:∀ m a,b (m,a,-1)=some (.inr (.inl (m,a)))):loopO b (m,a,(l.length:Int) - 1)=some (.inl (aroundS c l m a)):=by
 have key:∀ j,j≤l.length→loopO b ((aroundS c (l.drop j) m a).1,(aroundS c (l.drop j) m a).2,(j:Int) - 1)=some (.inl (aroundS c l m a)):=by
  intro j
  induction j with
  | zero=>intro _;rw[show ((0:Nat):Int) - 1 = -1 from rfl,loopO_eq,he];rfl
  | succ j ih =>
   intro hj
   have hi:j < l.length:=by omega
   have hx:isS c (l.getD j default)=true:=hl _ (getD_mem hi)
   obtain⟨k1,k2⟩:=aroundS_ok G (a:=a) M (l.drop (j+1)) fun x hx=>hl x (List.mem_of_mem_drop hx)
   rw[show ((j+1:Nat):Int) - 1=(j:Int) by omega,loopO_eq,hb j _ _ _ hi rfl hx k1 (by rw[List.length_drop]at k2;omega)]
   have hd:l.drop j=l.getD j default :: l.drop (j+1):=by
    rw[List.drop_eq_getElem_cons hi];simp[List.getD_eq_getElem?_getD,List.getElem?_eq_getElem hi]
   have:=ih (by omega)
   rw[hd]at this
   exact this
 have:=key l.length (Nat.le_refl _)
 rwa [List.drop_length]at this
theorem around0_eq {c:T27} (G:Good c) (H:Fit c) {l:List Int} (hl:∀ x∈l,isS c x=true) (h1:l.length≤2000) {m:List Int} (M:MemOk c m) {a:List (List UInt8)} (ha:a.length≤60000) :
  m122o0 c m l a=some ((aroundS c l m a).2,(aroundS c l m a).1,(aroundS c l m a).2):=by
 have hs:=H.states
 have hm:=M.len
 have w:IntKind.wrap .i64 ((l.length:Int) - 1)=(l.length:Int) - 1:=w64 (by omega) (by omega)
 delta m122o0 d122o0
 simp only[↓JD.sg_m,↓JD.sq_m,↓JD.sc_m,↓JD.bk_m,↓JD.lp_m,↓JD.cd_m,↓JD.lu_m,↓JD.ct_m,↓JD.ce_m,↓JL.r_m,↓JL.z_m,↓JD.se_m,onE_r,↓Tr.run,↓Tr.run_nd,↓Tr.run_c3,↓Tr.run_c2,↓Tr.run_nx,↓onS,bind_ite,Option.bind_some,Option.bind_none,obR,w]
 refine on_l (down_loop G hl h1 M ha (fun j m' a' x hj hg hx M' ha'=>?_) fun m' a'=>rfl) rfl
 have he:=G.entry x hx
 have k1:(0+a'.length+(c.States.getD x.toNat default).Entry.length) * 16≤140737488355328:=by unfold stA at he;omega
 have k0:(0+a'.length) * 16≤140737488355328:=by omega
 have k2:x < (m.length:Int):=by have:=isS_iff.1 hx;omega
 have k3:x.toNat < m.length:=by have:=(isS_lt hx).2.2;omega
 have k4:subL m' 0 m.length=m':=subL_all (by rw[M'.len,hm])
 have k5:(decide ((0:Int)≤(j:Int))=true)=True:=eq_true (by simp)
 have k6:IntKind.wrap .i64 ((j:Int) - 1)=(j:Int) - 1:=w64 (by omega) (by omega)
 simp only[inL hj,k5,decide_true,Int.toNat_natCast,if_true,hg,isS_lt hx,k0,k1,k2,k3,k4,k6,List.nil_append]
theorem around1_eq {c:T27} (G:Good c) (H:Fit c) {l:List Int} (hl:∀ x∈l,isS c x=true) (h1:l.length≤2000) {m:List Int} (M:MemOk c m) {a:List (List UInt8)} (ha:a.length≤60000) :
  m122o1 c m l a=some ((aroundS c l m a).2,(aroundS c l m a).1,(aroundS c l m a).2):=by
 have hs:=H.states
 have hm:=M.len
 have w:IntKind.wrap .i64 ((l.length:Int) - 1)=(l.length:Int) - 1:=w64 (by omega) (by omega)
 delta m122o1 d122o1
 simp only[↓JD.sg_m,↓JD.sq_m,↓JD.sc_m,↓JD.bk_m,↓JD.lp_m,↓JD.cd_m,↓JD.lu_m,↓JD.ct_m,↓JD.ce_m,↓JL.r_m,↓JL.z_m,↓JD.se_m,onE_r,↓Tr.run,↓Tr.run_nd,↓Tr.run_c3,↓Tr.run_c2,↓Tr.run_nx,↓onS,bind_ite,Option.bind_some,Option.bind_none,obR,w]
 refine on_l (down_loop G hl h1 M ha (fun j m' a' x hj hg hx M' ha'=>?_) fun m' a'=>rfl) rfl
 have he:=G.entry x hx
 have k1:(0+a'.length+(c.States.getD x.toNat default).Entry.length) * 16≤140737488355328:=by unfold stA at he;omega
 have k0:(0+a'.length) * 16≤140737488355328:=by omega
 have k2:x < (m.length:Int):=by have:=isS_iff.1 hx;omega
 have k3:x.toNat < m.length:=by have:=(isS_lt hx).2.2;omega
 have k4:subL m' 0 m.length=m':=subL_all (by rw[M'.len,hm])
 have k5:(decide ((0:Int)≤(j:Int))=true)=True:=eq_true (by simp)
 have k6:IntKind.wrap .i64 ((j:Int) - 1)=(j:Int) - 1:=w64 (by omega) (by omega)
 simp only[inL hj,k5,decide_true,Int.toNat_natCast,if_true,hg,isS_lt hx,k0,k1,k2,k3,k4,k6,List.nil_append]
theorem renter_eq {c:T27} (G:Good c) (H:Fit c) {x:Int} (hx:isS c x=true) {m:List Int} (M:MemOk c m) {a:List (List UInt8)} (ha:a.length≤80000):m124o0 c m x a=some ((enterS c x m a).2.2,(enterS c x m a).1,(enterS c x m a).2.1,(enterS c x m a).2.2):=by
 have hs:=H.states
 have hm:=M.len
 have he:=G.entry x hx
 have k0:(0+a.length) * 16≤140737488355328:=by omega
 have k1:(0+a.length+(c.States.getD x.toNat default).Entry.length) * 16≤140737488355328:=by unfold stA at he;omega
 delta m124o0 d124o0
 simp only[↓JD.sg_m,↓JD.sq_m,↓JD.sc_m,↓JD.bk_m,↓JD.lp_m,↓JD.cd_m,↓JD.lu_m,↓JD.ct_m,↓JD.ce_m,↓JL.r_m,↓JL.z_m,↓JD.se_m,onE_r,↓Tr.run,↓Tr.run_nd,↓Tr.run_c3,↓Tr.run_c2,↓Tr.run_nx,↓onS,bind_ite,Option.bind_some,Option.bind_none,obR,k0,k1,isS_lt hx,if_true,List.nil_append,rcomposite_eq c _ (Nat.le_trans hs (by omega))]
 refine on_l (renter_loop G (fun x m' a hx M' ha=>?_) c.States.length x m a hx M (by omega) (by omega)) rfl
 have hl:=(isS_lt hx).2.2
 have h2:x < (m.length:Int):=by have:=isS_iff.1 hx;omega
 have h3:x.toNat < m.length:=by omega
 have h4:subL m' 0 m.length=m':=subL_all (by rw[M'.len,hm])
 cases hc:comp c x with
 | false=>simp only[Bool.false_eq_true,if_false]
 | true =>
  obtain⟨q1,q2⟩:=child_is G (nextS_child G M' hx hc)
  have q4:=G.entry _ q1
  have q5:(a.length+(stA c (nextS c m' x)).Entry.length) * 16≤140737488355328:=by omega
  have q6:=isS_lt q1
  unfold nextS stA at *
  simp only[isS_lt hx,h2,h3,h4,implies_true,if_true]
  by_cases hh:((c.States.getD x.toNat default).History&&(m'.getD x.toNat default != (-1:Int)))=true
  ·simp only[hh,if_true]at q5 q6 ⊢
   simp only[q5,q6,if_true]
  ·have hh:=Bool.eq_false_iff.2 hh
   simp only[hh,Bool.false_eq_true,if_false]at q5 q6 ⊢
   simp only[q5,q6,if_true]
theorem rscope_eq {c:T27} (H:Fit c) {a b:Int} (ha:isS c a=true) (hb:isS c b=true):m160 c a b=some (scopeS c a b):=by
 have hs:=H.states
 have hla:=pathS_len c a
 have hlb:=pathS_len c b
 have hl:(pathS c b).tail.length≤100000:=by rw[List.length_tail];omega
 delta m160 d160
 simp only[↓JD.sg_m,↓JD.sq_m,↓JD.sc_m,↓JD.bk_m,↓JD.lp_m,↓JD.cd_m,↓JD.lu_m,↓JD.ct_m,↓JD.ce_m,↓JL.r_m,↓JL.z_m,↓JD.se_m,onE_r,↓Tr.run,↓Tr.run_nd,↓Tr.run_c3,↓Tr.run_c2,↓Tr.run_nx,↓onS,bind_ite,Option.bind_some,Option.bind_none,obR,rPath_eq c H,Option.bind_some,Int.reduceLE,pathS_pos ha,pathS_pos hb,if_true,onS_l,Int.toNat_one,tail_sub,on_eq _ _ hl]
 rw[show ((pathS c a).length - 1)=(pathS c a).tail.length by rw[List.length_tail]]
 rw[loop_ex (pathS c a).tail.length (fun i=>if hasK (pathS c b).tail (pathS c b).tail.length ((pathS c a).tail.getD i default)=true then some ((pathS c a).tail.getD i default)else none) ?_ ?_,firstR_find,orK_getD];rfl
 ·intro i hi
  have hta:(pathS c a).tail.length≤1000:=by rw[List.length_tail];omega
  simp only[exB_ite,exB_some,exB_none]
  simp only[inL hi,decide_true,Int.toNat_natCast,if_true,wr1 hi (by omega)]
 ·(simp only[lt_irr,decide_false,Bool.false_eq_true,if_false];try rfl)
theorem until_loop {s:Int} {l:List Int} {R:Type} {b:List Int×Int→Option ((List Int×Int)⊕(List Int⊕R))}
  (hb:∀ (j:Nat) (o:List Int) (x:Int),j < l.length→o.length≤j→l.getD j default=x→b (o,(j:Int))=if(x==s)=true then some (.inr (.inl o))else some (.inl (o++[x],((j+1:Nat):Int))))
  (he:∀ o,b (o,(l.length:Int))=some (.inr (.inl o))):loopO b ([],0)=some (.inl (untilS s l)):=by
 have key:∀ k j (o:List Int),j+k=l.length→o.length≤j→loopO b (o,(j:Int))=some (.inl (o++untilS s (l.drop j))):=by
  intro k
  induction k with
  | zero =>
   intro j o hk ho
   obtain rfl:j=l.length:=by omega
   rw[loopO_eq,he,List.drop_length];simp[untilS]
  | succ k ih =>
   intro j o hk ho
   have hj:j < l.length:=by omega
   have hd:l.drop j=l.getD j default :: l.drop (j+1):=by
    rw[List.drop_eq_getElem_cons hj];simp[List.getD_eq_getElem?_getD,List.getElem?_eq_getElem hj]
   rw[loopO_eq,hb j o _ hj ho rfl,hd]
   by_cases hx:(l.getD j default==s)=true
   ·have hx':(s==l.getD j default)=true:=by rw[eq_of_beq hx];simp
    simp only[hx,if_true,Option.bind_some]
    unfold untilS;rw[List.takeWhile_cons,hx'];simp
   ·have hx':(s==l.getD j default)=false:=by simp only[beq_eq_false_iff_ne,ne_eq];intro e;rw[e]at hx;simp at hx
    simp only[hx,if_false,Bool.false_eq_true,Option.bind_some]
    rw[ih (j+1) _ (by omega) (by rw[List.length_append];simp;omega)]
    unfold untilS;rw[List.takeWhile_cons,hx'];simp
 exact key l.length 0 [] (by omega) (Nat.le_refl _)
theorem rfire_eq {c:T27} (G:Good c) (H:Fit c) {g:T37} (hg:validS c g=true) {i:Nat} (hi:i < c.Transitions.length) :
  m126 c g (c.Transitions.getD i default)=some (⟨(fireS c g (c.Transitions.getD i default)).1,(fireS c g (c.Transitions.getD i default)).2.1⟩,(fireS c g (c.Transitions.getD i default)).2.2):=by
 have hs:=H.states
 obtain⟨v1,v2,v3⟩:=validS_iff.1 hg
 have hml:=v3.len
 have hne:=G.ne
 have hp:=pathS_len c g.Leaf
 have hlf:=(isS_lt v1).2.2
 have ha:=G.acts i hi
 obtain⟨hf,ht⟩:=G.tr i hi
 have hpt:=pathS_len c (c.Transitions.getD i default).To
 have hh:=(G.leafI g.Leaf v1 v2).2
 obtain⟨a1,a2⟩:=leaveS_ok G (s:=scopeS c (c.Transitions.getD i default).From (c.Transitions.getD i default).To) g.Leaf.toNat g.Leaf (-1) g.Memory [] (Nat.le_refl _) v1 v3 (.inl rfl)
 simp only[List.length_nil]at a2
 have h16:((leaveS c (scopeS c (c.Transitions.getD i default).From (c.Transitions.getD i default).To) (pathS c g.Leaf) (-1) g.Memory []).2.length+(c.Transitions.getD i default).Actions.length) * 16≤140737488355328:=by omega
 have hsub:∀ m:List Int,m.length=c.States.length→subL m 0 g.Memory.length=m:=fun m h=>subL_all (by rw[h,hml])
 have hend:=(fireS_ok G H hg hi).1
 have hmend:=(validS_iff.1 hend).2.2.len
 have hu:=untilS_len (s:=scopeS c (c.Transitions.getD i default).From (c.Transitions.getD i default).To) (l:=(pathS c (c.Transitions.getD i default).To).tail)
 obtain⟨r1,r2⟩:=aroundS_ok G (a:=(leaveS c (scopeS c (c.Transitions.getD i default).From (c.Transitions.getD i default).To) (pathS c g.Leaf) (-1) g.Memory []).2++(c.Transitions.getD i default).Actions) a1 (untilS (scopeS c (c.Transitions.getD i default).From (c.Transitions.getD i default).To) (pathS c (c.Transitions.getD i default).To).tail) fun x hx=>tail_is x (untilS_sub x hx)
 have k0:0 < g.Memory.length:=by omega
 have k1:g.Memory.length * 8≤140737488355328:=by omega
 delta m126 d126
 simp only[↓JD.sg_m,↓JD.sq_m,↓JD.sc_m,↓JD.bk_m,↓JD.lp_m,↓JD.cd_m,↓JD.lu_m,↓JD.ct_m,↓JD.ce_m,↓JL.r_m,↓JL.z_m,↓JD.se_m,onE_r,↓Tr.run,↓Tr.run_nd,↓Tr.run_c3,↓Tr.run_c2,↓Tr.run_nx,↓onS,bind_ite,Option.bind_some,Option.bind_none,obR,k0,k1,if_true,rscope_eq H hf ht,onS_l,rPath_eq c H]
 refine on_l (y:=leaveS c (scopeS c (c.Transitions.getD i default).From (c.Transitions.getD i default).To) (pathS c g.Leaf) (-1) g.Memory []) ?_ ?_
 ·generalize hP:pathS c g.Leaf=p at *
  rw[show leaveS c (scopeS c (c.Transitions.getD i default).From (c.Transitions.getD i default).To) p (-1) g.Memory []=leaveS c (scopeS c (c.Transitions.getD i default).From (c.Transitions.getD i default).To) (pathS c g.Leaf) (-1) g.Memory [] by rw[hP]]
  refine leave_key G _ (p:=p) (fun last i m a=>(m,a,last,i)) Sum.inl (fun pre l x last m' a hpre hx M' hl ha=>?_) (fun last m' a=>?_) g.Leaf.toNat [] g.Leaf (-1) g.Memory [] (by rw[hP];rfl) (Nat.le_refl _) v1 v3 (.inl ⟨rfl,hh⟩) (by simp;omega)
  ·have hi:pre.length < p.length:=by rw[hpre];simp
   have hg:p.getD pre.length default=x:=by rw[hpre];simp[List.getD_eq_getElem?_getD]
   have he8:=G.exit_ x hx
   have h1:(a.length+(c.States.getD x.toNat default).Exit.length) * 16≤140737488355328:=by unfold stA at he8;omega
   have h2:x < (g.Memory.length:Int):=by have:=isS_iff.1 hx;omega
   have h3:x.toNat < g.Memory.length:=by have:=(isS_lt hx).2.2;omega
   have h4:subL m' 0 g.Memory.length=m':=hsub _ M'.len
   simp only[inL hi,decide_true,Int.toNat_natCast,if_true,hg,isS_lt hx,h1,h2,h3,h4,wr1 hi (by omega)]
   refine ite_else ?_
   rcases hl with⟨e1,e2⟩ | e1
   ·unfold stA at e2 ⊢
    simp only[e1,e2,Bool.false_and,Bool.false_eq_true,if_false];rfl
   ·have e2:=isS_iff.1 (child_is G e1).1
    have e3:(last != (-1:Int))=true:=by simp only[bne_iff_ne,ne_eq];omega
    unfold stA
    simp only[e3,Bool.and_true]
    by_cases hh:(c.States.getD x.toNat default).History=true
    ·simp only[hh,if_true];rfl
    ·have hh:=Bool.eq_false_iff.2 hh
     simp only[hh,if_false,Bool.false_eq_true];rfl
  ·(simp only[lt_irr,decide_false,Bool.false_eq_true,if_false];try rfl)
 ·rw[if_pos h16]
  simp only[Option.bind_some,Int.reduceLE,pathS_pos ht,if_true,onS_l,Int.toNat_one,tail_sub]
  have htl:(pathS c (c.Transitions.getD i default).To).tail.length≤1000:=by rw[List.length_tail];omega
  have htl2:=@List.length_tail Int (pathS c (c.Transitions.getD i default).To)
  refine on_l (until_loop (s:=scopeS c (c.Transitions.getD i default).From (c.Transitions.getD i default).To) (l:=(pathS c (c.Transitions.getD i default).To).tail) (fun j o x hj ho hg=>?_) (fun o=>by simp only[htl2,lt_irr,decide_false,Bool.false_eq_true,if_false])) ?_
  ·have k8:(o.length+1) * 8≤140737488355328:=by omega
   have k9:((j:Int) < (((pathS c (c.Transitions.getD i default).To).length - 1:Nat):Int))=True:=eq_true (by omega)
   simp only[k9,inL hj,decide_true,Int.toNat_natCast,if_true,hg,k8,wr1 hj (by omega)];rfl
  ·have hz:=hsub _ hmend
   unfold fireS at hz
   simp only[hsub _ a1.len,around1_eq G H (fun x hx=>tail_is x (untilS_sub x hx)) (show (untilS (scopeS c (c.Transitions.getD i default).From (c.Transitions.getD i default).To) (pathS c (c.Transitions.getD i default).To).tail).length≤2000 by omega) a1 (a:=(leaveS c (scopeS c (c.Transitions.getD i default).From (c.Transitions.getD i default).To) (pathS c g.Leaf) (-1) g.Memory []).2++(c.Transitions.getD i default).Actions) (by rw[List.length_append];omega),  around0_eq G H (fun x hx=>tail_is x (untilS_sub x hx)) (show (untilS (scopeS c (c.Transitions.getD i default).From (c.Transitions.getD i default).To) (pathS c (c.Transitions.getD i default).To).tail).length≤2000 by omega) a1 (a:=(leaveS c (scopeS c (c.Transitions.getD i default).From (c.Transitions.getD i default).To) (pathS c g.Leaf) (-1) g.Memory []).2++(c.Transitions.getD i default).Actions) (by rw[List.length_append];omega),Option.bind_some,hsub _ r1.len]
   rw[renter_eq G H ht r1 (by rw[List.length_append]at r2;omega)]
   simp only[Option.bind_some,hz]
   rfl
theorem rStart_eq (c:T27) (H:Fit c):m74o0 c=startM c:=by
 obtain⟨e,he⟩:=checkM_some c
 have hs:=H.states
 unfold startM
 rw[he,Option.bind_some]
 delta m74o0 d74o0
 by_cases h0:(e != 0)=true
 ·simp only[↓JD.sg_m,↓JD.sq_m,↓JD.sc_m,↓JD.bk_m,↓JD.lp_m,↓JD.cd_m,↓JD.lu_m,↓JD.ct_m,↓JD.ce_m,↓JL.r_m,↓JL.z_m,↓JD.se_m,onE_r,↓Tr.run,↓Tr.run_nd,↓Tr.run_c3,↓Tr.run_c2,↓Tr.run_nx,↓onS,bind_ite,Option.bind_some,Option.bind_none,obR,rCheck_eq c H,he,h0,if_true]
 ·have h0':e=0:=by simpa using h0
  subst h0'
  have G:=good_of he
  have hp:=pathS_len c c.Start
  have k1:(0:Int)≤(c.States.length:Int):=by omega
  have k2:(c.States.length:Int) * 8≤140737488355328:=by omega
  have k3:(c.States.length:Int)≤9223372036854775807:=by omega
  simp only[↓JD.sg_m,↓JD.sq_m,↓JD.sc_m,↓JD.bk_m,↓JD.lp_m,↓JD.cd_m,↓JD.lu_m,↓JD.ct_m,↓JD.ce_m,↓JL.r_m,↓JL.z_m,↓JD.se_m,onE_r,↓Tr.run,↓Tr.run_nd,↓Tr.run_c3,↓Tr.run_c2,↓Tr.run_nx,↓onS,bind_ite,Option.bind_some,Option.bind_none,obR,rCheck_eq c H,he,h0,if_false,Bool.false_eq_true,k1,k2,k3,if_true,Int.toNat_natCast]
  have hfill:∀ {R:Type} {b:List Int×Int→Option ((List Int×Int)⊕(List Int⊕R))},(∀ (j:Nat) (m:List Int),j < c.States.length→m.length=c.States.length→b (m,(j:Int))=some (.inl (m.set j (-1),((j+1:Nat):Int))))→(∀ m,b (m,(c.States.length:Int))=some (.inr (.inl m))) →
    loopO b (List.replicate c.States.length 0,0)=some (.inl (List.replicate c.States.length (-1))):=by
   intro R b hb hd
   have key:∀ k j,j+k=c.States.length→loopO b (List.replicate j (-1)++List.replicate k 0,(j:Int))=some (.inl (List.replicate c.States.length (-1))):=by
    intro k
    induction k with
    | zero =>
     intro j hk
     obtain rfl:j=c.States.length:=by omega
     rw[loopO_eq,hd];simp
    | succ k ih =>
     intro j hk
     rw[loopO_eq,hb j _ (by omega) (by simp;omega)]
     have e1:(List.replicate j (-1:Int)++List.replicate (k+1) 0).set j (-1)=List.replicate (j+1) (-1)++List.replicate k 0:=by
      rw[List.set_append_right _ _ (by simp),List.length_replicate,Nat.sub_self,List.replicate_succ,List.set_cons_zero,List.replicate_succ'];simp
     rw[e1]
     exact ih (j+1) (by omega)
   simpa using key c.States.length 0 (by omega)
  refine on_l (hfill (fun j m hj hm=>?_) (fun m=>by (simp only[lt_irr,decide_false,Bool.false_eq_true,if_false];try rfl))) ?_
  ·have h4:subL m 0 c.States.length=m:=subL_all hm
   simp only[inL hj,hj,decide_true,Int.toNat_natCast,if_true,h4,wr1 hj (by omega)];rfl
  ·have hb:=mem_begin (c:=c)
   have h4:subL (List.replicate c.States.length (-1:Int)) 0 c.States.length=List.replicate c.States.length (-1):=subL_all (by simp)
   obtain⟨r1,r2⟩:=aroundS_ok G (a:=[]) hb (pathS c c.Start).tail tail_is
   have hend:=(startS_ok G H).1
   have hmend:=(validS_iff.1 hend).2.2.len
   have h5:subL (aroundS c (pathS c c.Start).tail (List.replicate c.States.length (-1)) []).1 0 c.States.length=(aroundS c (pathS c c.Start).tail (List.replicate c.States.length (-1)) []).1:=subL_all r1.len
   have h6:subL (startS c).2.1 0 c.States.length=(startS c).2.1:=subL_all hmend
   have h7:(pathS c c.Start).tail.length≤2000:=by rw[List.length_tail];omega
   simp only[rPath_eq c H,Option.bind_some,Int.reduceLE,pathS_pos G.start,if_true,Int.toNat_one,tail_sub,h4,around0_eq G H tail_is h7 hb (a:=[]) (by simp),h5]
   rw[renter_eq G H G.start r1 (by simp at r2;omega)]
   simp only[Option.bind_some]
   show some (_,_,_,subL (startS c).2.1 0 c.States.length)=_
   rw[h6];rfl
theorem rStep_eq (c:T27) (H:Fit c) (g:T37) (v:Int) (h0v:0≤v) (h1v:v < 65536):m76 c g v=stepM c g v:=by
 obtain⟨e,he⟩:=checkM_some c
 unfold stepM
 rw[he,Option.bind_some]
 delta m76 d76
 by_cases h0:(e != 0)=true
 ·simp only[↓JD.sg_m,↓JD.sq_m,↓JD.sc_m,↓JD.bk_m,↓JD.lp_m,↓JD.cd_m,↓JD.lu_m,↓JD.ct_m,↓JD.ce_m,↓JL.r_m,↓JL.z_m,↓JD.se_m,onE_r,↓Tr.run,↓Tr.run_nd,↓Tr.run_c3,↓Tr.run_c2,↓Tr.run_nx,↓onS,bind_ite,Option.bind_some,Option.bind_none,obR,rCheck_eq c H,he,h0,if_true]
 ·have h0':e=0:=by simpa using h0
  subst h0'
  simp only[↓JD.sg_m,↓JD.sq_m,↓JD.sc_m,↓JD.bk_m,↓JD.lp_m,↓JD.cd_m,↓JD.lu_m,↓JD.ct_m,↓JD.ce_m,↓JL.r_m,↓JL.z_m,↓JD.se_m,onE_r,↓Tr.run,↓Tr.run_nd,↓Tr.run_c3,↓Tr.run_c2,↓Tr.run_nx,↓onS,bind_ite,Option.bind_some,Option.bind_none,obR,rCheck_eq c H,he,h0,if_false,Bool.false_eq_true,rValid_eq c H,rAllowed_eq c H v h0v h1v,rEnabled_eq c H]
  cases hv:validS c g with
  | false=>rfl
  | true =>
   simp only[Bool.not_true,Bool.false_eq_true,if_false]
   refine ite_else ?_
   by_cases hz:(((enabledS c g.Leaf v).length:Int)==0)=true
   ·simp only[hz,if_true]
   ·simp only[hz,if_false,Bool.false_eq_true]
    have hz:(enabledS c g.Leaf v).length≠0:=by intro h;rw[h]at hz;simp at hz
    by_cases h1:(((enabledS c g.Leaf v).length:Int)==1)=true
    ·have hl:(enabledS c g.Leaf v).length=1:=by have:=eq_of_beq h1;omega
     have hd:decide ((1:Int) < ((enabledS c g.Leaf v).length:Int))=false:=by rw[hl];rfl
     obtain⟨i,hi,hx,hon⟩:=enabled_at (c:=c) (leaf:=g.Leaf) (v:=v) (by omega)
     have hz:(0:Int) < ((enabledS c g.Leaf v).length:Int):=by omega
     simp only[h1,hd,hz,Int.le_refl,if_true,if_false,Bool.false_eq_true,Int.toNat_zero,hx,inL hi,Int.toNat_natCast,rfire_eq (good_of he) H hv hi,fireR,Option.bind_some]
    ·have hd:decide ((1:Int) < ((enabledS c g.Leaf v).length:Int))=true:=by
      rw[decide_eq_true_eq]
      have:((enabledS c g.Leaf v).length:Int)≠1:=by simpa using h1
      omega
     simp only[h1,hd,if_true,if_false,Bool.false_eq_true]
end Go.Av.Ch
set_option maxRecDepth 100000
namespace Go.Av.Ch
theorem minQ0 (k:Int) (hk:0≤k) (L:Nat):(0:Int)≤(if k < (L:Int)then k else(L:Int)):=by split<;>omega
theorem minQ1 (k:Int) (L:Nat):(if k < (L:Int)then k else(L:Int))≤(L:Int):=by split<;>omega
theorem minQ2 (k:Int) (hk:k≤1000) (L:Nat):(0+(if k < (L:Int)then k else(L:Int)).toNat) * 16≤140737488355328:=by split<;>omega
def cutL {A:Type} [Inhabited A] (k:Int) (l:List A):List A:=[]++subL l 0 (if k < (l.length:Int)then k else(l.length:Int)).toNat
theorem cutL_len {A:Type} [Inhabited A] (k:Nat) (l:List A):(cutL (k:Int) l).length=min k l.length:=by
 rw[cutL,List.nil_append,subL_len];split<;>omega
theorem mem_coll {A:Type} {h:Nat→A} {n:Nat} {P:A→Prop} (hp:∀ i,i < n→P (h i)):∀ x∈(List.range n).flatMap fun i=>[h i],P x:=fun x hx=>by
 obtain⟨i,h1,hi⟩:=List.mem_flatMap.1 hx
 simp only[List.mem_singleton]at hi
 rw[hi];exact hp i (List.mem_range.1 h1)
theorem few_end {n k:Nat} {K:Int} (hK:K=(k:Int)):((decide (((min n k:Nat):Int) < (n:Int)))&&(decide (((min n k:Nat):Int) < K)))=false:=by
 rw[Bool.eq_false_iff];simp only[ne_eq,Bool.and_eq_true,decide_eq_true_eq];omega
theorem few_on {i n k:Nat} {K:Int} (hK:K=(k:Int)) (h:i < min n k):((decide ((i:Int) < (n:Int)))&&(decide ((i:Int) < K)))=true:=by
 simp only[Bool.and_eq_true,decide_eq_true_eq];omega
def fewN (c:T27) (i:Nat):List T116:=cutL 6 (c.Never.getD i default)
def fewT (c:T27) (i:Nat):T119:=⟨(c.States.getD i default).Name,(c.States.getD i default).Parent,(c.States.getD i default).Initial,(c.States.getD i default).History,cutL 9 (c.States.getD i default).Entry,cutL 9 (c.States.getD i default).Exit⟩
def fewR (c:T27) (i:Nat):T85:=⟨(c.Transitions.getD i default).From,(c.Transitions.getD i default).To,cutL 6 (c.Transitions.getD i default).When,cutL 9 (c.Transitions.getD i default).Actions⟩
def fewS (c:T27):T27:=⟨c.Name,cutL 6 c.Conds,(List.range (min c.Never.length 4)).flatMap (fun i=>[fewN c i]),(List.range (min c.States.length 12)).flatMap (fun i=>[fewT c i]),c.Start,(List.range (min c.Transitions.length 24)).flatMap (fun i=>[fewR c i])⟩
theorem round_few {A:Type} {g:Nat→A} {i:Nat} {n k z:Nat} (hz:z≤1000) (hk:k≤1000) (h:i < min n k):(((List.range i).flatMap fun i=>[g i]).length+1) * z≤140737488355328:=by
 have hl:=flatMap_len (g:=fun i=>[g i]) (m:=1) (fun i=>by simp) i
 have:(((List.range i).flatMap fun i=>[g i]).length+1) * z≤1001 * 1000:=Nat.mul_le_mul (by omega) hz
 omega
theorem Few_eq (c:T27):m43 c=some (fewS c):=by
 delta m43 d43
 simp only[↓JD.sg_m,↓JD.sq_m,↓JD.sc_m,↓JD.bk_m,↓JD.lp_m,↓JD.cd_m,↓JD.lu_m,↓JD.ct_m,↓JD.ce_m,↓JL.r_m,↓JL.z_m,↓JD.se_m,onE_r,↓Tr.run,↓Tr.run_nd,↓Tr.run_c3,↓Tr.run_c2,↓Tr.run_nx,↓onS,bind_ite,Option.bind_some,Option.bind_none,obR,minQ0 6 (by omega),minQ1,minQ2 6 (by omega),if_true]
 refine on_l (loop_coll (min c.Never.length 4) (fun i l=>((i:Int),l)) (fun i=>[fewN c i]) Sum.inl (fun i hi=>?_) ?_) (on_l (loop_coll (min c.States.length 12) (fun i l=>((i:Int),l)) (fun i=>[fewT c i]) Sum.inl (fun i hi=>?_) ?_) (on_l (loop_coll (min c.Transitions.length 24) (fun i l=>((i:Int),l)) (fun i=>[fewR c i]) Sum.inl (fun i hi=>?_) ?_) rfl))
 ·rw[if_pos (few_on (K:=4) rfl hi)];simp only[round_few (show 24≤1000 by omega) (by omega) hi,minQ0 6 (by omega),minQ1,minQ2 6 (by omega),Int.toNat_natCast,inL (show i < c.Never.length by omega),if_true,wr1 hi (by omega)];rfl
 ·simp only[few_end (n:=c.Never.length) (k:=4) (K:=4) rfl,Bool.false_eq_true,if_false]
 ·rw[if_pos (few_on (K:=12) rfl hi)];simp only[round_few (show 88≤1000 by omega) (by omega) hi,minQ0 9 (by omega),minQ1,minQ2 9 (by omega),Int.toNat_natCast,inL (show i < c.States.length by omega),if_true,wr1 hi (by omega)];rfl
 ·simp only[few_end (n:=c.States.length) (k:=12) (K:=12) rfl,Bool.false_eq_true,if_false]
 ·rw[if_pos (few_on (K:=24) rfl hi)];simp only[round_few (show 64≤1000 by omega) (by omega) hi,minQ0 6 (by omega),minQ0 9 (by omega),minQ1,minQ2 6 (by omega),minQ2 9 (by omega),Int.toNat_natCast,inL (show i < c.Transitions.length by omega),if_true,wr1 hi (by omega)];rfl
 ·simp only[few_end (n:=c.Transitions.length) (k:=24) (K:=24) rfl,Bool.false_eq_true,if_false]
structure Small (c:T27):Prop where
 conds:c.Conds.length≤6
 never:c.Never.length≤4
 lits:∀ l∈c.Never,l.length≤6
 states:c.States.length≤12
 entry:∀ s∈c.States,s.Entry.length≤9
 exit_:∀ s∈c.States,s.Exit.length≤9
 trans:c.Transitions.length≤24
 when_:∀ t∈c.Transitions,t.When.length≤6
 acts:∀ t∈c.Transitions,t.Actions.length≤9
theorem Small.fit {c:T27} (h:Small c):Fit c :=
 ⟨Nat.le_trans h.conds (by omega),Nat.le_trans h.never (by omega),fun l hl=>Nat.le_trans (h.lits l hl) (by omega),Nat.le_trans h.states (by omega),fun s hs=>Nat.le_trans (h.entry s hs) (by omega),fun s hs=>Nat.le_trans (h.exit_ s hs) (by omega),Nat.le_trans h.trans (by omega),fun t ht=>Nat.le_trans (h.when_ t ht) (by omega),fun t ht=>Nat.le_trans (h.acts t ht) (by omega)⟩
theorem cutL6 {A:Type} [Inhabited A] (l:List A):(cutL 6 l).length≤6:=by have:=cutL_len 6 l;simp only[Int.cast_ofNat_Int]at this;omega
theorem cutL9 {A:Type} [Inhabited A] (l:List A):(cutL 9 l).length≤9:=by have:=cutL_len 9 l;simp only[Int.cast_ofNat_Int]at this;omega
theorem few_small (c : T27) : Small (fewS c) :=
  ⟨cutL6 _, Nat.le_trans (flatMap_len (m := 1) (fun i => by simp) _) (by omega), mem_coll fun i _ => cutL6 _, Nat.le_trans (flatMap_len (m := 1) (fun i => by simp) _) (by omega), mem_coll fun i _ => cutL9 _, mem_coll fun i _ => cutL9 _,
   Nat.le_trans (flatMap_len (m := 1) (fun i => by simp) _) (by omega), mem_coll fun i _ => cutL6 _, mem_coll fun i _ => cutL9 _⟩
end Go.Av.Ch
set_option maxRecDepth 100000
namespace Go.Av.Ch
theorem bne_self {α:Type} [BEq α] [LawfulBEq α] (x:α):(x != x)=false:=by simp
end Go.Av.Ch
namespace Go.Av
theorem n16 {n:Nat} (h:n < 65536):IntKind.wrap .u16 (n:Int)=(n:Int):=IntWalk.u16_in _ (by omega)
theorem bs {α β:Type} {a:α} {f:α→Option β}:Option.bind (some a) f=f a:=Eq.mpr rfl rfl
theorem bn {α β:Type} {f:α→Option β}:Option.bind none f=none:=Eq.mpr rfl rfl
theorem ol {Y R:Type} {f:Y→Option R} {y:Y}:onS f (.inl y)=f y:=Eq.mpr rfl rfl
theorem or_ {Y R:Type} {f:Y→Option R} {r:R}:onS f (.inr r)=some r:=Eq.mpr rfl rfl
theorem bind_id {α:Type} {m:Option α}:(Option.bind m fun r=>some r)=m:=by cases m<;>rfl
theorem loop_st {S X : Type} {b : S → Option (S ⊕ X)} (n : Nat) (st : Nat → S) (out : X) (hs : ∀ i, i < n → b (st i) = some (.inl (st (i + 1)))) (he : b (st n) = some (.inr out)) : loopO b (st 0) = some out := by
  have key : ∀ k i, i + k = n → loopO b (st i) = some out := by
    intro k
    induction k with
    | zero => intro i h; obtain rfl : i = n := by omega
              rw [loopO_eq, he]; rfl
    | succ k ih => intro i h; rw [loopO_eq, hs i (by omega)]; exact ih (i + 1) (by omega)
  exact key n 0 (by omega)
end Go.Av
set_option maxRecDepth 100000
namespace Go.Av
open Ch Go.Proofs
instance:Decidable (Tryz.prog=Tryz.prog):=.isTrue rfl
theorem list_eq_iff {α:Type} [Inhabited α] {a b:List α} (h:a.length=b.length):a=b↔∀ i,i < a.length→a.getD i default=b.getD i default:=by
 constructor
 ·intro e i _;rw[e]
 ·intro k
  apply List.ext_getElem h
  intro i h1 h2
  have:=k i h1
  simpa [List.getD_eq_getElem?_getD,List.getElem?_eq_getElem h1,List.getElem?_eq_getElem h2] using this
theorem firstR_ne {α:Type} [BEq α] [LawfulBEq α] [Inhabited α] {a b:List α} (h:a.length=b.length):(firstR (fun i=>if(a.getD i default != b.getD i default)=true then some false else none) a.length).getD true=(a==b):=by
 rw[firstR_const]
 by_cases e:a=b
 ·have:anyR (fun i=>a.getD i default != b.getD i default) a.length=false:=by
   rw[anyR_false];intro i _;rw[e];simp
  rw[this,e];simp
 ·have:anyR (fun i=>a.getD i default != b.getD i default) a.length=true:=by
   rw[anyR_iff]
   apply Classical.byContradiction
   intro hn
   apply e
   rw[list_eq_iff h]
   intro i hi
   apply Classical.byContradiction
   intro hne
   exact hn ⟨i,hi,by simpa using hne⟩
  rw[this,if_pos rfl]
  simp[e]
theorem len_ne {α:Type} [BEq α] [LawfulBEq α] {a b:List α} (h:((a.length:Int) != (b.length:Int))=true):(a==b)=false:=by
 rw[beq_eq_false_iff_ne]
 rintro rfl
 simp at h
theorem len_eq {α:Type} {a b:List α} (h:((a.length:Int) != (b.length:Int))=false):a.length=b.length:=by
 simp at h;omega
theorem eqInts_eq (a b:List Int) (ha:a.length≤1000000):m121 a b=some (a==b):=by
 delta m121 d121
 simp only[↓JD.sg_m,↓JD.sq_m,↓JD.sc_m,↓JD.bk_m,↓JD.lp_m,↓JD.cd_m,↓JD.lu_m,↓JD.ct_m,↓JD.ce_m,↓JL.r_m,↓JL.z_m,↓JD.se_m,onE_r,↓Tr.run,↓Tr.run_nd,↓Tr.run_c3,↓Tr.run_c2,↓Tr.run_nx,↓onS,bind_ite,Option.bind_some,Option.bind_none,obR]
 by_cases h:((a.length:Int) != (b.length:Int))=true
 ·simp only[h,if_true,onS_r,len_ne h]
 ·have h:=Bool.eq_false_iff.2 h
  have hl:=len_eq h
  simp only[h,Bool.false_eq_true,if_false,onS_l]
  rw[loop_ex a.length (fun i=>if(a.getD i default != b.getD i default)=true then some false else none) ?_ ?_,orK_getD,firstR_ne hl]
  ·intro i hi
   have hi2:i < b.length:=by omega
   simp only[exB_ite,exB_some,exB_none,inL hi,inL hi2,decide_true,Int.toNat_natCast,if_true,wr1 hi (by omega)]
  ·(simp only[lt_irr,decide_false,Bool.false_eq_true,if_false];try rfl)
theorem SameInts_eq (a b:List Int) (ha:a.length≤1000000):m46 a b=some (a==b):=by
 delta m46 d46
 simp only[↓JD.sg_m,↓JD.sq_m,↓JD.sc_m,↓JD.bk_m,↓JD.lp_m,↓JD.cd_m,↓JD.lu_m,↓JD.ct_m,↓JD.ce_m,↓JL.r_m,↓JL.z_m,↓JD.se_m,onE_r,↓Tr.run,↓Tr.run_nd,↓Tr.run_c3,↓Tr.run_c2,↓Tr.run_nx,↓onS,bind_ite,Option.bind_some,Option.bind_none,obR]
 by_cases h:((a.length:Int) != (b.length:Int))=true
 ·simp only[h,if_true,onS_r,len_ne h]
 ·have h:=Bool.eq_false_iff.2 h
  have hl:=len_eq h
  simp only[h,Bool.false_eq_true,if_false,onS_l]
  rw[loop_ex a.length (fun i=>if(a.getD i default != b.getD i default)=true then some false else none) ?_ ?_,orK_getD,firstR_ne hl]
  ·intro i hi
   have hi2:i < b.length:=by omega
   simp only[exB_ite,exB_some,exB_none,inL hi,inL hi2,decide_true,Int.toNat_natCast,if_true,wr1 hi (by omega)]
  ·(simp only[lt_irr,decide_false,Bool.false_eq_true,if_false];try rfl)
def eqC (a b:T37):Bool:=a.Leaf==b.Leaf&&a.Memory==b.Memory
theorem eqC_iff {a b:T37}:eqC a b=true↔a=b:=by
 obtain⟨x,y⟩:=a
 obtain⟨z,w⟩:=b
 simp only[eqC,Bool.and_eq_true,beq_iff_eq]
 constructor
 ·rintro⟨rfl,rfl⟩;rfl
 ·intro h;injection h with h1 h2;exact⟨h1,h2⟩
theorem eqC_refl (a:T37):eqC a a=true:=eqC_iff.2 rfl
theorem same_eq (a b:T37) (ha:a.Memory.length≤1000000):m73 a b=some (eqC a b):=by
 delta m73 d73
 simp only[↓JD.sg_m,↓JD.sq_m,↓JD.sc_m,↓JD.bk_m,↓JD.lp_m,↓JD.cd_m,↓JD.lu_m,↓JD.ct_m,↓JD.ce_m,↓JL.r_m,↓JL.z_m,↓JD.se_m,onE_r,↓Tr.run,↓Tr.run_nd,↓Tr.run_c3,↓Tr.run_c2,↓Tr.run_nx,↓onS,bind_ite,Option.bind_some,Option.bind_none,obR,eqInts_eq _ _ ha,eqC]
 cases (a.Leaf==b.Leaf)<;>rfl
theorem SameConfig_eq (a b:T37) (ha:a.Memory.length≤1000000):m17 a b=some (eqC a b):=by
 delta m17 d17
 simp only[↓JD.sg_m,↓JD.sq_m,↓JD.sc_m,↓JD.bk_m,↓JD.lp_m,↓JD.cd_m,↓JD.lu_m,↓JD.ct_m,↓JD.ce_m,↓JL.r_m,↓JL.z_m,↓JD.se_m,onE_r,↓Tr.run,↓Tr.run_nd,↓Tr.run_c3,↓Tr.run_c2,↓Tr.run_nx,↓onS,bind_ite,Option.bind_some,Option.bind_none,obR,SameInts_eq _ _ ha,eqC]
 cases (a.Leaf==b.Leaf)<;>rfl
def Short (l:List T37):Prop:=∀ g∈l,g.Memory.length≤1000000
theorem Short.at {l:List T37} (h:Short l) {i:Nat} (hi:i < l.length):(l.getD i default).Memory.length≤1000000:=h _ (getD_mem hi)
def findC (l:List T37) (g:T37):Int:=findR (fun i=>eqC (l.getD i default) g) l.length
theorem find_eq (l:List T37) (g:T37) (hs:Short l) (hl:l.length≤1000000):m80 l g=some (findC l g):=by
 have e1:m54o0 l g=some (findC l g):=by
  have e2:∀ x:T37,x.Memory.length≤1000000→m128o0 x g=some (eqC x g):=fun x hx=>by
   delta m128o0 d128o0
   simp only[↓JD.sg_m,↓JD.sq_m,↓JD.sc_m,↓JD.bk_m,↓JD.lp_m,↓JD.cd_m,↓JD.lu_m,↓JD.ct_m,↓JD.ce_m,↓JL.r_m,↓JL.z_m,↓JD.se_m,onE_r,↓Tr.run,↓Tr.run_nd,↓Tr.run_c3,↓Tr.run_c2,↓Tr.run_nx,↓onS,bind_ite,Option.bind_some,Option.bind_none,obR,same_eq x g hx]
  delta m54o0 d54o0
  simp only[↓JD.sg_m,↓JD.sq_m,↓JD.sc_m,↓JD.bk_m,↓JD.lp_m,↓JD.cd_m,↓JD.lu_m,↓JD.ct_m,↓JD.ce_m,↓JL.r_m,↓JL.z_m,↓JD.se_m,onE_r,↓Tr.run,↓Tr.run_nd,↓Tr.run_c3,↓Tr.run_c2,↓Tr.run_nx,↓onS,bind_ite,Option.bind_some,Option.bind_none,obR]
  refine idx_loop (fun i hi=>?_) ?_
  ·simp only[exB_ite,exB_some,exB_none,inL hi,decide_true,Int.toNat_natCast,if_true,wr1 hi (by omega),e2 _ (hs.at hi),Option.bind_some]
  ·(simp only[lt_irr,decide_false,Bool.false_eq_true,if_false];try rfl)
 delta m80 d80
 simp only[↓JD.sg_m,↓JD.sq_m,↓JD.sc_m,↓JD.bk_m,↓JD.lp_m,↓JD.cd_m,↓JD.lu_m,↓JD.ct_m,↓JD.ce_m,↓JL.r_m,↓JL.z_m,↓JD.se_m,onE_r,↓Tr.run,↓Tr.run_nd,↓Tr.run_c3,↓Tr.run_c2,↓Tr.run_nx,↓onS,bind_ite,Option.bind_some,Option.bind_none,obR,e1]
theorem rindex_eq (l:List T37) (g:T37) (hs:Short l) (hl:l.length≤1000000):m83 l g=some (findC l g):=by
 delta m83 d83
 simp only[↓JD.sg_m,↓JD.sq_m,↓JD.sc_m,↓JD.bk_m,↓JD.lp_m,↓JD.cd_m,↓JD.lu_m,↓JD.ct_m,↓JD.ce_m,↓JL.r_m,↓JL.z_m,↓JD.se_m,onE_r,↓Tr.run,↓Tr.run_nd,↓Tr.run_c3,↓Tr.run_c2,↓Tr.run_nx,↓onS,bind_ite,Option.bind_some,Option.bind_none,obR]
 refine idx_loop (fun i hi=>?_) ?_
 ·simp only[exB_ite,exB_some,exB_none,inL hi,decide_true,Int.toNat_natCast,if_true,wr1 hi (by omega),SameConfig_eq _ g (hs.at hi),Option.bind_some]
 ·(simp only[lt_irr,decide_false,Bool.false_eq_true,if_false];try rfl)
theorem findC_any {l:List T37} {g:T37}:decide (0≤findC l g)=l.any (fun x=>eqC x g):=by
 unfold findC
 rw[findR_any,Bool.eq_iff_iff,anyR_iff,List.any_eq_true]
 constructor
 ·rintro⟨i,hi,h⟩;exact⟨_,getD_mem hi,h⟩
 ·rintro⟨x,hx,h⟩
  obtain⟨i,hi,rfl⟩:=List.getElem_of_mem hx
  exact⟨i,hi,by simpa [List.getD_eq_getElem?_getD,List.getElem?_eq_getElem hi] using h⟩
def hasC (l:List T37) (g:T37):Bool:=l.any fun x=>eqC x g
theorem hasC_iff {l:List T37} {g:T37}:hasC l g=true↔g∈l:=by
 unfold hasC
 rw[List.any_eq_true]
 constructor
 ·rintro⟨x,hx,h⟩;rw[← eqC_iff.1 h];exact hx
 ·intro h;exact⟨g,h,eqC_refl g⟩
theorem find_in {l:List T37} {g:T37}:decide (0≤findC l g)=hasC l g:=findC_any
theorem find_out {l:List T37} {g:T37}:decide (findC l g < 0)=!hasC l g:=by
 rw[← find_in]
 by_cases h:0≤findC l g
 ·simp[h]
 ·simp[h];omega
def numV (c:T27):Nat:=2 ^ c.Conds.length
theorem numV_pos (c:T27):0 < numV c:=Nat.two_pow_pos _
theorem numV_le {c:T27} (h:c.Conds.length≤12):numV c≤4096:=Nat.pow_le_pow_right (by omega) h
theorem shl64 {n:Nat} (h:n≤12):IntKind.wrap .i64 ((1:Int) * 2 ^ (min ((n:Nat):Int).toNat (IntKind.bits .i64)))=((2 ^ n:Nat):Int):=by
 have e1:min ((n:Nat):Int).toNat (IntKind.bits .i64)=n:=by
  show min ((n:Nat):Int).toNat 64=n
  omega
 rw[e1,Int.one_mul]
 have h2:2 ^ n≤4096:=Nat.pow_le_pow_right (by omega) h
 have e2:((2:Int) ^ n)=((2 ^ n:Nat):Int):=by push_cast;rfl
 rw[e2]
 generalize 2 ^ n=m at h2 ⊢
 exact w64 (by omega) (by omega)
theorem rtop_eq {c:T27} (h:c.Conds.length≤12):m75 c=some ((numV c:Int) - 1):=by
 have h1:=numV_pos c
 have h2:=numV_le h
 delta m75 d75
 simp only[↓JD.sg_m,↓JD.sq_m,↓JD.sc_m,↓JD.bk_m,↓JD.lp_m,↓JD.cd_m,↓JD.lu_m,↓JD.ct_m,↓JD.ce_m,↓JL.r_m,↓JL.z_m,↓JD.se_m,onE_r,↓Tr.run,↓Tr.run_nd,↓Tr.run_c3,↓Tr.run_c2,↓Tr.run_nx,↓onS,bind_ite,Option.bind_some,Option.bind_none,obR,shl64 h,show (0:Int)≤(c.Conds.length:Int) from by omega,if_true]
 rw[show ((2 ^ c.Conds.length:Nat):Int)=(numV c:Int) from rfl,w64 (by omega) (by omega)]
def alG (c:T27) (v:Nat):List Int:=if allowedS c (v:Int)=true then[(v:Int)]else[]
theorem alG_len (c:T27) (v:Nat):(alG c v).length≤1:=by unfold alG;split<;>simp
def valsA (c:T27):List Int:=(List.range (numV c)).flatMap (alG c)
theorem valsA_len {c:T27}:(valsA c).length≤numV c:=by
 have:=flatMap_len (alG_len c) (numV c)
 unfold valsA;omega
theorem valsA_mem {c:T27} {v:Int}:v∈valsA c↔∃ n:Nat,n < numV c∧v=n∧allowedS c v=true:=by
 unfold valsA
 rw[List.mem_flatMap]
 constructor
 ·rintro⟨n,h1,h2⟩
  unfold alG at h2
  split at h2
  ·rename_i h
   simp only[List.mem_singleton]at h2
   subst h2
   exact⟨n,List.mem_range.1 h1,rfl,h⟩
  ·cases h2
 ·rintro⟨n,h1,rfl,h2⟩
  exact⟨n,List.mem_range.2 h1,by unfold alG;rw[if_pos h2];simp⟩
theorem allowedL_eq {c:T27} (H:Fit c) (h:c.Conds.length≤12):m99 c=some (valsA c):=by
 have h2:=numV_le h
 delta m99 d99
 simp only[↓JD.sg_m,↓JD.sq_m,↓JD.sc_m,↓JD.bk_m,↓JD.lp_m,↓JD.cd_m,↓JD.lu_m,↓JD.ct_m,↓JD.ce_m,↓JL.r_m,↓JL.z_m,↓JD.se_m,onE_r,↓Tr.run,↓Tr.run_nd,↓Tr.run_c3,↓Tr.run_c2,↓Tr.run_nx,↓onS,bind_ite,Option.bind_some,Option.bind_none,obR,shl64 h,show (0:Int)≤(c.Conds.length:Int) from by omega,if_true]
 rw[show ((2 ^ c.Conds.length:Nat):Int)=(numV c:Int) from rfl]
 refine on_l (loop_coll (numV c) (fun i l=>(l,(i:Int))) (alG c) Sum.inl (fun i hi=>?_) (by (simp only[lt_irr,decide_false,Bool.false_eq_true,if_false];try rfl))) rfl
 have hl:=flatMap_len (alG_len c) i
 have h3:(((List.range i).flatMap (alG c)).length+1) * 2≤140737488355328:=by omega
 have h4:IntKind.wrap .u16 (i:Int)=(i:Int):=n16 (by omega)
 simp only[inL hi,decide_true,h3,h4,if_true,wr1 hi (by omega),Allowed_eq _ H,Option.bind_some,alG]
 cases allowedS c (i:Int)<;>simp
end Go.Av
set_option maxRecDepth 100000
namespace Go.Av
open Ch Go.Proofs
def stepO (c:T27) (g:T37) (v:Int):Option T37:=(stepM c g v).bind fun r=>if(r.2.2==0)=true then some r.1 else none
abbrev SS:=List T37×List Int×List Int
def addS (i:Nat) (v:Int) (h:T37) (s:SS):Option SS:=if hasC s.1 h=true then some s else if s.1.length=400 then none else some (s.1++[h],s.2.1++[(i:Int)],s.2.2++[v])
def visit (c:T27) (i:Nat) (s:SS) (v:Int):Option SS:=match stepO c (s.1.getD i default) v with
 | none=>some s
 | some h=>addS i v h s
def rnd (c:T27) (i:Nat):List Int→SS→Option SS
 | [],s=>some s
 | v :: l,s=>(visit c i s v).bind (rnd c i l)
def allV (c:T27):List Int:=(List.range (numV c)).map fun v:Nat=>(v:Int)
def srch (c:T27):Nat→Nat→SS→Option SS
 | 0,_,_=>none
 | n+1,i,s=>if i < s.1.length then(rnd c i (allV c) s).bind (srch c n (i+1))else some s
def begS (g:T37):SS:=([g],[-1],[0])
structure Inv (c:T27) (s:SS):Prop where
 le:s.1.length≤400
 l1:s.2.1.length=s.1.length
 l2:s.2.2.length=s.1.length
 pos:0 < s.1.length
 ok:∀ g∈s.1,validS c g=true
theorem valid_short {c:T27} (H:Fit c) {g:T37} (h:validS c g=true):g.Memory.length≤1000000:=by
 have h1:=(validS_iff.1 h).2.2.len
 have h2:=H.states
 omega
theorem Inv.short {c:T27} (H:Fit c) {s:SS} (h:Inv c s):Short s.1:=fun g hg=>valid_short H (h.ok g hg)
theorem stepO_ok {c:T27} (H:Fit c) {g h:T37} {v:Int} (hs:stepO c g v=some h):checkM c=some 0∧validS c g=true∧validS c h=true:=by
 unfold stepO at hs
 rw[Option.bind_eq_some_iff]at hs
 obtain⟨r,h1,h2⟩:=hs
 split at h2
 ·rename_i h3
  injection h2 with h2
  subst h2
  exact(stepM_ok H h1).2 (by simpa using h3)
 ·cases h2
theorem addS_inv {c:T27} {i:Nat} {v:Int} {h:T37} {s s':SS} (I:Inv c s) (hv:validS c h=true) (hs:addS i v h s=some s'):Inv c s'∧s.1.length≤s'.1.length:=by
 unfold addS at hs
 split at hs
 ·injection hs with hs;subst hs;exact⟨I,Nat.le_refl _⟩
 ·split at hs
  ·cases hs
  ·rename_i h400
   injection hs with hs
   subst hs
   have:=I.le
   refine⟨⟨?_,?_,?_,?_,?_⟩,?_⟩
   ·simp only[List.length_append,List.length_cons,List.length_nil];omega
   ·simp only[List.length_append,List.length_cons,List.length_nil,I.l1]
   ·simp only[List.length_append,List.length_cons,List.length_nil,I.l2]
   ·simp
   ·intro g hg
    rcases List.mem_append.1 hg with h1 | h1
    ·exact I.ok g h1
    ·simp only[List.mem_singleton]at h1;subst h1;exact hv
   ·simp
theorem visit_inv {c:T27} (H:Fit c) {i:Nat} {v:Int} {s s':SS} (I:Inv c s) (hs:visit c i s v=some s'):Inv c s'∧s.1.length≤s'.1.length:=by
 unfold visit at hs
 split at hs
 ·injection hs with hs;subst hs;exact⟨I,Nat.le_refl _⟩
 ·rename_i h he
  exact addS_inv I (stepO_ok H he).2.2 hs
theorem rnd_inv {c:T27} (H:Fit c) {i:Nat}:∀ {l:List Int} {s s':SS},Inv c s→rnd c i l s=some s'→Inv c s'∧s.1.length≤s'.1.length
 | [],s,s',I,hs=>by
  injection hs with hs;subst hs;exact⟨I,Nat.le_refl _⟩
 | v :: l,s,s',I,hs=>by
  unfold rnd at hs
  rw[Option.bind_eq_some_iff]at hs
  obtain⟨t,h1,h2⟩:=hs
  obtain⟨I1,k1⟩:=visit_inv H I h1
  obtain⟨I2,k2⟩:=rnd_inv H I1 h2
  exact⟨I2,by omega⟩
theorem rnd_filter {c:T27} {i:Nat} (p:Int→Bool):∀ {l:List Int} {s:SS},(∀ v∈l,p v=false→∀ s,visit c i s v=some s)→rnd c i (l.flatMap fun v=>if p v=true then[v]else[]) s=rnd c i l s
 | [],s,h=>rfl
 | v :: l,s,h=>by
  simp only[List.flatMap_cons]
  have ih:∀ s,rnd c i (l.flatMap fun v=>if p v=true then[v]else[]) s=rnd c i l s:=fun s=>rnd_filter p (fun w hw=>h w (by simp[hw]))
  cases hp:p v with
  | true =>
   simp only[if_true,List.cons_append,List.nil_append,rnd]
   congr 1;funext t;exact ih t
  | false =>
   simp only[Bool.false_eq_true,if_false,List.nil_append,rnd,h v (by simp) hp,Option.bind_some]
   exact ih s
theorem stepO_not {c:T27} {g:T37} {v:Int} (h:allowedS c v=false):stepO c g v=none:=by
 unfold stepO stepM
 cases hc:checkM c with
 | none=>rfl
 | some e =>
  simp only[Option.bind_some,h,Bool.not_false,if_true]
  split
  ·rename_i h0
   simp only[Option.bind_some]
   have:(e==0)=false:=by simpa using h0
   simp only[this,Bool.false_eq_true,if_false]
  ·split<;>rfl
theorem rnd_vals {c:T27} {i:Nat} {s:SS}:rnd c i (valsA c) s=rnd c i (allV c) s:=by
 have e:valsA c=(allV c).flatMap fun v=>if allowedS c v=true then[v]else[]:=by
  unfold valsA allV
  rw[List.flatMap_map]
  rfl
 rw[e]
 exact rnd_filter (allowedS c) fun v _ h s=>by unfold visit;rw[stepO_not h]
end Go.Av
set_option maxRecDepth 100000
namespace Go.Av
open Ch Go.Proofs
def upS {X:Type} {S:Type} (mk:SS→S) (bad:Option X):Option SS→Option (S⊕X)
 | some s=>some (.inl (mk s))
 | none=>bad.map .inr
def endS {X:Type} (out:SS→X) (bad:Option X):Option SS→Option X
 | some s=>some (out s)
 | none=>bad
theorem getD_app {α:Type} [Inhabited α] {l k:List α} {i:Nat} (h:i < l.length):(l++k).getD i default=l.getD i default:=by
 simp only[List.getD_eq_getElem?_getD,List.getElem?_append_left h]
theorem rnd_loop {c:T27} (H:Fit c) {i:Nat} {X:Type} {b:(List T37×List Int×List Int×Int)→Option ((List T37×List Int×List Int×Int)⊕X)} (out:SS→X) (bad:Option X)
  (hb:∀ (v:Nat) (s:SS),v < numV c→Inv c s→i < s.1.length→b (s.1,s.2.1,s.2.2,(v:Int))=upS (fun s'=>(s'.1,s'.2.1,s'.2.2,((v+1:Nat):Int))) bad (visit c i s v))
  (he:∀ s:SS,Inv c s→b (s.1,s.2.1,s.2.2,(numV c:Int))=some (.inr (out s)))
  {s:SS} (I:Inv c s) (hi:i < s.1.length):loopO b (s.1,s.2.1,s.2.2,0)=(endS out bad (rnd c i (allV c) s)):=by
 have key:∀ (k v:Nat) (s:SS),v+k=numV c→Inv c s→i < s.1.length→loopO b (s.1,s.2.1,s.2.2,(v:Int))=(endS out bad (rnd c i ((List.range' v k).map fun v:Nat=>(v:Int)) s)):=by
  intro k
  induction k with
  | zero =>
   intro v s hk I hi
   obtain rfl:v=numV c:=by omega
   rw[loopO_eq,he s I]
   rfl
  | succ k ih =>
   intro v s hk I hi
   rw[loopO_eq,hb v s (by omega) I hi,List.range'_succ,List.map_cons,rnd]
   cases hv:visit c i s (v:Int) with
   | none=>cases bad<;>rfl
   | some s' =>
    obtain⟨I',h'⟩:=visit_inv H I hv
    simp only[upS,Option.bind_some]
    exact ih (v+1) s' (by omega) I' (by omega)
 have:=key (numV c) 0 s (by omega) I hi
 rw[← List.range_eq_range']at this
 exact this
theorem done_loop {c:T27} (H:Fit c) {i:Nat} {X:Type} {b:(Int×List T37×List Int×List Int×Nat×(List UInt8→Option Int))→Option ((Int×List T37×List Int×List Int×Nat×(List UInt8→Option Int))⊕X)} (out:SS→X) (bad:Option X) (w:List Int)
  (P:SS→(List UInt8→Option Int)→Prop)
  (hb:∀ (k:Nat) (s:SS) (n:Nat) (f:List UInt8→Option Int),k < w.length→Inv c s→i < s.1.length→n≤k→P s f→∃ n' f',n'≤k+1∧(∀ s',visit c i s (w.getD k default)=some s'→P s' f') ∧
   b ((k:Int),s.1,s.2.1,s.2.2,n,f)=upS (fun s'=>(((k+1:Nat):Int),s'.1,s'.2.1,s'.2.2,n',f')) bad (visit c i s (w.getD k default)))
  (he:∀ (s:SS) n f,Inv c s→b ((w.length:Int),s.1,s.2.1,s.2.2,n,f)=some (.inr (out s)))
  {s:SS} (I:Inv c s) (hi:i < s.1.length) (f0:List UInt8→Option Int) (hP:P s f0):loopO b (0,s.1,s.2.1,s.2.2,0,f0)=(endS out bad (rnd c i w s)):=by
 have key:∀ (m k:Nat) (s:SS) (n:Nat) (f:List UInt8→Option Int),k+m=w.length→Inv c s→i < s.1.length→n≤k→P s f→loopO b ((k:Int),s.1,s.2.1,s.2.2,n,f)=(endS out bad (rnd c i (w.drop k) s)):=by
  intro m
  induction m with
  | zero =>
   intro k s n f hk I hi hn hp
   obtain rfl:k=w.length:=by omega
   rw[loopO_eq,he s n f I,List.drop_length]
   rfl
  | succ m ih =>
   intro k s n f hk I hi hn hp
   have hkl:k < w.length:=by omega
   obtain⟨n',f',h1,h2,h3⟩:=hb k s n f hkl I hi hn hp
   have hd:w.drop k=w.getD k default :: w.drop (k+1):=by
    rw[List.drop_eq_getElem_cons hkl];simp[List.getD_eq_getElem?_getD,List.getElem?_eq_getElem hkl]
   rw[loopO_eq,h3,hd,rnd]
   cases hv:visit c i s (w.getD k default) with
   | none=>cases bad<;>rfl
   | some s' =>
    obtain⟨I',h'⟩:=visit_inv H I hv
    simp only[upS,Option.bind_some]
    exact ih (k+1) s' n' f' (by omega) I' (by omega) h1 (h2 s' hv)
 have:=key w.length 0 s 0 f0 (by omega) I hi (by omega) hP
 rw[List.drop_zero]at this
 exact this
theorem srch_loop {c:T27} (H:Fit c) {S X:Type} {b:S→Option (S⊕X)} (mk:Nat→SS→S) (out:SS→X) (bad:Option X)
  (hb:∀ (i:Nat) (s:SS),Inv c s→i < s.1.length→b (mk i s)=upS (mk (i+1)) bad (rnd c i (allV c) s))
  (he:∀ (s:SS),Inv c s→b (mk s.1.length s)=some (.inr (out s))) :
  ∀ (n i:Nat) (s:SS),Inv c s→i≤s.1.length→n+i=402→loopO b (mk i s)=(endS out bad (srch c n i s)):=by
 intro n
 induction n with
 | zero=>intro i s I hi hn;have:=I.le;omega
 | succ n ih =>
  intro i s I hi hn
  unfold srch
  by_cases h:i < s.1.length
  ·rw[if_pos h,loopO_eq,hb i s I h]
   cases hr:rnd c i (allV c) s with
   | none=>cases bad<;>rfl
   | some s' =>
    obtain⟨I',h'⟩:=rnd_inv H I hr
    simp only[upS,Option.bind_some]
    exact ih (i+1) s' I' (by omega) (by omega)
  ·obtain rfl:i=s.1.length:=by omega
   rw[if_neg h,loopO_eq,he s I]
   rfl
def searchS (c:T27):Option SS:=srch c 402 0 (begS ⟨(startS c).1,(startS c).2.1⟩)
theorem beg_inv {c:T27} (H:Fit c) (hc:checkM c=some 0):Inv c (begS ⟨(startS c).1,(startS c).2.1⟩):=by
 refine⟨by simp[begS],by simp[begS],by simp[begS],by simp[begS],fun g hg=>?_⟩
 simp only[begS,List.mem_singleton]at hg
 subst hg
 exact(startS_ok (good_of hc) H).1
theorem stepO_of {c:T27} {g:T37} {v:Int} {r:T37×List (List UInt8)×Int} (h:stepM c g v=some r):stepO c g v=if(r.2.2==0)=true then some r.1 else none:=by
 unfold stepO;rw[h,Option.bind_some]
theorem M45 (a0:T27):m45 a0=((Option.bind (Option.bind (Option.bind (m74o0 a0) fun r=>some r) fun x1=>(if(x1.1 != 0)=true then(some (.inr (([],[],[],x1.1))))else(some (.inl ([(⟨x1.2.2.1,x1.2.2.2⟩:T37)]:List T37))))) (onS fun(y1:(List T37))=>(Option.bind (Option.bind (some (.inl ())) (onS fun(_:Unit)=>(loopO (fun(s2:(List T37)×(List Int)×(List Int)×Int)=>((Option.bind (if(decide (s2.2.2.2 < (s2.1.length:Int)))=true then(some (.inl ()))else(some (.inr (.inr (.inl (s2.1,s2.2.1,s2.2.2.1)))))) (onS fun(_:Unit)=>(Option.bind (Option.bind (some (.inl ())) (onS fun(_:Unit)=>(loopO (fun(s3:(List T37)×(List Int)×(List Int)×Int)=>((Option.bind (Option.bind (m75 a0) fun r=>some r) fun x9=>(if(decide (s3.2.2.2≤x9))=true then(Option.bind ((if 0≤s2.2.2.2 then(if s2.2.2.2 < (s3.1.length:Int)then((m76 a0 (s3.1.getD s2.2.2.2.toNat default) (IntKind.wrap .u16 (s3.2.2.2))).bind fun r11_0=>some r11_0)else none)else none)) fun(x11:((T37×(List (List UInt8))×Int)))=>(Option.bind (((if(x11.2.2==0)=true then m83 s3.1 x11.1 else some default).bind fun r12_0=>some r12_0)) fun(x12:(Int))=>(if((x11.2.2==0)&&(decide (x12 < 0)))=true then(if((s3.1.length+1) * 32≤140737488355328)then(if((s3.2.1.length+1) * 8≤140737488355328)then(if((s3.2.2.1.length+1) * 2≤140737488355328)then(if(decide (400 < (((s3.1.length+1):Nat):Int)))=true then(some (.inr (.inr (.inr (.inr (([],[],[],(3:Int))))))))else(some (.inl ((s3.1++([x11.1]:List T37)),(s3.2.1++([s2.2.2.2]:List Int)),(s3.2.2.1++([(IntKind.wrap .u16 (s3.2.2.2))]:List Int)),(IntKind.wrap .i64 (s3.2.2.2+1))))))else none)else none)else none)else(some (.inl (s3.1,s3.2.1,s3.2.2.1,(IntKind.wrap .i64 (s3.2.2.2+1))))))))else(some (.inr (.inl (s3.1,s3.2.1,s3.2.2.1)))))):Option (((List T37)×(List Int)×(List Int)×Int)⊕(((List T37)×(List Int)×(List Int))⊕(((List T37)×(List Int)×(List Int)×Int)⊕(((List T37)×(List Int)×(List Int))⊕((List T37)×(List Int)×(List Int)×Int))))))) (s2.1,s2.2.1,s2.2.2.1,(0:Int))))) (onS fun(y4:(List T37)×(List Int)×(List Int))=>(some (.inl (y4.1,y4.2.1,y4.2.2,(IntKind.wrap .i64 (s2.2.2.2+1))))))))):Option (((List T37)×(List Int)×(List Int)×Int)⊕(((List T37)×(List Int)×(List Int))⊕((List T37)×(List Int)×(List Int)×Int))))) (y1,([(-1:Int)]:List Int),([(0:Int)]:List Int),(0:Int))))) (onS fun(y5:(List T37)×(List Int)×(List Int))=>(some (y5.1,y5.2.1,y5.2.2,(0:Int))))))):Option ((List T37)×(List Int)×(List Int)×Int)):=by kernel_rfl
theorem rsearch_eq {c:T27} (H:Fit c) (hn:c.Conds.length≤12):m45 c=(checkM c).bind fun e=>if(e != 0)=true then some ([],[],[],e)else match searchS c with | some s=>some (s.1,s.2.1,s.2.2,0) | none=>some ([],[],[],3):=by
 obtain⟨e,he⟩:=checkM_some c
 have h1:=numV_pos c
 have h2:=numV_le hn
 have q1:=rStart_eq c H
 have q2:=rtop_eq hn
 have q3:∀ (g:T37) (v:Nat),v < numV c→m76 c g v=stepM c g v:=fun g v hv=>rStep_eq c H g v (by omega) (by omega)
 have q4:∀ (l:List T37) (g:T37),Short l→l.length≤1000000→m83 l g=some (findC l g):=rindex_eq
 simp only[M45,bind_id,q1,q2]
 generalize m76=F1 at q3 ⊢
 generalize m83=F2 at q4 ⊢
 unfold startM
 by_cases h0:(e != 0)=true
 ·simp only[he,bs,h0,if_true,or_]
 ·have h0:=Bool.eq_false_iff.2 h0
  have e0:e=0:=by simpa using h0
  subst e0
  simp only[he,bs,h0,Bool.false_eq_true,if_false,ol,bne_self]
  have I0:=beg_inv H he
  refine bind_eq (srch_loop H (fun i s=>(s.1,s.2.1,s.2.2,(i:Int))) (fun s=>.inl (s.1,s.2.1,s.2.2)) (some (.inr ([],[],[],3))) (fun i s I hi=>?_) (fun s I=>?_) 402 0 _ I0 (by omega) (by omega)) ?_
  ·have hi':(i:Int) < (s.1.length:Int):=by omega
   simp only[hi',decide_true,if_true,bs,ol]
   refine bind_eq (rnd_loop H (i:=i) (fun s=>.inl (s.1,s.2.1,s.2.2)) (some (.inr (.inr (.inr ([],[],[],3))))) (fun v s hv I hi=>?_) (fun s I=>?_) I hi) ?_
   ·obtain⟨r,hr⟩:=stepM_some c (s.1.getD i default) v
    have hs:=stepO_of hr
    have b1:=I.le
    have b2:=I.l1
    have b3:=I.l2
    have hf:=q4 s.1 r.1 (I.short H) (by omega)
    have d1:decide ((v:Int)≤(numV c:Int) - 1)=true:=by simp;omega
    have w1:IntKind.wrap .u16 (v:Int)=(v:Int):=n16 (by omega)
    have w2:IntKind.wrap .i64 ((v:Int)+1)=((v+1:Nat):Int):=by rw[w64 (by omega) (by omega)];omega
    have c1:((s.1.length+1) * 32≤140737488355328)=True:=eq_true (by omega)
    have c2:((s.2.1.length+1) * 8≤140737488355328)=True:=eq_true (by omega)
    have c3:((s.2.2.length+1) * 2≤140737488355328)=True:=eq_true (by omega)
    simp only[d1,if_true,inL hi,Int.toNat_natCast,w1,w2,q3 _ v hv,hr,bs,c1,c2,c3]
    unfold visit
    rw[hs]
    cases he0:(r.2.2==0) with
    | false=>simp only[Bool.false_and,Bool.false_eq_true,if_false,bs];rfl
    | true =>
     simp only[Bool.true_and,if_true,hf,bs,find_out]
     unfold addS
     cases hh:hasC s.1 r.1 with
     | true=>simp only[Bool.not_true,Bool.false_eq_true,if_false,if_true];rfl
     | false =>
      simp only[Bool.not_false,Bool.false_eq_true,if_false,if_true]
      by_cases h4:s.1.length=400
      ·have d2:decide ((400:Int) < ((s.1.length+1:Nat):Int))=true:=by simp;omega
       simp only[d2,h4,if_true];rfl
      ·have d2:decide ((400:Int) < ((s.1.length+1:Nat):Int))=false:=by simp;omega
       simp only[d2,h4,Bool.false_eq_true,if_false];rfl
   ·have d1:decide ((numV c:Int)≤(numV c:Int) - 1)=false:=by simp;omega
    simp only[d1,Bool.false_eq_true,if_false]
   ·cases hr:rnd c i (allV c) s with
    | none=>rfl
    | some s' =>
     have w2:IntKind.wrap .i64 ((i:Int)+1)=((i+1:Nat):Int):=by
      have:=I.le
      rw[w64 (by omega) (by omega)];omega
     simp only[endS,bs,ol,w2];rfl
  ·simp only[lt_irr,decide_false,Bool.false_eq_true,if_false,bs,or_]
  ·unfold searchS
   cases srch c 402 0 (begS ⟨(startS c).1,(startS c).2.1⟩) with
   | some s=>rfl
   | none=>rfl
theorem M44o1 (a0:T27):m44o1 a0=((Option.bind (Option.bind (Option.bind (m28o0 a0) fun r=>some r) fun x1=>(if(x1.1 != 0)=true then(some (.inr (x1.1)))else(Option.bind (Option.bind (m99 a0) fun r=>some r) fun x4=>(some (.inl (([(⟨x1.2.2.1,x1.2.2.2⟩:T37)]:List T37),x4)))))) (onS fun(y1:(List T37)×(List Int))=>(Option.bind (Option.bind (some (.inl ())) (onS fun(_:Unit)=>(loopO (fun(s2:Int×(List T37)×(List Int)×(List Int))=>((Option.bind (if(decide (s2.1 < (s2.2.1.length:Int)))=true then(some (.inl ()))else(some (.inr (.inr (.inl (s2.2.1,s2.2.2.1,s2.2.2.2)))))) (onS fun(_:Unit)=>(Option.bind (Option.bind (some (.inl ())) (onS fun(_:Unit)=>(loopO (fun(s3:Int×(List T37)×(List Int)×(List Int)×Nat×(List UInt8→Option Int))=>((if(decide (s3.1 < (y1.2.length:Int)))=true then(if(0≤s3.1)then(if(s3.1 < (y1.2.length:Int))then(Option.bind ((if 0≤s2.1 then(if s2.1 < (s3.2.1.length:Int)then((m19 a0 (s3.2.1.getD s2.1.toNat default).Leaf (y1.2.getD s3.1.toNat default)).bind fun r12_0=>some r12_0)else none)else none)) fun(x12:((List Int)))=>(if(!((x12.length:Int) != (1:Int)))=true→((0:Int)≤(0:Int))then(if(!((x12.length:Int) != (1:Int)))=true→(0 < (x12.length:Int))then(if(!((x12.length:Int) != (1:Int)))=true→(Tryz.prog=Tryz.prog)then(if(!((x12.length:Int) != (1:Int)))=true→((Lit.int .i64 (x12.getD (0:Int).toNat default)).wf=true)then(if(((x12.length:Int) != (1:Int)) || ((s3.2.2.2.2.2 (encK (x12.getD (0:Int).toNat default))).getD 0 != 0))=true then(some (.inl ((IntKind.wrap .i64 (s3.1+1)),s3.2.1,s3.2.2.1,s3.2.2.2.1,s3.2.2.2.2.1,s3.2.2.2.2.2)))else(if((0:Int)≤(0:Int))then(if(0 < (x12.length:Int))then(if((Lit.int .i64 (x12.getD (0:Int).toNat default)).wf=true)then(if(s3.2.2.2.2.1 < maxLen)then(Option.bind ((if 0≤s2.1 then(if s2.1 < (s3.2.1.length:Int)then(if(0:Int)≤(0:Int)then(if 0 < (x12.length:Int)then((m67 a0 (s3.2.1.getD s2.1.toNat default) (x12.getD (0:Int).toNat default)).bind fun r15_0=>some r15_0)else none)else none)else none)else none)) fun(x15:((T37×(List (List UInt8))×Int)))=>(Option.bind (((if(!(x15.2.2 != 0))=true then m80 s3.2.1 x15.1 else some default).bind fun r16_0=>some r16_0)) fun(x16:(Int))=>(if((x15.2.2 != 0) || (decide (0≤x16)))=true then(some (.inl ((IntKind.wrap .i64 (s3.1+1)),s3.2.1,s3.2.2.1,s3.2.2.2.1,(s3.2.2.2.2.1+1),(fun q=>if q=(encK (x12.getD (0:Int).toNat default))then some (if true=true then(1:Int)else 0)else s3.2.2.2.2.2 q))))else(if((s3.2.1.length:Int)==(400:Int))=true then(some (.inr (.inr (.inr (.inr ((3:Int)))))))else(if((s3.2.1.length+1) * 32≤140737488355328)then(if((s3.2.2.1.length+1) * 8≤140737488355328)then(if((s3.2.2.2.1.length+1) * 2≤140737488355328)then(some (.inl ((IntKind.wrap .i64 (s3.1+1)),(s3.2.1++([x15.1]:List T37)),(s3.2.2.1++([s2.1]:List Int)),(s3.2.2.2.1++([(y1.2.getD s3.1.toNat default)]:List Int)),(s3.2.2.2.2.1+1),(fun q=>if q=(encK (x12.getD (0:Int).toNat default))then some (if true=true then(1:Int)else 0)else s3.2.2.2.2.2 q))))else none)else none)else none)))))else none)else none)else none)else none))else none)else none)else none)else none))else none)else none)else(some (.inr (.inl (s3.2.1,s3.2.2.1,s3.2.2.2.1))))):Option ((Int×(List T37)×(List Int)×(List Int)×Nat×(List UInt8→Option Int))⊕(((List T37)×(List Int)×(List Int))⊕((Int×(List T37)×(List Int)×(List Int))⊕(((List T37)×(List Int)×(List Int))⊕(Int))))))) ((0:Int),s2.2.1,s2.2.2.1,s2.2.2.2,0,(fun _=>none))))) (onS fun(y4:(List T37)×(List Int)×(List Int))=>(some (.inl ((IntKind.wrap .i64 (s2.1+1)),y4.1,y4.2.1,y4.2.2))))))):Option ((Int×(List T37)×(List Int)×(List Int))⊕(((List T37)×(List Int)×(List Int))⊕(Int))))) ((0:Int),y1.1,([(-1:Int)]:List Int),([(0:Int)]:List Int))))) (onS fun(y5:(List T37)×(List Int)×(List Int))=>none)))):Option (Int)):=by kernel_rfl
theorem M44o2 (a0:T27):m44o2 a0=((Option.bind (Option.bind (Option.bind (m28o0 a0) fun r=>some r) fun x1=>(if(x1.1 != 0)=true then none else(Option.bind (Option.bind (m99 a0) fun r=>some r) fun x4=>(some (.inl (([(⟨x1.2.2.1,x1.2.2.2⟩:T37)]:List T37),x4)))))) (onS fun(y1:(List T37)×(List Int))=>(Option.bind (Option.bind (some (.inl ())) (onS fun(_:Unit)=>(loopO (fun(s2:Int×(List T37)×(List Int)×(List Int))=>((Option.bind (if(decide (s2.1 < (s2.2.1.length:Int)))=true then(some (.inl ()))else(some (.inr (.inr (.inl (s2.2.1,s2.2.2.1,s2.2.2.2)))))) (onS fun(_:Unit)=>(Option.bind (Option.bind (some (.inl ())) (onS fun(_:Unit)=>(loopO (fun(s3:Int×(List T37)×(List Int)×(List Int)×Nat×(List UInt8→Option Int))=>((if(decide (s3.1 < (y1.2.length:Int)))=true then(if(0≤s3.1)then(if(s3.1 < (y1.2.length:Int))then(Option.bind ((if 0≤s2.1 then(if s2.1 < (s3.2.1.length:Int)then((m19 a0 (s3.2.1.getD s2.1.toNat default).Leaf (y1.2.getD s3.1.toNat default)).bind fun r12_0=>some r12_0)else none)else none)) fun(x12:((List Int)))=>(if(!((x12.length:Int) != (1:Int)))=true→((0:Int)≤(0:Int))then(if(!((x12.length:Int) != (1:Int)))=true→(0 < (x12.length:Int))then(if(!((x12.length:Int) != (1:Int)))=true→(Tryz.prog=Tryz.prog)then(if(!((x12.length:Int) != (1:Int)))=true→((Lit.int .i64 (x12.getD (0:Int).toNat default)).wf=true)then(if(((x12.length:Int) != (1:Int)) || ((s3.2.2.2.2.2 (encK (x12.getD (0:Int).toNat default))).getD 0 != 0))=true then(some (.inl ((IntKind.wrap .i64 (s3.1+1)),s3.2.1,s3.2.2.1,s3.2.2.2.1,s3.2.2.2.2.1,s3.2.2.2.2.2)))else(if((0:Int)≤(0:Int))then(if(0 < (x12.length:Int))then(if((Lit.int .i64 (x12.getD (0:Int).toNat default)).wf=true)then(if(s3.2.2.2.2.1 < maxLen)then(Option.bind ((if 0≤s2.1 then(if s2.1 < (s3.2.1.length:Int)then(if(0:Int)≤(0:Int)then(if 0 < (x12.length:Int)then((m67 a0 (s3.2.1.getD s2.1.toNat default) (x12.getD (0:Int).toNat default)).bind fun r15_0=>some r15_0)else none)else none)else none)else none)) fun(x15:((T37×(List (List UInt8))×Int)))=>(Option.bind (((if(!(x15.2.2 != 0))=true then m80 s3.2.1 x15.1 else some default).bind fun r16_0=>some r16_0)) fun(x16:(Int))=>(if((x15.2.2 != 0) || (decide (0≤x16)))=true then(some (.inl ((IntKind.wrap .i64 (s3.1+1)),s3.2.1,s3.2.2.1,s3.2.2.2.1,(s3.2.2.2.2.1+1),(fun q=>if q=(encK (x12.getD (0:Int).toNat default))then some (if true=true then(1:Int)else 0)else s3.2.2.2.2.2 q))))else(if((s3.2.1.length:Int)==(400:Int))=true then none else(if((s3.2.1.length+1) * 32≤140737488355328)then(if((s3.2.2.1.length+1) * 8≤140737488355328)then(if((s3.2.2.2.1.length+1) * 2≤140737488355328)then(some (.inl ((IntKind.wrap .i64 (s3.1+1)),(s3.2.1++([x15.1]:List T37)),(s3.2.2.1++([s2.1]:List Int)),(s3.2.2.2.1++([(y1.2.getD s3.1.toNat default)]:List Int)),(s3.2.2.2.2.1+1),(fun q=>if q=(encK (x12.getD (0:Int).toNat default))then some (if true=true then(1:Int)else 0)else s3.2.2.2.2.2 q))))else none)else none)else none)))))else none)else none)else none)else none))else none)else none)else none)else none))else none)else none)else(some (.inr (.inl (s3.2.1,s3.2.2.1,s3.2.2.2.1))))):Option ((Int×(List T37)×(List Int)×(List Int)×Nat×(List UInt8→Option Int))⊕(((List T37)×(List Int)×(List Int))⊕((Int×(List T37)×(List Int)×(List Int))⊕(((List T37)×(List Int)×(List Int))⊕((List T37)×(List Int)×(List Int)×(List Int)))))))) ((0:Int),s2.2.1,s2.2.2.1,s2.2.2.2,0,(fun _=>none))))) (onS fun(y4:(List T37)×(List Int)×(List Int))=>(some (.inl ((IntKind.wrap .i64 (s2.1+1)),y4.1,y4.2.1,y4.2.2))))))):Option ((Int×(List T37)×(List Int)×(List Int))⊕(((List T37)×(List Int)×(List Int))⊕((List T37)×(List Int)×(List Int)×(List Int)))))) ((0:Int),y1.1,([(-1:Int)]:List Int),([(0:Int)]:List Int))))) (onS fun(y5:(List T37)×(List Int)×(List Int))=>(some (y5.1,y5.2.1,y5.2.2,y1.2)))))):Option ((List T37)×(List Int)×(List Int)×(List Int))):=by kernel_rfl
theorem enab_one {c:T27} (hc:checkM c=some 0) {g:T37} (hg:validS c g=true) {v:Int} (ha:allowedS c v=true):stepO c g v=if((((enabledS c g.Leaf v).length:Int))==1)=true then some (fireR c g ((enabledS c g.Leaf v).getD 0 default)).1 else none:=by
 unfold stepO stepM
 simp only[hc,Option.bind_some,bne_self,hg,ha,Bool.not_true,Bool.false_eq_true,if_false]
 by_cases h1:(((enabledS c g.Leaf v).length:Int)==1)=true
 ·have h0:(((enabledS c g.Leaf v).length:Int)==0)=false:=by
   have:((enabledS c g.Leaf v).length:Int)=1:=by simpa using h1
   rw[this];rfl
  simp only[h0,h1,Bool.false_eq_true,if_false,if_true,Option.bind_some];rfl
 ·have h1':=Bool.eq_false_iff.2 h1
  simp only[h1',Bool.false_eq_true,if_false]
  by_cases h0:(((enabledS c g.Leaf v).length:Int)==0)=true
  ·simp only[h0,if_true,Option.bind_some];rfl
  ·have h0':=Bool.eq_false_iff.2 h0
   simp only[h0',Bool.false_eq_true,if_false,Option.bind_some];rfl
def DoneP (c:T27) (g:T37) (s:SS) (f:List UInt8→Option Int):Prop:=∀ t:Int,((f (encK t)).getD 0 != 0)=true→hasC s.1 (fireR c g t).1=true
theorem fire_at {c:T27} (H:Fit c) (hc:checkM c=some 0) {g:T37} (hg:validS c g=true) {v:Int} (h1:(((enabledS c g.Leaf v).length:Int)==1)=true):m67 c g ((enabledS c g.Leaf v).getD 0 default)=some (fireR c g ((enabledS c g.Leaf v).getD 0 default)):=by
 have hl:0 < (enabledS c g.Leaf v).length:=by
  have:((enabledS c g.Leaf v).length:Int)=1:=by simpa using h1
  omega
 obtain⟨i,hi,hx,hon⟩:=enabled_at hl
 rw[fire_err H,hx]
 have hn:(decide ((i:Int) < 0) || decide ((c.Transitions.length:Int)≤(i:Int)))=false:=by
  simp only[Bool.or_eq_false_iff,decide_eq_false_iff_not];omega
 simp only[hc,Option.bind_some,bne_self,hg,hn,Int.toNat_natCast,hon,Bool.not_true,Bool.false_eq_true,if_false]
 rfl
end Go.Av
set_option maxRecDepth 100000
namespace Go.Av
open Ch Go.Proofs
theorem hasC_app {l k:List T37} {g:T37} (h:hasC l g=true):hasC (l++k) g=true:=by
 rw[hasC_iff]at h ⊢
 exact List.mem_append_left _ h
theorem DoneP.same {c:T27} {g:T37} {s:SS} {f:List UInt8→Option Int} (h:DoneP c g s f) {t:Int} (ht:hasC s.1 (fireR c g t).1=true):DoneP c g s (fun q=>if q=encK t then some (if true=true then(1:Int)else 0)else f q):=fun u hu=>by
 by_cases e:u=t
 ·rw[e];exact ht
 ·have:encK u≠encK t:=fun k=>e (encK_inj k)
  simp only[this,if_false]at hu
  exact h u hu
theorem DoneP.more {c:T27} {g:T37} {s:SS} {f:List UInt8→Option Int} (h:DoneP c g s f) {t:Int} {fr bv:List Int}:DoneP c g (s.1++[(fireR c g t).1],fr,bv) (fun q=>if q=encK t then some (if true=true then(1:Int)else 0)else f q):=fun u hu=>by
 by_cases e:u=t
 ·rw[e];rw[hasC_iff];simp
 ·have:encK u≠encK t:=fun k=>e (encK_inj k)
  simp only[this,if_false]at hu
  exact hasC_app (h u hu)
theorem wf_small {i:Nat} (h:i < 1000000):(Lit.int .i64 (i:Int)).wf=true:=by
 simp[Lit.wf,IntKind.min,IntKind.max,IntKind.signed,IntKind.bits];omega
theorem srchE_eq {c : T27} (H : Fit c) (hn : c.Conds.length ≤ 12) : m44o1 c = (checkM c).bind fun e => if (e != 0) = true then some e else match searchS c with | some s => none | none => some 3 := by
  obtain ⟨e, he⟩ := checkM_some c
  have h1 := numV_pos c
  have h2 := numV_le hn
  have hv2 := valsA_len (c := c)
  have q1 := Start_eq c H
  have q2 := allowedL_eq H hn
  have q3 : ∀ (leaf v : Int), m19 c leaf v = some (enabledS c leaf v) := Enabled_eq c H
  have q4 : ∀ (l : List T37) (g : T37), Short l → l.length ≤ 1000000 → m80 l g = some (findC l g) := find_eq
  have q5 : checkM c = some 0 → ∀ (g : T37) (v : Int), validS c g = true → (((enabledS c g.Leaf v).length : Int) == 1) = true → m67 c g ((enabledS c g.Leaf v).getD 0 default) = some (fireR c g ((enabledS c g.Leaf v).getD 0 default)) := fun hc g v hg h => fire_at H hc hg h
  simp only [M44o1, bind_id, q1, q2]
  generalize m19 = F1 at q3 ⊢
  generalize m80 = F2 at q4 ⊢
  generalize m67 = F3 at q5 ⊢
  unfold startM
  by_cases h0 : (e != 0) = true
  · simp only [he, bs, h0, if_true, or_, bn]
  · have h0 := Bool.eq_false_iff.2 h0
    have e0 : e = 0 := by simpa using h0
    subst e0
    simp only [he, bs, h0, Bool.false_eq_true, if_false, ol, bne_self]
    have q5 := q5 he
    have I0 := beg_inv H he
    refine bind_eq (srch_loop H (fun i s => ((i : Int), s.1, s.2.1, s.2.2)) (fun s => .inl (s.1, s.2.1, s.2.2)) (some (.inr (3 : Int))) (fun i s I hi => ?_) (fun s I => ?_) 402 0 _ I0 (by omega) (by omega)) ?_
    · have hi' : (i : Int) < (s.1.length : Int) := by omega
      simp only [hi', decide_true, if_true, bs, ol]
      have hg : validS c (s.1.getD i default) = true := I.ok _ (getD_mem hi)
      refine bind_eq (done_loop H (i := i) (fun s => .inl (s.1, s.2.1, s.2.2)) (some (.inr (.inr (.inr (3 : Int))))) (valsA c) (fun t f => t.1.getD i default = s.1.getD i default ∧ DoneP c (s.1.getD i default) t f) (fun k s' n f hk I' hi'' hn' hP => ?_) (fun s n f I => ?_) I hi (fun _ => none) ⟨rfl, fun t ht => by simp at ht⟩) ?_
      · generalize s.1.getD i default = g at hg hP
        obtain ⟨hP1, hP2⟩ := hP
        obtain ⟨vn, hvn, hve, hall⟩ := valsA_mem.1 (getD_mem hk)
        obtain ⟨v, hvd⟩ : ∃ v, v = (valsA c).getD k default := ⟨_, rfl⟩
        rw [← hvd] at hve hall ⊢
        have b1 := I'.le
        have b2 := I'.l1
        have b3 := I'.l2
        have hb1 := enab_one he hg hall
        have w2 : IntKind.wrap .i64 ((k : Int) + 1) = ((k + 1 : Nat) : Int) := by rw [w64 (by omega) (by omega)]; omega
        have c1 : ((s'.1.length + 1) * 32 ≤ 140737488355328) = True := eq_true (by omega)
        have c2 : ((s'.2.1.length + 1) * 8 ≤ 140737488355328) = True := eq_true (by omega)
        have c3 : ((s'.2.2.length + 1) * 2 ≤ 140737488355328) = True := eq_true (by omega)
        have c4 : (n < maxLen) = True := eq_true (by unfold maxLen; omega)
        have c5 : ((0 : Int) ≤ (0 : Int)) = True := eq_true (by omega)
        unfold visit
        rw [hP1, hb1]
        simp only [inL hk, inL hi'', decide_true, if_true, Int.toNat_natCast, hP1, q3, bs, w2, c5, ← hvd]
        by_cases hl : (((enabledS c g.Leaf v).length : Int) == 1) = true
        · have hl2 : (((enabledS c g.Leaf v).length : Int) != 1) = false := by simpa using hl
          have hl3 : (0 < ((enabledS c g.Leaf v).length : Int)) = True := eq_true (by have : ((enabledS c g.Leaf v).length : Int) = 1 := by simpa using hl
                                                                                      omega)
          have hf := q5 g v hg hl
          obtain ⟨t, ht⟩ : ∃ t, t = (enabledS c g.Leaf v).getD 0 default := ⟨_, rfl⟩
          obtain ⟨ti, hti, htx, _⟩ := enabled_at (c := c) (leaf := g.Leaf) (v := v) (by have : ((enabledS c g.Leaf v).length : Int) = 1 := by simpa using hl
                                                                                        omega)
          have htr := H.trans
          rw [← ht] at htx hf
          have hwf : ((Lit.int .i64 t).wf = true) = True := eq_true (by rw [htx]; exact wf_small (by omega))
          simp only [hl, hl2, hl3, hwf, c4, c5, if_true, Bool.not_false, true_implies, Bool.false_or, Int.toNat_zero, ← ht, hf, bs]
          by_cases hd : ((f (encK t)).getD 0 != 0) = true
          · have hh := hP2 t hd
            refine ⟨n, f, by omega, fun s'' hs'' => ?_, ?_⟩
            · unfold addS at hs''
              rw [if_pos hh] at hs''
              injection hs'' with hs''
              subst hs''
              exact ⟨hP1, hP2⟩
            · unfold addS
              rw [if_pos hh]
              simp only [hd, if_true]; rfl
          · have hd := Bool.eq_false_iff.2 hd
            have e1 : ((fireR c g t).2.2 != 0) = false := rfl
            have hfd := q4 s'.1 (fireR c g t).1 (I'.short H) (by omega)
            refine ⟨n + 1, fun q => if q = encK t then some (if true = true then (1 : Int) else 0) else f q, by omega, fun s'' hs'' => ?_, ?_⟩
            · unfold addS at hs''
              split at hs''
              · rename_i hh
                injection hs'' with hs''
                subst hs''
                exact ⟨hP1, hP2.same hh⟩
              · split at hs''
                · cases hs''
                · injection hs'' with hs''
                  subst hs''
                  exact ⟨by rw [getD_app hi'']; exact hP1, hP2.more⟩
            · simp only [hd, e1, hfd, bs, Bool.false_eq_true, if_false, Bool.not_false, if_true, Bool.false_or, find_in]
              unfold addS
              cases hh : hasC s'.1 (fireR c g t).1 with
              | true => simp only [if_true]; rfl
              | false =>
                simp only [Bool.false_eq_true, if_false]
                by_cases h4 : s'.1.length = 400
                · have d2 : ((s'.1.length : Int) == (400 : Int)) = true := by simp; omega
                  simp only [d2, h4, if_true]; rfl
                · have d2 : ((s'.1.length : Int) == (400 : Int)) = false := by simp; omega
                  simp only [d2, h4, c1, c2, c3, Bool.false_eq_true, if_false, if_true]; rfl
        · have hl2 : (((enabledS c g.Leaf v).length : Int) != 1) = true := by simpa using hl
          have hl := Bool.eq_false_iff.2 hl
          refine ⟨n, f, by omega, fun s'' hs'' => ?_, ?_⟩
          · simp only [hl, Bool.false_eq_true, if_false] at hs''
            injection hs'' with hs''
            subst hs''
            exact ⟨hP1, hP2⟩
          · simp only [hl, hl2, Bool.not_true, Bool.false_eq_true, false_implies, if_true, if_false, Bool.true_or]; rfl
      · simp only [lt_irr, decide_false, Bool.false_eq_true, if_false]
      · rw [rnd_vals]
        cases hr : rnd c i (allV c) s with
        | none => rfl
        | some s' =>
          have w2 : IntKind.wrap .i64 ((i : Int) + 1) = ((i + 1 : Nat) : Int) := by
            have := I.le
            rw [w64 (by omega) (by omega)]; omega
          simp only [endS, bs, ol, w2]; rfl
    · simp only [lt_irr, decide_false, Bool.false_eq_true, if_false, bs, or_]
    · unfold searchS
      cases srch c 402 0 (begS ⟨(startS c).1, (startS c).2.1⟩) with
      | some s => rfl
      | none => rfl
theorem srchR_eq {c : T27} (H : Fit c) (hn : c.Conds.length ≤ 12) : m44o2 c = (checkM c).bind fun e => if (e != 0) = true then none else match searchS c with | some s => some (s.1, s.2.1, s.2.2, valsA c) | none => none := by
  obtain ⟨e, he⟩ := checkM_some c
  have h1 := numV_pos c
  have h2 := numV_le hn
  have hv2 := valsA_len (c := c)
  have q1 := Start_eq c H
  have q2 := allowedL_eq H hn
  have q3 : ∀ (leaf v : Int), m19 c leaf v = some (enabledS c leaf v) := Enabled_eq c H
  have q4 : ∀ (l : List T37) (g : T37), Short l → l.length ≤ 1000000 → m80 l g = some (findC l g) := find_eq
  have q5 : checkM c = some 0 → ∀ (g : T37) (v : Int), validS c g = true → (((enabledS c g.Leaf v).length : Int) == 1) = true → m67 c g ((enabledS c g.Leaf v).getD 0 default) = some (fireR c g ((enabledS c g.Leaf v).getD 0 default)) := fun hc g v hg h => fire_at H hc hg h
  simp only [M44o2, bind_id, q1, q2]
  generalize m19 = F1 at q3 ⊢
  generalize m80 = F2 at q4 ⊢
  generalize m67 = F3 at q5 ⊢
  unfold startM
  by_cases h0 : (e != 0) = true
  · simp only [he, bs, h0, if_true, or_, bn]
  · have h0 := Bool.eq_false_iff.2 h0
    have e0 : e = 0 := by simpa using h0
    subst e0
    simp only [he, bs, h0, Bool.false_eq_true, if_false, ol, bne_self]
    have q5 := q5 he
    have I0 := beg_inv H he
    refine bind_eq (srch_loop H (fun i s => ((i : Int), s.1, s.2.1, s.2.2)) (fun s => .inl (s.1, s.2.1, s.2.2)) none (fun i s I hi => ?_) (fun s I => ?_) 402 0 _ I0 (by omega) (by omega)) ?_
    · have hi' : (i : Int) < (s.1.length : Int) := by omega
      simp only [hi', decide_true, if_true, bs, ol]
      have hg : validS c (s.1.getD i default) = true := I.ok _ (getD_mem hi)
      refine bind_eq (done_loop H (i := i) (fun s => .inl (s.1, s.2.1, s.2.2)) none (valsA c) (fun t f => t.1.getD i default = s.1.getD i default ∧ DoneP c (s.1.getD i default) t f) (fun k s' n f hk I' hi'' hn' hP => ?_) (fun s n f I => ?_) I hi (fun _ => none) ⟨rfl, fun t ht => by simp at ht⟩) ?_
      · generalize s.1.getD i default = g at hg hP
        obtain ⟨hP1, hP2⟩ := hP
        obtain ⟨vn, hvn, hve, hall⟩ := valsA_mem.1 (getD_mem hk)
        obtain ⟨v, hvd⟩ : ∃ v, v = (valsA c).getD k default := ⟨_, rfl⟩
        rw [← hvd] at hve hall ⊢
        have b1 := I'.le
        have b2 := I'.l1
        have b3 := I'.l2
        have hb1 := enab_one he hg hall
        have w2 : IntKind.wrap .i64 ((k : Int) + 1) = ((k + 1 : Nat) : Int) := by rw [w64 (by omega) (by omega)]; omega
        have c1 : ((s'.1.length + 1) * 32 ≤ 140737488355328) = True := eq_true (by omega)
        have c2 : ((s'.2.1.length + 1) * 8 ≤ 140737488355328) = True := eq_true (by omega)
        have c3 : ((s'.2.2.length + 1) * 2 ≤ 140737488355328) = True := eq_true (by omega)
        have c4 : (n < maxLen) = True := eq_true (by unfold maxLen; omega)
        have c5 : ((0 : Int) ≤ (0 : Int)) = True := eq_true (by omega)
        unfold visit
        rw [hP1, hb1]
        simp only [inL hk, inL hi'', decide_true, if_true, Int.toNat_natCast, hP1, q3, bs, w2, c5, ← hvd]
        by_cases hl : (((enabledS c g.Leaf v).length : Int) == 1) = true
        · have hl2 : (((enabledS c g.Leaf v).length : Int) != 1) = false := by simpa using hl
          have hl3 : (0 < ((enabledS c g.Leaf v).length : Int)) = True := eq_true (by have : ((enabledS c g.Leaf v).length : Int) = 1 := by simpa using hl
                                                                                      omega)
          have hf := q5 g v hg hl
          obtain ⟨t, ht⟩ : ∃ t, t = (enabledS c g.Leaf v).getD 0 default := ⟨_, rfl⟩
          obtain ⟨ti, hti, htx, _⟩ := enabled_at (c := c) (leaf := g.Leaf) (v := v) (by have : ((enabledS c g.Leaf v).length : Int) = 1 := by simpa using hl
                                                                                        omega)
          have htr := H.trans
          rw [← ht] at htx hf
          have hwf : ((Lit.int .i64 t).wf = true) = True := eq_true (by rw [htx]; exact wf_small (by omega))
          simp only [hl, hl2, hl3, hwf, c4, c5, if_true, Bool.not_false, true_implies, Bool.false_or, Int.toNat_zero, ← ht, hf, bs]
          by_cases hd : ((f (encK t)).getD 0 != 0) = true
          · have hh := hP2 t hd
            refine ⟨n, f, by omega, fun s'' hs'' => ?_, ?_⟩
            · unfold addS at hs''
              rw [if_pos hh] at hs''
              injection hs'' with hs''
              subst hs''
              exact ⟨hP1, hP2⟩
            · unfold addS
              rw [if_pos hh]
              simp only [hd, if_true]; rfl
          · have hd := Bool.eq_false_iff.2 hd
            have e1 : ((fireR c g t).2.2 != 0) = false := rfl
            have hfd := q4 s'.1 (fireR c g t).1 (I'.short H) (by omega)
            refine ⟨n + 1, fun q => if q = encK t then some (if true = true then (1 : Int) else 0) else f q, by omega, fun s'' hs'' => ?_, ?_⟩
            · unfold addS at hs''
              split at hs''
              · rename_i hh
                injection hs'' with hs''
                subst hs''
                exact ⟨hP1, hP2.same hh⟩
              · split at hs''
                · cases hs''
                · injection hs'' with hs''
                  subst hs''
                  exact ⟨by rw [getD_app hi'']; exact hP1, hP2.more⟩
            · simp only [hd, e1, hfd, bs, Bool.false_eq_true, if_false, Bool.not_false, if_true, Bool.false_or, find_in]
              unfold addS
              cases hh : hasC s'.1 (fireR c g t).1 with
              | true => simp only [if_true]; rfl
              | false =>
                simp only [Bool.false_eq_true, if_false]
                by_cases h4 : s'.1.length = 400
                · have d2 : ((s'.1.length : Int) == (400 : Int)) = true := by simp; omega
                  simp only [d2, h4, if_true]; rfl
                · have d2 : ((s'.1.length : Int) == (400 : Int)) = false := by simp; omega
                  simp only [d2, h4, c1, c2, c3, Bool.false_eq_true, if_false, if_true]; rfl
        · have hl2 : (((enabledS c g.Leaf v).length : Int) != 1) = true := by simpa using hl
          have hl := Bool.eq_false_iff.2 hl
          refine ⟨n, f, by omega, fun s'' hs'' => ?_, ?_⟩
          · simp only [hl, Bool.false_eq_true, if_false] at hs''
            injection hs'' with hs''
            subst hs''
            exact ⟨hP1, hP2⟩
          · simp only [hl, hl2, Bool.not_true, Bool.false_eq_true, false_implies, if_true, if_false, Bool.true_or]; rfl
      · simp only [lt_irr, decide_false, Bool.false_eq_true, if_false]
      · rw [rnd_vals]
        cases hr : rnd c i (allV c) s with
        | none => rfl
        | some s' =>
          have w2 : IntKind.wrap .i64 ((i : Int) + 1) = ((i + 1 : Nat) : Int) := by
            have := I.le
            rw [w64 (by omega) (by omega)]; omega
          simp only [endS, bs, ol, w2]; rfl
    · simp only [lt_irr, decide_false, Bool.false_eq_true, if_false, bs, or_]
    · unfold searchS
      cases srch c 402 0 (begS ⟨(startS c).1, (startS c).2.1⟩) with
      | some s => rfl
      | none => rfl
end Go.Av
set_option maxRecDepth 100000
namespace Go.Av
open Ch Go.Proofs
def cutN {A:Type} [Inhabited A] (k:Int) (l:List A):List A:=subL l 0 (if k < (l.length:Int)then k else(l.length:Int)).toNat
theorem cutN_len {A:Type} [Inhabited A] {k:Nat} {l:List A}:(cutN (k:Int) l).length≤k:=by
 unfold cutN;rw[subL_len];split<;>omega
theorem cutN_mem {A:Type} [Inhabited A] {k:Int} (hk:0≤k) {l:List A}:∀ x∈cutN k l,x∈l:=fun x hx=>by
 unfold cutN at hx
 rw[subL_eq (by split<;>omega)]at hx
 exact List.mem_of_mem_drop (List.mem_of_mem_take hx)
def few8 (c:T27):T27:=⟨(fewS c).Name,cutN 3 (fewS c).Conds,(fewS c).Never,cutN 7 (fewS c).States,(fewS c).Start,cutN 14 (fewS c).Transitions⟩
structure Tiny (c:T27):Prop where
 fit:Fit c
 conds:c.Conds.length≤3
 states:c.States.length≤7
 trans:c.Transitions.length≤14
theorem few8_tiny (c:T27):Tiny (few8 c):=by
 have S:=few_small c
 have l1:(few8 c).Conds.length≤3:=cutN_len (k:=3)
 have l2:(few8 c).States.length≤7:=cutN_len (k:=7)
 have l3:(few8 c).Transitions.length≤14:=cutN_len (k:=14)
 exact⟨⟨by omega,Nat.le_trans S.never (by omega),fun l hl=>Nat.le_trans (S.lits l hl) (by omega),by omega,fun s hs=>Nat.le_trans (S.entry s (cutN_mem (by omega) s hs)) (by omega),fun s hs=>Nat.le_trans (S.exit_ s (cutN_mem (by omega) s hs)) (by omega),by omega,
  fun t ht=>Nat.le_trans (S.when_ t (cutN_mem (by omega) t ht)) (by omega),fun t ht=>Nat.le_trans (S.acts t (cutN_mem (by omega) t ht)) (by omega)⟩,l1,l2,l3⟩
theorem M14 (a0:T27):m14 a0=((Option.bind (Option.bind (m43 a0) fun r=>some r) fun x1=>(if(0≤(if 7 < (x1.States.length:Int)then(7:Int)else(x1.States.length:Int)))then(if((if 7 < (x1.States.length:Int)then(7:Int)else(x1.States.length:Int))≤(x1.States.length:Int))then(if(0≤(if 3 < (x1.Conds.length:Int)then(3:Int)else(x1.Conds.length:Int)))then(if((if 3 < (x1.Conds.length:Int)then(3:Int)else(x1.Conds.length:Int))≤(x1.Conds.length:Int))then(if(0≤(if 14 < (x1.Transitions.length:Int)then(14:Int)else(x1.Transitions.length:Int)))then(if((if 14 < (x1.Transitions.length:Int)then(14:Int)else(x1.Transitions.length:Int))≤(x1.Transitions.length:Int))then(some (⟨x1.Name,(subL x1.Conds 0 (if 3 < (x1.Conds.length:Int)then(3:Int)else(x1.Conds.length:Int)).toNat),x1.Never,(subL x1.States 0 (if 7 < (x1.States.length:Int)then(7:Int)else(x1.States.length:Int)).toNat),x1.Start,(subL x1.Transitions 0 (if 14 < (x1.Transitions.length:Int)then(14:Int)else(x1.Transitions.length:Int)).toNat)⟩:T27))else none)else none)else none)else none)else none)else none)):Option (T27)):=by kernel_rfl
theorem few_eq8 (c:T27):m14 c=some (few8 c):=by
 have h:=Few_eq c
 simp only[M14,bind_id,h,bs,minQ0 7 (by omega),minQ0 3 (by omega),minQ0 14 (by omega),minQ1,if_true]
 rfl
def reachM (c:T27):Option (List T37×Int):=(checkM c).bind fun e=>if(e != 0)=true then some ([],e)else match searchS c with | some s=>some (s.1,0) | none=>some ([],3)
theorem M16 (a0:T27):m16 a0=((Option.bind (Option.bind (m45 a0) fun r=>some r) fun x1=>(some (x1.1,x1.2.2.2))):Option ((List T37)×Int)):=by kernel_rfl
theorem rReachable_eq {c:T27} (H:Fit c) (hn:c.Conds.length≤12):m16 c=reachM c:=by
 obtain⟨e,he⟩:=checkM_some c
 have q1:=rsearch_eq H hn
 unfold reachM
 simp only[M16,bind_id,q1,he,bs]
 by_cases h0:(e != 0)=true
 ·simp only[h0,bs,if_true]
 ·have h0:=Bool.eq_false_iff.2 h0
  simp only[h0,Bool.false_eq_true,if_false]
  cases searchS c with
  | none=>rfl
  | some s=>rfl
theorem srch_inv {c:T27} (H:Fit c):∀ {n i:Nat} {s s':SS},Inv c s→srch c n i s=some s'→Inv c s'
 | 0,_,_,_,_,h=>by cases h
 | n+1,i,s,s',I,h=>by
  unfold srch at h
  split at h
  ·rw[Option.bind_eq_some_iff]at h
   obtain⟨t,h1,h2⟩:=h
   exact srch_inv H (rnd_inv H I h1).1 h2
  ·injection h with h;subst h;exact I
theorem searchS_inv {c:T27} (H:Fit c) (hc:checkM c=some 0) {s:SS} (h:searchS c=some s):Inv c s:=srch_inv H (beg_inv H hc) h
end Go.Av
set_option maxRecDepth 100000
namespace Go.Av
open Ch Go.Proofs
theorem any_loop {X:Type} {b:(Bool×Int)→Option ((Bool×Int)⊕(Bool⊕X))} {k:Bool→Option X} (n:Nat) (p:Nat→Bool) {z:Option X} (hb:∀ (f:Bool) (i:Nat),i < n→b (f,(i:Int))=some (.inl ((f || p i),((i+1:Nat):Int)))) (he:∀ f,b (f,(n:Int))=some (.inr (.inl f))) (hz:k (anyR p n)=z) :
  (loopO b (false,0)).bind (onS k)=z:=by
 have key:∀ m i f,i+m=n→loopO b (f,(i:Int))=some (.inl (f || (List.range' i m).any p)):=by
  intro m
  induction m with
  | zero =>
   intro i f h
   obtain rfl:i=n:=by omega
   rw[loopO_eq,he];simp
  | succ m ih =>
   intro i f h
   rw[loopO_eq,hb f i (by omega)]
   simp only[Option.bind_some]
   rw[ih (i+1) _ (by omega),List.range'_succ,List.any_cons,Bool.or_assoc]
 have:=key n 0 false (by omega)
 rw[← List.range_eq_range',Bool.false_or]at this
 refine bind_to this ?_
 exact hz
structure Wy (c:T27) (g0:T37) (s:SS):Prop where
 i0:s.1.getD 0 default=g0
 f0:s.2.1.getD 0 default = -1
 w:∀ k,0 < k→k < s.1.length→∃ j v:Nat,j < k∧s.2.1.getD k default=(j:Int)∧v < numV c∧s.2.2.getD k default=(v:Int)∧stepO c (s.1.getD j default) (v:Int)=some (s.1.getD k default)
 nd:s.1.Nodup
end Go.Av
set_option maxRecDepth 100000
namespace Go.Av
open Ch Go.Proofs
theorem getD_set {l:List Int} {i k:Nat} {a:Int} (hi:i < l.length):(l.set i a).getD k default=if k=i then a else l.getD k default:=by
 simp only[List.getD_eq_getElem?_getD,List.getElem?_set]
 by_cases h:i=k
 ·subst h;simp[hi]
 ·have:¬ k=i:=fun e=>h e.symm
  simp[h,this]
def leafI (s:SS) (leaf:Int):Int:=findR (fun i=>(s.1.getD i default).Leaf==leaf) s.1.length
theorem findR_cases (F:Nat→Bool) (n:Nat):(findR F n = -1∧anyR F n=false)∨∃ k:Nat,k < n∧findR F n=(k:Int)∧F k=true:=by
 unfold findR
 cases h:firstR (fun i=>if F i=true then some (i:Int)else none) n with
 | none =>
  left
  refine⟨rfl,?_⟩
  rw[anyR_false]
  intro i hi
  have:=firstR_none.1 h i hi
  split at this
  ·cases this
  ·rename_i h2;simpa using h2
 | some y =>
  right
  obtain⟨i,hi,h2⟩:=firstR_some h
  split at h2
  ·rename_i h3
   injection h2 with h2;subst h2
   exact⟨i,hi,rfl,h3⟩
  ·cases h2
theorem findR_min {F:Nat→Bool} {k:Nat}:∀ {n:Nat},findR F n=(k:Int)→∀ j,j < k→F j=false
 | 0,h,j,hj=>by
  unfold findR firstR at h
  simp at h
 | n+1,h,j,hj=>by
  unfold findR at h
  rw[firstR_succ]at h
  cases hf:firstR (fun i=>if F i=true then some (i:Int)else none) n with
  | some y =>
   rw[hf]at h
   refine findR_min (n:=n) ?_ j hj
   unfold findR
   rw[hf];exact h
  | none =>
   rw[hf]at h
   simp only at h
   split at h
   ·simp only[Option.getD_some]at h
    have:=firstR_none.1 hf j (by omega)
    split at this
    ·cases this
    ·rename_i h2;simpa using h2
   ·simp at h
end Go.Av
set_option maxRecDepth 100000
namespace Go.Av
open Ch Go.Proofs
def reachB (s:SS) (leaf:Int):Bool:=anyR (fun i=>(s.1.getD i default).Leaf==leaf) s.1.length
theorem reachB_iff {s:SS} {leaf:Int}:reachB s leaf=true↔∃ g∈s.1,g.Leaf=leaf:=by
 unfold reachB
 rw[anyR_iff]
 constructor
 ·rintro⟨i,hi,h⟩;exact⟨_,getD_mem hi,by simpa using h⟩
 ·rintro⟨g,hg,h⟩
  obtain⟨i,hi,rfl⟩:=List.getElem_of_mem hg
  exact⟨i,hi,by simpa [List.getD_eq_getElem?_getD,List.getElem?_eq_getElem hi] using h⟩
theorem rreached_eq (s:SS) (leaf:Int) (hl:s.1.length≤1000000):m58 s.1 leaf=some (reachB s leaf):=by
 delta m58 d58
 simp only[↓JD.sg_m,↓JD.sq_m,↓JD.sc_m,↓JD.bk_m,↓JD.lp_m,↓JD.cd_m,↓JD.lu_m,↓JD.ct_m,↓JD.ce_m,↓JL.r_m,↓JL.z_m,↓JD.se_m,onE_r,↓Tr.run,↓Tr.run_nd,↓Tr.run_c3,↓Tr.run_c2,↓Tr.run_nx,↓onS,bind_ite,Option.bind_some,Option.bind_none,obR]
 rw[loop_ex s.1.length (fun i=>if((s.1.getD i default).Leaf==leaf)=true then some true else none) ?_ ?_,firstR_const,reachB]
 ·cases anyR (fun i=>(s.1.getD i default).Leaf==leaf) s.1.length<;>rfl
 ·intro i hi
  (simp only[exB_ite,exB_some,exB_none];simp only[inL hi,decide_true,Int.toNat_natCast,if_true,implies_true,wr1 hi (by omega)];try rfl)
 ·(simp only[lt_irr,decide_false,Bool.false_eq_true,if_false];try rfl)
def finV (c:T27) (leaf kind:Int) (v:Nat):Option T44 :=
 if allowedS c (v:Int)=true then
  if(kind==1&&((enabledS c leaf (v:Int)).length:Int)==0)=true then some ⟨kind,leaf,(v:Int),-1,-1⟩
  else if(kind==2&&decide (1 < ((enabledS c leaf (v:Int)).length:Int)))=true then some ⟨kind,leaf,(v:Int),(enabledS c leaf (v:Int)).getD 0 default,(enabledS c leaf (v:Int)).getD 1 default⟩else none
 else none
def leafFd (c:T27) (leaf kind:Int):Option T44:=firstR (finV c leaf kind) (numV c)
theorem rleafF_eq {c:T27} (H:Fit c) (hn:c.Conds.length≤12) (leaf kind:Int):m59 c leaf kind=some (match leafFd c leaf kind with | some x=>(x,true) | none=>(⟨0,0,0,0,0⟩,false)):=by
 have h1:=numV_pos c
 have h2:=numV_le hn
 have q1:=rtop_eq hn
 have q2:∀ v:Nat,v < numV c→m106 c (v:Int)=some (allowedS c (v:Int)):=fun v hv=>rAllowed_eq c H v (by omega) (by omega)
 have q3:=rEnabled_eq c H
 delta m59 d59
 simp only[↓JD.sg_m,↓JD.sq_m,↓JD.sc_m,↓JD.bk_m,↓JD.lp_m,↓JD.cd_m,↓JD.lu_m,↓JD.ct_m,↓JD.ce_m,↓JL.r_m,↓JL.z_m,↓JD.se_m,onE_r,↓Tr.run,↓Tr.run_nd,↓Tr.run_c3,↓Tr.run_c2,↓Tr.run_nx,↓onS,bind_ite,Option.bind_some,Option.bind_none,obR,q1,q3]
 generalize m106=F at q2 ⊢
 rw[loop_ex (numV c) (fun v=>(finV c leaf kind v).map fun x=>(x,true)) ?_ ?_]
 ·unfold leafFd
  have e:firstR (fun v=>(finV c leaf kind v).map fun x=>(x,true)) (numV c)=(firstR (finV c leaf kind) (numV c)).map fun x=>(x,true):=by
   generalize numV c=n
   induction n with
   | zero=>rfl
   | succ n ih =>
    rw[firstR_succ,firstR_succ,ih]
    cases firstR (finV c leaf kind) n<;>rfl
  rw[e]
  cases firstR (finV c leaf kind) (numV c)<;>rfl
 ·intro v hv
  have d1:decide ((v:Int)≤(numV c:Int) - 1)=true:=by simp;omega
  have w1:IntKind.wrap .u16 (v:Int)=(v:Int):=n16 (by omega)
  have w2:IntKind.wrap .i64 ((v:Int)+1)=(v:Int)+1:=w64 (by omega) (by omega)
  simp only[d1,if_true,w1,w2,q2 v hv,Option.bind_some]
  unfold finV
  cases ha:allowedS c (v:Int) with
  | false=>simp only[Bool.not_false,if_true,Bool.false_eq_true,if_false,Option.map_none,exB_none]
  | true =>
   simp only[Bool.not_true,Bool.false_eq_true,if_false,if_true]
   by_cases k1:(kind==1&&((enabledS c leaf (v:Int)).length:Int)==0)=true
   ·simp only[k1,if_true,Option.map_some,exB_some]
   ·have k1:=Bool.eq_false_iff.2 k1
    simp only[k1,Bool.false_eq_true,if_false]
    by_cases k2:(kind==2&&decide (1 < ((enabledS c leaf (v:Int)).length:Int)))=true
    ·have k2a:(kind==2)=true:=by simp only[Bool.and_eq_true]at k2;exact k2.1
     have hl:(1:Int) < ((enabledS c leaf (v:Int)).length:Int):=by
      simp only[Bool.and_eq_true,decide_eq_true_eq]at k2;exact k2.2
     have c1:((0:Int)≤(0:Int))=True:=eq_true (by omega)
     have c2:(0 < ((enabledS c leaf (v:Int)).length:Int))=True:=eq_true (by omega)
     have c3:((0:Int)≤(1:Int))=True:=eq_true (by omega)
     have c4:(1 < ((enabledS c leaf (v:Int)).length:Int))=True:=eq_true hl
     simp only[k2a,Bool.true_and,c1,c2,c3,c4,decide_true,if_true,Option.map_some,exB_some];rfl
    ·have k2:=Bool.eq_false_iff.2 k2
     simp only[k2,Bool.false_eq_true,if_false,Option.map_none,exB_none]
 ·have d1:decide ((numV c:Int)≤(numV c:Int) - 1)=false:=by simp;omega
  simp only[d1,Bool.false_eq_true,if_false]
def aliveV (c:T27) (leaf t:Int) (v:Nat):Bool:=allowedS c (v:Int)&&hasK (enabledS c leaf (v:Int)) (enabledS c leaf (v:Int)).length t
def aliveB (c:T27) (leaf t:Int):Bool:=anyR (aliveV c leaf t) (numV c)
theorem ralive_eq {c:T27} (H:Fit c) (hn:c.Conds.length≤12) (leaf t:Int):m60 c leaf t=some (aliveB c leaf t):=by
 have h1:=numV_pos c
 have h2:=numV_le hn
 have htr:=H.trans
 have q1:=rtop_eq hn
 have q2:∀ v:Nat,v < numV c→m106 c (v:Int)=some (allowedS c (v:Int)):=fun v hv=>rAllowed_eq c H v (by omega) (by omega)
 have q3:=rEnabled_eq c H
 delta m60 d60
 simp only[↓JD.sg_m,↓JD.sq_m,↓JD.sc_m,↓JD.bk_m,↓JD.lp_m,↓JD.cd_m,↓JD.lu_m,↓JD.ct_m,↓JD.ce_m,↓JL.r_m,↓JL.z_m,↓JD.se_m,onE_r,↓Tr.run,↓Tr.run_nd,↓Tr.run_c3,↓Tr.run_c2,↓Tr.run_nx,↓onS,bind_ite,Option.bind_some,Option.bind_none,obR,q1,q3]
 generalize m106=F at q2 ⊢
 rw[loop_ex (numV c) (fun v=>if aliveV c leaf t v=true then some true else none) ?_ ?_,firstR_const,aliveB]
 ·cases anyR (aliveV c leaf t) (numV c)<;>rfl
 ·intro v hv
  have d1:decide ((v:Int)≤(numV c:Int) - 1)=true:=by simp;omega
  have w1:IntKind.wrap .u16 (v:Int)=(v:Int):=n16 (by omega)
  have w2:IntKind.wrap .i64 ((v:Int)+1)=(v:Int)+1:=w64 (by omega) (by omega)
  have hel:=enabledS_len c leaf (v:Int)
  simp only[d1,if_true,w1,w2,q2 v hv,Option.bind_some,onS_l]
  unfold aliveV
  cases ha:allowedS c (v:Int) with
  | false=>simp only[Bool.not_false,if_true,Bool.false_and,Bool.false_eq_true,if_false,exB_none,onS_r,Option.bind_some];rfl
  | true =>
   simp only[Bool.not_true,Bool.false_eq_true,if_false,Bool.true_and,Option.bind_some,onS_l]
   rw[loop_ex (enabledS c leaf (v:Int)).length (fun i=>if((enabledS c leaf (v:Int)).getD i default==t)=true then some (.inr (.inr true))else none) ?_ ?_]
   ·rw[firstR_const]
    have:anyR (fun i=>(enabledS c leaf (v:Int)).getD i default==t) (enabledS c leaf (v:Int)).length=hasK (enabledS c leaf (v:Int)) (enabledS c leaf (v:Int)).length t:=by
     unfold hasK
     refine anyR_congr fun i hi=>?_
     rw[Bool.eq_iff_iff,beq_iff_eq,beq_iff_eq]
     exact eq_comm
    rw[this]
    cases hasK (enabledS c leaf (v:Int)) (enabledS c leaf (v:Int)).length t<;>rfl
   ·intro i hi
    simp only[exB_ite,exB_some,exB_none,inL hi,decide_true,Int.toNat_natCast,if_true,wr1 hi (by omega)]
   ·simp only[lt_irr,decide_false,Bool.false_eq_true,if_false]
 ·have d1:decide ((numV c:Int)≤(numV c:Int) - 1)=false:=by simp;omega
  simp only[d1,Bool.false_eq_true,if_false,Option.bind_some,onS_r]
end Go.Av
set_option maxRecDepth 100000
namespace Go.Av
open Ch Go.Proofs
def leafA (c:T27) (i:Nat):Int:=(leavesS c).getD i default
def kindG (c:T27) (s:SS) (kind:Int) (i:Nat):List T44:=if reachB s (leafA c i)=true then(leafFd c (leafA c i) kind).toList else[]
def unrG (c:T27) (s:SS) (i:Nat):List T44:=if reachB s (leafA c i)=true then[]else[⟨3,leafA c i,0,-1,-1⟩]
def liveB (c:T27) (s:SS) (t:Nat):Bool:=anyR (fun i=>reachB s (leafA c i)&&aliveB c (leafA c i) (t:Int)) (leavesS c).length
def deadG (c:T27) (s:SS) (t:Nat):List T44:=if liveB c s t=true then[]else[⟨4,-1,0,(t:Int),-1⟩]
def kindL (c:T27) (s:SS) (kind:Int):List T44:=(List.range (leavesS c).length).flatMap (kindG c s kind)
def findS (c:T27) (s:SS):List T44:=kindL c s 1++kindL c s 2++(List.range (leavesS c).length).flatMap (unrG c s)++(List.range c.Transitions.length).flatMap (deadG c s)
theorem kindG_len (c:T27) (s:SS) (kind:Int) (i:Nat):(kindG c s kind i).length≤1:=by
 unfold kindG;split
 ·cases leafFd c (leafA c i) kind<;>simp
 ·simp
theorem unrG_len (c:T27) (s:SS) (i:Nat):(unrG c s i).length≤1:=by unfold unrG;split<;>simp
theorem deadG_len (c:T27) (s:SS) (i:Nat):(deadG c s i).length≤1:=by unfold deadG;split<;>simp
theorem kindL_len (c:T27) (s:SS) (kind:Int):(kindL c s kind).length≤(leavesS c).length:=by
 have:=flatMap_len (kindG_len c s kind) (leavesS c).length
 unfold kindL;omega
theorem loop_app {A St X:Type} {b:St→Option (St⊕X)} (n:Nat) (mk:Nat→List A→St) (g:Nat→List A) (out:List A→X) (pre:List A)
  (hs:∀ i,i < n→b (mk i (pre++(List.range i).flatMap g))=some (.inl (mk (i+1) (pre++(List.range i).flatMap g++g i)))) (he:b (mk n (pre++(List.range n).flatMap g))=some (.inr (out (pre++(List.range n).flatMap g)))) :
  loopO b (mk 0 pre)=some (out (pre++(List.range n).flatMap g)):=by
 have key:∀ k i,i+k=n→loopO b (mk i (pre++(List.range i).flatMap g))=some (out (pre++(List.range n).flatMap g)):=by
  intro k
  induction k with
  | zero =>
   intro i hk
   obtain rfl:i=n:=by omega
   rw[loopO_eq,he];rfl
  | succ k ih =>
   intro i hk
   rw[loopO_eq,hs i (by omega),List.append_assoc,← flatMap_app]
   exact ih (i+1) (by omega)
 have:=key n 0 (by omega)
 simpa using this
def findM (c:T27):Option (List T44×Int):=(checkM c).bind fun e=>if(e != 0)=true then some ([],e)else match searchS c with | some s=>some (findS c s,0) | none=>some ([],3)
theorem leavesS_len {c:T27}:(leavesS c).length≤c.States.length:=by
 have:=flatMap_len (leafG_len c) c.States.length
 unfold leavesS;omega
theorem M22 (a0:T27):m22 a0=((Option.bind (Option.bind (Option.bind (m16 a0) fun r=>some r) fun x1=>(if(x1.2 != 0)=true then(some (.inr (([],x1.2))))else(some (.inl x1.1)))) (onS fun(y1:(List T37))=>(Option.bind (Option.bind (some (.inl ())) (onS fun(_:Unit)=>(loopO (fun(s2:(List T44)×Int)=>((Option.bind (if(decide (s2.2≤2))=true then(some (.inl ()))else(some (.inr (.inr (.inl s2.1))))) (onS fun(_:Unit)=>(Option.bind (Option.bind (Option.bind (Option.bind (m57 a0) fun r=>some r) fun x8=>(some (.inl (x8,(x8.length:Int))))) (onS fun(y3:(List Int)×Int)=>(loopO (fun(s4:(List T44)×Int)=>((if(decide (s4.2 < y3.2))=true then(if(0≤s4.2)then(if(s4.2 < (y3.1.length:Int))then(Option.bind (Option.bind (m58 y1 (y3.1.getD s4.2.toNat default)) fun r=>some r) fun x11=>(if x11=true then(Option.bind (Option.bind (m59 a0 (y3.1.getD s4.2.toNat default) s2.2) fun r=>some r) fun x12=>(if x12.2=true then(if((s4.1.length+1) * 40≤140737488355328)then(some (.inl ((s4.1++([x12.1]:List T44)),(IntKind.wrap .i64 (s4.2+1)))))else none)else(some (.inl (s4.1,(IntKind.wrap .i64 (s4.2+1)))))))else(some (.inl (s4.1,(IntKind.wrap .i64 (s4.2+1)))))))else none)else none)else(some (.inr (.inl s4.1)))):Option (((List T44)×Int)⊕(((List T44))⊕(((List T44)×Int)⊕(((List T44))⊕((List T44)×Int))))))) (s2.1,(0:Int))))) (onS fun(y5:(List T44))=>(some (.inl (y5,(IntKind.wrap .u8 (s2.2+1))))))))):Option (((List T44)×Int)⊕(((List T44))⊕((List T44)×Int))))) ([],(1:Int))))) (onS fun(y6:(List T44))=>(Option.bind (Option.bind (Option.bind (Option.bind (m57 a0) fun r=>some r) fun x16=>(some (.inl (x16,(x16.length:Int))))) (onS fun(y7:(List Int)×Int)=>(loopO (fun(s8:(List T44)×Int)=>((if(decide (s8.2 < y7.2))=true then(if(0≤s8.2)then(if(s8.2 < (y7.1.length:Int))then(Option.bind (Option.bind (m58 y1 (y7.1.getD s8.2.toNat default)) fun r=>some r) fun x19=>(if(!x19)=true then(if((s8.1.length+1) * 40≤140737488355328)then(some (.inl ((s8.1++([(⟨(3:Int),(y7.1.getD s8.2.toNat default),(0:Int),(-1:Int),(-1:Int)⟩:T44)]:List T44)),(IntKind.wrap .i64 (s8.2+1)))))else none)else(some (.inl (s8.1,(IntKind.wrap .i64 (s8.2+1)))))))else none)else none)else(some (.inr (.inl s8.1)))):Option (((List T44)×Int)⊕(((List T44))⊕((List T44)×Int))))) (y6,(0:Int))))) (onS fun(y9:(List T44))=>(Option.bind (Option.bind (some (.inl ())) (onS fun(_:Unit)=>(loopO (fun(s10:(List T44)×Int)=>((Option.bind (if(decide (s10.2 < (a0.Transitions.length:Int)))=true then(some (.inl ()))else(some (.inr (.inr (.inl s10.1))))) (onS fun(_:Unit)=>(Option.bind (Option.bind (some (.inl ())) (onS fun(_:Unit)=>(Option.bind (Option.bind (Option.bind (Option.bind (m57 a0) fun r=>some r) fun x26=>(some (.inl (x26,(x26.length:Int))))) (onS fun(y11:(List Int)×Int)=>(loopO (fun(s12:Bool×Int)=>((if(decide (s12.2 < y11.2))=true then(if(0≤s12.2)then(if(s12.2 < (y11.1.length:Int))then(Option.bind (((if(!s12.1)=true then m58 y1 (y11.1.getD s12.2.toNat default)else some default).bind fun r29_0=>((if((!s12.1)&&r29_0)=true then m60 a0 (y11.1.getD s12.2.toNat default) s10.2 else some default).bind fun r29_1=>some (r29_0,r29_1)))) fun(x29:(Bool×Bool))=>(some (.inl ((s12.1 || (x29.1&&x29.2)),(IntKind.wrap .i64 (s12.2+1))))))else none)else none)else(some (.inr (.inl s12.1)))):Option ((Bool×Int)⊕((Bool)⊕(((List T44))⊕(((List T44)×Int)⊕(((List T44))⊕((List T44)×Int)))))))) (false,(0:Int))))) (onS fun(y13:Bool)=>(if(!y13)=true then(if((s10.1.length+1) * 40≤140737488355328)then(some (.inl (s10.1++([(⟨(4:Int),(-1:Int),(0:Int),s10.2,(-1:Int)⟩:T44)]:List T44))))else none)else(some (.inl s10.1))))))) (onS fun(y14:(List T44))=>(some (.inl (y14,(IntKind.wrap .i64 (s10.2+1))))))))):Option (((List T44)×Int)⊕(((List T44))⊕((List T44)×Int))))) (y9,(0:Int))))) (onS fun(y15:(List T44))=>(some (y15,(0:Int))))))))))):Option ((List T44)×Int)):=by kernel_rfl
theorem rFindings_eq {c:T27} (H:Fit c) (hn:c.Conds.length≤12):m22 c=findM c:=by
 obtain⟨e,he⟩:=checkM_some c
 have hst:=H.states
 have htr:=H.trans
 have hll:=leavesS_len (c:=c)
 have q0:=rReachable_eq H hn
 have q1:=rLeaves_eq c H
 have q2:=fun(s:SS) (hs:s.1.length≤1000000) (leaf:Int)=>rreached_eq s leaf hs
 have q3:=rleafF_eq H hn
 have q4:=ralive_eq H hn
 unfold findM
 simp only[M22,bind_id,q0,q1,q3,q4]
 generalize m58=F at q2 ⊢
 unfold reachM
 by_cases h0:(e != 0)=true
 ·simp only[he,bs,h0,if_true,or_]
 ·have h0:=Bool.eq_false_iff.2 h0
  have e0:e=0:=by simpa using h0
  subst e0
  simp only[he,bs,h0,Bool.false_eq_true,if_false]
  cases hs:searchS c with
  | none=>rfl
  | some s =>
   have I:=searchS_inv H he hs
   have b1:=I.le
   have q2:=q2 s (by omega)
   have k1:=kindL_len c s 1
   have k2:=kindL_len c s 2
   simp only[bne_self,Bool.false_eq_true,if_false,bs,ol]
   have e12:(List.range 2).flatMap (fun k:Nat=>kindL c s ((k:Int)+1))=kindL c s 1++kindL c s 2:=by simp[List.range_succ]
   refine on_l (y:=kindL c s 1++kindL c s 2) ?_ ?_
   ·rw[← e12]
    refine loop_coll 2 (fun i l=>(l,(i:Int)+1)) (fun k:Nat=>kindL c s ((k:Int)+1)) Sum.inl (fun i hi=>?_) ?_
    ·have d1:decide ((i:Int)+1≤2)=true:=by simp;omega
     have hpl:((List.range i).flatMap fun k:Nat=>kindL c s ((k:Int)+1)).length≤i * (leavesS c).length:=flatMap_len (m:=(leavesS c).length) (fun k=>kindL_len c s _) i
     have hpl2:((List.range i).flatMap fun k:Nat=>kindL c s ((k:Int)+1)).length≤2000:=by
      have:i * (leavesS c).length≤2 * (leavesS c).length:=Nat.mul_le_mul_right _ (by omega)
      omega
     simp only[d1,if_true,bs,ol]
     generalize ((List.range i).flatMap fun k:Nat=>kindL c s ((k:Int)+1))=pre at hpl2 ⊢
     refine bind_eq (loop_app (leavesS c).length (fun j l=>(l,(j:Int))) (kindG c s ((i:Int)+1)) Sum.inl pre (fun j hj=>?_) ?_) ?_
     ·have hgl:=flatMap_len (kindG_len c s ((i:Int)+1)) j
      have c1:((pre++(List.range j).flatMap (kindG c s ((i:Int)+1))).length+1) * 40≤140737488355328:=by rw[List.length_append];omega
      have w2:IntKind.wrap .i64 ((j:Int)+1)=((j+1:Nat):Int):=by rw[w64 (by omega) (by omega)];omega
      simp only[inL hj,decide_true,if_true,Int.toNat_natCast,q2,bs,w2]
      unfold kindG leafA
      cases reachB s ((leavesS c).getD j default) with
      | false=>simp only[Bool.false_eq_true,if_false,List.append_nil]
      | true =>
       simp only[if_true]
       cases leafFd c ((leavesS c).getD j default) ((i:Int)+1) with
       | none=>simp only[Bool.false_eq_true,if_false,Option.toList_none,List.append_nil]
       | some x =>
        have c1':=c1
        unfold kindG leafA at c1'
        simp only[if_true,Option.toList_some,eq_true c1']
     ·simp only[lt_irr,decide_false,Bool.false_eq_true,if_false]
     ·have w3:IntKind.wrap .u8 ((i:Int)+1+1)=((i+1:Nat):Int)+1:=by rw[IntWalk.u8_in _ (by omega)];omega
      simp only[bs,ol,w3];rfl
    ·rfl
   ·refine on_l (y:=kindL c s 1++kindL c s 2++(List.range (leavesS c).length).flatMap (unrG c s)) ?_ ?_
    ·refine loop_app (leavesS c).length (fun j l=>(l,(j:Int))) (unrG c s) Sum.inl (kindL c s 1++kindL c s 2) (fun j hj=>?_) ?_
     ·have hgl:=flatMap_len (unrG_len c s) j
      have c1:(((kindL c s 1++kindL c s 2)++(List.range j).flatMap (unrG c s)).length+1) * 40≤140737488355328:=by rw[List.length_append,List.length_append];omega
      have w2:IntKind.wrap .i64 ((j:Int)+1)=((j+1:Nat):Int):=by rw[w64 (by omega) (by omega)];omega
      simp only[inL hj,decide_true,if_true,Int.toNat_natCast,q2,bs,w2,eq_true c1]
      unfold unrG leafA
      cases reachB s ((leavesS c).getD j default) with
      | false=>simp only[Bool.not_false,Bool.false_eq_true,if_true,if_false]
      | true=>simp only[Bool.not_true,Bool.false_eq_true,if_true,if_false,List.append_nil]
     ·simp only[lt_irr,decide_false,Bool.false_eq_true,if_false]
    ·have hul:=flatMap_len (unrG_len c s) (leavesS c).length
     refine on_l (y:=findS c s) ?_ rfl
     unfold findS
     refine loop_app c.Transitions.length (fun j l=>(l,(j:Int))) (deadG c s) Sum.inl _ (fun t ht=>?_) ?_
     ·have hgl:=flatMap_len (deadG_len c s) t
      have c1:(((kindL c s 1++kindL c s 2++(List.range (leavesS c).length).flatMap (unrG c s))++(List.range t).flatMap (deadG c s)).length+1) * 40≤140737488355328:=by simp only[List.length_append];omega
      have w2:IntKind.wrap .i64 ((t:Int)+1)=((t+1:Nat):Int):=by rw[w64 (by omega) (by omega)];omega
      have ht':(t:Int) < (c.Transitions.length:Int):=by omega
      simp only[ht',decide_true,if_true,bs,ol,w2]
      refine bind_eq (m':=some (.inl (kindL c s 1++kindL c s 2++(List.range (leavesS c).length).flatMap (unrG c s)++(List.range t).flatMap (deadG c s)++deadG c s t))) ?_ (by simp only[bs,ol])
      refine any_loop (leavesS c).length (fun i=>reachB s (leafA c i)&&aliveB c (leafA c i) (t:Int)) (fun f i hi=>?_) (fun f=>?_) ?_
      ·have w2:IntKind.wrap .i64 ((i:Int)+1)=((i+1:Nat):Int):=by rw[w64 (by omega) (by omega)];omega
       simp only[inL hi,decide_true,if_true,Int.toNat_natCast,q2,bs,w2]
       unfold leafA
       cases f with
       | true=>simp only[Bool.not_true,Bool.false_and,Bool.false_eq_true,if_false,bs,Bool.true_or]
       | false =>
        simp only[Bool.not_false,Bool.true_and,if_true,bs,Bool.false_or]
        cases reachB s ((leavesS c).getD i default) with
        | false=>simp only[Bool.false_eq_true,if_false,bs,Bool.false_and]
        | true=>simp only[if_true,bs,Bool.true_and]
      ·simp only[lt_irr,decide_false,Bool.false_eq_true,if_false]
      ·have hlv:anyR (fun i=>reachB s (leafA c i)&&aliveB c (leafA c i) (t:Int)) (leavesS c).length=liveB c s t:=rfl
       rw[hlv]
       cases hl2:liveB c s t with
       | true =>
        have hd:deadG c s t=[]:=by unfold deadG;rw[hl2];rfl
        simp only[Bool.not_true,Bool.false_eq_true,if_true,if_false,hd,List.append_nil]
       | false =>
        have hd:deadG c s t=[⟨4,-1,0,(t:Int),-1⟩]:=by unfold deadG;rw[hl2];rfl
        simp only[Bool.not_false,Bool.false_eq_true,if_true,if_false,eq_true c1,hd]
     ·simp only[lt_irr,decide_false,Bool.false_eq_true,if_false,bs,or_]
end Go.Av
set_option maxRecDepth 100000
namespace Go.Av
open Ch Go.Proofs
theorem arr_get {zs:List Int} {j:Nat} (h:j < zs.length):(zs.toArray)[j]! = zs[j]:=by
 rw[getElem!_pos _ _ (by simpa using h)];simp
theorem cmpI_mem {zs:List Int} {x:Int}:x∈cmpI zs↔x∈zs:=by
 unfold cmpI Lib.compact Lib.compactUpTo
 rw[List.mem_map]
 constructor
 ·rintro⟨j,hj,rfl⟩
  have:=List.mem_range.1 (List.mem_filter.1 hj).1
  rw[arr_get this];exact List.getElem_mem _
 ·intro hx
  obtain⟨j,hj,e⟩:=List.getElem_of_mem hx
  -- the first place where it stands
  have key:∀ n j,j≤n→(h:j < zs.length)→∃ k,k < zs.length∧Lib.keeps zs.toArray k=true∧(zs.toArray)[k]! = zs[j]:=by
   intro n
   induction n with
   | zero =>
    intro j h1 h2
    obtain rfl:j=0:=by omega
    exact⟨0,h2,by simp[Lib.keeps],arr_get h2⟩
   | succ n ih =>
    intro j h1 h2
    cases hk:Lib.keeps zs.toArray j with
    | true=>exact⟨j,h2,hk,arr_get h2⟩
    | false =>
     have h3:¬ (j=0):=by rintro rfl;simp[Lib.keeps]at hk
     have h4:(zs.toArray)[j]! = (zs.toArray)[j - 1]! := by
      simp only[Lib.keeps,decide_eq_false_iff_not,not_or,Decidable.not_not]at hk;exact hk.2
     rw[arr_get h2,arr_get (show j - 1 < zs.length by omega)]at h4
     obtain⟨k,k1,k2,k3⟩:=ih (j - 1) (by omega) (by omega)
     exact⟨k,k1,k2,by rw[k3,← h4]⟩
  obtain⟨k,k1,k2,k3⟩:=key j j (Nat.le_refl _) hj
  exact⟨k,List.mem_filter.2 ⟨List.mem_range.2 k1,k2⟩,by rw[k3,e]⟩
theorem cmpI_lt {zs:List Int} (hs:zs.Pairwise (·≤·)):(cmpI zs).Pairwise (· < ·):=by
 unfold cmpI Lib.compact Lib.compactUpTo
 rw[List.pairwise_map]
 have h1:(List.range zs.length).Pairwise (· < ·):=List.pairwise_lt_range
 have h2:=h1.filter (Lib.keeps zs.toArray)
 refine h2.imp_of_mem (fun {a b} ha hb hab=>?_)
 have ha':=List.mem_range.1 (List.mem_filter.1 ha).1
 have hb':=List.mem_range.1 (List.mem_filter.1 hb).1
 have hk:=(List.mem_filter.1 hb).2
 rw[arr_get ha',arr_get hb']
 have h0:b≠0:=by omega
 have h4:(zs.toArray)[b]! ≠ (zs.toArray)[b - 1]! := by
  simp only[Lib.keeps,decide_eq_true_eq]at hk;exact hk.resolve_left h0
 rw[arr_get hb',arr_get (show b - 1 < zs.length by omega)]at h4
 have le:∀ i j,(hi:i < zs.length)→(hj:j < zs.length)→i≤j→zs[i]≤zs[j]:=fun i j hi hj hij=>by
  rcases Nat.eq_or_lt_of_le hij with rfl | h
  ·exact Int.le_refl _
  ·exact List.pairwise_iff_getElem.1 hs i j hi hj h
 have l1:=le a (b - 1) ha' (by omega) (by omega)
 have l2:=le (b - 1) b (by omega) hb' (by omega)
 omega
def lvs (s:SS):List Int:=(List.range s.1.length).flatMap fun i=>[(s.1.getD i default).Leaf]
def rL (c:T27) (s:SS):List Int:=(leavesS c).filter (reachB s)
theorem lvs_mem {s:SS} {x:Int}:x∈lvs s↔reachB s x=true:=by
 unfold lvs reachB
 rw[List.mem_flatMap,anyR_iff]
 constructor
 ·rintro⟨i,h1,h2⟩
  simp only[List.mem_singleton]at h2
  exact⟨i,List.mem_range.1 h1,by rw[h2];simp⟩
 ·rintro⟨i,h1,h2⟩
  exact⟨i,List.mem_range.2 h1,List.mem_singleton.2 (eq_of_beq h2).symm⟩
theorem leavesS_lt (c:T27):(leavesS c).Pairwise (· < ·):=by
 unfold leavesS
 generalize c.States.length=n
 induction n with
 | zero=>simp
 | succ n ih =>
  rw[flatMap_app,List.pairwise_append]
  refine⟨ih,?_,fun a ha b hb=>?_⟩
  ·unfold leafG;split<;>simp
  ·obtain⟨i,h1,h2⟩:=List.mem_flatMap.1 ha
   have:=List.mem_range.1 h1
   unfold leafG at h2 hb
   split at h2
   ·cases h2
   ·split at hb
    ·cases hb
    ·simp only[List.mem_singleton]at h2 hb
     omega
theorem lt_unique {l k:List Int} (h1:l.Pairwise (· < ·)) (h2:k.Pairwise (· < ·)) (h:∀ x,x∈l↔x∈k):l=k:=by
 have n1:l.Nodup:=h1.imp fun h=>by omega
 have n2:k.Nodup:=h2.imp fun h=>by omega
 exact List.Perm.eq_of_pairwise (le:=fun x y:Int=>x≤y) (fun a b _ _ h1 h2=>by omega) (h1.imp fun h=>by omega) (h2.imp fun h=>by omega) ((List.perm_ext_iff_of_nodup n1 n2).2 h)
theorem sorted_leaves {c:T27} {s:SS} (I:Inv c s):cmpI (sortI (lvs s))=rL c s:=by
 refine lt_unique (cmpI_lt (sortI_sorted _)) ((leavesS_lt c).filter _) fun x=>?_
 rw[cmpI_mem,(sortI_perm _).mem_iff,lvs_mem]
 unfold rL
 rw[List.mem_filter]
 constructor
 ·intro h
  refine⟨?_,h⟩
  obtain⟨g,hg,rfl⟩:=reachB_iff.1 h
  have:=validS_iff.1 (I.ok g hg)
  exact leavesS_iff.2 ⟨this.1,this.2.1⟩
 ·exact fun h=>h.2
theorem M100o1 (a0:T27) (a1:List T37) (a2 a3 a4:List Int):m100o1 a0 a1 a2 a3 a4=((Option.bind (some (.inl ())) (onS fun(_:Unit)=>(Option.bind (Option.bind (some (.inl ())) (onS fun(_:Unit)=>(loopO (fun(s1:(List Int)×Int)=>((if(decide (s1.2 < (a1.length:Int)))=true then(if(0≤s1.2)then(if(s1.2 < (a1.length:Int))then(Option.bind ((if(s1.1.length+1) * 8≤140737488355328 then some ()else none)) fun(x5:(Unit))=>(some (.inl ((s1.1++([(a1.getD s1.2.toNat default).Leaf]:List Int)),(IntKind.wrap .i64 (s1.2+1))))))else none)else none)else(some (.inr (.inl s1.1)))):Option (((List Int)×Int)⊕(((List Int))⊕((List Int)))))) (([]:List Int),(0:Int))))) (onS fun(y2:(List Int))=>(Option.bind (Option.bind (msrt y2) fun r=>some r) fun x7=>(Option.bind (Option.bind (mcmp (sortI y2)) fun r=>some r) fun x8=>(some (cmpI (sortI y2))))))))):Option ((List Int))):=by kernel_rfl
theorem sleaves_eq {c:T27} {s:SS} (I:Inv c s) (w:List Int):m100o1 c s.1 s.2.1 s.2.2 w=some (rL c s):=by
 have b1:=I.le
 simp only[M100o1,bind_id,bs,ol]
 refine on_l (loop_coll s.1.length (fun i l=>(l,(i:Int))) (fun i=>[(s.1.getD i default).Leaf]) Sum.inl (fun i hi=>?_) ?_) ?_
 ·have hgl:=flatMap_len (g:=fun i=>[(s.1.getD i default).Leaf]) (m:=1) (fun i=>by simp) i
  have c1:(((List.range i).flatMap fun i=>[(s.1.getD i default).Leaf]).length+1) * 8≤140737488355328:=by omega
  have w2:IntKind.wrap .i64 ((i:Int)+1)=((i+1:Nat):Int):=by rw[w64 (by omega) (by omega)];omega
  simp only[inL hi,decide_true,if_true,Int.toNat_natCast,eq_true c1,bs,w2]
 ·simp only[lt_irr,decide_false,Bool.false_eq_true,if_false]
 ·have hlen:(lvs s).length≤400:=by
   have:=flatMap_len (g:=fun i=>[(s.1.getD i default).Leaf]) (m:=1) (fun i=>by simp) s.1.length
   unfold lvs;omega
  have m1:msrt (lvs s)=some ():=by unfold msrt;rw[if_pos (by omega)]
  have m2:mcmp (sortI (lvs s))=some ():=by unfold mcmp;rw[if_pos (by rw[sortI_len];omega)]
  show (msrt (lvs s)).bind (fun _=>(mcmp (sortI (lvs s))).bind fun _=>some (cmpI (sortI (lvs s))))=_
  rw[m1,Option.bind_some,m2,Option.bind_some,sorted_leaves I]
end Go.Av
set_option maxRecDepth 100000
namespace Go.Av
open Ch Go.Proofs
theorem range_flat {α β:Type} [Inhabited α] (f:α→List β):∀ (l:List α),(List.range l.length).flatMap (fun j=>f (l.getD j default))=l.flatMap f
 | []=>rfl
 | x :: l=>by
  rw[List.length_cons,List.range_succ_eq_map,List.flatMap_cons,List.flatMap_map,List.flatMap_cons]
  congr 1
  exact range_flat f l
theorem filter_flat {α β:Type} (p:α→Bool) (f:α→List β):∀ (l:List α),(l.filter p).flatMap f=l.flatMap fun x=>if p x=true then f x else[]
 | []=>rfl
 | x :: l=>by
  rw[List.flatMap_cons,← filter_flat p f l]
  cases h:p x with
  | true=>rw[List.filter_cons_of_pos (by exact h),List.flatMap_cons,if_pos rfl]
  | false=>rw[List.filter_cons_of_neg (by rw[h];decide),if_neg (by decide),List.nil_append]
theorem firstR_list {α Y:Type} [Inhabited α] (f:α→Option Y) (l:List α):firstR (fun j=>f (l.getD j default)) l.length=l.findSome? f:=by
 unfold firstR
 induction l with
 | nil=>rfl
 | cons x l ih =>
  rw[List.length_cons,List.range_succ_eq_map,List.findSome?_cons,List.findSome?_cons,List.findSome?_map]
  show (match f x with | some b=>some b | none=>_)=_
  cases f x with
  | some b=>rfl
  | none=>exact ih
theorem anyR_list {α:Type} [Inhabited α] (p:α→Bool) (l:List α):anyR (fun j=>p (l.getD j default)) l.length=l.any p:=by
 rw[Bool.eq_iff_iff,anyR_iff,List.any_eq_true]
 constructor
 ·rintro⟨i,hi,h⟩;exact⟨_,getD_mem hi,h⟩
 ·rintro⟨x,hx,h⟩
  obtain⟨i,hi,rfl⟩:=List.getElem_of_mem hx
  exact⟨i,hi,by simpa [List.getD_eq_getElem?_getD,List.getElem?_eq_getElem hi] using h⟩
theorem findSome_flat {α β Y:Type} (f:β→Option Y) (g:α→List β):∀ l:List α,(l.flatMap g).findSome? f=l.findSome? fun x=>(g x).findSome? f
 | []=>rfl
 | x :: l=>by
  rw[List.flatMap_cons,List.findSome?_append,List.findSome?_cons,findSome_flat f g l]
  cases (g x).findSome? f<;>rfl
theorem firstR_orK {Y:Type} {f:Nat→Option Y} {n:Nat}:firstR f (n+1)=orK (firstR f n) (f n):=by
 rw[firstR_succ]
 cases firstR f n<;>rfl
def mkL (n:Nat) (B:Nat→Bool):List Bool:=(List.range n).map B
theorem mkL_len (n:Nat) (B:Nat→Bool):(mkL n B).length=n:=by simp[mkL]
theorem mkL_at {n:Nat} {B:Nat→Bool} {i:Nat} (h:i < n):(mkL n B).getD i default=B i:=by simp[mkL,List.getD_eq_getElem?_getD,h]
theorem mkL_congr {n:Nat} {B C:Nat→Bool} (h:∀ i,i < n→B i=C i):mkL n B=mkL n C:=by
 unfold mkL
 exact List.map_congr_left fun i hi=>h i (List.mem_range.1 hi)
theorem mkL_sub {n:Nat} {B:Nat→Bool}:subL (mkL n B) 0 n=mkL n B:=by
 rw[list_eq_iff (by rw[subL_len,mkL_len])]
 intro i hi
 rw[subL_len]at hi
 exact subL_getD hi
theorem mkL_set {n:Nat} {B:Nat→Bool} {t:Nat} (h:t < n):(mkL n B).set t true=mkL n fun u=>B u || t==u:=by
 apply List.ext_getElem?
 intro u
 simp only[mkL,List.getElem?_set,List.getElem?_map,List.length_map,List.length_range]
 by_cases e:t=u
 ·subst e;simp[h]
 ·rw[if_neg e]
  have:(t==u)=false:=by simpa using e
  by_cases hu:u < n
  ·simp[hu,this]
  ·simp[hu]
def f1 (c:T27) (leaf v:Int):Option T44:=if(((enabledS c leaf v).length:Int)==0)=true then some ⟨1,leaf,v,-1,-1⟩else none
def f2 (c:T27) (leaf v:Int):Option T44:=if decide (1 < ((enabledS c leaf v).length:Int))=true then some ⟨2,leaf,v,(enabledS c leaf v).getD 0 default,(enabledS c leaf v).getD 1 default⟩else none
def pA (c:T27) (leaf:Int) (u:Nat) (v:Int):Bool:=hasK (enabledS c leaf v) (enabledS c leaf v).length (u:Int)
theorem alG_find {c:T27} {Y:Type} (f:Int→Option Y) (v:Nat):(alG c v).findSome? f=if allowedS c (v:Int)=true then f (v:Int)else none:=by
 unfold alG
 split
 ·simp[List.findSome?_cons]
  cases f (v:Int)<;>rfl
 ·rfl
theorem f1_all {c:T27} {leaf:Int}:firstR (fun j=>f1 c leaf ((valsA c).getD j default)) (valsA c).length=leafFd c leaf 1:=by
 rw[firstR_list (f1 c leaf) (valsA c)]
 unfold valsA leafFd firstR
 rw[findSome_flat]
 congr 1
 funext v
 rw[alG_find]
 unfold finV f1
 simp only[show ((1:Int)==1)=true from rfl,show ((1:Int)==2)=false from rfl,Bool.true_and,Bool.false_and,Bool.false_eq_true,if_false]
theorem f2_all {c:T27} {leaf:Int}:firstR (fun j=>f2 c leaf ((valsA c).getD j default)) (valsA c).length=leafFd c leaf 2:=by
 rw[firstR_list (f2 c leaf) (valsA c)]
 unfold valsA leafFd firstR
 rw[findSome_flat]
 congr 1
 funext v
 rw[alG_find]
 unfold finV f2
 simp only[show ((2:Int)==2)=true from rfl,show ((2:Int)==1)=false from rfl,Bool.true_and,Bool.false_and,Bool.false_eq_true,if_false]
theorem pA_all {c:T27} {leaf:Int} {u:Nat}:anyR (fun j=>pA c leaf u ((valsA c).getD j default)) (valsA c).length=aliveB c leaf (u:Int):=by
 rw[anyR_list (pA c leaf u) (valsA c),Bool.eq_iff_iff,List.any_eq_true]
 unfold aliveB
 rw[anyR_iff]
 constructor
 ·rintro⟨x,hx,h⟩
  obtain⟨n,hn,rfl,ha⟩:=valsA_mem.1 hx
  exact⟨n,hn,by unfold aliveV;rw[ha];exact h⟩
 ·rintro⟨n,hn,h⟩
  unfold aliveV at h
  simp only[Bool.and_eq_true]at h
  exact⟨(n:Int),valsA_mem.2 ⟨n,hn,rfl,h.1⟩,h.2⟩
theorem enab_lt {c:T27} {leaf v:Int} {x:Int} (h:x∈enabledS c leaf v):∃ t:Nat,x=t∧t < c.Transitions.length:=by
 unfold enabledS at h
 obtain⟨i,hi,hx⟩:=List.mem_flatMap.1 h
 unfold enabG at hx
 split at hx
 ·simp only[List.mem_singleton]at hx
  exact⟨i,hx,List.mem_range.1 hi⟩
 ·cases hx
theorem toList_len {α:Type} (o:Option α):o.toList.length≤1:=by cases o<;>simp
theorem kind_rL {c:T27} {s:SS} {kind:Int}:(List.range (rL c s).length).flatMap (fun j=>(leafFd c ((rL c s).getD j default) kind).toList)=kindL c s kind:=by
 rw[range_flat (fun x=>(leafFd c x kind).toList) (rL c s)]
 unfold rL
 rw[filter_flat,← range_flat (fun x=>if reachB s x=true then(leafFd c x kind).toList else[]) (leavesS c)]
 rfl
theorem live_rL {c:T27} {s:SS} {t:Nat}:anyR (fun j=>aliveB c ((rL c s).getD j default) (t:Int)) (rL c s).length=liveB c s t:=by
 rw[anyR_list (fun x=>aliveB c x (t:Int)) (rL c s)]
 unfold liveB leafA
 rw[anyR_list (fun x=>reachB s x&&aliveB c x (t:Int)) (leavesS c),Bool.eq_iff_iff,List.any_eq_true,List.any_eq_true]
 unfold rL
 constructor
 ·rintro⟨x,hx,h⟩
  obtain⟨h1,h2⟩:=List.mem_filter.1 hx
  exact⟨x,h1,by rw[h2,h];rfl⟩
 ·rintro⟨x,hx,h⟩
  simp only[Bool.and_eq_true]at h
  exact⟨x,List.mem_filter.2 ⟨hx,h.1⟩,h.2⟩
theorem rL_has {c:T27} {s:SS} {x:Int} (hx:x∈leavesS c):hasK (rL c s) (rL c s).length x=reachB s x:=by
 rw[Bool.eq_iff_iff,hasK_iff]
 unfold rL
 rw[List.mem_filter]
 exact⟨fun h=>h.2,fun h=>⟨hx,h⟩⟩
theorem alive_loop {X:Type} {T:Nat} {l:List Int} (hm:∀ x∈l,∃ t:Nat,x=t∧t < T) {b:List Bool×Int→Option ((List Bool×Int)⊕X)} (out:List Bool→X)
  (hb:∀ (B:Nat→Bool) (j t:Nat),j < l.length→l.getD j default=(t:Int)→t < T→b (mkL T B,(j:Int))=some (.inl ((mkL T B).set t true,((j+1:Nat):Int)))) (he:∀ B,b (mkL T B,(l.length:Int))=some (.inr (out (mkL T B)))) (B:Nat→Bool) :
  loopO b (mkL T B,0)=some (out (mkL T fun t=>B t || hasK l l.length (t:Int))):=by
 have e0:(mkL T B,(0:Int))=(fun j:Nat=>(mkL T (fun t=>B t || anyR (fun i=>l.getD i default==(t:Int)) j),(j:Int))) 0:=by
  have:mkL T B=mkL T (fun t=>B t || anyR (fun i=>l.getD i default==(t:Int)) 0):=mkL_congr fun t _=>by simp[anyR]
  rw[this];rfl
 have e9:mkL T (fun t=>B t || hasK l l.length (t:Int))=mkL T (fun t=>B t || anyR (fun i=>l.getD i default==(t:Int)) l.length):=by
  refine mkL_congr fun t _=>?_
  unfold hasK
  congr 1
  refine anyR_congr fun i hi=>?_
  rw[Bool.eq_iff_iff,beq_iff_eq,beq_iff_eq];exact eq_comm
 rw[e0,e9]
 refine loop_st l.length (fun j:Nat=>(mkL T (fun t=>B t || anyR (fun i=>l.getD i default==(t:Int)) j),(j:Int))) _ (fun j hj=>?_) (he _)
 obtain⟨t,ht,htl⟩:=hm _ (getD_mem hj)
 have r4:mkL T (fun u=>B u || anyR (fun i=>l.getD i default==(u:Int)) (j+1))=mkL T (fun u=>(B u || anyR (fun i=>l.getD i default==(u:Int)) j) || t==u):=by
  refine mkL_congr fun u _=>?_
  unfold anyR
  rw[List.range_succ,List.any_append,← Bool.or_assoc]
  congr 1
  simp only[List.any_cons,List.any_nil,Bool.or_false,ht]
  rw[Bool.eq_iff_iff,beq_iff_eq,beq_iff_eq];omega
 show b _=some (.inl (mkL T (fun u=>B u || anyR (fun i=>l.getD i default==(u:Int)) (j+1)),((j+1:Nat):Int)))
 rw[r4,← mkL_set htl]
 exact hb _ j t hj ht htl
theorem M47o1 (a0:T27) (a1:List T37) (a2 a3 a4:List Int):m47o1 a0 a1 a2 a3 a4=((Option.bind (Option.bind (Option.bind (m100o1 a0 a1 a2 a3 a4) fun r=>some r) fun x1=>(if(0≤(a0.Transitions.length:Int))then(if((a0.Transitions.length:Int)=(a0.Transitions.length:Int))then(if((a0.Transitions.length:Int) * 1≤140737488355328)then(if((a0.Transitions.length:Int)≤9223372036854775807)then(some (.inl x1))else none)else none)else none)else none)) (onS fun(y1:(List Int))=>(Option.bind (Option.bind (some (.inl ())) (onS fun(_:Unit)=>(loopO (fun(s2:(List T44)×(List T44)×(List Bool)×Int)=>((Option.bind (if(decide (s2.2.2.2 < (y1.length:Int)))=true then(some (.inl ()))else(some (.inr (.inr (.inl (s2.1,s2.2.1,s2.2.2.1)))))) (onS fun(_:Unit)=>(Option.bind (Option.bind (if(0≤s2.2.2.2)then(if(s2.2.2.2 < (y1.length:Int))then(if(s2.2.2.2.toNat < y1.length)then(some (.inl ()))else none)else none)else none) (onS fun(_:Unit)=>(loopO (fun(s3:(List T44)×(List T44)×(List Bool)×Bool×Bool×Int)=>((Option.bind (if(decide (s3.2.2.2.2.2 < (a4.length:Int)))=true then(some (.inl ()))else(some (.inr (.inr (.inl (s3.1,s3.2.1,s3.2.2.1)))))) (onS fun(_:Unit)=>(Option.bind (Option.bind (if(0≤s3.2.2.2.2.2)then(if(s3.2.2.2.2.2 < (a4.length:Int))then(Option.bind (Option.bind (m19 a0 (y1.getD s2.2.2.2.toNat default) (a4.getD s3.2.2.2.2.2.toNat default)) fun r=>some r) fun x11=>(some (.inl x11)))else none)else none) (onS fun(y4:(List Int))=>(Option.bind (Option.bind (some (.inl ())) (onS fun(_:Unit)=>(loopO (fun(s5:(List Bool)×Int)=>((if(decide (s5.2 < (y4.length:Int)))=true then(if(0≤s5.2)then(if(s5.2 < (y4.length:Int))then(if(0≤(y4.getD s5.2.toNat default))then(if((y4.getD s5.2.toNat default) < ((a0.Transitions.length:Int).toNat:Int))then(if((y4.getD s5.2.toNat default).toNat < (a0.Transitions.length:Int).toNat)then(some (.inl (((subL s5.1 0 (a0.Transitions.length:Int).toNat).set (y4.getD s5.2.toNat default).toNat true),(IntKind.wrap .i64 (s5.2+1)))))else none)else none)else none)else none)else none)else(some (.inr (.inl s5.1)))):Option (((List Bool)×Int)⊕(((List Bool))⊕(((List T44)×(List T44)×(List Bool)×Bool×Bool)⊕(((List T44)×(List T44)×(List Bool)×Bool×Bool×Int)⊕(((List T44)×(List T44)×(List Bool))⊕(((List T44)×(List T44)×(List Bool)×Int)⊕(((List T44)×(List T44)×(List Bool))⊕((List T44))))))))))) (s3.2.2.1,(0:Int))))) (onS fun(y6:(List Bool))=>(if(((y4.length:Int)==(0:Int))&&(!s3.2.2.2.1))=true then(if((s3.1.length+1) * 40≤140737488355328)then(if((decide (1 < (y4.length:Int)))&&(!s3.2.2.2.2.1))=true then(if((0:Int)≤(0:Int))then(if(0 < (y4.length:Int))then(if((0:Int)≤(1:Int))then(if(1 < (y4.length:Int))then(if((s3.2.1.length+1) * 40≤140737488355328)then(some (.inl ((s3.1++([(⟨(1:Int),(y1.getD s2.2.2.2.toNat default),(a4.getD s3.2.2.2.2.2.toNat default),(-1:Int),(-1:Int)⟩:T44)]:List T44)),(s3.2.1++([(⟨(2:Int),(y1.getD s2.2.2.2.toNat default),(a4.getD s3.2.2.2.2.2.toNat default),(y4.getD (0:Int).toNat default),(y4.getD (1:Int).toNat default)⟩:T44)]:List T44)),y6,true,true)))else none)else none)else none)else none)else none)else(some (.inl ((s3.1++([(⟨(1:Int),(y1.getD s2.2.2.2.toNat default),(a4.getD s3.2.2.2.2.2.toNat default),(-1:Int),(-1:Int)⟩:T44)]:List T44)),s3.2.1,y6,true,s3.2.2.2.2.1))))else none)else(if((decide (1 < (y4.length:Int)))&&(!s3.2.2.2.2.1))=true then(if((0:Int)≤(0:Int))then(if(0 < (y4.length:Int))then(if((0:Int)≤(1:Int))then(if(1 < (y4.length:Int))then(if((s3.2.1.length+1) * 40≤140737488355328)then(some (.inl (s3.1,(s3.2.1++([(⟨(2:Int),(y1.getD s2.2.2.2.toNat default),(a4.getD s3.2.2.2.2.2.toNat default),(y4.getD (0:Int).toNat default),(y4.getD (1:Int).toNat default)⟩:T44)]:List T44)),y6,s3.2.2.2.1,true)))else none)else none)else none)else none)else none)else(some (.inl (s3.1,s3.2.1,y6,s3.2.2.2.1,s3.2.2.2.2.1))))))))) (onS fun(y7:(List T44)×(List T44)×(List Bool)×Bool×Bool)=>(some (.inl (y7.1,y7.2.1,y7.2.2.1,y7.2.2.2.1,y7.2.2.2.2,(IntKind.wrap .i64 (s3.2.2.2.2.2+1))))))))):Option (((List T44)×(List T44)×(List Bool)×Bool×Bool×Int)⊕(((List T44)×(List T44)×(List Bool))⊕(((List T44)×(List T44)×(List Bool)×Int)⊕(((List T44)×(List T44)×(List Bool))⊕((List T44)))))))) (s2.1,s2.2.1,s2.2.2.1,false,false,(0:Int))))) (onS fun(y8:(List T44)×(List T44)×(List Bool))=>(some (.inl (y8.1,y8.2.1,y8.2.2,(IntKind.wrap .i64 (s2.2.2.2+1))))))))):Option (((List T44)×(List T44)×(List Bool)×Int)⊕(((List T44)×(List T44)×(List Bool))⊕((List T44)))))) ([],[],(List.replicate (a0.Transitions.length:Int).toNat false),(0:Int))))) (onS fun(y9:(List T44)×(List T44)×(List Bool))=>(Option.bind (if((y9.1.length+y9.2.1.length) * 40≤140737488355328)then(some (.inl ()))else none) (onS fun(_:Unit)=>(Option.bind (Option.bind (Option.bind (Option.bind (m53 a0) fun r=>some r) fun x26=>(some (.inl (x26,(x26.length:Int))))) (onS fun(y10:(List Int)×Int)=>(loopO (fun(s11:(List T44)×Int)=>((if(decide (s11.2 < y10.2))=true then(if(0≤s11.2)then(if(s11.2 < (y10.1.length:Int))then(Option.bind (Option.bind (m49 y1 (y10.1.getD s11.2.toNat default)) fun r=>some r) fun x29=>(if(!x29)=true then(if((s11.1.length+1) * 40≤140737488355328)then(some (.inl ((s11.1++([(⟨(3:Int),(y10.1.getD s11.2.toNat default),(0:Int),(-1:Int),(-1:Int)⟩:T44)]:List T44)),(IntKind.wrap .i64 (s11.2+1)))))else none)else(some (.inl (s11.1,(IntKind.wrap .i64 (s11.2+1)))))))else none)else none)else(some (.inr (.inl s11.1)))):Option (((List T44)×Int)⊕(((List T44))⊕((List T44)))))) ((y9.1++y9.2.1),(0:Int))))) (onS fun(y12:(List T44))=>(Option.bind (Option.bind (some (.inl ())) (onS fun(_:Unit)=>(loopO (fun(s13:(List T44)×Int)=>((if(decide (s13.2 < ((a0.Transitions.length:Int).toNat:Int)))=true then(if(0≤s13.2)then(if(s13.2 < ((a0.Transitions.length:Int).toNat:Int))then(if(s13.2.toNat < (a0.Transitions.length:Int).toNat)then(if(!(y9.2.2.getD s13.2.toNat default))=true then(if((s13.1.length+1) * 40≤140737488355328)then(some (.inl ((s13.1++([(⟨(4:Int),(-1:Int),(0:Int),s13.2,(-1:Int)⟩:T44)]:List T44)),(IntKind.wrap .i64 (s13.2+1)))))else none)else(some (.inl (s13.1,(IntKind.wrap .i64 (s13.2+1))))))else none)else none)else none)else(some (.inr (.inl s13.1)))):Option (((List T44)×Int)⊕(((List T44))⊕((List T44)))))) (y12,(0:Int))))) (onS fun(y14:(List T44))=>(some y14))))))))))):Option ((List T44))):=by kernel_rfl
theorem sfind_eq {c:T27} (H:Fit c) (hn:c.Conds.length≤12) {s:SS} (I:Inv c s):m47o1 c s.1 s.2.1 s.2.2 (valsA c)=some (findS c s):=by
 have hst:=H.states
 have htr:=H.trans
 have h2:=numV_le hn
 have hv2:=valsA_len (c:=c)
 have hll:=leavesS_len (c:=c)
 have hrl:(rL c s).length≤(leavesS c).length:=by unfold rL;exact List.length_filter_le _ _
 have q0:=sleaves_eq I (valsA c)
 have q1:=Leaves_eq c H
 have q2:∀ (leaf v:Int),m19 c leaf v=some (enabledS c leaf v):=Enabled_eq c H
 have q3:∀ x,m49 (rL c s) x=some (hasK (rL c s) (rL c s).length x):=fun x=>containsI_eq (rL c s) x (by omega)
 have c0:((0:Int)≤(c.Transitions.length:Int))=True:=eq_true (by omega)
 have c1:((c.Transitions.length:Int) * 1≤140737488355328)=True:=eq_true (by omega)
 have c2:((c.Transitions.length:Int)≤9223372036854775807)=True:=eq_true (by omega)
 have z0:((0:Int)≤(0:Int))=True:=eq_true (by omega)
 have z1:((0:Int)≤(1:Int))=True:=eq_true (by omega)
 simp only[M47o1,bind_id,q0,q1,q2,q3,bs,c0,c1,c2,if_true,ol,Int.toNat_natCast]
 refine on_l (y:=(kindL c s 1,kindL c s 2,mkL c.Transitions.length fun t=>liveB c s t)) ?_ ?_
 ·have e0:(([]:List T44),([]:List T44),List.replicate c.Transitions.length false,(0:Int))=(fun i:Nat=>((List.range i).flatMap (fun j=>(leafFd c ((rL c s).getD j default) 1).toList),(List.range i).flatMap (fun j=>(leafFd c ((rL c s).getD j default) 2).toList),mkL c.Transitions.length (fun t=>anyR (fun j=>aliveB c ((rL c s).getD j default) (t:Int)) i),(i:Int))) 0:=by
   have:List.replicate c.Transitions.length false=mkL c.Transitions.length (fun t=>anyR (fun j=>aliveB c ((rL c s).getD j default) (t:Int)) 0):=by
    apply List.ext_getElem?
    intro u
    simp only[mkL,List.getElem?_replicate,List.getElem?_map]
    by_cases hu:u < c.Transitions.length
    ·simp[hu,anyR]
    ·simp[hu]
   rw[this];rfl
  have e9:(kindL c s 1,kindL c s 2,mkL c.Transitions.length fun t=>liveB c s t)=((List.range (rL c s).length).flatMap (fun j=>(leafFd c ((rL c s).getD j default) 1).toList),(List.range (rL c s).length).flatMap (fun j=>(leafFd c ((rL c s).getD j default) 2).toList),mkL c.Transitions.length (fun t=>anyR (fun j=>aliveB c ((rL c s).getD j default) (t:Int)) (rL c s).length)):=by
   rw[kind_rL,kind_rL,mkL_congr (fun t _=>live_rL.symm)]
  rw[e0,e9]
  refine loop_st (rL c s).length (fun i:Nat=>((List.range i).flatMap (fun j=>(leafFd c ((rL c s).getD j default) 1).toList),(List.range i).flatMap (fun j=>(leafFd c ((rL c s).getD j default) 2).toList),mkL c.Transitions.length (fun t=>anyR (fun j=>aliveB c ((rL c s).getD j default) (t:Int)) i),(i:Int))) (Sum.inl _) (fun i hi=>?_) ?_
  ·have g1:=flatMap_len (g:=fun j=>(leafFd c ((rL c s).getD j default) 1).toList) (m:=1) (fun j=>toList_len _) i
   have g2:=flatMap_len (g:=fun j=>(leafFd c ((rL c s).getD j default) 2).toList) (m:=1) (fun j=>toList_len _) i
   simp only[inL hi,decide_true,if_true,bs,ol,Int.toNat_natCast,eq_true hi]
   have r1:(List.range (i+1)).flatMap (fun j=>(leafFd c ((rL c s).getD j default) 1).toList)=(List.range i).flatMap (fun j=>(leafFd c ((rL c s).getD j default) 1).toList)++(leafFd c ((rL c s).getD i default) 1).toList:=flatMap_app _ _
   have r2:(List.range (i+1)).flatMap (fun j=>(leafFd c ((rL c s).getD j default) 2).toList)=(List.range i).flatMap (fun j=>(leafFd c ((rL c s).getD j default) 2).toList)++(leafFd c ((rL c s).getD i default) 2).toList:=flatMap_app _ _
   obtain⟨B,hB⟩:∃ B:Nat→Bool,B=fun t:Nat=>anyR (fun j=>aliveB c ((rL c s).getD j default) (t:Int)) i:=⟨_,rfl⟩
   have r0:mkL c.Transitions.length (fun t=>anyR (fun j=>aliveB c ((rL c s).getD j default) (t:Int)) i)=mkL c.Transitions.length B:=by rw[hB]
   have r3:mkL c.Transitions.length (fun t=>anyR (fun j=>aliveB c ((rL c s).getD j default) (t:Int)) (i+1))=mkL c.Transitions.length (fun t=>B t || aliveB c ((rL c s).getD i default) (t:Int)):=by
    rw[hB]
    refine mkL_congr fun t _=>?_
    unfold anyR
    rw[List.range_succ,List.any_append]
    simp
   rw[r1,r2,r3,r0]
   clear r1 r2 r3 r0 hB e0 e9
   generalize (List.range i).flatMap (fun j=>(leafFd c ((rL c s).getD j default) 1).toList)=K1 at g1 ⊢
   generalize (List.range i).flatMap (fun j=>(leafFd c ((rL c s).getD j default) 2).toList)=K2 at g2 ⊢
   generalize (rL c s).getD i default=leaf
   have w2:IntKind.wrap .i64 ((i:Int)+1)=((i+1:Nat):Int):=by rw[w64 (by omega) (by omega)];omega
   refine on_l (y:=(K1++(leafFd c leaf 1).toList,K2++(leafFd c leaf 2).toList,mkL c.Transitions.length fun t=>B t || aliveB c leaf (t:Int))) ?_ (by simp only[bs,ol,w2])
   have e0:(K1,K2,mkL c.Transitions.length B,false,false,(0:Int))=(fun k:Nat=>(K1++(firstR (fun j=>f1 c leaf ((valsA c).getD j default)) k).toList,K2++(firstR (fun j=>f2 c leaf ((valsA c).getD j default)) k).toList,mkL c.Transitions.length (fun t=>B t || anyR (fun j=>pA c leaf t ((valsA c).getD j default)) k),(firstR (fun j=>f1 c leaf ((valsA c).getD j default)) k).isSome,(firstR (fun j=>f2 c leaf ((valsA c).getD j default)) k).isSome,(k:Int))) 0:=by
    have:mkL c.Transitions.length B=mkL c.Transitions.length (fun t=>B t || anyR (fun j=>pA c leaf t ((valsA c).getD j default)) 0):=mkL_congr fun t _=>by simp[anyR]
    rw[this]
    simp[firstR]
   have e9:(K1++(leafFd c leaf 1).toList,K2++(leafFd c leaf 2).toList,mkL c.Transitions.length fun t=>B t || aliveB c leaf (t:Int))=(K1++(firstR (fun j=>f1 c leaf ((valsA c).getD j default)) (valsA c).length).toList,K2++(firstR (fun j=>f2 c leaf ((valsA c).getD j default)) (valsA c).length).toList,mkL c.Transitions.length (fun t=>B t || anyR (fun j=>pA c leaf t ((valsA c).getD j default)) (valsA c).length)):=by
    rw[f1_all,f2_all]
    congr 2
    exact mkL_congr fun t _=>by rw[pA_all]
   rw[e0,e9]
   refine loop_st (valsA c).length (fun k:Nat=>(K1++(firstR (fun j=>f1 c leaf ((valsA c).getD j default)) k).toList,K2++(firstR (fun j=>f2 c leaf ((valsA c).getD j default)) k).toList,mkL c.Transitions.length (fun t=>B t || anyR (fun j=>pA c leaf t ((valsA c).getD j default)) k),(firstR (fun j=>f1 c leaf ((valsA c).getD j default)) k).isSome,(firstR (fun j=>f2 c leaf ((valsA c).getD j default)) k).isSome,(k:Int))) (Sum.inl _) (fun k hk=>?_) ?_
   ·have w3:IntKind.wrap .i64 ((k:Int)+1)=((k+1:Nat):Int):=by rw[w64 (by omega) (by omega)];omega
    have t1:=toList_len (firstR (fun j=>f1 c leaf ((valsA c).getD j default)) k)
    have t2:=toList_len (firstR (fun j=>f2 c leaf ((valsA c).getD j default)) k)
    obtain⟨B',hB⟩:∃ B':Nat→Bool,B'=fun t:Nat=>B t || anyR (fun j=>pA c leaf t ((valsA c).getD j default)) k:=⟨_,rfl⟩
    have r0:mkL c.Transitions.length (fun t=>B t || anyR (fun j=>pA c leaf t ((valsA c).getD j default)) k)=mkL c.Transitions.length B':=by rw[hB]
    have r3:mkL c.Transitions.length (fun t=>B t || anyR (fun j=>pA c leaf t ((valsA c).getD j default)) (k+1))=mkL c.Transitions.length (fun t=>B' t || pA c leaf t ((valsA c).getD k default)):=by
     rw[hB]
     refine mkL_congr fun t _=>?_
     unfold anyR
     rw[List.range_succ,List.any_append,← Bool.or_assoc]
     simp
    simp only[inL hk,decide_true,if_true,bs,ol,Int.toNat_natCast]
    rw[r3,r0,firstR_orK (f:=fun j=>f1 c leaf ((valsA c).getD j default)),firstR_orK (f:=fun j=>f2 c leaf ((valsA c).getD j default))]
    generalize firstR (fun j=>f1 c leaf ((valsA c).getD j default)) k=o1 at t1 ⊢
    generalize firstR (fun j=>f2 c leaf ((valsA c).getD j default)) k=o2 at t2 ⊢
    clear r3 r0 hB e0 e9
    generalize (valsA c).getD k default=v
    have c3:(((K1++o1.toList).length+1) * 40≤140737488355328)=True:=eq_true (by rw[List.length_append];omega)
    have c4:(((K2++o2.toList).length+1) * 40≤140737488355328)=True:=eq_true (by rw[List.length_append];omega)
    have hel:=enabledS_len c leaf v
    refine on_l (y:=(K1++(orK o1 (f1 c leaf v)).toList,K2++(orK o2 (f2 c leaf v)).toList,mkL c.Transitions.length (fun t=>B' t || pA c leaf t v),(orK o1 (f1 c leaf v)).isSome,(orK o2 (f2 c leaf v)).isSome)) ?_ (by simp only[w3])
    refine on_l (alive_loop (l:=enabledS c leaf v) (fun x hx=>enab_lt hx) Sum.inl (fun B'' j t hj ht htl=>?_) (fun B''=>?_) B') ?_
    ·have w4:IntKind.wrap .i64 ((j:Int)+1)=((j+1:Nat):Int):=by rw[w64 (by omega) (by omega)];omega
     have c5:((t:Int) < (c.Transitions.length:Int))=True:=eq_true (by omega)
     have c6:((0:Int)≤(t:Int))=True:=eq_true (by omega)
     simp only[inL hj,decide_true,if_true,Int.toNat_natCast,ht,c5,c6,eq_true htl,mkL_sub,w4]
    ·simp only[lt_irr,decide_false,Bool.false_eq_true,if_false]
    unfold f1 f2 pA
    have c3':((K1.length+1) * 40≤140737488355328)=True:=eq_true (by omega)
    have c4':((K2.length+1) * 40≤140737488355328)=True:=eq_true (by omega)
    have g0:(((enabledS c leaf v).length:Int)==0)=true→decide (1 < ((enabledS c leaf v).length:Int))=false:=fun h=>by
     have:((enabledS c leaf v).length:Int)=0:=by simpa using h
     rw[this];rfl
    have g1:decide (1 < ((enabledS c leaf v).length:Int))=true→((0 < ((enabledS c leaf v).length:Int))=True∧(1 < ((enabledS c leaf v).length:Int))=True):=fun h=>by
     have:=of_decide_eq_true h
     exact⟨eq_true (by omega),eq_true this⟩
    cases e0:(((enabledS c leaf v).length:Int)==0) with
    | true =>
     have e1:=g0 e0
     cases o1 with
     | none=>cases o2<;>simp only[e1,c3',orK_some,orK_none,Option.isSome_none,Option.isSome_some,Option.toList_none,Option.toList_some,List.append_nil,Bool.not_false,Bool.not_true,Bool.and_true,Bool.and_false,Bool.false_and,Bool.true_and,Bool.false_eq_true,if_true,if_false]
     | some x=>cases o2<;>simp only[e1,orK_some,orK_none,Option.isSome_none,Option.isSome_some,Option.toList_none,Option.toList_some,List.append_nil,Bool.not_false,Bool.not_true,Bool.and_true,Bool.and_false,Bool.false_and,Bool.true_and,Bool.false_eq_true,if_true,if_false]
    | false =>
     cases e1:decide (1 < ((enabledS c leaf v).length:Int)) with
     | false =>
      cases o1<;>cases o2<;>simp only[orK_some,orK_none,Option.isSome_none,Option.isSome_some,Option.toList_none,Option.toList_some,List.append_nil,Bool.not_false,Bool.not_true,Bool.and_true,Bool.and_false,Bool.false_and,Bool.true_and,Bool.false_eq_true,if_true,if_false]
     | true =>
      obtain⟨z2,z3⟩:=g1 e1
      cases o1<;>cases o2<;>simp only[z0,z1,z2,z3,c4',orK_some,orK_none,Option.isSome_none,Option.isSome_some,Option.toList_none,Option.toList_some,List.append_nil,Bool.not_false,Bool.not_true,Bool.and_true,Bool.and_false,Bool.false_and,Bool.true_and,Bool.false_eq_true,if_true,if_false]<;>rfl
   ·simp only[lt_irr,decide_false,Bool.false_eq_true,if_false,bs,or_]
  ·simp only[lt_irr,decide_false,Bool.false_eq_true,if_false,bs,or_]
 ·have k1:=kindL_len c s 1
  have k2:=kindL_len c s 2
  have c9:(((kindL c s 1).length+(kindL c s 2).length) * 40≤140737488355328)=True:=eq_true (by omega)
  simp only[c9,if_true,bs,ol]
  refine on_l (y:=kindL c s 1++kindL c s 2++(List.range (leavesS c).length).flatMap (unrG c s)) ?_ ?_
  ·refine loop_app (leavesS c).length (fun j l=>(l,(j:Int))) (unrG c s) Sum.inl (kindL c s 1++kindL c s 2) (fun j hj=>?_) ?_
   ·have hgl:=flatMap_len (unrG_len c s) j
    have c1:(((kindL c s 1++kindL c s 2)++(List.range j).flatMap (unrG c s)).length+1) * 40≤140737488355328:=by rw[List.length_append,List.length_append];omega
    have w2:IntKind.wrap .i64 ((j:Int)+1)=((j+1:Nat):Int):=by rw[w64 (by omega) (by omega)];omega
    simp only[inL hj,decide_true,if_true,Int.toNat_natCast,rL_has (getD_mem hj),bs,w2,eq_true c1]
    cases hr:reachB s ((leavesS c).getD j default) with
    | false =>
     have hd:unrG c s j=[⟨3,(leavesS c).getD j default,0,-1,-1⟩]:=by unfold unrG leafA;rw[hr];rfl
     simp only[Bool.not_false,if_true,hd]
    | true =>
     have hd:unrG c s j=[]:=by unfold unrG leafA;rw[hr];rfl
     simp only[Bool.not_true,Bool.false_eq_true,if_false,hd,List.append_nil]
   ·simp only[lt_irr,decide_false,Bool.false_eq_true,if_false]
  ·have hul:=flatMap_len (unrG_len c s) (leavesS c).length
   refine on_l (y:=findS c s) ?_ rfl
   unfold findS
   refine loop_app c.Transitions.length (fun j l=>(l,(j:Int))) (deadG c s) Sum.inl _ (fun t ht=>?_) ?_
   ·have hgl:=flatMap_len (deadG_len c s) t
    have c1:(((kindL c s 1++kindL c s 2++(List.range (leavesS c).length).flatMap (unrG c s))++(List.range t).flatMap (deadG c s)).length+1) * 40≤140737488355328:=by simp only[List.length_append];omega
    have w2:IntKind.wrap .i64 ((t:Int)+1)=((t+1:Nat):Int):=by rw[w64 (by omega) (by omega)];omega
    simp only[inL ht,decide_true,if_true,Int.toNat_natCast,eq_true ht,mkL_at ht,w2]
    cases hl2:liveB c s t with
    | true =>
     have hd:deadG c s t=[]:=by unfold deadG;rw[hl2];rfl
     simp only[Bool.not_true,Bool.false_eq_true,if_true,if_false,hd,List.append_nil]
    | false =>
     have hd:deadG c s t=[⟨4,-1,0,(t:Int),-1⟩]:=by unfold deadG;rw[hl2];rfl
     simp only[Bool.not_false,Bool.false_eq_true,if_true,if_false,eq_true c1,hd]
   ·simp only[lt_irr,decide_false,Bool.false_eq_true,if_false]
theorem M18 (a0:T27):m18 a0=((orJ (Option.bind (Option.bind (m44o1 a0) fun r=>some r) fun x1=>(if(x1 != 0)=true then(some ([],x1))else(Option.bind (none) fun(x4:(Unit))=>none))) (Option.bind (Option.bind (m44o2 a0) fun r=>some r) fun x1=>(if((0:Int) != (0:Int))=true then(some ([],(0:Int)))else(Option.bind (((m47o1 a0 x1.1 x1.2.1 x1.2.2.1 x1.2.2.2).bind fun r4_0=>some (r4_0,x1))) fun(x4:((List T44)×((List T37)×(List Int)×(List Int)×(List Int))))=>(some (x4.1,(0:Int))))))):Option ((List T44)×Int)):=by kernel_rfl
theorem Findings_eq {c:T27} (H:Fit c) (hn:c.Conds.length≤12):m18 c=findM c:=by
 obtain⟨e,he⟩:=checkM_some c
 have q1:=srchE_eq H hn
 have q2:=srchR_eq H hn
 have q3:∀ s:SS,Inv c s→m47o1 c s.1 s.2.1 s.2.2 (valsA c)=some (findS c s):=fun s I=>sfind_eq H hn I
 unfold findM
 simp only[M18,bind_id,q1,q2,he,bs]
 generalize m47o1=F at q3 ⊢
 by_cases h0:(e != 0)=true
 ·simp only[h0,bs,if_true];rfl
 ·have h0:=Bool.eq_false_iff.2 h0
  have e0:e=0:=by simpa using h0
  subst e0
  simp only[h0,Bool.false_eq_true,if_false]
  cases hs:searchS c with
  | none=>rfl
  | some s =>
   have q4:=q3 s (searchS_inv H he hs)
   simp only[bs,bn,q4];rfl
end Go.Av
set_option maxRecDepth 100000
namespace Go.Av
open Ch Go.Proofs
def kindI (l:List T44) (kind:Int):Int:=findR (fun i=>(l.getD i default).Kind==kind) l.length
def firstM (c:T27) (kind:Int):Option (T44×Bool×Int):=(findM c).bind fun r=>if(r.2 != 0)=true then some (⟨0,0,0,0,0⟩,false,r.2)else if decide (kindI r.1 kind < 0)=true then some (⟨0,0,0,0,0⟩,true,0)else some (r.1.getD (kindI r.1 kind).toNat default,false,0)
theorem findS_len {c:T27} (H:Fit c) (s:SS):(findS c s).length≤4000:=by
 have hst:=H.states
 have htr:=H.trans
 have hll:=leavesS_len (c:=c)
 have k1:=kindL_len c s 1
 have k2:=kindL_len c s 2
 have hul:=flatMap_len (unrG_len c s) (leavesS c).length
 have hgl:=flatMap_len (deadG_len c s) c.Transitions.length
 unfold findS
 simp only[List.length_append];omega
theorem findM_some (c:T27):∃ r,findM c=some r:=by
 obtain⟨e,he⟩:=checkM_some c
 unfold findM
 rw[he,Option.bind_some]
 split
 ·exact⟨_,rfl⟩
 ·split<;>exact⟨_,rfl⟩
theorem findM_len {c:T27} (H:Fit c) {r:List T44×Int} (h:findM c=some r):r.1.length≤4000:=by
 obtain⟨e,he⟩:=checkM_some c
 unfold findM at h
 rw[he,Option.bind_some]at h
 split at h
 ·injection h with h;subst h;simp
 ·split at h
  ·injection h with h;subst h;exact findS_len H _
  ·injection h with h;subst h;simp
theorem M108o0 (a0:List T44) (a1:Int):m108o0 a0 a1=((Option.bind (some (.inl ())) (onS fun(_:Unit)=>(Option.bind (Option.bind (some (.inl ())) (onS fun(_:Unit)=>(loopO (fun(s1:Int)=>((if(decide (s1 < (a0.length:Int)))=true then(Option.bind ((if 0≤s1 then(if s1 < (a0.length:Int)then((m109o0 (a0.getD s1.toNat default) a1).bind fun r4_0=>some r4_0)else none)else none)) fun(x4:(Unit))=>(if((a0.getD s1.toNat default).Kind==a1)=true then(some (.inr (.inr (s1))))else(some (.inl (IntKind.wrap .i64 (s1+1))))))else(some (.inr (.inl ())))):Option ((Int)⊕((Unit)⊕(Int))))) (0:Int)))) (onS fun(_:Unit)=>(some (-1:Int)))))):Option (Int)):=by kernel_rfl
theorem M61 (a0:T27) (a1:Int):m61 a0 a1=((Option.bind (Option.bind (m18 a0) fun r=>some r) fun x1=>(if(x1.2 != 0)=true then(some ((⟨(0:Int),(0:Int),(0:Int),(0:Int),(0:Int)⟩:T44),false,x1.2))else(Option.bind (Option.bind (m108o0 x1.1 a1) fun r=>some r) fun x4=>(if(decide (x4 < 0))=true then(some ((⟨(0:Int),(0:Int),(0:Int),(0:Int),(0:Int)⟩:T44),true,(0:Int)))else(if(0≤x4)then(if(x4 < (x1.1.length:Int))then(some ((x1.1.getD x4.toNat default),false,(0:Int)))else none)else none))))):Option (T44×Bool×Int)):=by kernel_rfl
theorem first_eq {c:T27} (H:Fit c) (hn:c.Conds.length≤12) (kind:Int):m61 c kind=firstM c kind:=by
 have q1:=Findings_eq H hn
 obtain⟨r,hr⟩:=findM_some c
 have hl:=findM_len H hr
 have q2:m108o0 r.1 kind=some (kindI r.1 kind):=by
  simp only[M108o0,bind_id,bs,ol]
  refine idx_loop (fun i hi=>?_) ?_
  ·simp only[exB_ite,exB_some,exB_none,inL hi,decide_true,Int.toNat_natCast,if_true,wr1 hi (by omega),bs,show ∀ x,m109o0 x kind=some () from fun x=>rfl]
  ·simp only[lt_irr,decide_false,Bool.false_eq_true,if_false]
 unfold firstM
 simp only[M61,bind_id,q1,hr,bs,q2]
 by_cases h0:(r.2 != 0)=true
 ·simp only[h0,if_true]
 ·have h0:=Bool.eq_false_iff.2 h0
  simp only[h0,Bool.false_eq_true,if_false]
  rcases findR_cases (fun i=>(r.1.getD i default).Kind==kind) r.1.length with⟨h1,_⟩ | ⟨k,h1,h2,_⟩
  ·have h1:kindI r.1 kind = -1:=h1
   rw[h1];rfl
  ·have h2:kindI r.1 kind=(k:Int):=h2
   rw[h2]
   have d:decide ((k:Int) < 0)=false:=by simp
   simp only[d,Bool.false_eq_true,if_false,inL h1,if_true]
theorem M62 (a0:T27) (a1:Int):m62 a0 a1=((Option.bind (Option.bind (Option.bind (m22 a0) fun r=>some r) fun x1=>(if(x1.2 != 0)=true then(some (.inr (((⟨(0:Int),(0:Int),(0:Int),(0:Int),(0:Int)⟩:T44),false,x1.2))))else(some (.inl x1.1)))) (onS fun(y1:(List T44))=>(Option.bind (Option.bind (some (.inl ())) (onS fun(_:Unit)=>(loopO (fun(s2:Int)=>((if(decide (s2 < (y1.length:Int)))=true then(if(0≤s2)then(if(s2 < (y1.length:Int))then(if((y1.getD s2.toNat default).Kind==a1)=true then(some (.inr (.inr (((y1.getD s2.toNat default),false,(0:Int))))))else(some (.inl (IntKind.wrap .i64 (s2+1)))))else none)else none)else(some (.inr (.inl ())))):Option ((Int)⊕((Unit)⊕(T44×Bool×Int))))) (0:Int)))) (onS fun(_:Unit)=>(some ((⟨(0:Int),(0:Int),(0:Int),(0:Int),(0:Int)⟩:T44),true,(0:Int))))))):Option (T44×Bool×Int)):=by kernel_rfl
theorem rfirstOf_eq {c:T27} (H:Fit c) (hn:c.Conds.length≤12) (kind:Int):m62 c kind=firstM c kind:=by
 have q1:=rFindings_eq H hn
 obtain⟨r,hr⟩:=findM_some c
 have hl:=findM_len H hr
 unfold firstM
 simp only[M62,bind_id,q1,hr,bs]
 by_cases h0:(r.2 != 0)=true
 ·simp only[h0,if_true,bs,or_]
 ·have h0:=Bool.eq_false_iff.2 h0
  simp only[h0,Bool.false_eq_true,if_false,bs,ol]
  rw[loop_ex r.1.length (fun i=>if((r.1.getD i default).Kind==kind)=true then some (r.1.getD i default,false,(0:Int))else none) ?_ ?_]
  ·rcases findR_cases (fun i=>(r.1.getD i default).Kind==kind) r.1.length with⟨h1,h2⟩ | ⟨k,h1,h2,h3⟩
   ·have h1:kindI r.1 kind = -1:=h1
    rw[h1]
    have:firstR (fun i=>if((r.1.getD i default).Kind==kind)=true then some (r.1.getD i default,false,(0:Int))else none) r.1.length=none:=by
     rw[firstR_none]
     intro i hi
     rw[if_neg]
     rw[anyR_false.1 h2 i hi];decide
    rw[this];rfl
   ·have h2':kindI r.1 kind=(k:Int):=h2
    rw[h2']
    have d:decide ((k:Int) < 0)=false:=by simp
    simp only[d,Bool.false_eq_true,if_false,Int.toNat_natCast]
    have:firstR (fun i=>if((r.1.getD i default).Kind==kind)=true then some (r.1.getD i default,false,(0:Int))else none) r.1.length=some (r.1.getD k default,false,(0:Int)):=by
     refine firstR_at h1 (fun j hj=>?_) (by rw[if_pos h3])
     rw[if_neg]
     rw[findR_min h2 j hj];decide
    rw[this];rfl
  ·intro i hi
   simp only[exB_ite,exB_some,exB_none,inL hi,decide_true,Int.toNat_natCast,if_true,wr1 hi (by omega)]
  ·simp only[lt_irr,decide_false,Bool.false_eq_true,if_false]
theorem firstM_some {c:T27} {kind:Int}:∃ r,firstM c kind=some r:=by
 obtain⟨r,hr⟩:=findM_some c
 unfold firstM
 rw[hr,Option.bind_some]
 split
 ·exact⟨_,rfl⟩
 ·split<;>exact⟨_,rfl⟩
theorem Complete_eq {c:T27} (H:Fit c) (hn:c.Conds.length≤12):m23 c=firstM c 1:=by
 have h:=first_eq H hn 1
 obtain⟨r,hr⟩:=firstM_some (c:=c) (kind:=1)
 rw[hr]at h ⊢
 delta m23 d23
 simp only[↓JD.sg_m,↓JD.sq_m,↓JD.sc_m,↓JD.bk_m,↓JD.lp_m,↓JD.cd_m,↓JD.lu_m,↓JD.ct_m,↓JD.ce_m,↓JL.r_m,↓JL.z_m,↓JD.se_m,onE_r,↓Tr.run,↓Tr.run_nd,↓Tr.run_c3,↓Tr.run_c2,↓Tr.run_nx,↓onS,bind_ite,Option.bind_some,Option.bind_none,obR,h]
theorem Exclusive_eq {c:T27} (H:Fit c) (hn:c.Conds.length≤12):m25 c=firstM c 2:=by
 have h:=first_eq H hn 2
 obtain⟨r,hr⟩:=firstM_some (c:=c) (kind:=2)
 rw[hr]at h ⊢
 delta m25 d25
 simp only[↓JD.sg_m,↓JD.sq_m,↓JD.sc_m,↓JD.bk_m,↓JD.lp_m,↓JD.cd_m,↓JD.lu_m,↓JD.ct_m,↓JD.ce_m,↓JL.r_m,↓JL.z_m,↓JD.se_m,onE_r,↓Tr.run,↓Tr.run_nd,↓Tr.run_c3,↓Tr.run_c2,↓Tr.run_nx,↓onS,bind_ite,Option.bind_some,Option.bind_none,obR,h]
theorem rComplete_eq {c:T27} (H:Fit c) (hn:c.Conds.length≤12):m24 c=firstM c 1:=by
 have h:=rfirstOf_eq H hn 1
 obtain⟨r,hr⟩:=firstM_some (c:=c) (kind:=1)
 rw[hr]at h ⊢
 delta m24 d24
 simp only[↓JD.sg_m,↓JD.sq_m,↓JD.sc_m,↓JD.bk_m,↓JD.lp_m,↓JD.cd_m,↓JD.lu_m,↓JD.ct_m,↓JD.ce_m,↓JL.r_m,↓JL.z_m,↓JD.se_m,onE_r,↓Tr.run,↓Tr.run_nd,↓Tr.run_c3,↓Tr.run_c2,↓Tr.run_nx,↓onS,bind_ite,Option.bind_some,Option.bind_none,obR,h]
theorem rExclusive_eq {c:T27} (H:Fit c) (hn:c.Conds.length≤12):m26 c=firstM c 2:=by
 have h:=rfirstOf_eq H hn 2
 obtain⟨r,hr⟩:=firstM_some (c:=c) (kind:=2)
 rw[hr]at h ⊢
 delta m26 d26
 simp only[↓JD.sg_m,↓JD.sq_m,↓JD.sc_m,↓JD.bk_m,↓JD.lp_m,↓JD.cd_m,↓JD.lu_m,↓JD.ct_m,↓JD.ce_m,↓JL.r_m,↓JL.z_m,↓JD.se_m,onE_r,↓Tr.run,↓Tr.run_nd,↓Tr.run_c3,↓Tr.run_c2,↓Tr.run_nx,↓onS,bind_ite,Option.bind_some,Option.bind_none,obR,h]
end Go.Av
set_option maxRecDepth 1000000
namespace Go.Av
open Ch Go.Proofs
theorem Cc.awake_true:m13=some true:=by kernel_rfl
theorem M5 (a0:T27):m5 a0=((Option.bind (Option.bind (m13) fun r=>some r) fun x1=>(if(!x1)=true then(some false)else(Option.bind (Option.bind (m14 a0) fun r=>some r) fun x3=>(Option.bind (Option.bind (m18 x3) fun r=>some r) fun x4=>(Option.bind (Option.bind (m22 x3) fun r=>some r) fun x5=>(Option.bind (Option.bind (m23 x3) fun r=>some r) fun x6=>(Option.bind (Option.bind (m24 x3) fun r=>some r) fun x7=>(Option.bind (Option.bind (m25 x3) fun r=>some r) fun x8=>(Option.bind (Option.bind (m26 x3) fun r=>some r) fun x9=>(Option.bind (((if(x4.2==x5.2)=true then m27 x4.1 x5.1 else some default).bind fun r10_0=>some r10_0)) fun(x10:(Bool))=>(some ((((((((x4.2==x5.2)&&x10)&&((x6.1.Kind==x7.1.Kind)&&((x6.1.State==x7.1.State)&&((x6.1.Valuation==x7.1.Valuation)&&((x6.1.First==x7.1.First)&&((x6.1.Second==x7.1.Second)&&true))))))&&(x6.2.1==x7.2.1))&&(x6.2.2==x7.2.2))&&((x8.1.Kind==x9.1.Kind)&&((x8.1.State==x9.1.State)&&((x8.1.Valuation==x9.1.Valuation)&&((x8.1.First==x9.1.First)&&((x8.1.Second==x9.1.Second)&&true))))))&&(x8.2.1==x9.2.1))&&(x8.2.2==x9.2.2))))))))))))):Option (Bool)):=by kernel_rfl
theorem plain5 {c:T27} (_:ok27 c):m5 c=some true:=by
 have T:=few8_tiny c
 have H:=T.fit
 have hn:(few8 c).Conds.length≤12:=by have:=T.conds;omega
 have q0:=Cc.awake_true
 have q1:=few_eq8 c
 have q2:=Findings_eq H hn
 have q3:=rFindings_eq H hn
 have q4:=Complete_eq H hn
 have q5:=rComplete_eq H hn
 have q6:=Exclusive_eq H hn
 have q7:=rExclusive_eq H hn
 obtain⟨r,hr⟩:=findM_some (few8 c)
 have hl:=findM_len H hr
 obtain⟨a,ha⟩:=firstM_some (c:=few8 c) (kind:=1)
 obtain⟨b,hb⟩:=firstM_some (c:=few8 c) (kind:=2)
 have q8:m27 r.1 r.1=some true:=by
  delta m27 d27
  simp only[↓JD.sg_m,↓JD.sq_m,↓JD.sc_m,↓JD.bk_m,↓JD.lp_m,↓JD.cd_m,↓JD.lu_m,↓JD.ct_m,↓JD.ce_m,↓JL.r_m,↓JL.z_m,↓JD.se_m,onE_r,↓Tr.run,↓Tr.run_nd,↓Tr.run_c3,↓Tr.run_c2,↓Tr.run_nx,↓onS,bind_ite,Option.bind_some,Option.bind_none,obR,bne_self,Bool.false_eq_true,if_false]
  refine loop_pass r.1.length (fun i hi=>?_) (by (simp only[lt_irr,decide_false,Bool.false_eq_true,if_false];try rfl)) rfl
  simp only[inL hi,decide_true,Int.toNat_natCast,if_true,wr1 hi (by omega),beq_self_eq_true,Bool.and_self,Bool.not_true,Bool.false_eq_true,if_false]
 rw[hr]at q2 q3
 rw[ha]at q4 q5
 rw[hb]at q6 q7
 simp only[M5,bind_id,q0,q1,q2,q3,q4,q5,q6,q7,q8,bs,beq_self_eq_true,Bool.not_true,Bool.false_eq_true,if_false,if_true,Bool.and_self]
end Go.Av
