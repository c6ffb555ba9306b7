/- A part of the proof. -/
import Derived.Test.YtiolffcanlflbaaGreatPart5
set_option linter.unusedVariables false
set_option linter.unusedSimpArgs false
set_option maxRecDepth 100000
namespace Go.Av.Air
def Sh (m:Nat) (t:List (List Int)):Prop:=∀ i,i < t.length→(t.getD i default).length=m
def tb (t:List (List Int)) (i j:Nat):Int:=(t.getD i default).getD j default
def gi (l:List Int) (i:Nat):Int:=l.getD i default
def C9 (P l:List Int) (x:Int) (k:Nat):Int:=gi l (k - 1)+(gi l k - gi l (k - 1)) * (x - gi P (k - 1)) / (gi P k - gi P (k - 1))
def G1 (P l:List Int) (x:Int) (k:Nat):Int:=if k=0 then gi l 0 else if k=P.length then gi l (k - 1)else C9 P l x k
def Below (P:List Int) (x:Int) (k:Nat):Prop:=k≤P.length∧(∀ j,j < k→gi P j < x)∧(k < P.length→¬ gi P k < x)
structure Vb (P l:List Int) (x:Int):Prop where
 fit:P.length≤maxLen
 len:l.length=P.length
 pos:0 < P.length
 lb:∀ i,0≤gi l i∧gi l i≤100000
 pb:∀ i,-10000000000≤gi P i∧gi P i≤10000000000
 xb : -10000000000≤x∧x≤10000000000
 up:∀ i j,i < j→j < P.length→gi P i < gi P j
theorem pmul_b {u v:Int} (h1 : -100000≤u) (h2:u≤100000) (h3 : -20000000000≤v) (h4:v≤20000000000) : -2000000000000000≤u * v∧u * v≤2000000000000000:=by
 have h:=Int.mul_le_mul (a:=(u.natAbs:Int)) (b:=(v.natAbs:Int)) (c:=100000) (d:=20000000000) (by omega) (by omega) (by omega) (by omega)
 rw[← Int.natCast_mul,← Int.natAbs_mul]at h
 omega
theorem Below.uniq {P:List Int} {x:Int} {k k':Nat} (h:Below P x k) (h':Below P x k'):k=k':=by
 rcases Nat.lt_trichotomy k k' with hlt | heq | hlt
 ·exact absurd (h'.2.1 k hlt) (h.2.2 (Nat.lt_of_lt_of_le hlt h'.1))
 ·exact heq
 ·exact absurd (h.2.1 k' hlt) (h'.2.2 (Nat.lt_of_lt_of_le hlt h.1))
theorem Vb.mono {P l:List Int} {x:Int} (h:Vb P l x) {i j:Nat} (hij:i≤j) (hj:j < P.length):gi P i≤gi P j:=by
 rcases Nat.eq_or_lt_of_le hij with rfl | hlt
 ·exact Int.le_refl _
 ·exact Int.le_of_lt (h.up i j hlt hj)
theorem Nv {P l:List Int} {x:Int} {k:Nat} (hx:x=gi P (k - 1)):C9 P l x k=gi l (k - 1):=by
 subst hx
 unfold C9
 rw[Int.sub_self,Int.mul_zero,Int.zero_ediv,Int.add_zero]
def B8 (P:List Int) (x:Int):Nat:=(P.takeWhile fun y=>decide (y < x)).length
theorem Cj:∀ (P:List Int) (x:Int),Below P x (B8 P x)
 | [],x=>⟨Nat.le_refl _,fun j hj=>by simp[B8]at hj,fun h=>by simp[B8]at h⟩
 | y :: P,x=>by
  by_cases h:y < x
  ·have e:B8 (y :: P) x=B8 P x+1:=by simp[B8,List.takeWhile_cons,h]
   obtain⟨h1,h2,h3⟩:=Cj P x
   rw[e]
   refine⟨by simp;exact h1,fun j hj=>?_,fun hk=>?_⟩
   ·cases j with
    | zero=>simpa [gi] using h
    | succ j=>simpa [gi] using h2 j (by omega)
   ·simpa [gi] using h3 (by simpa using hk)
  ·have e:B8 (y :: P) x=0:=by simp[B8,List.takeWhile_cons,h]
   rw[e]
   exact⟨Nat.zero_le _,fun j hj=>by omega,fun _=>by simpa [gi] using h⟩
def V (P l:List Int) (x:Int):Int:=G1 P l x (B8 P x)
def Jc (P:List Int):Prop:=∀ i j,i < j→j < P.length→gi P i < gi P j
theorem Xw {P:List Int} (hP:Jc P) (l:List Int) (x:Int) {k:Nat} (h1:0 < k) (h2:k < P.length) :
  C9 P l x k=(gi l (k - 1) * (gi P k - x)+gi l k * (x - gi P (k - 1))) / (gi P k - gi P (k - 1)):=by
 have hd:=hP (k - 1) k (by omega) h2
 unfold C9
 rw[Int.add_comm,← Int.add_mul_ediv_right _ _ (by omega)]
 congr 1
 rw[Int.sub_mul,Int.mul_sub,Int.mul_sub,Int.mul_sub,Int.mul_sub]
 omega
theorem Uk {P:List Int} {x:Int} {j:Nat} (h:j < B8 P x):gi P j < x:=(Cj P x).2.1 j h
theorem Uj {P:List Int} {x:Int} (h:B8 P x < P.length):x≤gi P (B8 P x):=by have:=(Cj P x).2.2 h;omega
theorem Eh (P:List Int) (x:Int):B8 P x≤P.length:=(Cj P x).1
theorem Sq {P:List Int} (hP:Jc P) {l l':List Int} (hl:∀ i,i < P.length→gi l i≤gi l' i) (h0:0 < P.length) (x:Int):V P l x≤V P l' x:=by
 unfold V G1
 have hk:=Eh P x
 split
 ·exact hl 0 h0
 ·split
  ·exact hl _ (by omega)
  ·rename_i a b
   have hlt:B8 P x < P.length:=by omega
   rw[Xw hP l x (by omega) hlt,Xw hP l' x (by omega) hlt]
   have h1:=Uk (P:=P) (x:=x) (j:=B8 P x - 1) (by omega)
   have h2:=Uj hlt
   refine Int.ediv_le_ediv (by omega) (Int.add_le_add (Int.mul_le_mul_of_nonneg_right (hl _ (by omega)) (by omega)) (Int.mul_le_mul_of_nonneg_right (hl _ hlt) (by omega)))
theorem V_add {P:List Int} (hP:Jc P) {l l':List Int} {c:Int} (hl:∀ i,i < P.length→gi l' i=gi l i+c) (h0:0 < P.length) (x:Int):V P l' x=V P l x+c:=by
 unfold V G1
 have hk:=Eh P x
 split
 ·exact hl 0 h0
 ·split
  ·exact hl _ (by omega)
  ·have hlt:B8 P x < P.length:=by omega
   unfold C9
   rw[hl _ (by omega),hl _ hlt]
   have:gi l (B8 P x)+c - (gi l (B8 P x - 1)+c)=gi l (B8 P x) - gi l (B8 P x - 1):=by omega
   rw[this]
   omega
theorem Gb {P:List Int} (hP:Jc P) {l:List Int} {a b:Int} (hl:∀ i,i < P.length→a≤gi l i∧gi l i≤b) (h0:0 < P.length) (x:Int):a≤V P l x∧V P l x≤b:=by
 have key:∀ (c:Int),V P (List.replicate P.length c) x=c:=fun c=>by
  have hg:∀ i,i < P.length→gi (List.replicate P.length c) i=c:=fun i hi=>by
   unfold gi
   rw[List.getD_eq_getElem?_getD,List.getElem?_replicate,if_pos hi,Option.getD_some]
  unfold V G1
  have hk:=Eh P x
  split
  ·exact hg 0 h0
  ·split
   ·exact hg _ (by omega)
   ·unfold C9
    rw[hg _ (by omega),hg _ (by omega),Int.sub_self,Int.zero_mul,Int.zero_ediv,Int.add_zero]
 have hg:∀ c i,i < P.length→gi (List.replicate P.length c) i=c:=fun c i hi=>by
  unfold gi
  rw[List.getD_eq_getElem?_getD,List.getElem?_replicate,if_pos hi,Option.getD_some]
 have h1:=Sq hP (l:=List.replicate P.length a) (l':=l) (fun i hi=>by rw[hg a i hi];exact(hl i hi).1) h0 x
 have h2:=Sq hP (l:=l) (l':=List.replicate P.length b) (fun i hi=>by rw[hg b i hi];exact(hl i hi).2) h0 x
 rw[key]at h1 h2
 exact⟨h1,h2⟩
theorem br {P:List Int} {x y:Int} (h:x≤y):B8 P x≤B8 P y:=by
 rcases Nat.lt_or_ge (B8 P y) (B8 P x) with hlt | hge
 ·have h1:=Uk hlt
  have h2:=Uj (Nat.lt_of_lt_of_le hlt (Eh P x))
  omega
 ·exact hge
theorem Ri {P:List Int} (hP:Jc P) (l:List Int) (s:Int) {k:Nat} (h1:0 < k) (h2:k < P.length) (hl:gi l (k - 1)+s * gi P (k - 1)≤gi l k+s * gi P k) {x y:Int} (hxy:x≤y):C9 P l x k+s * x≤C9 P l y k+s * y:=by
 have hd:=hP (k - 1) k (by omega) h2
 have e:∀ z,C9 P l z k+s * z=(gi l (k - 1)+s * gi P (k - 1))+((gi l k+s * gi P k) - (gi l (k - 1)+s * gi P (k - 1))) * (z - gi P (k - 1)) / (gi P k - gi P (k - 1)):=fun z=>by
  unfold C9
  have:((gi l k+s * gi P k) - (gi l (k - 1)+s * gi P (k - 1))) * (z - gi P (k - 1))=(gi l k - gi l (k - 1)) * (z - gi P (k - 1))+(s * (z - gi P (k - 1))) * (gi P k - gi P (k - 1)):=by
   generalize gi P k=a
   generalize gi P (k - 1)=b
   generalize gi l k=c
   generalize gi l (k - 1)=d
   have e1:(c+s * a - (d+s * b))=(c - d)+s * (a - b):=by rw[Int.mul_sub];omega
   rw[e1,Int.add_mul,Int.mul_assoc,Int.mul_assoc,Int.mul_comm (a - b) (z - b)]
  rw[this,Int.add_mul_ediv_right _ _ (by omega)]
  have:s * (z - gi P (k - 1))=s * z - s * gi P (k - 1):=Int.mul_sub _ _ _
  omega
 rw[e x,e y]
 refine Int.add_le_add_left (Int.ediv_le_ediv (by omega) (Int.mul_le_mul_of_nonneg_left (by omega) (by omega))) _
theorem zm {P:List Int} (hP:Jc P) (l:List Int) {k:Nat} (hk:k < P.length):V P l (gi P k)=gi l k:=by
 have hb:Below P (gi P k) k:=⟨by omega,fun j hj=>hP j k hj hk,fun _=>by omega⟩
 have e:B8 P (gi P k)=k:=(Cj P (gi P k)).uniq hb
 unfold V G1
 rw[e]
 split
 ·rename_i h;rw[h]
 ·rw[if_neg (by omega)]
  unfold C9
  rw[Int.mul_ediv_cancel _ (by have:=hP (k - 1) k (by omega) hk;omega)]
  omega
theorem jx {P:List Int} (hP:Jc P) (l:List Int) (s:Int) (hs:0≤s) (h0:0 < P.length) (hl:∀ k,0 < k→k < P.length→gi l (k - 1)+s * gi P (k - 1)≤gi l k+s * gi P k) {x y:Int} (hxy:x≤y) (hk:B8 P x=B8 P y):V P l x+s * x≤V P l y+s * y:=by
 have hm:s * x≤s * y:=Int.mul_le_mul_of_nonneg_left hxy hs
 unfold V G1
 rw[← hk]
 have:=Eh P x
 split
 ·omega
 ·split
  ·omega
  ·exact Ri hP l s (by omega) (by omega) (hl _ (by omega) (by omega)) hxy
theorem ae {P:List Int} (hP:Jc P) (l:List Int) (s:Int) (hs:0≤s) (h0:0 < P.length) (hl:∀ k,0 < k→k < P.length→gi l (k - 1)+s * gi P (k - 1)≤gi l k+s * gi P k):∀ (n:Nat) {x y:Int},B8 P y - B8 P x=n→x≤y→V P l x+s * x≤V P l y+s * y
 | 0,x,y,hn,hxy=>jx hP l s hs h0 hl hxy (by have:=br (P:=P) hxy;omega)
 | n+1,x,y,hn,hxy=>by
  have hm:s * x≤s * y:=Int.mul_le_mul_of_nonneg_left hxy hs
  have hlt:B8 P x < P.length:=by have:=Eh P y;omega
  have h1:x≤gi P (B8 P x):=Uj hlt
  have h2:gi P (B8 P x) < y:=Uk (by omega)
  have e:B8 P (gi P (B8 P x))=B8 P x:=(Cj P _).uniq ⟨by omega,fun j hj=>hP j _ hj hlt,fun _=>by omega⟩
  have a1:=jx hP l s hs h0 hl h1 e.symm
  -- just above the place
  have e2:B8 P (gi P (B8 P x)+1)=B8 P x+1:=(Cj P _).uniq ⟨by omega,fun j hj=>by
   rcases Nat.lt_or_ge j (B8 P x) with h | h
   ·have:=hP j _ h hlt;omega
   ·obtain rfl:j=B8 P x:=by omega
    omega,fun h=>by have:=hP (B8 P x) (B8 P x+1) (by omega) h;omega⟩
  have a2:=ae hP l s hs h0 hl n (x:=gi P (B8 P x)+1) (y:=y) (by omega) (by omega)
  have a3:V P l (gi P (B8 P x))+s * gi P (B8 P x)≤V P l (gi P (B8 P x)+1)+s * (gi P (B8 P x)+1):=by
   have hs1:s * (gi P (B8 P x)+1)=s * gi P (B8 P x)+s:=by rw[Int.mul_add,Int.mul_one]
   rw[zm hP l hlt]
   unfold V G1
   rw[e2,if_neg (by omega)]
   split
   ·rw[Nat.add_sub_cancel];omega
   ·have b:=Ri hP l s (k:=B8 P x+1) (by omega) (by have:=Eh P (gi P (B8 P x)+1);omega) (hl _ (by omega) (by have:=Eh P (gi P (B8 P x)+1);omega)) (x:=gi P (B8 P x)) (y:=gi P (B8 P x)+1) (by omega)
    rw[Nv (by rw[Nat.add_sub_cancel]),Nat.add_sub_cancel]at b
    exact b
  omega
theorem Rh {P:List Int} (hP:Jc P) (l:List Int) {k:Nat} (h1:0 < k) (h2:k < P.length) (hl:gi l k≤gi l (k - 1)) {x y:Int} (hxy:x≤y):C9 P l y k≤C9 P l x k:=by
 have hd:=hP (k - 1) k (by omega) h2
 unfold C9
 refine Int.add_le_add_left (Int.ediv_le_ediv (by omega) ?_) _
 exact Int.mul_le_mul_of_nonpos_left (by omega) (by omega)
theorem jv {P:List Int} (hP:Jc P) (l:List Int) (h0:0 < P.length) (hl:∀ k,0 < k→k < P.length→gi l k≤gi l (k - 1)) {x y:Int} (hxy:x≤y) (hk:B8 P x=B8 P y):V P l y≤V P l x:=by
 unfold V G1
 rw[← hk]
 have:=Eh P x
 split
 ·omega
 ·split
  ·omega
  ·exact Rh hP l (by omega) (by omega) (hl _ (by omega) (by omega)) hxy
theorem sk {P:List Int} (hP:Jc P) (l:List Int) (h0:0 < P.length) (hl:∀ k,0 < k→k < P.length→gi l k≤gi l (k - 1)):∀ (n:Nat) {x y:Int},B8 P y - B8 P x=n→x≤y→V P l y≤V P l x
 | 0,x,y,hn,hxy=>jv hP l h0 hl hxy (by have:=br (P:=P) hxy;omega)
 | n+1,x,y,hn,hxy=>by
  have hlt:B8 P x < P.length:=by have:=Eh P y;omega
  have h1:x≤gi P (B8 P x):=Uj hlt
  have h2:gi P (B8 P x) < y:=Uk (by omega)
  have e:B8 P (gi P (B8 P x))=B8 P x:=(Cj P _).uniq ⟨by omega,fun j hj=>hP j _ hj hlt,fun _=>by omega⟩
  have a1:=jv hP l h0 hl h1 e.symm
  have e2:B8 P (gi P (B8 P x)+1)=B8 P x+1:=(Cj P _).uniq ⟨by omega,fun j hj=>by
   rcases Nat.lt_or_ge j (B8 P x) with h | h
   ·have:=hP j _ h hlt;omega
   ·obtain rfl:j=B8 P x:=by omega
    omega,fun h=>by have:=hP (B8 P x) (B8 P x+1) (by omega) h;omega⟩
  have a2:=sk hP l h0 hl n (x:=gi P (B8 P x)+1) (y:=y) (by omega) (by omega)
  have a3:V P l (gi P (B8 P x)+1)≤V P l (gi P (B8 P x)):=by
   rw[zm hP l hlt]
   unfold V G1
   rw[e2,if_neg (by omega)]
   split
   ·rw[Nat.add_sub_cancel];omega
   ·have b:=Rh hP l (k:=B8 P x+1) (by omega) (by have:=Eh P (gi P (B8 P x)+1);omega) (hl _ (by omega) (by have:=Eh P (gi P (B8 P x)+1);omega)) (x:=gi P (B8 P x)) (y:=gi P (B8 P x)+1) (by omega)
    rw[Nv (x:=gi P (B8 P x)) (by rw[Nat.add_sub_cancel]),Nat.add_sub_cancel]at b
    exact b
  omega
def Fa (t:List (List Int)) (n j:Nat):List Int:=(List.range n).map fun i=>tb t i j
theorem Gw (f:Nat→Int) {n i:Nat} (h:i < n):gi ((List.range n).map f) i=f i:=by
 unfold gi
 rw[List.getD_eq_getElem?_getD,List.getElem?_map,List.getElem?_range h,Option.map_some,Option.getD_some]
theorem ub {l:List Int} {i:Nat} (h:l.length≤i):gi l i=0:=by
 unfold gi
 rw[List.getD_eq_getElem?_getD,List.getElem?_eq_none h];rfl
theorem Mt (t:List (List Int)) {n i j:Nat} (h:i < n):gi (Fa t n j) i=tb t i j:=Gw _ h
def Ju (A M:List Int) (t:List (List Int)) (alt:Int):List Int:=(List.range M.length).map fun j=>V A (Fa t A.length j) alt
def T (A M:List Int) (t:List (List Int)) (alt mass:Int):Int:=V M (Ju A M t alt) mass
structure aa (P:List Int):Prop where
 fit:P.length≤maxLen
 small:P.length≤100000
 pos:0 < P.length
 asc:Jc P
 b:∀ i,-10000000000≤gi P i∧gi P i≤10000000000
structure Ot (A M:List Int) (t:List (List Int)):Prop where
 oa:aa A
 om:aa M
 len:t.length=A.length
 sh:Sh M.length t
 b:∀ i j,0≤tb t i j∧tb t i j≤100000
theorem bd {l:List Int} {p:Int→Prop} (h0:p 0) (h:∀ i,i < l.length→p (gi l i)) (i:Nat):p (gi l i):=by
 by_cases hi:i < l.length
 ·exact h i hi
 ·rw[ub (by omega)];exact h0
theorem Qy {P l:List Int} {x:Int} (hP:aa P) (hl:l.length=P.length) (hb:∀ i,i < l.length→0≤gi l i∧gi l i≤100000) (hx : -10000000000≤x∧x≤10000000000):Vb P l x :=
 ⟨hP.fit,hl,hP.pos,bd (p:=fun y=>0≤y∧y≤100000) (by omega) hb,hP.b,hx,hP.asc⟩
theorem vb_col {A M:List Int} {t:List (List Int)} (h:Ot A M t) (j:Nat) {x:Int} (hx : -10000000000≤x∧x≤10000000000):Vb A (Fa t A.length j) x :=
 Qy h.oa (by simp[Fa]) (fun i hi=>by rw[Mt t (by simpa [Fa] using hi)];exact h.b i j) hx
theorem Xk {A M:List Int} {t:List (List Int)} (h:Ot A M t) (j:Nat) (x:Int):0≤V A (Fa t A.length j) x∧V A (Fa t A.length j) x≤100000 :=
 Gb h.oa.asc (fun i hi=>by rw[Mt t hi];exact h.b i j) h.oa.pos x
theorem vb_row {A M:List Int} {t:List (List Int)} (h:Ot A M t) (alt:Int) {x:Int} (hx : -10000000000≤x∧x≤10000000000):Vb M (Ju A M t alt) x :=
 Qy h.om (by simp[Ju]) (fun i hi=>by unfold Ju;rw[Gw _ (by simpa [Ju] using hi)];exact Xk h i alt) hx
def Fill (n:Nat) (f:Nat→Int) (i:Nat) (l:List Int):Prop:=l.length=n∧∀ q,q < i→gi l q=f q
theorem Fill.set {n:Nat} {f:Nat→Int} {i:Nat} {l:List Int} (h:Fill n f i l) (hi:i < n) {v:Int} (hv:v=f i):Fill n f (i+1) (l.set i v):=by
 refine⟨by rw[List.length_set,h.1],fun q hq=>?_⟩
 unfold gi
 rw[List.getD_eq_getElem?_getD,List.getElem?_set]
 split
 ·rename_i e;subst e;rw[if_pos (by rw[h.1];exact hi),Option.getD_some,hv]
 ·have:=h.2 q (by omega)
  unfold gi at this
  rw[← List.getD_eq_getElem?_getD];exact this
theorem Fill.done {n:Nat} {f:Nat→Int} {l:List Int} (h:Fill n f n l):l=(List.range n).map f:=by
 apply List.ext_getElem?
 intro i
 by_cases hi:i < n
 ·have:=h.2 i hi
  unfold gi at this
  rw[List.getElem?_map,List.getElem?_range hi,Option.map_some,← this,List.getD_eq_getElem?_getD,List.getElem?_eq_getElem (by rw[h.1];exact hi),Option.getD_some]
 ·rw[List.getElem?_eq_none (by rw[h.1];omega),List.getElem?_eq_none (by simp;omega)]
theorem Fill.start (n:Nat) (f:Nat→Int) {l:List Int} (h:l.length=n):Fill n f 0 l:=⟨h,fun q hq=>by omega⟩
structure Cg (p:B4):Prop where
 A:aa p.Alts
 M:aa p.Masses
 tC:Ot p.Alts p.Masses p.Climb
 tF:Ot p.Alts p.Masses p.ClimbFlow
 tR:Ot p.Alts p.Masses p.Cruise
 bR:∀ i j,tb p.Cruise i j≤50000
 lD:p.Descent.length=p.Alts.length
 bD:∀ i,i < p.Descent.length→1≤gi p.Descent i∧gi p.Descent i≤10000
 lI:p.Idle.length=p.Alts.length
 bI:∀ i,i < p.Idle.length→0≤gi p.Idle i∧gi p.Idle i≤50000
 lX:p.MaxSpeed.length=p.Alts.length
 bX:∀ i,i < p.MaxSpeed.length→1≤gi p.MaxSpeed i∧gi p.MaxSpeed i≤1000
 ln:p.MinSpeed.length=p.Masses.length
 bn:∀ i,i < p.MinSpeed.length→1≤gi p.MinSpeed i∧gi p.MinSpeed i≤1000
 ceil : -200000≤p.Ceiling∧p.Ceiling≤6000000
 ref:1≤p.Ref∧p.Ref≤1000
 ext:0≤p.Extra∧p.Extra≤100
 cM:∀ i j,i < p.Alts.length→0 < j→j < p.Masses.length→tb p.Climb i j≤tb p.Climb i (j - 1)
 cA:∀ i j,0 < i→i < p.Alts.length→j < p.Masses.length→tb p.Climb i j≤tb p.Climb (i - 1) j
 cG:∀ i j,0 < i→i < p.Alts.length→j < p.Masses.length→tb p.Climb (i - 1) j - tb p.Climb i j≤gi p.Alts i - gi p.Alts (i - 1)
 fM:∀ i j,i < p.Alts.length→0 < j→j < p.Masses.length→tb p.ClimbFlow i (j - 1)≤tb p.ClimbFlow i j
 fA:∀ i j,0 < i→i < p.Alts.length→j < p.Masses.length→tb p.ClimbFlow i j≤tb p.ClimbFlow (i - 1) j
 rM:∀ i j,i < p.Alts.length→0 < j→j < p.Masses.length→tb p.Cruise i (j - 1)≤tb p.Cruise i j
 rA:∀ i j,0 < i→i < p.Alts.length→j < p.Masses.length→tb p.Cruise i j≤tb p.Cruise (i - 1) j
 dD:∀ i,0 < i→i < p.Alts.length→gi p.Descent (i - 1)≤gi p.Descent i
def gs (p:B4) (mass a:Int):Int:=if a < p.Ceiling then(if p.Ceiling < a+T p.Alts p.Masses p.Climb a mass then p.Ceiling else a+T p.Alts p.Masses p.Climb a mass)else a
def R (p:B4) (mass:Int):Nat→Int→Int
 | 0,a=>a
 | n+1,a=>R p mass n (gs p mass a)
theorem oq {p:B4} {mass a:Int} (h:gs p mass a=a):∀ n,R p mass n a=a
 | 0=>rfl
 | n+1=>by show R p mass n (gs p mass a)=a;rw[h];exact oq h n
theorem F1 {A M:List Int} {t:List (List Int)} (h:Ot A M t) (alt mass:Int):0≤T A M t alt mass∧T A M t alt mass≤100000 :=
 Gb h.om.asc (fun i hi=>by unfold Ju;rw[Gw _ hi];exact Xk h i alt) h.om.pos mass
theorem ue {p:B4} {mass a:Int} (h:a < p.Ceiling):gs p mass a=if p.Ceiling < a+T p.Alts p.Masses p.Climb a mass then p.Ceiling else a+T p.Alts p.Masses p.Climb a mass:=if_pos h
theorem gs_top {p:B4} {mass a:Int} (h:¬ a < p.Ceiling):gs p mass a=a:=if_neg h
theorem gs_in {p:B4} (F:Cg p) {mass a:Int} (h : -200000≤a∧a≤6000000) : -200000≤gs p mass a∧gs p mass a≤6000000:=by
 have hc:=F.ceil
 have hb:=F1 F.tC a mass
 unfold gs
 split
 ·split<;>omega
 ·exact h
variable {A M:List Int} {t:List (List Int)}
theorem bf {alt:Int} {j:Nat} (hj:j < M.length):gi (Ju A M t alt) j=V A (Fa t A.length j) alt:=Gw _ hj
theorem sf (h:Ot A M t) (hA:∀ i j,0 < i→i < A.length→j < M.length→tb t i j≤tb t (i - 1) j) {x y:Int} (hxy:x≤y) (mass:Int):T A M t y mass≤T A M t x mass:=by
 refine Sq h.om.asc (fun j hj=>?_) h.om.pos mass
 rw[bf hj,bf hj]
 exact sk h.oa.asc _ h.oa.pos (fun k h1 h2=>by rw[Mt t h2,Mt t (by omega)];exact hA k j h1 h2 hj) _ rfl hxy
theorem zh (h:Ot A M t) (hG:∀ i j,0 < i→i < A.length→j < M.length→tb t (i - 1) j - tb t i j≤gi A i - gi A (i - 1)) {x y:Int} (hxy:x≤y) (mass:Int):x+T A M t x mass≤y+T A M t y mass:=by
 have e:∀ z,V M ((List.range M.length).map fun j=>V A (Fa t A.length j) z+z) mass=T A M t z mass+z:=fun z =>
  V_add h.om.asc (l:=Ju A M t z) (fun i hi=>by rw[Gw _ hi,bf hi]) h.om.pos mass
 have hx:=e x
 have hy:=e y
 have:=Sq h.om.asc (l:=(List.range M.length).map fun j=>V A (Fa t A.length j) x+x) (l':=(List.range M.length).map fun j=>V A (Fa t A.length j) y+y) (fun j hj=>by
  rw[Gw _ hj,Gw _ hj]
  have:=ae h.oa.asc (Fa t A.length j) 1 (by omega) h.oa.pos (fun k h1 h2=>by
   rw[Mt t h2,Mt t (by omega)]
   have:=hG k j h1 h2 hj
   omega) _ rfl hxy
  omega) h.om.pos mass
 omega
variable {p:B4}
theorem kh (F:Cg p) (mass:Int) {a b:Int} (h:a≤b):gs p mass a≤gs p mass b:=by
 have h1:=zh F.tC F.cG h mass
 have hb:=F1 F.tC b mass
 have ha:=F1 F.tC a mass
 unfold gs
 split<;>split<;>(try split)<;>(try split)<;>omega
theorem gs_gain (F:Cg p) (mass:Int) {a b:Int} (h:a≤b):gs p mass b - b≤gs p mass a - a:=by
 have h1:=sf F.tC F.cA h mass
 have hb:=F1 F.tC b mass
 have ha:=F1 F.tC a mass
 unfold gs
 split<;>split<;>(try split)<;>(try split)<;>omega
theorem gs_up (F:Cg p) (mass a:Int):a≤gs p mass a:=by
 have ha:=F1 F.tC a mass
 unfold gs
 split<;>(try split)<;>omega
theorem s9 (F:Cg p) (mass:Int):∀ (n:Nat) {a b:Int},a≤b→R p mass n a≤R p mass n b
 | 0,_,_,h=>h
 | n+1,_,_,h=>s9 F mass n (kh F mass h)
theorem s8 (F:Cg p) (mass:Int):∀ (n:Nat) {a b:Int},a≤b→R p mass n b - b≤R p mass n a - a
 | 0,_,_,h=>by simp only[R];omega
 | n+1,a,b,h=>by
  have h1:=gs_gain F mass h
  have h2:=s8 F mass n (kh F mass h)
  simp only[R]
  omega
theorem R_up (F:Cg p) (mass:Int):∀ (n:Nat) (a:Int),a≤R p mass n a
 | 0,a=>Int.le_refl _
 | n+1,a=>Int.le_trans (gs_up F mass a) (R_up F mass n _)
theorem zg (F:Cg p) (mass:Int):∀ (n:Nat) (a:Int),-200000≤a∧a≤6000000 → -200000≤R p mass n a∧R p mass n a≤6000000
 | 0,_,h=>h
 | n+1,_,h=>zg F mass n _ (gs_in F h)
theorem AAj (mass:Int):∀ (n m:Nat) (a:Int),R p mass (n+m) a=R p mass m (R p mass n a)
 | 0,m,a=>by rw[Nat.zero_add];rfl
 | n+1,m,a=>by rw[show n+1+m=(n+m)+1 by omega];exact AAj mass n m _
end Go.Av.Air
set_option maxRecDepth 100000
namespace Go.Av.Air
theorem La {i n:Nat} (h:i < n) (hn:n≤maxLen):IntKind.wrap .i64 ((i:Int)+1)=(i:Int)+1:=by
 have:maxLen=9223372036854775807:=rfl
 exact Ah (by omega) (by omega)
theorem yz {i n:Nat} (h1:1≤i) (h:i < n) (hn:n≤maxLen):IntKind.wrap .i64 ((i:Int) - 1)=((i - 1:Nat):Int):=by
 have:maxLen=9223372036854775807:=rfl
 rw[Ah (by omega) (by omega)];omega
abbrev Ok (m:Option Int) (G:Prop):Prop:=∃ c,m=some c∧(c=0→G)
abbrev OkB (m:Option Bool) (P:Prop):Prop:=∃ a,m=some a∧(a=true→P)
theorem Ok.err {e:Int} {G:Prop} (he:e≠0):Ok (some e) G:=⟨e,rfl,fun h=>absurd h he⟩
theorem Ok.zero {G:Prop} (h:G):Ok (some 0) G:=⟨0,rfl,fun _=>h⟩
theorem Ue {c:Prop} [Decidable c] {K:Option Int} {e:Int} {G:Prop} (he:e≠0) (hK:¬ c→Ok K G):Ok (if c then some e else K) G:=by
 by_cases h:c
 ·rw[if_pos h];exact .err he
 ·rw[if_neg h];exact hK h
theorem gate1 {A:Option Bool} {K:Option Int} {e:Int} {P G:Prop} (hA:OkB A P) (he:e≠0) (hK:P→Ok K G):Ok (Option.bind (Option.bind A fun r=>some r) fun x=>if(!x)=true then some e else K) G:=by
 obtain⟨a,rfl,h⟩:=hA
 cases a with
 | false=>exact .err he
 | true=>exact hK (h rfl)
theorem Z4 {A B:Option Bool} {K:Option Int} {e:Int} {P Q G:Prop} (hA:OkB A P) (hB:P→OkB B Q) (he:e≠0) (hK:P→Q→Ok K G) :
  Ok (Option.bind (A.bind fun r0=>((if(!(!r0))=true then B else some default).bind fun r1=>some (r0,r1))) fun x=>if((!x.1) || (!x.2))=true then some e else K) G:=by
 obtain⟨a,rfl,h⟩:=hA
 cases a with
 | false=>exact .err he
 | true =>
  obtain⟨b,rfl,h2⟩:=hB (h rfl)
  cases b with
  | false=>exact .err he
  | true=>exact hK (h rfl) (h2 rfl)
theorem Ud {A B C:Option Bool} {K:Option Int} {e:Int} {P Q R G:Prop} (hA:OkB A P) (hB:P→OkB B Q) (hC:P→Q→OkB C R) (he:e≠0) (hK:P→Q→R→Ok K G) :
  Ok (Option.bind (A.bind fun r0=>((if(!(!r0))=true then B else some default).bind fun r1=>((if(!((!r0) || (!r1)))=true then C else some default).bind fun r2=>some (r0,r1,r2)))) fun x=>if(((!x.1) || (!x.2.1)) || (!x.2.2))=true then some e else K) G:=by
 obtain⟨a,rfl,h⟩:=hA
 cases a with
 | false=>exact .err he
 | true =>
  obtain⟨b,rfl,h2⟩:=hB (h rfl)
  cases b with
  | false=>exact .err he
  | true =>
   obtain⟨c,rfl,h3⟩:=hC (h rfl) (h2 rfl)
   cases c with
   | false=>exact .err he
   | true=>exact hK (h rfl) (h2 rfl) (h3 rfl)
theorem pt {A B C D:Option Bool} {K:Option Int} {e:Int} {P Q R S G:Prop} (hA:OkB A P) (hB:P→OkB B Q) (hC:P→Q→OkB C R) (hD:P→Q→R→OkB D S) (he:e≠0) (hK:P→Q→R→S→Ok K G) :
  Ok (Option.bind (A.bind fun r0=>((if(!(!r0))=true then B else some default).bind fun r1=>((if(!((!r0) || (!r1)))=true then C else some default).bind fun r2=>((if(!(((!r0) || (!r1)) || (!r2)))=true then D else some default).bind fun r3=>some (r0,r1,r2,r3))))) fun x=>if((((!x.1) || (!x.2.1)) || (!x.2.2.1)) || (!x.2.2.2))=true then some e else K) G:=by
 obtain⟨a,rfl,h⟩:=hA
 cases a with
 | false=>exact .err he
 | true =>
  obtain⟨b,rfl,h2⟩:=hB (h rfl)
  cases b with
  | false=>exact .err he
  | true =>
   obtain⟨c,rfl,h3⟩:=hC (h rfl) (h2 rfl)
   cases c with
   | false=>exact .err he
   | true =>
    obtain⟨d,rfl,h4⟩:=hD (h rfl) (h2 rfl) (h3 rfl)
    cases d with
    | false=>exact .err he
    | true=>exact hK (h rfl) (h2 rfl) (h3 rfl) (h4 rfl)
theorem D1 {b:Int→Option (Int⊕(Unit⊕Bool))} {k:Unit→Option Bool} (i0 n:Nat) (P:Nat→Prop) {G:Prop} (hb:∀ i:Nat,i0≤i→i < n→(P i∧b i=some (.inl ((i:Int)+1)))∨b i=some (.inr (.inr false))) (hd:∀ i:Nat,n≤i→b i=some (.inr (.inl ())))
  (hk:(∀ i,i0≤i→i < n→P i)→OkB (k ()) G):OkB ((Ad b i0).bind (A5 k)) G:=by
 have key:∀ m i:Nat,n - i=m→i0≤i→(∀ j,i0≤j→j < i→j < n→P j)→OkB ((Ad b i).bind (A5 k)) G:=by
  intro m
  induction m with
  | zero =>
   intro i hi h0 hp
   rw[G5,hd i (by omega)]
   exact hk fun j h1 h2=>hp j h1 (by omega) h2
  | succ m ih =>
   intro i hi h0 hp
   rw[G5]
   rcases hb i h0 (by omega) with⟨h1,h2⟩ | h2
   ·rw[h2]
    exact ih (i+1) (by omega) (by omega) fun j j1 j2 j3=>by
     by_cases e:j=i
     ·rw[e];exact h1
     ·exact hp j j1 (by omega) j3
   ·rw[h2];exact⟨false,rfl,fun h=>by cases h⟩
 exact key (n - i0) i0 rfl (Nat.le_refl _) fun j h1 h2=>by omega
theorem OkB.true_ {G:Prop} (h:G):OkB (some true) G:=⟨true,rfl,fun _=>h⟩
theorem Ma {n lo hi:Int}:(∃ a,(some (decide (lo≤n)&&decide (n≤hi)):Option Bool)=some a∧(a=true→lo≤n∧n≤hi)):=⟨_,rfl,fun h=>by simpa only[Bool.and_eq_true,decide_eq_true_eq] using h⟩
theorem M17 (a0 a1 a2:Int):Eu a0 a1 a2=((some ((decide (a1≤a0))&&(decide (a0≤a2)))):Option (Bool)):=by kernel_rfl
theorem Ea (n lo hi:Int):OkB (Eu n lo hi) (lo≤n∧n≤hi):=by rw[M17];exact Ma
theorem Kf (n lo hi:Int):Eu n lo hi=some (decide (lo≤n)&&decide (n≤hi)):=M17 _ _ _
theorem M73 (a0:List Int) (a1 a2:Int):Hg a0 a1 a2=((Option.bind (some (.inl ())) (A5 fun(_:Unit)=>(Option.bind (Option.bind (some (.inl ())) (A5 fun(_:Unit)=>(Ad (fun(s1:Int)=>((if(decide (s1 < (a0.length:Int)))=true then(if(0≤s1)then(if(s1 < (a0.length:Int))then(Option.bind (Option.bind (Eu (a0.getD s1.toNat default) a1 a2) fun r=>some r) fun x4=>(if(!x4)=true then(some (.inr (.inr (false))))else(some (.inl (IntKind.wrap .i64 (s1+1))))))else none)else none)else(some (.inr (.inl ())))):Option ((Int)⊕((Unit)⊕(Bool))))) (0:Int)))) (A5 fun(_:Unit)=>(some true))))):Option (Bool)):=by kernel_rfl
noncomputable abbrev cg (a0:List Int) (a1:Int) (a2:Int):(Int)→Option ((Int)⊕((Unit)⊕(Bool))):=(fun(s1:Int)=>((if(decide (s1 < (a0.length:Int)))=true then(if(0≤s1)then(if(s1 < (a0.length:Int))then(Option.bind (Option.bind (Eu (a0.getD s1.toNat default) a1 a2) fun r=>some r) fun x4=>(if(!x4)=true then(some (.inr (.inr (false))))else(some (.inl (IntKind.wrap .i64 (s1+1))))))else none)else none)else(some (.inr (.inl ())))):Option ((Int)⊕((Unit)⊕(Bool)))))
theorem A73  (a0:List Int) (a1 a2:Int):Hg a0 a1 a2=((Option.bind (some (.inl ())) (A5 fun(_:Unit)=>(Option.bind (Option.bind (some (.inl ())) (A5 fun(_:Unit)=>(Ad (cg a0 a1 a2) (0:Int)))) (A5 fun(_:Unit)=>(some true))))):Option (Bool)):=M73 _ _ _
theorem M74 (a0:List (List Int)) (a1 a2:Int):Ro a0 a1 a2=((Option.bind (some (.inl ())) (A5 fun(_:Unit)=>(Option.bind (Option.bind (some (.inl ())) (A5 fun(_:Unit)=>(Ad (fun(s1:Int)=>((if(decide (s1 < (a0.length:Int)))=true then(if(0≤s1)then(if(s1 < (a0.length:Int))then(Option.bind (Option.bind (Hg (a0.getD s1.toNat default) a1 a2) fun r=>some r) fun x4=>(if(!x4)=true then(some (.inr (.inr (false))))else(some (.inl (IntKind.wrap .i64 (s1+1))))))else none)else none)else(some (.inr (.inl ())))):Option ((Int)⊕((Unit)⊕(Bool))))) (0:Int)))) (A5 fun(_:Unit)=>(some true))))):Option (Bool)):=by kernel_rfl
noncomputable abbrev ci (a0:List (List Int)) (a1:Int) (a2:Int):(Int)→Option ((Int)⊕((Unit)⊕(Bool))):=(fun(s1:Int)=>((if(decide (s1 < (a0.length:Int)))=true then(if(0≤s1)then(if(s1 < (a0.length:Int))then(Option.bind (Option.bind (Hg (a0.getD s1.toNat default) a1 a2) fun r=>some r) fun x4=>(if(!x4)=true then(some (.inr (.inr (false))))else(some (.inl (IntKind.wrap .i64 (s1+1))))))else none)else none)else(some (.inr (.inl ())))):Option ((Int)⊕((Unit)⊕(Bool)))))
theorem A74  (a0:List (List Int)) (a1 a2:Int):Ro a0 a1 a2=((Option.bind (some (.inl ())) (A5 fun(_:Unit)=>(Option.bind (Option.bind (some (.inl ())) (A5 fun(_:Unit)=>(Ad (ci a0 a1 a2) (0:Int)))) (A5 fun(_:Unit)=>(some true))))):Option (Bool)):=M74 _ _ _
theorem M71 (a0:B4) (a1:List (List Int)):Rn a0 a1=((Option.bind (some (.inl ())) (A5 fun(_:Unit)=>(Option.bind (Option.bind (some (.inl ())) (A5 fun(_:Unit)=>(Ad (fun(s1:Int)=>((if(decide (s1 < (a1.length:Int)))=true then(if(0≤s1)then(if(s1 < (a1.length:Int))then(if(((a1.getD s1.toNat default).length:Int) != (a0.Masses.length:Int))=true then(some (.inr (.inr (false))))else(some (.inl (IntKind.wrap .i64 (s1+1)))))else none)else none)else(some (.inr (.inl ())))):Option ((Int)⊕((Unit)⊕(Bool))))) (0:Int)))) (A5 fun(_:Unit)=>(some ((a1.length:Int)==(a0.Alts.length:Int))))))):Option (Bool)):=by kernel_rfl
noncomputable abbrev cd (a1:List (List Int)) (a0:B4):(Int)→Option ((Int)⊕((Unit)⊕(Bool))):=(fun(s1:Int)=>((if(decide (s1 < (a1.length:Int)))=true then(if(0≤s1)then(if(s1 < (a1.length:Int))then(if(((a1.getD s1.toNat default).length:Int) != (a0.Masses.length:Int))=true then(some (.inr (.inr (false))))else(some (.inl (IntKind.wrap .i64 (s1+1)))))else none)else none)else(some (.inr (.inl ())))):Option ((Int)⊕((Unit)⊕(Bool)))))
theorem A71  (a0:B4) (a1:List (List Int)):Rn a0 a1=((Option.bind (some (.inl ())) (A5 fun(_:Unit)=>(Option.bind (Option.bind (some (.inl ())) (A5 fun(_:Unit)=>(Ad (cd a1 a0) (0:Int)))) (A5 fun(_:Unit)=>(some ((a1.length:Int)==(a0.Alts.length:Int))))))):Option (Bool)):=M71 _ _
theorem M72 (a0:List Int):Y3 a0=((Option.bind (some (.inl ())) (A5 fun(_:Unit)=>(Option.bind (Option.bind (some (.inl ())) (A5 fun(_:Unit)=>(Ad (fun(s1:Int)=>((if(decide (s1 < (a0.length:Int)))=true then(if(0≤s1)then(if(s1 < (a0.length:Int))then(if(0≤(IntKind.wrap .i64 (s1 - 1)))then(if((IntKind.wrap .i64 (s1 - 1)) < (a0.length:Int))then(if(decide ((a0.getD s1.toNat default)≤(a0.getD (IntKind.wrap .i64 (s1 - 1)).toNat default)))=true then(some (.inr (.inr (false))))else(some (.inl (IntKind.wrap .i64 (s1+1)))))else none)else none)else none)else none)else(some (.inr (.inl ())))):Option ((Int)⊕((Unit)⊕(Bool))))) (1:Int)))) (A5 fun(_:Unit)=>(some true))))):Option (Bool)):=by kernel_rfl
noncomputable abbrev cf (a0:List Int):(Int)→Option ((Int)⊕((Unit)⊕(Bool))):=(fun(s1:Int)=>((if(decide (s1 < (a0.length:Int)))=true then(if(0≤s1)then(if(s1 < (a0.length:Int))then(if(0≤(IntKind.wrap .i64 (s1 - 1)))then(if((IntKind.wrap .i64 (s1 - 1)) < (a0.length:Int))then(if(decide ((a0.getD s1.toNat default)≤(a0.getD (IntKind.wrap .i64 (s1 - 1)).toNat default)))=true then(some (.inr (.inr (false))))else(some (.inl (IntKind.wrap .i64 (s1+1)))))else none)else none)else none)else none)else(some (.inr (.inl ())))):Option ((Int)⊕((Unit)⊕(Bool)))))
theorem A72  (a0:List Int):Y3 a0=((Option.bind (some (.inl ())) (A5 fun(_:Unit)=>(Option.bind (Option.bind (some (.inl ())) (A5 fun(_:Unit)=>(Ad (cf a0) (1:Int)))) (A5 fun(_:Unit)=>(some true))))):Option (Bool)):=M72 _
theorem M77 (a0:List Int) (a1:Int):Lw a0 a1=((Option.bind (some (.inl ())) (A5 fun(_:Unit)=>(Option.bind (Option.bind (some (.inl ())) (A5 fun(_:Unit)=>(Ad (fun(s1:Int)=>((if(decide (s1 < (a0.length:Int)))=true then(if(0≤s1)then(if(s1 < (a0.length:Int))then(if(0≤(IntKind.wrap .i64 (s1 - 1)))then(if((IntKind.wrap .i64 (s1 - 1)) < (a0.length:Int))then(if(decide ((IntKind.wrap .i64 (a1 * (a0.getD s1.toNat default))) < (IntKind.wrap .i64 (a1 * (a0.getD (IntKind.wrap .i64 (s1 - 1)).toNat default)))))=true then(some (.inr (.inr (false))))else(some (.inl (IntKind.wrap .i64 (s1+1)))))else none)else none)else none)else none)else(some (.inr (.inl ())))):Option ((Int)⊕((Unit)⊕(Bool))))) (1:Int)))) (A5 fun(_:Unit)=>(some true))))):Option (Bool)):=by kernel_rfl
noncomputable abbrev cl (a0:List Int) (a1:Int):(Int)→Option ((Int)⊕((Unit)⊕(Bool))):=(fun(s1:Int)=>((if(decide (s1 < (a0.length:Int)))=true then(if(0≤s1)then(if(s1 < (a0.length:Int))then(if(0≤(IntKind.wrap .i64 (s1 - 1)))then(if((IntKind.wrap .i64 (s1 - 1)) < (a0.length:Int))then(if(decide ((IntKind.wrap .i64 (a1 * (a0.getD s1.toNat default))) < (IntKind.wrap .i64 (a1 * (a0.getD (IntKind.wrap .i64 (s1 - 1)).toNat default)))))=true then(some (.inr (.inr (false))))else(some (.inl (IntKind.wrap .i64 (s1+1)))))else none)else none)else none)else none)else(some (.inr (.inl ())))):Option ((Int)⊕((Unit)⊕(Bool)))))
theorem A77  (a0:List Int) (a1:Int):Lw a0 a1=((Option.bind (some (.inl ())) (A5 fun(_:Unit)=>(Option.bind (Option.bind (some (.inl ())) (A5 fun(_:Unit)=>(Ad (cl a0 a1) (1:Int)))) (A5 fun(_:Unit)=>(some true))))):Option (Bool)):=M77 _ _
theorem M75 (a0:List (List Int)) (a1:Int):Rp a0 a1=((Option.bind (some (.inl ())) (A5 fun(_:Unit)=>(Option.bind (Option.bind (some (.inl ())) (A5 fun(_:Unit)=>(Ad (fun(s1:Int)=>((Option.bind (if(decide (s1 < (a0.length:Int)))=true then(some (.inl ()))else(some (.inr (.inr (.inl ()))))) (A5 fun(_:Unit)=>(Option.bind (Option.bind (if(0≤s1)then(if(s1 < (a0.length:Int))then(Option.bind (Option.bind (Lw (a0.getD s1.toNat default) a1) fun r=>some r) fun x4=>(if(!x4)=true then(some (.inr (.inr (.inr (.inr (false))))))else(some (.inl ()))))else none)else none) (A5 fun(_:Unit)=>(Ad (fun(s2:Int)=>((if(decide (s2 < ((a0.getD s1.toNat default).length:Int)))=true then(if(decide (0 < s1))=true→(0≤s2)then(if(decide (0 < s1))=true→(s2 < ((a0.getD s1.toNat default).length:Int))then(if(decide (0 < s1))=true→(0≤(IntKind.wrap .i64 (s1 - 1)))then(if(decide (0 < s1))=true→((IntKind.wrap .i64 (s1 - 1)) < (a0.length:Int))then(if(decide (0 < s1))=true→(0≤s2)then(if(decide (0 < s1))=true→(s2 < ((a0.getD (IntKind.wrap .i64 (s1 - 1)).toNat default).length:Int))then(if((decide (0 < s1))&&(decide (((a0.getD (IntKind.wrap .i64 (s1 - 1)).toNat default).getD s2.toNat default) < ((a0.getD s1.toNat default).getD s2.toNat default))))=true then(some (.inr (.inr (.inr (.inr (false))))))else(some (.inl (IntKind.wrap .i64 (s2+1)))))else none)else none)else none)else none)else none)else none)else(some (.inr (.inl ())))):Option ((Int)⊕((Unit)⊕((Int)⊕((Unit)⊕(Bool))))))) (0:Int)))) (A5 fun(_:Unit)=>(some (.inl (IntKind.wrap .i64 (s1+1)))))))):Option ((Int)⊕((Unit)⊕(Bool))))) (0:Int)))) (A5 fun(_:Unit)=>(some true))))):Option (Bool)):=by kernel_rfl
noncomputable abbrev Pc (a0:List (List Int)) (s1:Int):(Int)→Option ((Int)⊕((Unit)⊕((Int)⊕((Unit)⊕(Bool))))):=(fun(s2:Int)=>((if(decide (s2 < ((a0.getD s1.toNat default).length:Int)))=true then(if(decide (0 < s1))=true→(0≤s2)then(if(decide (0 < s1))=true→(s2 < ((a0.getD s1.toNat default).length:Int))then(if(decide (0 < s1))=true→(0≤(IntKind.wrap .i64 (s1 - 1)))then(if(decide (0 < s1))=true→((IntKind.wrap .i64 (s1 - 1)) < (a0.length:Int))then(if(decide (0 < s1))=true→(0≤s2)then(if(decide (0 < s1))=true→(s2 < ((a0.getD (IntKind.wrap .i64 (s1 - 1)).toNat default).length:Int))then(if((decide (0 < s1))&&(decide (((a0.getD (IntKind.wrap .i64 (s1 - 1)).toNat default).getD s2.toNat default) < ((a0.getD s1.toNat default).getD s2.toNat default))))=true then(some (.inr (.inr (.inr (.inr (false))))))else(some (.inl (IntKind.wrap .i64 (s2+1)))))else none)else none)else none)else none)else none)else none)else(some (.inr (.inl ())))):Option ((Int)⊕((Unit)⊕((Int)⊕((Unit)⊕(Bool)))))))
noncomputable abbrev cj (a0:List (List Int)) (a1:Int):(Int)→Option ((Int)⊕((Unit)⊕(Bool))):=(fun(s1:Int)=>((Option.bind (if(decide (s1 < (a0.length:Int)))=true then(some (.inl ()))else(some (.inr (.inr (.inl ()))))) (A5 fun(_:Unit)=>(Option.bind (Option.bind (if(0≤s1)then(if(s1 < (a0.length:Int))then(Option.bind (Option.bind (Lw (a0.getD s1.toNat default) a1) fun r=>some r) fun x4=>(if(!x4)=true then(some (.inr (.inr (.inr (.inr (false))))))else(some (.inl ()))))else none)else none) (A5 fun(_:Unit)=>(Ad (Pc a0 s1) (0:Int)))) (A5 fun(_:Unit)=>(some (.inl (IntKind.wrap .i64 (s1+1)))))))):Option ((Int)⊕((Unit)⊕(Bool)))))
theorem A75  (a0:List (List Int)) (a1:Int):Rp a0 a1=((Option.bind (some (.inl ())) (A5 fun(_:Unit)=>(Option.bind (Option.bind (some (.inl ())) (A5 fun(_:Unit)=>(Ad (cj a0 a1) (0:Int)))) (A5 fun(_:Unit)=>(some true))))):Option (Bool)):=M75 _ _
theorem M76 (a0:B4):l0 a0=((Option.bind (some (.inl ())) (A5 fun(_:Unit)=>(Option.bind (Option.bind (some (.inl ())) (A5 fun(_:Unit)=>(Ad (fun(s1:Int)=>((Option.bind (if(decide (s1 < (a0.Alts.length:Int)))=true then(some (.inl ()))else(some (.inr (.inr (.inl ()))))) (A5 fun(_:Unit)=>(Option.bind (Option.bind (if(0≤s1)then(if(s1 < (a0.Climb.length:Int))then(some (.inl ()))else none)else none) (A5 fun(_:Unit)=>(Ad (fun(s2:Int)=>((if(decide (s2 < ((a0.Climb.getD s1.toNat default).length:Int)))=true then(if(0≤(IntKind.wrap .i64 (s1 - 1)))then(if((IntKind.wrap .i64 (s1 - 1)) < (a0.Climb.length:Int))then(if(0≤s2)then(if(s2 < ((a0.Climb.getD (IntKind.wrap .i64 (s1 - 1)).toNat default).length:Int))then(if(0≤s1)then(if(s1 < (a0.Climb.length:Int))then(if(0≤s2)then(if(s2 < ((a0.Climb.getD s1.toNat default).length:Int))then(if(0≤s1)then(if(s1 < (a0.Alts.length:Int))then(if(0≤(IntKind.wrap .i64 (s1 - 1)))then(if((IntKind.wrap .i64 (s1 - 1)) < (a0.Alts.length:Int))then(if(decide ((IntKind.wrap .i64 ((a0.Alts.getD s1.toNat default) - (a0.Alts.getD (IntKind.wrap .i64 (s1 - 1)).toNat default))) < (IntKind.wrap .i64 (((a0.Climb.getD (IntKind.wrap .i64 (s1 - 1)).toNat default).getD s2.toNat default) - ((a0.Climb.getD s1.toNat default).getD s2.toNat default)))))=true then(some (.inr (.inr (.inr (.inr (false))))))else(some (.inl (IntKind.wrap .i64 (s2+1)))))else none)else none)else none)else none)else none)else none)else none)else none)else none)else none)else none)else none)else(some (.inr (.inl ())))):Option ((Int)⊕((Unit)⊕((Int)⊕((Unit)⊕(Bool))))))) (0:Int)))) (A5 fun(_:Unit)=>(some (.inl (IntKind.wrap .i64 (s1+1)))))))):Option ((Int)⊕((Unit)⊕(Bool))))) (1:Int)))) (A5 fun(_:Unit)=>(some true))))):Option (Bool)):=by kernel_rfl
noncomputable abbrev Ux (a0:B4) (s1:Int):(Int)→Option ((Int)⊕((Unit)⊕((Int)⊕((Unit)⊕(Bool))))):=(fun(s2:Int)=>((if(decide (s2 < ((a0.Climb.getD s1.toNat default).length:Int)))=true then(if(0≤(IntKind.wrap .i64 (s1 - 1)))then(if((IntKind.wrap .i64 (s1 - 1)) < (a0.Climb.length:Int))then(if(0≤s2)then(if(s2 < ((a0.Climb.getD (IntKind.wrap .i64 (s1 - 1)).toNat default).length:Int))then(if(0≤s1)then(if(s1 < (a0.Climb.length:Int))then(if(0≤s2)then(if(s2 < ((a0.Climb.getD s1.toNat default).length:Int))then(if(0≤s1)then(if(s1 < (a0.Alts.length:Int))then(if(0≤(IntKind.wrap .i64 (s1 - 1)))then(if((IntKind.wrap .i64 (s1 - 1)) < (a0.Alts.length:Int))then(if(decide ((IntKind.wrap .i64 ((a0.Alts.getD s1.toNat default) - (a0.Alts.getD (IntKind.wrap .i64 (s1 - 1)).toNat default))) < (IntKind.wrap .i64 (((a0.Climb.getD (IntKind.wrap .i64 (s1 - 1)).toNat default).getD s2.toNat default) - ((a0.Climb.getD s1.toNat default).getD s2.toNat default)))))=true then(some (.inr (.inr (.inr (.inr (false))))))else(some (.inl (IntKind.wrap .i64 (s2+1)))))else none)else none)else none)else none)else none)else none)else none)else none)else none)else none)else none)else none)else(some (.inr (.inl ())))):Option ((Int)⊕((Unit)⊕((Int)⊕((Unit)⊕(Bool)))))))
noncomputable abbrev ck (a0:B4):(Int)→Option ((Int)⊕((Unit)⊕(Bool))):=(fun(s1:Int)=>((Option.bind (if(decide (s1 < (a0.Alts.length:Int)))=true then(some (.inl ()))else(some (.inr (.inr (.inl ()))))) (A5 fun(_:Unit)=>(Option.bind (Option.bind (if(0≤s1)then(if(s1 < (a0.Climb.length:Int))then(some (.inl ()))else none)else none) (A5 fun(_:Unit)=>(Ad (Ux a0 s1) (0:Int)))) (A5 fun(_:Unit)=>(some (.inl (IntKind.wrap .i64 (s1+1)))))))):Option ((Int)⊕((Unit)⊕(Bool)))))
theorem A76  (a0:B4):l0 a0=((Option.bind (some (.inl ())) (A5 fun(_:Unit)=>(Option.bind (Option.bind (some (.inl ())) (A5 fun(_:Unit)=>(Ad (ck a0) (1:Int)))) (A5 fun(_:Unit)=>(some true))))):Option (Bool)):=M76 _
theorem M70 (a0:List UInt8) (a1:Int):v4 a0 a1=((Option.bind (if(!(((a0.length:Int)==(0:Int)) || (decide (a1 < (a0.length:Int)))))=true→((0:Int)≤(0:Int))then(if(!(((a0.length:Int)==(0:Int)) || (decide (a1 < (a0.length:Int)))))=true→(0 < (a0.length:Int))then(if(!((((a0.length:Int)==(0:Int)) || (decide (a1 < (a0.length:Int)))) || (decide ((Af a0 (0:Int).toNat) < 65))))=true→((0:Int)≤(0:Int))then(if(!((((a0.length:Int)==(0:Int)) || (decide (a1 < (a0.length:Int)))) || (decide ((Af a0 (0:Int).toNat) < 65))))=true→(0 < (a0.length:Int))then(if(((((a0.length:Int)==(0:Int)) || (decide (a1 < (a0.length:Int)))) || (decide ((Af a0 (0:Int).toNat) < 65))) || (decide (90 < (Af a0 (0:Int).toNat))))=true then(some (.inr (false)))else(some (.inl ())))else none)else none)else none)else none) (A5 fun(_:Unit)=>(Option.bind (Option.bind (some (.inl ())) (A5 fun(_:Unit)=>(Ad (fun(s1:Int)=>((if(decide (s1 < (a0.length:Int)))=true then(if(0≤s1)then(if(s1 < (a0.length:Int))then(if(!(decide ((Af a0 s1.toNat) < 65)))=true→(0≤s1)then(if(!(decide ((Af a0 s1.toNat) < 65)))=true→(s1 < (a0.length:Int))then(if((decide ((Af a0 s1.toNat) < 65)) || (decide (90 < (Af a0 s1.toNat))))=true→(0≤s1)then(if((decide ((Af a0 s1.toNat) < 65)) || (decide (90 < (Af a0 s1.toNat))))=true→(s1 < (a0.length:Int))then(if(((decide ((Af a0 s1.toNat) < 65)) || (decide (90 < (Af a0 s1.toNat))))&&(!(decide ((Af a0 s1.toNat) < 48))))=true→(0≤s1)then(if(((decide ((Af a0 s1.toNat) < 65)) || (decide (90 < (Af a0 s1.toNat))))&&(!(decide ((Af a0 s1.toNat) < 48))))=true→(s1 < (a0.length:Int))then(if(((decide ((Af a0 s1.toNat) < 65)) || (decide (90 < (Af a0 s1.toNat))))&&((decide ((Af a0 s1.toNat) < 48)) || (decide (57 < (Af a0 s1.toNat)))))=true then(some (.inr (.inr (false))))else(some (.inl (IntKind.wrap .i64 (s1+1)))))else none)else none)else none)else none)else none)else none)else none)else none)else(some (.inr (.inl ())))):Option ((Int)⊕((Unit)⊕(Bool))))) (0:Int)))) (A5 fun(_:Unit)=>(some true))))):Option (Bool)):=by kernel_rfl
noncomputable abbrev ca (a0:List UInt8):(Int)→Option ((Int)⊕((Unit)⊕(Bool))):=(fun(s1:Int)=>((if(decide (s1 < (a0.length:Int)))=true then(if(0≤s1)then(if(s1 < (a0.length:Int))then(if(!(decide ((Af a0 s1.toNat) < 65)))=true→(0≤s1)then(if(!(decide ((Af a0 s1.toNat) < 65)))=true→(s1 < (a0.length:Int))then(if((decide ((Af a0 s1.toNat) < 65)) || (decide (90 < (Af a0 s1.toNat))))=true→(0≤s1)then(if((decide ((Af a0 s1.toNat) < 65)) || (decide (90 < (Af a0 s1.toNat))))=true→(s1 < (a0.length:Int))then(if(((decide ((Af a0 s1.toNat) < 65)) || (decide (90 < (Af a0 s1.toNat))))&&(!(decide ((Af a0 s1.toNat) < 48))))=true→(0≤s1)then(if(((decide ((Af a0 s1.toNat) < 65)) || (decide (90 < (Af a0 s1.toNat))))&&(!(decide ((Af a0 s1.toNat) < 48))))=true→(s1 < (a0.length:Int))then(if(((decide ((Af a0 s1.toNat) < 65)) || (decide (90 < (Af a0 s1.toNat))))&&((decide ((Af a0 s1.toNat) < 48)) || (decide (57 < (Af a0 s1.toNat)))))=true then(some (.inr (.inr (false))))else(some (.inl (IntKind.wrap .i64 (s1+1)))))else none)else none)else none)else none)else none)else none)else none)else none)else(some (.inr (.inl ())))):Option ((Int)⊕((Unit)⊕(Bool)))))
theorem A70  (a0:List UInt8) (a1:Int):v4 a0 a1=((Option.bind (if(!(((a0.length:Int)==(0:Int)) || (decide (a1 < (a0.length:Int)))))=true→((0:Int)≤(0:Int))then(if(!(((a0.length:Int)==(0:Int)) || (decide (a1 < (a0.length:Int)))))=true→(0 < (a0.length:Int))then(if(!((((a0.length:Int)==(0:Int)) || (decide (a1 < (a0.length:Int)))) || (decide ((Af a0 (0:Int).toNat) < 65))))=true→((0:Int)≤(0:Int))then(if(!((((a0.length:Int)==(0:Int)) || (decide (a1 < (a0.length:Int)))) || (decide ((Af a0 (0:Int).toNat) < 65))))=true→(0 < (a0.length:Int))then(if(((((a0.length:Int)==(0:Int)) || (decide (a1 < (a0.length:Int)))) || (decide ((Af a0 (0:Int).toNat) < 65))) || (decide (90 < (Af a0 (0:Int).toNat))))=true then(some (.inr (false)))else(some (.inl ())))else none)else none)else none)else none) (A5 fun(_:Unit)=>(Option.bind (Option.bind (some (.inl ())) (A5 fun(_:Unit)=>(Ad (ca a0) (0:Int)))) (A5 fun(_:Unit)=>(some true))))):Option (Bool)):=M70 _ _
theorem Dm {i n:Nat} (h:n≤i):decide ((i:Int) < (n:Int))=false:=decide_eq_false (by omega)
theorem Kr {l:List Int} (lo hi:Int) (hl:l.length≤maxLen):OkB (Hg l lo hi) (∀ i,i < l.length→lo≤gi l i∧gi l i≤hi):=by
 rw[A73]
 simp only[Option.bind_some,A5]
 refine D1 0 l.length (fun i=>lo≤gi l i∧gi l i≤hi) (fun i _ hi'=>?_) (fun i h=>by simp only[cg,Dm h,Bool.false_eq_true,if_false]) (fun h=>.true_ fun i hi'=>h i (Nat.zero_le _) hi')
 simp only[cg,As hi',decide_true,if_true,Int.toNat_natCast,Kf,Option.bind_some,La hi' hl]
 unfold gi
 by_cases c:lo≤l.getD i default∧l.getD i default≤hi
 ·left;refine⟨c,?_⟩;rw[decide_eq_true c.1,decide_eq_true c.2];rfl
 ·right
  have:(decide (lo≤l.getD i default)&&decide (l.getD i default≤hi))=false:=by simpa using c
  rw[this];rfl
def Rv (t:List (List Int)):Prop:=t.length≤maxLen∧∀ l∈t,l.length≤maxLen
theorem Nm {t:List (List Int)} (lo hi:Int) (ht:Rv t):OkB (Ro t lo hi) (∀ i,i < t.length→∀ j,j < (t.getD i default).length→lo≤tb t i j∧tb t i j≤hi):=by
 rw[A74]
 simp only[Option.bind_some,A5]
 refine D1 0 t.length (fun i=>∀ j,j < (t.getD i default).length→lo≤tb t i j∧tb t i j≤hi) (fun i _ hi'=>?_) (fun i h=>by simp only[ci,Dm h,Bool.false_eq_true,if_false]) (fun h=>.true_ fun i hi'=>h i (Nat.zero_le _) hi')
 obtain⟨a,e,h⟩:=Kr lo hi (l:=t.getD i default) (ht.2 _ (Nt hi'))
 simp only[ci,As hi',decide_true,if_true,Int.toNat_natCast,e,Option.bind_some,La hi' ht.1]
 cases a with
 | false=>right;rfl
 | true=>left;exact⟨h rfl,rfl⟩
theorem Q8 {p:B4} {t:List (List Int)} (ht:Rv t):OkB (Rn p t) (Sh p.Masses.length t∧t.length=p.Alts.length):=by
 rw[A71]
 simp only[Option.bind_some,A5]
 refine D1 0 t.length (fun i=>(t.getD i default).length=p.Masses.length) (fun i _ hi'=>?_) (fun i h=>by simp only[cd,Dm h,Bool.false_eq_true,if_false]) (fun h=>⟨_,rfl,fun e=>⟨fun i hi'=>h i (Nat.zero_le _) hi',by have:=beq_iff_eq.1 e;omega⟩⟩)
 simp only[cd,As hi',decide_true,if_true,Int.toNat_natCast,La hi' ht.1]
 by_cases c:(t.getD i default).length=p.Masses.length
 ·left
  have:(((t.getD i default).length:Int) != (p.Masses.length:Int))=false:=by rw[bne_eq_false_iff_eq];omega
  rw[this];exact⟨c,rfl⟩
 ·right
  have:(((t.getD i default).length:Int) != (p.Masses.length:Int))=true:=by rw[bne_iff_ne];omega
  rw[this];rfl
theorem We {l:List Int} (h1:∀ i,1≤i→i < l.length→gi l (i - 1) < gi l i):Jc l:=by
 have:∀ (d i:Nat),i+(d+1) < l.length→gi l i < gi l (i+(d+1)):=by
  intro d
  induction d with
  | zero=>intro i hi;simpa using h1 (i+1) (by omega) hi
  | succ d ih =>
   intro i hi
   have a:=ih i (by omega)
   have b:=h1 (i+(d+1)+1) (by omega) (by omega)
   rw[Nat.add_sub_cancel]at b
   exact Int.lt_trans a b
 intro i j hij hj
 have e:i+((j - i - 1)+1)=j:=by omega
 have:=this (j - i - 1) i (by omega)
 rwa [e]at this
theorem Ou {l:List Int} (hl:l.length≤maxLen):OkB (Y3 l) (Jc l):=by
 rw[A72]
 simp only[Option.bind_some,A5]
 refine D1 1 l.length (fun i=>gi l (i - 1) < gi l i) (fun i h1 hi'=>?_) (fun i h=>by simp only[cf,Dm h,Bool.false_eq_true,if_false]) (fun h=>.true_ (We h))
 have z:=As (show i - 1 < l.length by omega)
 simp only[cf,As hi',z,decide_true,if_true,Int.toNat_natCast,yz h1 hi' hl,La hi' hl]
 unfold gi
 by_cases c:l.getD (i - 1) default < l.getD i default
 ·left
  have:decide (l.getD i default≤l.getD (i - 1) default)=false:=decide_eq_false (by omega)
  rw[this];exact⟨c,rfl⟩
 ·right
  have:decide (l.getD i default≤l.getD (i - 1) default)=true:=decide_eq_true (by omega)
  rw[this];rfl
def sm (l:List Int):Prop:=∀ i,i < l.length → -1000000000000≤gi l i∧gi l i≤1000000000000
theorem Jm {l:List Int} {sg:Int} (hl:l.length≤maxLen) (hs:sg=1∨sg = -1) (hb:sm l):OkB (Lw l sg) (∀ i,0 < i→i < l.length→sg * gi l (i - 1)≤sg * gi l i):=by
 rw[A77]
 simp only[Option.bind_some,A5]
 refine D1 1 l.length (fun i=>sg * gi l (i - 1)≤sg * gi l i) (fun i h1 hi'=>?_) (fun i h=>by simp only[cl,Dm h,Bool.false_eq_true,if_false]) (fun h=>.true_ h)
 have z:=As (show i - 1 < l.length by omega)
 have b1:=hb i hi'
 have b2:=hb (i - 1) (by omega)
 have w1:IntKind.wrap .i64 (sg * gi l i)=sg * gi l i:=by rcases hs with rfl | rfl<;>exact Ah (by omega) (by omega)
 have w2:IntKind.wrap .i64 (sg * gi l (i - 1))=sg * gi l (i - 1):=by rcases hs with rfl | rfl<;>exact Ah (by omega) (by omega)
 unfold gi at w1 w2 ⊢
 simp only[cl,As hi',z,decide_true,if_true,Int.toNat_natCast,yz h1 hi' hl,La hi' hl,w1,w2]
 by_cases c:sg * l.getD (i - 1) default≤sg * l.getD i default
 ·left
  have:decide (sg * l.getD i default < sg * l.getD (i - 1) default)=false:=decide_eq_false (by omega)
  rw[this];exact⟨c,rfl⟩
 ·right
  have:decide (sg * l.getD i default < sg * l.getD (i - 1) default)=true:=decide_eq_true (by omega)
  rw[this];rfl
end Go.Av.Air
set_option maxRecDepth 100000
namespace Go.Av.Air
theorem Ge {R:Type} {b:Int→Option (Int⊕(Unit⊕R))} {z:R} {k:Unit→Option R} (i0 n:Nat) (P:Nat→Prop) (hb:∀ i:Nat,i0≤i→i < n→(P i∧b i=some (.inl ((i:Int)+1)))∨b i=some (.inr (.inr z))) (hd:∀ i:Nat,n≤i→b i=some (.inr (.inl ()))) :
  ((∀ i,i0≤i→i < n→P i)∧(Ad b i0).bind (A5 k)=k ())∨(Ad b i0).bind (A5 k)=some z:=by
 have key:∀ m i:Nat,n - i=m→i0≤i→(∀ j,i0≤j→j < i→j < n→P j)→((∀ i,i0≤i→i < n→P i)∧(Ad b i).bind (A5 k)=k ())∨(Ad b i).bind (A5 k)=some z:=by
  intro m
  induction m with
  | zero =>
   intro i hi h0 hp
   rw[G5,hd i (by omega)]
   exact .inl ⟨fun j h1 h2=>hp j h1 (by omega) h2,rfl⟩
  | succ m ih =>
   intro i hi h0 hp
   rw[G5]
   rcases hb i h0 (by omega) with⟨h1,h2⟩ | h2
   ·rw[h2]
    exact ih (i+1) (by omega) (by omega) fun j j1 j2 j3=>by
     by_cases e:j=i
     ·rw[e];exact h1
     ·exact hp j j1 (by omega) j3
   ·rw[h2];exact .inr rfl
 exact key (n - i0) i0 rfl (Nat.le_refl _) fun j h1 h2=>by omega
theorem Wl {t:List (List Int)} {sg:Int} {m:Nat} (ht:Rv t) (hs:sg=1∨sg = -1) (hm:Sh m t) (hb:∀ i,i < t.length→sm (t.getD i default)):OkB (Rp t sg) ((∀ i j,i < t.length→0 < j→j < m→sg * tb t i (j - 1)≤sg * tb t i j)∧∀ i j,0 < i→i < t.length→j < m→tb t i j≤tb t (i - 1) j):=by
 rw[A75]
 simp only[Option.bind_some,A5]
 refine D1 0 t.length (fun i=>(∀ j,0 < j→j < (t.getD i default).length→sg * tb t i (j - 1)≤sg * tb t i j)∧∀ j,j < (t.getD i default).length→0 < i→tb t i j≤tb t (i - 1) j) (fun i _ hi'=>?_) (fun i h=>by simp only[cj,Dm h,Bool.false_eq_true,if_false,Option.bind_some,A5])
  (fun h=>.true_ ⟨fun i j h1 h2 h3=>(h i (Nat.zero_le _) h1).1 j h2 (by rw[hm i h1];exact h3),fun i j h0 h1 h3=>(h i (Nat.zero_le _) h1).2 j (by rw[hm i h1];exact h3) h0⟩)
 have hl:=ht.2 _ (Nt hi')
 obtain⟨a,e,h⟩:=Jm (l:=t.getD i default) (sg:=sg) hl hs (hb i hi')
 simp only[cj,As hi',decide_true,if_true,Int.toNat_natCast,e,Option.bind_some,A5]
 cases a with
 | false=>right;rfl
 | true =>
  simp only[Bool.not_true,Bool.false_eq_true,if_false,Option.bind_some,A5,La hi' ht.1]
  rcases Ge (b:=Pc t (i:Int)) (z:=.inr (.inr false)) (k:=fun _=>some (.inl ((i:Int)+1))) 0 (t.getD i default).length (fun j=>0 < i→tb t i j≤tb t (i - 1) j) (fun j _ hj=>by
    by_cases h0:0 < i
    ·have d:decide ((0:Int) < (i:Int))=true:=decide_eq_true (by omega)
     have hj':j < (t.getD (i - 1) default).length:=by rw[hm (i - 1) (by omega),← hm i hi'];exact hj
     simp only[Pc,As hj,As hj',As (show i - 1 < t.length by omega),d,decide_true,if_true,Int.toNat_natCast,yz (show 1≤i by omega) hi' ht.1,implies_true,La hj hl,Bool.true_and]
     unfold tb
     by_cases c:(t.getD i default).getD j default≤(t.getD (i - 1) default).getD j default
     ·left
      have:decide ((t.getD (i - 1) default).getD j default < (t.getD i default).getD j default)=false:=decide_eq_false (by omega)
      rw[this];exact⟨fun _=>c,rfl⟩
     ·right
      have:decide ((t.getD (i - 1) default).getD j default < (t.getD i default).getD j default)=true:=decide_eq_true (by omega)
      rw[this];rfl
    ·have d:decide ((0:Int) < (i:Int))=false:=decide_eq_false (by omega)
     left
     refine⟨fun h=>absurd h h0,?_⟩
     simp only[Pc,Int.toNat_natCast,As hj,d,decide_true,if_true,Bool.false_eq_true,false_implies,Bool.false_and,if_false,La hj hl]) (fun j h=>by simp only[Pc,Int.toNat_natCast,Dm h,Bool.false_eq_true,if_false]) with⟨h1,h2⟩ | h2
  ·left;exact⟨⟨h rfl,fun j hj h0=>h1 j (Nat.zero_le _) hj h0⟩,h2⟩
  ·right;exact h2
structure Cl (p:B4) (m:Nat):Prop where
 fit:Rv p.Climb
 sh:Sh m p.Climb
 len:p.Climb.length=p.Alts.length
 ab:∀ i,i < p.Alts.length → -1000000000000≤gi p.Alts i∧gi p.Alts i≤1000000000000
 cb:∀ i,i < p.Climb.length→sm (p.Climb.getD i default)
theorem ua {p:B4} {m:Nat} (C:Cl p m):OkB (l0 p) (∀ i j,0 < i→i < p.Alts.length→j < m→tb p.Climb (i - 1) j - tb p.Climb i j≤gi p.Alts i - gi p.Alts (i - 1)):=by
 have hA:p.Alts.length≤maxLen:=by rw[← C.len];exact C.fit.1
 rw[A76]
 simp only[Option.bind_some,A5]
 refine D1 1 p.Alts.length (fun i=>∀ j,j < m→tb p.Climb (i - 1) j - tb p.Climb i j≤gi p.Alts i - gi p.Alts (i - 1)) (fun i h1 hi'=>?_) (fun i h=>by simp only[ck,Dm h,Bool.false_eq_true,if_false,Option.bind_some,A5]) (fun h=>.true_ fun i j h0 h1 h2=>h i h0 h1 j h2)
 have hc:i < p.Climb.length:=by rw[C.len];exact hi'
 have hc1:i - 1 < p.Climb.length:=by omega
 have ha1:i - 1 < p.Alts.length:=by omega
 have hl:=C.fit.2 _ (Nt hc)
 have e1:(p.Climb.getD i default).length=m:=C.sh i hc
 have e2:(p.Climb.getD (i - 1) default).length=m:=C.sh (i - 1) hc1
 simp only[ck,As hi',As hc,decide_true,if_true,Int.toNat_natCast,Option.bind_some,A5,La hi' hA]
 rcases Ge (b:=Ux p (i:Int)) (z:=.inr (.inr false)) (k:=fun _=>some (.inl ((i:Int)+1))) 0 (p.Climb.getD i default).length (fun j=>tb p.Climb (i - 1) j - tb p.Climb i j≤gi p.Alts i - gi p.Alts (i - 1)) (fun j _ hj=>by
   have hj':j < (p.Climb.getD (i - 1) default).length:=by omega
   have a1:=C.ab i hi'
   have a2:=C.ab (i - 1) (by omega)
   have b1:=C.cb i hc j hj
   have b2:=C.cb (i - 1) hc1 j hj'
   unfold gi at a1 a2 b1 b2
   have w1:IntKind.wrap .i64 (p.Alts.getD i default - p.Alts.getD (i - 1) default)=p.Alts.getD i default - p.Alts.getD (i - 1) default:=Ah (by omega) (by omega)
   have w2:IntKind.wrap .i64 ((p.Climb.getD (i - 1) default).getD j default - (p.Climb.getD i default).getD j default)=(p.Climb.getD (i - 1) default).getD j default - (p.Climb.getD i default).getD j default:=Ah (by omega) (by omega)
   simp only[Ux,As hj,As hj',As hc,As hc1,As hi',As ha1,decide_true,if_true,Int.toNat_natCast,yz h1 hi' hA,La hj hl,w1,w2]
   unfold tb gi
   by_cases c:(p.Climb.getD (i - 1) default).getD j default - (p.Climb.getD i default).getD j default≤p.Alts.getD i default - p.Alts.getD (i - 1) default
   ·left
    have:decide (p.Alts.getD i default - p.Alts.getD (i - 1) default < (p.Climb.getD (i - 1) default).getD j default - (p.Climb.getD i default).getD j default)=false:=decide_eq_false (by omega)
    rw[this];exact⟨c,rfl⟩
   ·right
    have:decide (p.Alts.getD i default - p.Alts.getD (i - 1) default < (p.Climb.getD (i - 1) default).getD j default - (p.Climb.getD i default).getD j default)=true:=decide_eq_true (by omega)
    rw[this];rfl) (fun j h=>by simp only[Ux,Int.toNat_natCast,Dm h,Bool.false_eq_true,if_false]) with⟨h1,h2⟩ | h2
 ·left;exact⟨fun j hj=>h1 j (Nat.zero_le _) (by omega),h2⟩
 ·right;exact h2
theorem name_ok {s:List UInt8} (n:Int) (hl:s.length≤maxLen):OkB (v4 s n) True:=by
 rw[A70]
 by_cases h0:((((s.length:Int)==(0:Int)) || (decide (n < (s.length:Int)))) || (decide ((Af s (0:Int).toNat) < 65)) || (decide (90 < (Af s (0:Int).toNat))))=true
 ·by_cases hz:s.length=0
  ·have e:(((s.length:Int)==(0:Int)) || (decide (n < (s.length:Int))))=true:=by rw[hz];rfl
   simp only[e,Bool.not_true,Bool.false_eq_true,false_implies,if_true,Bool.true_or,Option.bind_some,A5]
   exact⟨false,rfl,fun h=>by cases h⟩
  ·have p0:(0:Int) < (s.length:Int):=by omega
   simp only[p0,Int.le_refl,implies_true,if_true]
   rw[if_pos h0]
   exact⟨false,rfl,fun h=>by cases h⟩
 ·have hz:s.length≠0:=fun h=>h0 (by rw[h];rfl)
  have p0:(0:Int) < (s.length:Int):=by omega
  simp only[p0,Int.le_refl,implies_true,if_true]
  rw[if_neg h0]
  simp only[Option.bind_some,A5]
  refine D1 0 s.length (fun _=>True) (fun i _ hi'=>?_) (fun i h=>by simp only[ca,Dm h,Bool.false_eq_true,if_false]) (fun _=>.true_ trivial)
  simp only[ca,As hi',decide_true,implies_true,if_true,Int.toNat_natCast,La hi' hl]
  split
  ·right;rfl
  ·left;exact⟨trivial,rfl⟩
end Go.Av.Air
set_option maxRecDepth 100000
namespace Go.Av.Air
theorem M31 (a0:B4):Gi a0=((Option.bind (Option.bind (v4 a0.Name (8:Int)) fun r=>some r) fun x2=>(if(!x2)=true then(some (5:Int))else(Option.bind (((Eu a0.Empty (1:Int) (3000000000:Int)).bind fun r4_0=>((if(!(!r4_0))=true then Eu a0.MaxFuel (1:Int) (IntKind.wrap .i64 ((3000000000:Int) - a0.Empty))else some default).bind fun r4_1=>some (r4_0,r4_1)))) fun(x4:(Bool×Bool))=>(if((!x4.1) || (!x4.2))=true then(some (2:Int))else(if((((decide ((a0.Alts.length:Int) < (2:Int))) || (decide (12 < (a0.Alts.length:Int)))) || (decide ((a0.Masses.length:Int) < (2:Int)))) || (decide (6 < (a0.Masses.length:Int))))=true then(some (3:Int))else(Option.bind (((Rn a0 a0.Climb).bind fun r8_0=>((if(!(!r8_0))=true then Rn a0 a0.ClimbFlow else some default).bind fun r8_1=>((if(!((!r8_0) || (!r8_1)))=true then Rn a0 a0.Cruise else some default).bind fun r8_2=>some (r8_0,r8_1,r8_2))))) fun(x8:(Bool×Bool×Bool))=>(if(((!x8.1) || (!x8.2.1)) || (!x8.2.2))=true then(some (1:Int))else(if(((((a0.Descent.length:Int) != (a0.Alts.length:Int)) || ((a0.Idle.length:Int) != (a0.Alts.length:Int))) || ((a0.MaxSpeed.length:Int) != (a0.Alts.length:Int))) || ((a0.MinSpeed.length:Int) != (a0.Masses.length:Int)))=true then(some (1:Int))else(Option.bind (((Y3 a0.Alts).bind fun r12_0=>((if(!(!r12_0))=true then Y3 a0.Masses else some default).bind fun r12_1=>some (r12_0,r12_1)))) fun(x12:(Bool×Bool))=>(if((!x12.1) || (!x12.2))=true then(some (9:Int))else(Option.bind (((Hg a0.Alts (-200000:Int) (6000000:Int)).bind fun r14_0=>((if(!(!r14_0))=true then Eu a0.Ceiling (-200000:Int) (6000000:Int)else some default).bind fun r14_1=>((if(!((!r14_0) || (!r14_1)))=true then Hg a0.Masses (1:Int) (3000000000:Int)else some default).bind fun r14_2=>some (r14_0,r14_1,r14_2))))) fun(x14:(Bool×Bool×Bool))=>(if(((!x14.1) || (!x14.2.1)) || (!x14.2.2))=true then(some (2:Int))else(Option.bind (((Ro a0.Climb (0:Int) (10000:Int)).bind fun r16_0=>((if(!(!r16_0))=true then Hg a0.Descent (1:Int) (10000:Int)else some default).bind fun r16_1=>some (r16_0,r16_1)))) fun(x16:(Bool×Bool))=>(if((!x16.1) || (!x16.2))=true then(some (2:Int))else(Option.bind (((Ro a0.ClimbFlow (0:Int) (50000:Int)).bind fun r18_0=>((if(!(!r18_0))=true then Ro a0.Cruise (0:Int) (50000:Int)else some default).bind fun r18_1=>((if(!((!r18_0) || (!r18_1)))=true then Hg a0.Idle (0:Int) (50000:Int)else some default).bind fun r18_2=>some (r18_0,r18_1,r18_2))))) fun(x18:(Bool×Bool×Bool))=>(if(((!x18.1) || (!x18.2.1)) || (!x18.2.2))=true then(some (2:Int))else(Option.bind (((Hg a0.MaxSpeed (1:Int) (1000:Int)).bind fun r20_0=>((if(!(!r20_0))=true then Hg a0.MinSpeed (1:Int) (1000:Int)else some default).bind fun r20_1=>((if(!((!r20_0) || (!r20_1)))=true then Eu a0.Ref (1:Int) (1000:Int)else some default).bind fun r20_2=>((if(!(((!r20_0) || (!r20_1)) || (!r20_2)))=true then Eu a0.Extra (0:Int) (100:Int)else some default).bind fun r20_3=>some (r20_0,r20_1,r20_2,r20_3)))))) fun(x20:(Bool×Bool×Bool×Bool))=>(if((((!x20.1) || (!x20.2.1)) || (!x20.2.2.1)) || (!x20.2.2.2))=true then(some (2:Int))else(Option.bind (((Rp a0.Climb (-1:Int)).bind fun r22_0=>((if(!(!r22_0))=true then l0 a0 else some default).bind fun r22_1=>((if(!((!r22_0) || (!r22_1)))=true then Rp a0.ClimbFlow (1:Int)else some default).bind fun r22_2=>((if(!(((!r22_0) || (!r22_1)) || (!r22_2)))=true then Rp a0.Cruise (1:Int)else some default).bind fun r22_3=>some (r22_0,r22_1,r22_2,r22_3)))))) fun(x22:(Bool×Bool×Bool×Bool))=>(if((((!x22.1) || (!x22.2.1)) || (!x22.2.2.1)) || (!x22.2.2.2))=true then(some (11:Int))else(Option.bind (((Lw a0.Descent (1:Int)).bind fun r24_0=>((if(!(!r24_0))=true then Lw a0.Idle (-1:Int)else some default).bind fun r24_1=>((if(!((!r24_0) || (!r24_1)))=true then Lw a0.MaxSpeed (-1:Int)else some default).bind fun r24_2=>((if(!(((!r24_0) || (!r24_1)) || (!r24_2)))=true then Lw a0.MinSpeed (1:Int)else some default).bind fun r24_3=>some (r24_0,r24_1,r24_2,r24_3)))))) fun(x24:(Bool×Bool×Bool×Bool))=>(if((((!x24.1) || (!x24.2.1)) || (!x24.2.2.1)) || (!x24.2.2.2))=true then(some (11:Int))else(some (0:Int)))))))))))))))))))))))):Option (Int)):=by kernel_rfl
theorem M13 (a0:B4) (a1 a2:Int):Om a0 a1 a2=((Option.bind (Option.bind (Gi a0) fun r=>some r) fun x1=>(if(x1 != 0)=true then(some x1)else(Option.bind (((Eu a1 (-200000:Int) (6000000:Int)).bind fun r4_0=>((if(!(!r4_0))=true then Eu a2 (1:Int) (3000000000:Int)else some default).bind fun r4_1=>some (r4_0,r4_1)))) fun(x4:(Bool×Bool))=>(if((!x4.1) || (!x4.2))=true then(some (2:Int))else(some (0:Int)))))):Option (Int)):=by kernel_rfl
theorem M14 (a0 a1:List Int) (a2:Int):Lj a0 a1 a2=((Option.bind (some (.inl ())) (A5 fun(_:Unit)=>(Option.bind (Ad (fun(s1:Int)=>((if(decide (s1 < (a0.length:Int)))=true→(0≤s1)then(if(decide (s1 < (a0.length:Int)))=true→(s1 < (a0.length:Int))then(if((decide (s1 < (a0.length:Int)))&&(decide ((a0.getD s1.toNat default) < a2)))=true then(some (.inl (IntKind.wrap .i64 (s1+1))))else(some (.inr (.inl s1))))else none)else none):Option ((Int)⊕((Int)⊕(Int))))) (0:Int)) (A5 fun(y2:Int)=>(if(y2==0)=true then(if((0:Int)≤(0:Int))then(if(0 < (a1.length:Int))then(some (a1.getD (0:Int).toNat default))else none)else none)else(if(y2==(a0.length:Int))=true then(if(0≤(IntKind.wrap .i64 (y2 - 1)))then(if((IntKind.wrap .i64 (y2 - 1)) < (a1.length:Int))then(some (a1.getD (IntKind.wrap .i64 (y2 - 1)).toNat default))else none)else none)else(if(0≤(IntKind.wrap .i64 (y2 - 1)))then(if((IntKind.wrap .i64 (y2 - 1)) < (a0.length:Int))then(if(0≤y2)then(if(y2 < (a0.length:Int))then(if(0≤(IntKind.wrap .i64 (y2 - 1)))then(if((IntKind.wrap .i64 (y2 - 1)) < (a1.length:Int))then(if(0≤y2)then(if(y2 < (a1.length:Int))then(Option.bind (Option.bind (Dz (IntKind.wrap .i64 ((IntKind.wrap .i64 ((a1.getD y2.toNat default) - (a1.getD (IntKind.wrap .i64 (y2 - 1)).toNat default))) * (IntKind.wrap .i64 (a2 - (a0.getD (IntKind.wrap .i64 (y2 - 1)).toNat default))))) (IntKind.wrap .i64 ((a0.getD y2.toNat default) - (a0.getD (IntKind.wrap .i64 (y2 - 1)).toNat default)))) fun r=>some r) fun x9=>(some (IntKind.wrap .i64 ((a1.getD (IntKind.wrap .i64 (y2 - 1)).toNat default)+x9.1))))else none)else none)else none)else none)else none)else none)else none)else none))))))):Option (Int)):=by kernel_rfl
noncomputable abbrev Mv (a0:List Int) (a2:Int):(Int)→Option ((Int)⊕((Int)⊕(Int))):=(fun(s1:Int)=>((if(decide (s1 < (a0.length:Int)))=true→(0≤s1)then(if(decide (s1 < (a0.length:Int)))=true→(s1 < (a0.length:Int))then(if((decide (s1 < (a0.length:Int)))&&(decide ((a0.getD s1.toNat default) < a2)))=true then(some (.inl (IntKind.wrap .i64 (s1+1))))else(some (.inr (.inl s1))))else none)else none):Option ((Int)⊕((Int)⊕(Int)))))
theorem A14  (a0 a1:List Int) (a2:Int):Lj a0 a1 a2=((Option.bind (some (.inl ())) (A5 fun(_:Unit)=>(Option.bind (Ad (Mv a0 a2) (0:Int)) (A5 fun(y2:Int)=>(if(y2==0)=true then(if((0:Int)≤(0:Int))then(if(0 < (a1.length:Int))then(some (a1.getD (0:Int).toNat default))else none)else none)else(if(y2==(a0.length:Int))=true then(if(0≤(IntKind.wrap .i64 (y2 - 1)))then(if((IntKind.wrap .i64 (y2 - 1)) < (a1.length:Int))then(some (a1.getD (IntKind.wrap .i64 (y2 - 1)).toNat default))else none)else none)else(if(0≤(IntKind.wrap .i64 (y2 - 1)))then(if((IntKind.wrap .i64 (y2 - 1)) < (a0.length:Int))then(if(0≤y2)then(if(y2 < (a0.length:Int))then(if(0≤(IntKind.wrap .i64 (y2 - 1)))then(if((IntKind.wrap .i64 (y2 - 1)) < (a1.length:Int))then(if(0≤y2)then(if(y2 < (a1.length:Int))then(Option.bind (Option.bind (Dz (IntKind.wrap .i64 ((IntKind.wrap .i64 ((a1.getD y2.toNat default) - (a1.getD (IntKind.wrap .i64 (y2 - 1)).toNat default))) * (IntKind.wrap .i64 (a2 - (a0.getD (IntKind.wrap .i64 (y2 - 1)).toNat default))))) (IntKind.wrap .i64 ((a0.getD y2.toNat default) - (a0.getD (IntKind.wrap .i64 (y2 - 1)).toNat default)))) fun r=>some r) fun x9=>(some (IntKind.wrap .i64 ((a1.getD (IntKind.wrap .i64 (y2 - 1)).toNat default)+x9.1))))else none)else none)else none)else none)else none)else none)else none)else none))))))):Option (Int)):=M14 _ _ _
theorem M18 (a0:B4) (a1:List (List Int)) (a2 a3:Int):V8 a0 a1 a2 a3=((Option.bind (if(0≤(a0.Masses.length:Int))then(if((a0.Masses.length:Int)=(a0.Masses.length:Int))then(if((a0.Masses.length:Int) * 8≤140737488355328)then(if((a0.Masses.length:Int)≤9223372036854775807)then(if(0≤(a0.Alts.length:Int))then(if((a0.Alts.length:Int)=(a0.Alts.length:Int))then(if((a0.Alts.length:Int) * 8≤140737488355328)then(if((a0.Alts.length:Int)≤9223372036854775807)then(some (.inl ()))else none)else none)else none)else none)else none)else none)else none)else none) (A5 fun(_:Unit)=>(Option.bind (Option.bind (some (.inl ())) (A5 fun(_:Unit)=>(Ad (fun(s1:(List Int)×(List Int)×Int)=>((Option.bind (if(decide (s1.2.2 < ((a0.Masses.length:Int).toNat:Int)))=true then(some (.inl ()))else(some (.inr (.inr (.inl s1.1))))) (A5 fun(_:Unit)=>(Option.bind (Option.bind (some (.inl ())) (A5 fun(_:Unit)=>(Option.bind (Option.bind (some (.inl ())) (A5 fun(_:Unit)=>(Ad (fun(s2:(List Int)×Int)=>((if(decide (s2.2 < ((a0.Alts.length:Int).toNat:Int)))=true then(if(0≤s2.2)then(if(s2.2 < (a1.length:Int))then(if(0≤s1.2.2)then(if(s1.2.2 < ((a1.getD s2.2.toNat default).length:Int))then(if(0≤s2.2)then(if(s2.2 < ((a0.Alts.length:Int).toNat:Int))then(if(s2.2.toNat < (a0.Alts.length:Int).toNat)then(some (.inl (((A9 s2.1 0 (a0.Alts.length:Int).toNat).set s2.2.toNat ((a1.getD s2.2.toNat default).getD s1.2.2.toNat default)),(IntKind.wrap .i64 (s2.2+1)))))else none)else none)else none)else none)else none)else none)else none)else(some (.inr (.inl s2.1)))):Option (((List Int)×Int)⊕(((List Int))⊕(((List Int)×(List Int))⊕(((List Int)×(List Int)×Int)⊕(((List Int))⊕(Int)))))))) (s1.2.1,(0:Int))))) (A5 fun(y3:(List Int))=>(Option.bind ((if(a0.Alts.length:Int).toNat=(a0.Alts.length:Int).toNat then((Lj a0.Alts (A9 y3 0 (a0.Alts.length:Int).toNat) a2).bind fun r11_0=>(if 0≤s1.2.2 then(if s1.2.2 < ((a0.Masses.length:Int).toNat:Int)then(if s1.2.2.toNat < (a0.Masses.length:Int).toNat then some r11_0 else none)else none)else none))else none)) fun(x11:(Int))=>(some (.inl (((A9 s1.1 0 (a0.Masses.length:Int).toNat).set s1.2.2.toNat x11),y3)))))))) (A5 fun(y4:(List Int)×(List Int))=>(some (.inl (y4.1,y4.2,(IntKind.wrap .i64 (s1.2.2+1))))))))):Option (((List Int)×(List Int)×Int)⊕(((List Int))⊕(Int))))) ((List.replicate (a0.Masses.length:Int).toNat (0:Int)),(List.replicate (a0.Alts.length:Int).toNat (0:Int)),(0:Int))))) (A5 fun(y5:(List Int))=>(Option.bind ((if(a0.Masses.length:Int).toNat=(a0.Masses.length:Int).toNat then((Lj a0.Masses (A9 y5 0 (a0.Masses.length:Int).toNat) a3).bind fun r13_0=>some r13_0)else none)) fun(x13:(Int))=>(some x13)))))):Option (Int)):=by kernel_rfl
noncomputable abbrev P7 (a0:B4) (a1:List (List Int)) (s1:(List Int)×(List Int)×Int):((List Int)×Int)→Option (((List Int)×Int)⊕(((List Int))⊕(((List Int)×(List Int))⊕(((List Int)×(List Int)×Int)⊕(((List Int))⊕(Int)))))):=(fun(s2:(List Int)×Int)=>((if(decide (s2.2 < ((a0.Alts.length:Int).toNat:Int)))=true then(if(0≤s2.2)then(if(s2.2 < (a1.length:Int))then(if(0≤s1.2.2)then(if(s1.2.2 < ((a1.getD s2.2.toNat default).length:Int))then(if(0≤s2.2)then(if(s2.2 < ((a0.Alts.length:Int).toNat:Int))then(if(s2.2.toNat < (a0.Alts.length:Int).toNat)then(some (.inl (((A9 s2.1 0 (a0.Alts.length:Int).toNat).set s2.2.toNat ((a1.getD s2.2.toNat default).getD s1.2.2.toNat default)),(IntKind.wrap .i64 (s2.2+1)))))else none)else none)else none)else none)else none)else none)else none)else(some (.inr (.inl s2.1)))):Option (((List Int)×Int)⊕(((List Int))⊕(((List Int)×(List Int))⊕(((List Int)×(List Int)×Int)⊕(((List Int))⊕(Int))))))))
noncomputable abbrev bv (a0:B4) (a1:List (List Int)) (a2:Int):((List Int)×(List Int)×Int)→Option (((List Int)×(List Int)×Int)⊕(((List Int))⊕(Int))):=(fun(s1:(List Int)×(List Int)×Int)=>((Option.bind (if(decide (s1.2.2 < ((a0.Masses.length:Int).toNat:Int)))=true then(some (.inl ()))else(some (.inr (.inr (.inl s1.1))))) (A5 fun(_:Unit)=>(Option.bind (Option.bind (some (.inl ())) (A5 fun(_:Unit)=>(Option.bind (Option.bind (some (.inl ())) (A5 fun(_:Unit)=>(Ad (P7 a0 a1 s1) (s1.2.1,(0:Int))))) (A5 fun(y3:(List Int))=>(Option.bind ((if(a0.Alts.length:Int).toNat=(a0.Alts.length:Int).toNat then((Lj a0.Alts (A9 y3 0 (a0.Alts.length:Int).toNat) a2).bind fun r11_0=>(if 0≤s1.2.2 then(if s1.2.2 < ((a0.Masses.length:Int).toNat:Int)then(if s1.2.2.toNat < (a0.Masses.length:Int).toNat then some r11_0 else none)else none)else none))else none)) fun(x11:(Int))=>(some (.inl (((A9 s1.1 0 (a0.Masses.length:Int).toNat).set s1.2.2.toNat x11),y3)))))))) (A5 fun(y4:(List Int)×(List Int))=>(some (.inl (y4.1,y4.2,(IntKind.wrap .i64 (s1.2.2+1))))))))):Option (((List Int)×(List Int)×Int)⊕(((List Int))⊕(Int)))))
theorem A18  (a0:B4) (a1:List (List Int)) (a2 a3:Int):V8 a0 a1 a2 a3=((Option.bind (if(0≤(a0.Masses.length:Int))then(if((a0.Masses.length:Int)=(a0.Masses.length:Int))then(if((a0.Masses.length:Int) * 8≤140737488355328)then(if((a0.Masses.length:Int)≤9223372036854775807)then(if(0≤(a0.Alts.length:Int))then(if((a0.Alts.length:Int)=(a0.Alts.length:Int))then(if((a0.Alts.length:Int) * 8≤140737488355328)then(if((a0.Alts.length:Int)≤9223372036854775807)then(some (.inl ()))else none)else none)else none)else none)else none)else none)else none)else none) (A5 fun(_:Unit)=>(Option.bind (Option.bind (some (.inl ())) (A5 fun(_:Unit)=>(Ad (bv a0 a1 a2) ((List.replicate (a0.Masses.length:Int).toNat (0:Int)),(List.replicate (a0.Alts.length:Int).toNat (0:Int)),(0:Int))))) (A5 fun(y5:(List Int))=>(Option.bind ((if(a0.Masses.length:Int).toNat=(a0.Masses.length:Int).toNat then((Lj a0.Masses (A9 y5 0 (a0.Masses.length:Int).toNat) a3).bind fun r13_0=>some r13_0)else none)) fun(x13:(Int))=>(some x13)))))):Option (Int)):=M18 _ _ _ _
theorem M8 (a0:B4) (a1 a2 a3:Int):m8 a0 a1 a2 a3=((Option.bind (Option.bind (Option.bind (Om a0 a1 a2) fun r=>some r) fun x1=>(if(x1 != 0)=true then(some (.inr (((0:Int),x1))))else(Option.bind (Option.bind (Eu a3 (0:Int) (50000:Int)) fun r=>some r) fun x4=>(if(!x4)=true then(some (.inr (((0:Int),(2:Int)))))else(some (.inl ())))))) (A5 fun(_:Unit)=>(Option.bind (Ad (fun(s1:Int×Int)=>((if((decide (0 < s1.2))&&(decide (s1.1 < a0.Ceiling)))=true then(Option.bind (Option.bind (V8 a0 a0.Climb s1.1 a2) fun r=>some r) fun x8=>(if(x8==0)=true then(some (.inr (.inl s1.1)))else(some (.inl ((if a0.Ceiling < (IntKind.wrap .i64 (s1.1+x8))then a0.Ceiling else(IntKind.wrap .i64 (s1.1+x8))),(IntKind.wrap .i64 (s1.2 - 1)))))))else(some (.inr (.inl s1.1)))):Option ((Int×Int)⊕((Int)⊕(Int×Int))))) (a1,a3)) (A5 fun(y2:Int)=>(some (y2,(0:Int))))))):Option (Int×Int)):=by kernel_rfl
noncomputable abbrev Qr (a0:B4) (a2:Int):(Int×Int)→Option ((Int×Int)⊕((Int)⊕(Int×Int))):=(fun(s1:Int×Int)=>((if((decide (0 < s1.2))&&(decide (s1.1 < a0.Ceiling)))=true then(Option.bind (Option.bind (V8 a0 a0.Climb s1.1 a2) fun r=>some r) fun x8=>(if(x8==0)=true then(some (.inr (.inl s1.1)))else(some (.inl ((if a0.Ceiling < (IntKind.wrap .i64 (s1.1+x8))then a0.Ceiling else(IntKind.wrap .i64 (s1.1+x8))),(IntKind.wrap .i64 (s1.2 - 1)))))))else(some (.inr (.inl s1.1)))):Option ((Int×Int)⊕((Int)⊕(Int×Int)))))
theorem A8  (a0:B4) (a1 a2 a3:Int):m8 a0 a1 a2 a3=((Option.bind (Option.bind (Option.bind (Om a0 a1 a2) fun r=>some r) fun x1=>(if(x1 != 0)=true then(some (.inr (((0:Int),x1))))else(Option.bind (Option.bind (Eu a3 (0:Int) (50000:Int)) fun r=>some r) fun x4=>(if(!x4)=true then(some (.inr (((0:Int),(2:Int)))))else(some (.inl ())))))) (A5 fun(_:Unit)=>(Option.bind (Ad (Qr a0 a2) (a1,a3)) (A5 fun(y2:Int)=>(some (y2,(0:Int))))))):Option (Int×Int)):=M8 _ _ _ _
theorem M6 (a0:B4) (a1:Int):m6 a0 a1=((Option.bind (Option.bind (Om a0 a1 (1:Int)) fun r=>some r) fun x1=>(if(x1 != 0)=true then(some ((0:Int),x1))else(Option.bind (Option.bind (Lj a0.Alts a0.Descent a1) fun r=>some r) fun x4=>(some (x4,(0:Int)))))):Option (Int×Int)):=by kernel_rfl
theorem M37 (a0:B4) (a1:Int):ky a0 a1=((Option.bind (Option.bind (Om a0 (0:Int) a1) fun r=>some r) fun x1=>(if(x1 != 0)=true then(some ((0:Int),x1))else(Option.bind (Option.bind (Lj a0.Masses a0.MinSpeed a1) fun r=>some r) fun x4=>(some (x4,(0:Int)))))):Option (Int×Int)):=by kernel_rfl
theorem M39 (a0:B4) (a1:Int):uq a0 a1=((Option.bind (Option.bind (Om a0 a1 (1:Int)) fun r=>some r) fun x1=>(if(x1 != 0)=true then(some ((0:Int),x1))else(Option.bind (Option.bind (Lj a0.Alts a0.MaxSpeed a1) fun r=>some r) fun x4=>(some (x4,(0:Int)))))):Option (Int×Int)):=by kernel_rfl
theorem M95 (a0:B4) (a1 a2:Int):v7 a0 a1 a2=((Option.bind (Option.bind (Om a0 a1 a2) fun r=>some r) fun x1=>(if(x1 != 0)=true then(some ((0:Int),x1))else(Option.bind (Option.bind (V8 a0 a0.ClimbFlow a1 a2) fun r=>some r) fun x4=>(some (x4,(0:Int)))))):Option (Int×Int)):=by kernel_rfl
theorem M96 (a0:B4) (a1 a2 a3:Int):v8 a0 a1 a2 a3=((Option.bind (Option.bind (Om a0 a1 a2) fun r=>some r) fun x1=>(if(x1 != 0)=true then(some ((0:Int),x1))else(Option.bind (Option.bind (Eu a3 (0:Int) (4000:Int)) fun r=>some r) fun x4=>(if(!x4)=true then(some ((0:Int),(2:Int)))else(Option.bind (((V8 a0 a0.Cruise a1 a2).bind fun r6_0=>(if(1000:Int)≠0 then some r6_0 else none))) fun(x6:(Int))=>(some ((if 50000 < (IntKind.wrap .i64 (Int.tdiv (IntKind.wrap .i64 (x6 * (IntKind.wrap .i64 ((1000:Int)+(IntKind.wrap .i64 (a0.Extra * (if(IntKind.wrap .i64 (a3 - a0.Ref)) < 0 then(0:Int)else(IntKind.wrap .i64 (a3 - a0.Ref))))))))) (1000:Int)))then(50000:Int)else(IntKind.wrap .i64 (Int.tdiv (IntKind.wrap .i64 (x6 * (IntKind.wrap .i64 ((1000:Int)+(IntKind.wrap .i64 (a0.Extra * (if(IntKind.wrap .i64 (a3 - a0.Ref)) < 0 then(0:Int)else(IntKind.wrap .i64 (a3 - a0.Ref))))))))) (1000:Int)))),(0:Int)))))))):Option (Int×Int)):=by kernel_rfl
theorem M97 (a0:B4) (a1:Int):v9 a0 a1=((Option.bind (Option.bind (Om a0 a1 (1:Int)) fun r=>some r) fun x1=>(if(x1 != 0)=true then(some ((0:Int),x1))else(Option.bind (Option.bind (Lj a0.Alts a0.Idle a1) fun r=>some r) fun x4=>(some (x4,(0:Int)))))):Option (Int×Int)):=by kernel_rfl
structure Lens (p:B4):Prop where
 nm:p.Name.length≤maxLen
 al:p.Alts.length≤maxLen
 ms:p.Masses.length≤maxLen
 c:Rv p.Climb
 f:Rv p.ClimbFlow
 r:Rv p.Cruise
 d:p.Descent.length≤maxLen
 i:p.Idle.length≤maxLen
 x:p.MaxSpeed.length≤maxLen
 n:p.MinSpeed.length≤maxLen
theorem lens_of {p:B4} (h:AAI p):Lens p:=by
 obtain⟨h1,h2,h3,h4,h5,h6,h7,h8,h9,h10,h11,h12,_⟩:=h
 exact⟨h1,h4.1,h5.1,⟨h6.1,fun l hl=>(h6.2 l hl).1⟩,⟨h7.1,fun l hl=>(h7.2 l hl).1⟩,⟨h8.1,fun l hl=>(h8.2 l hl).1⟩,h9.1,h10.1,h11.1,h12.1⟩
theorem smT {t:List (List Int)} {lo hi:Int} (h:∀ i,i < t.length→∀ j,j < (t.getD i default).length→lo≤tb t i j∧tb t i j≤hi) (h1 : -1000000000000≤lo) (h2:hi≤1000000000000):∀ i,i < t.length→sm (t.getD i default):=fun i hi' j hj=>by
 have:=h i hi' j hj
 unfold tb at this
 unfold gi
 omega
theorem Vy {t:List (List Int)} {lo hi:Int} (h0:lo≤0∧0≤hi) (h:∀ i,i < t.length→∀ j,j < (t.getD i default).length→lo≤tb t i j∧tb t i j≤hi) (i j:Nat):lo≤tb t i j∧tb t i j≤hi:=by
 by_cases hi':i < t.length
 ·by_cases hj:j < (t.getD i default).length
  ·exact h i hi' j hj
  ·have:tb t i j=0:=by unfold tb;exact ub (by omega)
   rw[this];exact h0
 ·have:tb t i j=0:=by
   unfold tb
   rw[show t.getD i default=[] by rw[List.getD_eq_getElem?_getD,List.getElem?_eq_none (by omega)];rfl]
   rfl
  rw[this];exact h0
theorem perf_ok {p:B4} (L:Lens p):Ok (Gi p) (Cg p):=by
 rw[M31]
 refine gate1 (name_ok 8 L.nm) (by decide) fun _=>Z4 (Ea _ _ _) (fun _=>Ea _ _ _) (by decide) fun _ _=>Ue (by decide) fun hc=>?_
 have hc':2≤p.Alts.length∧p.Alts.length≤12∧2≤p.Masses.length∧p.Masses.length≤6:=by
  simp only[Bool.or_eq_true,decide_eq_true_eq,not_or]at hc
  omega
 refine Ud (Q8 L.c) (fun _=>Q8 L.f) (fun _ _=>Q8 L.r) (by decide) fun s1 s2 s3=>Ue (by decide) fun hl=>?_
 simp only[Bool.or_eq_true,bne_iff_ne,not_or,ne_eq,Decidable.not_not]at hl
 obtain⟨⟨⟨l1,l2⟩,l3⟩,l4⟩:=hl
 refine Z4 (Ou L.al) (fun _=>Ou L.ms) (by decide) fun a1 a2=>Ud (Kr _ _ L.al) (fun _=>Ea _ _ _) (fun _ _=>Kr _ _ L.ms) (by decide) fun b1 b2 b3=>?_
 refine Z4 (Nm _ _ L.c) (fun _=>Kr _ _ L.d) (by decide) fun c1 c2=>Ud (Nm _ _ L.f) (fun _=>Nm _ _ L.r) (fun _ _=>Kr _ _ L.i) (by decide) fun d1 d2 d3=>?_
 refine pt (Kr _ _ L.x) (fun _=>Kr _ _ L.n) (fun _ _=>Ea _ _ _) (fun _ _ _=>Ea _ _ _) (by decide) fun e1 e2 e3 e4=>?_
 have C:Cl p p.Masses.length:=⟨L.c,s1.1,s1.2,fun i hi=>by have:=b1 i hi;omega,smT c1 (by decide) (by decide)⟩
 refine pt (Wl L.c (.inr rfl) s1.1 (smT c1 (by decide) (by decide))) (fun _=>ua C) (fun _ _=>Wl L.f (.inl rfl) s2.1 (smT d1 (by decide) (by decide))) (fun _ _ _=>Wl L.r (.inl rfl) s3.1 (smT d2 (by decide) (by decide))) (by decide) fun f1 f2 f3 f4=>?_
 refine pt (Jm L.d (.inl rfl) (fun i hi=>by have:=c2 i hi;omega)) (fun _=>Jm L.i (.inr rfl) (fun i hi=>by have:=d3 i hi;omega)) (fun _ _=>Jm L.x (.inr rfl) (fun i hi=>by have:=e1 i hi;omega)) (fun _ _ _=>Jm L.n (.inl rfl) (fun i hi=>by have:=e2 i hi;omega)) (by decide) fun g1 g2 g3 g4=>.zero ?_
 have A:aa p.Alts:=⟨L.al,by omega,by omega,a1,bd (p:=fun y => -10000000000≤y∧y≤10000000000) (by omega) fun i hi=>by have:=b1 i hi;omega⟩
 have M:aa p.Masses:=⟨L.ms,by omega,by omega,a2,bd (p:=fun y => -10000000000≤y∧y≤10000000000) (by omega) fun i hi=>by have:=b3 i hi;omega⟩
 rw[s1.2]at f1
 rw[s2.2]at f3
 rw[s3.2]at f4
 exact {
  A:=A,M:=M
  tC:=⟨A,M,s1.2,s1.1,fun i j=>by have:=Vy (by omega) c1 i j;omega⟩
  tF:=⟨A,M,s2.2,s2.1,fun i j=>by have:=Vy (by omega) d1 i j;omega⟩
  tR:=⟨A,M,s3.2,s3.1,fun i j=>by have:=Vy (by omega) d2 i j;omega⟩
  bR:=fun i j=>(Vy (by omega) d2 i j).2
  lD:=by omega,bD:=c2,lI:=by omega,bI:=d3,lX:=by omega,bX:=e1,ln:=by omega,bn:=e2
  ceil:=b2,ref:=e3,ext:=e4
  cM:=fun i j a b c=>by have:=f1.1 i j a b c;omega
  cA:=f1.2
  cG:=f2
  fM:=fun i j a b c=>by have:=f3.1 i j a b c;omega
  fA:=f3.2
  rM:=fun i j a b c=>by have:=f4.1 i j a b c;omega
  rA:=f4.2
  dD:=fun i a b=>by have:=g1 i a (by omega);omega }
def ac (alt mass:Int):Prop:=(-200000≤alt∧alt≤6000000)∧1≤mass∧mass≤3000000000
theorem Di {p:B4} (hP:Gi p=some 0) {alt mass:Int} (h:ac alt mass):Om p alt mass=some 0:=by
 obtain⟨⟨h1,h2⟩,h3,h4⟩:=h
 rw[M13,hP]
 simp only[Option.bind_some,bne_self_eq_false,Bool.false_eq_true,if_false,Kf,decide_eq_true h1,decide_eq_true h2,decide_eq_true h3,decide_eq_true h4,Bool.and_self,Bool.not_true,Bool.not_false,if_true,Bool.or_self]
theorem find_ok {P:List Int} {x:Int} (hl:P.length≤maxLen):∃ z,Ad (Mv P x) 0=some z∧∃ k:Nat,z=.inl (k:Int)∧Below P x k:=by
 refine Ay (b:=Mv P x) (fun q=>∃ k:Nat,q=k∧k≤P.length∧∀ j,j < k→gi P j < x) (fun q=>(P.length - q).toNat) (fun z=>∃ k:Nat,z=.inl (k:Int)∧Below P x k) (fun q hq=>?_) _ ⟨0,rfl,Nat.zero_le _,fun j hj=>absurd hj (Nat.not_lt_zero j)⟩
 obtain⟨k,rfl,hk,H⟩:=hq
 by_cases hlt:k < P.length
 ·have w:IntKind.wrap .i64 ((k:Int)+1)=((k+1:Nat):Int):=by rw[La hlt hl];omega
  by_cases c:gi P k < x
  ·refine .inl ⟨((k+1:Nat):Int),?_,⟨k+1,rfl,hlt,fun j hj=>?_⟩,by omega⟩
   ·unfold gi at c
    simp only[Mv,As hlt,decide_true,implies_true,if_true,Int.toNat_natCast,decide_eq_true c,Bool.and_self,w]
   ·by_cases e:j=k
    ·rw[e];exact c
    ·exact H j (by omega)
  ·refine .inr ⟨.inl (k:Int),?_,k,rfl,hk,H,fun _=>c⟩
   unfold gi at c
   simp only[Mv,As hlt,decide_true,implies_true,if_true,Int.toNat_natCast,decide_eq_false c,Bool.and_false,Bool.false_eq_true,if_false]
 ·refine .inr ⟨.inl (k:Int),?_,k,rfl,hk,H,fun h=>absurd h hlt⟩
  simp only[Mv,Dm (show P.length≤k by omega),Bool.false_eq_true,false_implies,if_true,Bool.false_and,if_false]
theorem Hx {P l:List Int} {x:Int} (h:Vb P l x):Lj P l x=some (V P l x):=by
 obtain⟨z,e,k,rfl,hk⟩:=find_ok (P:=P) (x:=x) h.fit
 have hV:V P l x=G1 P l x k:=by unfold V;rw[hk.uniq (Cj P x)]
 have hm:maxLen=9223372036854775807:=rfl
 have hf:=h.fit
 have hk1:=hk.1
 have hl:=h.len
 have hp:=h.pos
 rw[hV,A14]
 refine Bp (y:=()) rfl (Bp (y:=(k:Int)) e ?_)
 unfold G1
 by_cases h0:k=0
 ·subst h0
  have b1:(0:Int) < (l.length:Int):=by omega
  rw[if_pos (show (0:Nat)=0 from rfl),if_pos (show (((0:Nat):Int)==0)=true from rfl),if_pos (Int.le_refl 0),if_pos b1];rfl
 ·have b0:((k:Int)==0)=false:=by rw[beq_eq_false_iff_ne];omega
  have w:IntKind.wrap .i64 ((k:Int) - 1)=((k - 1:Nat):Int):=by rw[Ah (by omega) (by omega)];omega
  have b1:(0:Int)≤((k - 1:Nat):Int):=by omega
  have b2:((k - 1:Nat):Int) < l.length:=by omega
  by_cases hn:k=P.length
  ·have b3:((k:Int)==(P.length:Int))=true:=by rw[beq_iff_eq];omega
   rw[if_neg h0,if_pos hn]
   simp only[b0,b3,w,b1,b2,Int.toNat_natCast,Bool.false_eq_true,if_true,if_false,gi]
  ·have b3:((k:Int)==(P.length:Int))=false:=by rw[beq_eq_false_iff_ne];omega
   have hlt:k < P.length:=by omega
   have l1:=h.lb k
   have l2:=h.lb (k - 1)
   have p1:=h.pb k
   have p2:=h.pb (k - 1)
   have xb:=h.xb
   have up:=h.up (k - 1) k (by omega) hlt
   have mb:=pmul_b (u:=gi l k - gi l (k - 1)) (v:=x - gi P (k - 1)) (by omega) (by omega) (by omega) (by omega)
   have fl:=s55 ((gi l k - gi l (k - 1)) * (x - gi P (k - 1))) (gi P k - gi P (k - 1)) (by omega) (by omega) (by omega) (by omega)
   have it : -2000000000000000≤(gi l k - gi l (k - 1)) * (x - gi P (k - 1)) / (gi P k - gi P (k - 1))∧(gi l k - gi l (k - 1)) * (x - gi P (k - 1)) / (gi P k - gi P (k - 1))≤2000000000000000:=by
    generalize (gi l k - gi l (k - 1)) * (x - gi P (k - 1))=m at mb ⊢
    have d:0 < gi P k - gi P (k - 1):=by omega
    generalize gi P k - gi P (k - 1)=d' at d ⊢
    constructor
    ·apply Int.le_ediv_of_mul_le d
     have:(2000000000000000:Int)≤2000000000000000 * d':=by
      have:=Int.mul_le_mul_of_nonneg_left (a:=1) (b:=d') (c:=2000000000000000) (by omega) (by decide)
      omega
     have : -2000000000000000 * d' = -(2000000000000000 * d'):=Int.neg_mul _ _
     omega
    ·by_cases hm0:0≤m
     ·exact Int.le_trans (Int.ediv_le_self _ hm0) mb.2
     ·have:=Int.ediv_neg_of_neg_of_pos (by omega:m < 0) d
      omega
   rw[if_neg h0,if_neg hn]
   unfold C9
   unfold gi at l1 l2 p1 p2 up mb fl it ⊢
   have b4:(0:Int)≤(k:Int):=by omega
   have b5:(k:Int) < (P.length:Int):=by omega
   have b6:((k - 1:Nat):Int) < (P.length:Int):=by omega
   have b7:(k:Int) < (l.length:Int):=by omega
   have w1:IntKind.wrap .i64 (l.getD k default - l.getD (k - 1) default)=l.getD k default - l.getD (k - 1) default:=Ah (by omega) (by omega)
   have w2:IntKind.wrap .i64 (x - P.getD (k - 1) default)=x - P.getD (k - 1) default:=Ah (by omega) (by omega)
   have w3:IntKind.wrap .i64 ((l.getD k default - l.getD (k - 1) default) * (x - P.getD (k - 1) default))=(l.getD k default - l.getD (k - 1) default) * (x - P.getD (k - 1) default):=Ah (by omega) (by omega)
   have w4:IntKind.wrap .i64 (P.getD k default - P.getD (k - 1) default)=P.getD k default - P.getD (k - 1) default:=Ah (by omega) (by omega)
   have w5:IntKind.wrap .i64 (l.getD (k - 1) default+(l.getD k default - l.getD (k - 1) default) * (x - P.getD (k - 1) default) / (P.getD k default - P.getD (k - 1) default))=l.getD (k - 1) default+(l.getD k default - l.getD (k - 1) default) * (x - P.getD (k - 1) default) / (P.getD k default - P.getD (k - 1) default):=Ah (by omega) (by omega)
   simp only[b0,b3,w,b1,b2,b4,b5,b6,b7,Int.toNat_natCast,Bool.false_eq_true,if_true,if_false,w1,w2,w3,w4,fl,Option.bind_some,w5]
end Go.Av.Air
set_option maxRecDepth 100000
namespace Go.Av.Air
theorem in18 {p:B4} {t:List (List Int)} (h:Ot p.Alts p.Masses t) {j:Nat} (hj:j < p.Masses.length) (l c:List Int) (hc:c.length=p.Alts.length) :
  Ad (P7 p t (l,c,(j:Int))) (c,(0:Int))=some (.inl (Fa t p.Alts.length j)):=by
 have hm:=h.oa.small
 have hm2:=h.om.small
 obtain⟨x,e,rfl⟩:=Ay (b:=P7 p t (l,c,(j:Int))) (fun q=>∃ i:Nat,q.2=i∧i≤p.Alts.length∧Fill p.Alts.length (fun i=>tb t i j) i q.1) (fun q=>(p.Alts.length - q.2).toNat) (fun x=>x=.inl (Fa t p.Alts.length j)) (fun q hq=>by
  obtain⟨c,q2⟩:=q
  obtain⟨i,hqi,hi,hf⟩:=hq
  simp only at hqi hf
  subst hqi
  by_cases hlt:i < p.Alts.length
  ·have w:IntKind.wrap .i64 ((i:Int)+1)=((i+1:Nat):Int):=by rw[W0 hlt (by omega)];omega
   have d2:i < t.length:=by rw[h.len];exact hlt
   have d4:j < (t.getD i default).length:=by rw[h.sh i d2];exact hj
   refine .inl ⟨(c.set i (tb t i j),((i+1:Nat):Int)),?_,⟨i+1,rfl,hlt,hf.set hlt rfl⟩,by simp only;omega⟩
   simp only[P7,Int.toNat_natCast,As hlt,As d2,As d4,hlt,decide_true,if_true,C4 hf.1,w]
   rfl
  ·obtain rfl:i=p.Alts.length:=by omega
   refine .inr ⟨.inl c,?_,by rw[hf.done];rfl⟩
   simp only[P7,Int.toNat_natCast,Fo,decide_false,Bool.false_eq_true,if_false]) (c,0) ⟨0,rfl,Nat.zero_le _,Fill.start _ _ hc⟩
 exact e
theorem Sk {p:B4} {t:List (List Int)} (h:Ot p.Alts p.Masses t) {alt mass:Int} (ha : -10000000000≤alt∧alt≤10000000000) (hb : -10000000000≤mass∧mass≤10000000000):V8 p t alt mass=some (T p.Alts p.Masses t alt mass):=by
 have hm:=h.oa.small
 have hm2:=h.om.small
 obtain⟨x,e,rfl⟩:=Ay (b:=bv p t alt) (fun q=>∃ j:Nat,q.2.2=j∧j≤p.Masses.length∧Fill p.Masses.length (fun j=>V p.Alts (Fa t p.Alts.length j) alt) j q.1∧q.2.1.length=p.Alts.length) (fun q=>(p.Masses.length - q.2.2).toNat) (fun x=>x=.inl (Ju p.Alts p.Masses t alt)) (fun q hq=>by
  obtain⟨l,c,q2⟩:=q
  obtain⟨j,hqj,hj,hf,hc⟩:=hq
  simp only at hqj hf hc
  subst hqj
  by_cases hlt:j < p.Masses.length
  ·have w:IntKind.wrap .i64 ((j:Int)+1)=((j+1:Nat):Int):=by rw[W0 hlt (by omega)];omega
   have lc:(Fa t p.Alts.length j).length=p.Alts.length:=by simp[Fa]
   have hv:=Hx (vb_col h j ha)
   refine .inl ⟨(l.set j (V p.Alts (Fa t p.Alts.length j) alt),Fa t p.Alts.length j,((j+1:Nat):Int)),?_,⟨j+1,rfl,hlt,hf.set hlt rfl,lc⟩,by simp only;omega⟩
   refine Bp (y:=()) (by simp only[Int.toNat_natCast,As hlt,decide_true,if_true]) (Bp (y:=(l.set j (V p.Alts (Fa t p.Alts.length j) alt),Fa t p.Alts.length j)) (Bp (y:=()) rfl (Bp (y:=Fa t p.Alts.length j) (Bp (y:=()) rfl (in18 h hlt l c hc)) ?_)) ?_)
   ·simp only[Int.toNat_natCast,C4 lc,C4 hf.1,hv,if_true,Option.bind_some,As hlt,hlt]
   ·simp only[w]
  ·obtain rfl:j=p.Masses.length:=by omega
   refine .inr ⟨.inl l,?_,by rw[hf.done];rfl⟩
   simp only[bv,Int.toNat_natCast,Fo,decide_false,Bool.false_eq_true,if_false,Option.bind_some,A5]) (List.replicate p.Masses.length 0,List.replicate p.Alts.length 0,0) ⟨0,rfl,Nat.zero_le _,Fill.start _ _ (by simp),by simp⟩
 have e1:((0:Int)≤(p.Masses.length:Int))=True:=eq_true (by omega)
 have e2:((p.Masses.length:Int) * 8≤140737488355328)=True:=eq_true (by omega)
 have e3:((p.Masses.length:Int)≤9223372036854775807)=True:=eq_true (by omega)
 have e4:((0:Int)≤(p.Alts.length:Int))=True:=eq_true (by omega)
 have e5:((p.Alts.length:Int) * 8≤140737488355328)=True:=eq_true (by omega)
 have e6:((p.Alts.length:Int)≤9223372036854775807)=True:=eq_true (by omega)
 have lr:(Ju p.Alts p.Masses t alt).length=p.Masses.length:=by simp[Ju]
 rw[A18]
 refine Bp (y:=()) (by simp only[e1,e2,e3,e4,e5,e6,if_true]) (Bp (y:=Ju p.Alts p.Masses t alt) (Bp (y:=()) rfl ?_) ?_)
 ·simp only[Int.toNat_natCast];exact e
 ·simp only[Int.toNat_natCast,C4 lr,Hx (vb_row h alt hb),if_true,Option.bind_some]
  rfl
theorem np {p:B4} (hP:Gi p=some 0) (F:Cg p) {alt mass ticks:Int} (hr:ac alt mass) (h0:0≤ticks) (h5:ticks≤50000):m8 p alt mass ticks=some (R p mass ticks.toNat alt,0):=by
 obtain⟨n,rfl⟩:∃ n:Nat,ticks=n:=⟨ticks.toNat,by omega⟩
 have hm:=hr.2
 have hc:=F.ceil
 obtain⟨x,e,rfl⟩:=Ay (b:=Qr p mass) (fun q=>∃ (m:Nat) (b:Int),q=(b,(m:Int))∧m≤50000∧(-200000≤b∧b≤6000000)∧R p mass m b=R p mass n alt) (fun q=>q.2.toNat) (fun x=>x=.inl (R p mass n alt)) (fun q hq=>by
  obtain⟨m,b,rfl,h1,h2,h3⟩:=hq
  have hb:=F1 F.tC b mass
  have e:=Sk F.tC (alt:=b) (mass:=mass) (by omega) (by omega)
  cases m with
  | zero =>
   refine .inr ⟨.inl b,?_,by rw[← h3];rfl⟩
   have z:decide ((0:Int) < ((0:Nat):Int))=false:=by decide
   simp only[Qr,z,Bool.false_and,Bool.false_eq_true,if_false]
  | succ m =>
   have z:decide ((0:Int) < ((m+1:Nat):Int))=true:=decide_eq_true (by omega)
   by_cases c1:b < p.Ceiling
   ·have c1':=decide_eq_true c1
    by_cases c2:T p.Alts p.Masses p.Climb b mass=0
    ·have hg:gs p mass b=b:=by rw[ue c1,c2,if_neg (by omega)];omega
     rw[oq hg]at h3
     refine .inr ⟨.inl b,?_,by rw[h3]⟩
     simp only[Qr,z,c1',Bool.and_self,if_true,e,Option.bind_some,c2,beq_self_eq_true]
    ·have c3:(T p.Alts p.Masses p.Climb b mass==0)=false:=by simpa using c2
     have w1:IntKind.wrap .i64 (b+T p.Alts p.Masses p.Climb b mass)=b+T p.Alts p.Masses p.Climb b mass:=Ah (by omega) (by omega)
     have w2:IntKind.wrap .i64 (((m+1:Nat):Int) - 1)=(m:Int):=by rw[Ah (by omega) (by omega)];omega
     refine .inl ⟨(gs p mass b,(m:Int)),?_,⟨m,gs p mass b,rfl,by omega,gs_in F h2,h3⟩,by simp only;omega⟩
     rw[ue c1]
     simp only[Qr,z,c1',Bool.and_self,if_true,e,Option.bind_some,c3,Bool.false_eq_true,if_false,w1,w2]
   ·have c1':=decide_eq_false c1
    rw[oq (gs_top c1)]at h3
    refine .inr ⟨.inl b,?_,by rw[h3]⟩
    simp only[Qr,z,c1',Bool.and_false,Bool.false_eq_true,if_false]) (alt,(n:Int)) ⟨n,alt,rfl,by omega,hr.1,rfl⟩
 rw[A8,Di hP hr]
 refine Bp (y:=()) ?_ (Bp e rfl)
 have d1:decide ((0:Int)≤(n:Int))=true:=decide_eq_true h0
 have d2:decide ((n:Int)≤50000)=true:=decide_eq_true h5
 simp only[Option.bind_some,bne_self_eq_false,Bool.false_eq_true,if_false,Kf,d1,d2,Bool.and_self,Bool.not_true]
theorem AAS {alt:Int} (h : -200000≤alt∧alt≤6000000):ac alt 1:=⟨h,by decide,by decide⟩
theorem ph {p:B4} (hP:Gi p=some 0) (F:Cg p) {alt:Int} (h : -200000≤alt∧alt≤6000000):∃ v,m6 p alt=some (v,0)∧1≤v∧v≤10000:=by
 have vb:Vb p.Alts p.Descent alt:=Qy F.A F.lD (fun i hi=>by have:=F.bD i hi;omega) (by omega)
 rw[M6,Di hP (AAS h)]
 simp only[Option.bind_some,bne_self_eq_false,Bool.false_eq_true,if_false,Hx vb]
 exact⟨_,rfl,Gb F.A.asc (fun i hi=>F.bD i (by rw[F.lD];exact hi)) F.A.pos alt⟩
theorem jf {p:B4} (hP:Gi p=some 0) (F:Cg p) {alt:Int} (h : -200000≤alt∧alt≤6000000):∃ v,uq p alt=some (v,0)∧1≤v∧v≤1000:=by
 have vb:Vb p.Alts p.MaxSpeed alt:=Qy F.A F.lX (fun i hi=>by have:=F.bX i hi;omega) (by omega)
 rw[M39,Di hP (AAS h)]
 simp only[Option.bind_some,bne_self_eq_false,Bool.false_eq_true,if_false,Hx vb]
 exact⟨_,rfl,Gb F.A.asc (fun i hi=>F.bX i (by rw[F.lX];exact hi)) F.A.pos alt⟩
theorem idle_eq {p:B4} (hP:Gi p=some 0) (F:Cg p) {alt:Int} (h : -200000≤alt∧alt≤6000000):∃ v,v9 p alt=some (v,0)∧0≤v∧v≤50000:=by
 have vb:Vb p.Alts p.Idle alt:=Qy F.A F.lI (fun i hi=>by have:=F.bI i hi;omega) (by omega)
 rw[M97,Di hP (AAS h)]
 simp only[Option.bind_some,bne_self_eq_false,Bool.false_eq_true,if_false,Hx vb]
 exact⟨_,rfl,Gb F.A.asc (fun i hi=>F.bI i (by rw[F.lI];exact hi)) F.A.pos alt⟩
theorem jh {p:B4} (hP:Gi p=some 0) (F:Cg p) {mass:Int} (h:1≤mass∧mass≤3000000000):∃ v,ky p mass=some (v,0)∧1≤v∧v≤1000:=by
 have vb:Vb p.Masses p.MinSpeed mass:=Qy F.M F.ln (fun i hi=>by have:=F.bn i hi;omega) (by omega)
 rw[M37,Di hP (show ac 0 mass from⟨by decide,h⟩)]
 simp only[Option.bind_some,bne_self_eq_false,Bool.false_eq_true,if_false,Hx vb]
 exact⟨_,rfl,Gb F.M.asc (fun i hi=>F.bn i (by rw[F.ln];exact hi)) F.M.pos mass⟩
theorem ao {p:B4} (hP:Gi p=some 0) (F:Cg p) {alt mass:Int} (h:ac alt mass):∃ v,v7 p alt mass=some (v,0)∧0≤v∧v≤100000:=by
 have:=h.1
 have:=h.2
 rw[M95,Di hP h]
 simp only[Option.bind_some,bne_self_eq_false,Bool.false_eq_true,if_false,Sk F.tF (alt:=alt) (mass:=mass) (by omega) (by omega)]
 exact⟨_,rfl,F1 F.tF alt mass⟩
theorem Yo {p:B4} (hP:Gi p=some 0) (F:Cg p) {alt mass:Int} (h:ac alt mass) (tas:Int):∃ v e,v8 p alt mass tas=some (v,e)∧0≤v∧v≤100000:=by
 have h1:=h.1
 have h2:=h.2
 rw[M96,Di hP h]
 simp only[Option.bind_some,bne_self_eq_false,Bool.false_eq_true,if_false,Kf]
 by_cases c:0≤tas∧tas≤4000
 ·have hb:=F1 F.tR alt mass
  have h3:=F.ref
  have h4:=F.ext
  have c':(!(decide ((0:Int)≤tas)&&decide (tas≤4000)))=false:=by rw[decide_eq_true c.1,decide_eq_true c.2];rfl
  rw[c',if_neg (by decide),Sk F.tR (alt:=alt) (mass:=mass) (by omega) (by omega)]
  rw[Ah (x:=tas - p.Ref) (by omega) (by omega)]
  generalize T p.Alts p.Masses p.Cruise alt mass=t at hb ⊢
  obtain⟨d,hd,d1,d2⟩:∃ d,(if tas - p.Ref < 0 then(0:Int)else tas - p.Ref)=d∧0≤d∧d≤4000:=⟨_,rfl,by split<;>omega,by split<;>omega⟩
  rw[hd]
  have m1:0≤p.Extra * d:=Int.mul_nonneg h4.1 d1
  have m2:p.Extra * d≤100 * 4000:=Int.mul_le_mul h4.2 d2 d1 (by decide)
  rw[Ah (x:=p.Extra * d) (by omega) (by omega),Ah (x:=1000+p.Extra * d) (by omega) (by omega)]
  obtain⟨f,hf⟩:∃ f,1000+p.Extra * d=f:=⟨_,rfl⟩
  rw[hf]
  have m3:0≤t * f:=Int.mul_nonneg hb.1 (by omega)
  have m4:t * f≤100000 * 401000:=Int.mul_le_mul hb.2 (by omega) (by omega) (by decide)
  have e2:Int.tdiv (t * f) 1000=t * f / 1000:=Int.tdiv_eq_ediv_of_nonneg m3
  simp only[Option.bind_some,ne_eq,(by decide:¬ (1000:Int)=0),not_false_eq_true,if_true]
  rw[Ah (x:=t * f) (by omega) (by omega),e2,Ah (by omega) (by omega)]
  refine⟨_,_,rfl,?_,?_⟩<;>(split<;>omega)
 ·have c':(!(decide ((0:Int)≤tas)&&decide (tas≤4000)))=true:=by
   rw[Bool.not_eq_true',Bool.eq_false_iff];simp only[ne_eq,Bool.and_eq_true,decide_eq_true_eq];exact c
  rw[c',if_pos rfl]
  exact⟨0,2,rfl,by decide,by decide⟩
end Go.Av.Air
set_option maxRecDepth 100000
namespace Go.Av.Air
theorem M47 (a0 a1 a2:Int):E0 a0 a1 a2=((some ((decide (a1≤a0))&&(decide (a0≤a2)))):Option (Bool)):=by kernel_rfl
theorem M46 (a0:Be):Jy a0=((Option.bind (((E0 a0.X (-2000000:Int) (2000000:Int)).bind fun r1_0=>((if r1_0=true then E0 a0.Y (-2000000:Int) (2000000:Int)else some default).bind fun r1_1=>some (r1_0,r1_1)))) fun(x1:(Bool×Bool))=>(some (x1.1&&x1.2))):Option (Bool)):=by kernel_rfl
theorem M84 (a0:Ae):l6 a0=((Option.bind (Option.bind (((Jy a0.Corner).bind fun r1_0=>((if(!(!r1_0))=true then E0 a0.Cell (1:Int) (2000000:Int)else some default).bind fun r1_1=>((if(!((!r1_0) || (!r1_1)))=true then E0 a0.Err (0:Int) (60:Int)else some default).bind fun r1_2=>some (r1_0,r1_1,r1_2))))) fun(x1:(Bool×Bool×Bool))=>(if(((!x1.1) || (!x1.2.1)) || (!x1.2.2))=true then(some (.inr (false)))else(some (.inl ())))) (A5 fun(_:Unit)=>(Option.bind (Option.bind (some (.inl ())) (A5 fun(_:Unit)=>(Ad (fun(s1:Int)=>((if(decide (s1 < (a0.Alts.length:Int)))=true then(if(0≤s1)then(if(s1 < (a0.Alts.length:Int))then(Option.bind (Option.bind (E0 (a0.Alts.getD s1.toNat default) (-200000:Int) (6000000:Int)) fun r=>some r) fun x6=>(if(!x6)=true then(some (.inr (.inr (false))))else(some (.inl (IntKind.wrap .i64 (s1+1))))))else none)else none)else(some (.inr (.inl ())))):Option ((Int)⊕((Unit)⊕(Bool))))) (0:Int)))) (A5 fun(_:Unit)=>(Option.bind (Option.bind (some (.inl ())) (A5 fun(_:Unit)=>(Ad (fun(s2:Int)=>((if(decide (s2 < (a0.Winds.length:Int)))=true then(if(0≤s2)then(if(s2 < (a0.Winds.length:Int))then(Option.bind (((E0 (a0.Winds.getD s2.toNat default).East (-340:Int) (340:Int)).bind fun r12_0=>((if(!(!r12_0))=true then E0 (a0.Winds.getD s2.toNat default).North (-340:Int) (340:Int)else some default).bind fun r12_1=>(if(!((!r12_0) || (!r12_1)))=true→0≤s2 then(if(!((!r12_0) || (!r12_1)))=true→s2 < (a0.Devs.length:Int)then((if(!((!r12_0) || (!r12_1)))=true then E0 (a0.Devs.getD s2.toNat default) (-4000:Int) (4000:Int)else some default).bind fun r12_2=>some (r12_0,r12_1,r12_2))else none)else none)))) fun(x12:(Bool×Bool×Bool))=>(if(((!x12.1) || (!x12.2.1)) || (!x12.2.2))=true then(some (.inr (.inr (false))))else(some (.inl (IntKind.wrap .i64 (s2+1))))))else none)else none)else(some (.inr (.inl ())))):Option ((Int)⊕((Unit)⊕(Bool))))) (0:Int)))) (A5 fun(_:Unit)=>(some true))))))):Option (Bool)):=by kernel_rfl
noncomputable abbrev cn (a0:Ae):(Int)→Option ((Int)⊕((Unit)⊕(Bool))):=(fun(s2:Int)=>((if(decide (s2 < (a0.Winds.length:Int)))=true then(if(0≤s2)then(if(s2 < (a0.Winds.length:Int))then(Option.bind (((E0 (a0.Winds.getD s2.toNat default).East (-340:Int) (340:Int)).bind fun r12_0=>((if(!(!r12_0))=true then E0 (a0.Winds.getD s2.toNat default).North (-340:Int) (340:Int)else some default).bind fun r12_1=>(if(!((!r12_0) || (!r12_1)))=true→0≤s2 then(if(!((!r12_0) || (!r12_1)))=true→s2 < (a0.Devs.length:Int)then((if(!((!r12_0) || (!r12_1)))=true then E0 (a0.Devs.getD s2.toNat default) (-4000:Int) (4000:Int)else some default).bind fun r12_2=>some (r12_0,r12_1,r12_2))else none)else none)))) fun(x12:(Bool×Bool×Bool))=>(if(((!x12.1) || (!x12.2.1)) || (!x12.2.2))=true then(some (.inr (.inr (false))))else(some (.inl (IntKind.wrap .i64 (s2+1))))))else none)else none)else(some (.inr (.inl ())))):Option ((Int)⊕((Unit)⊕(Bool)))))
noncomputable abbrev cp (a0:Ae):(Int)→Option ((Int)⊕((Unit)⊕(Bool))):=(fun(s1:Int)=>((if(decide (s1 < (a0.Alts.length:Int)))=true then(if(0≤s1)then(if(s1 < (a0.Alts.length:Int))then(Option.bind (Option.bind (E0 (a0.Alts.getD s1.toNat default) (-200000:Int) (6000000:Int)) fun r=>some r) fun x6=>(if(!x6)=true then(some (.inr (.inr (false))))else(some (.inl (IntKind.wrap .i64 (s1+1))))))else none)else none)else(some (.inr (.inl ())))):Option ((Int)⊕((Unit)⊕(Bool)))))
theorem A84  (a0:Ae):l6 a0=((Option.bind (Option.bind (((Jy a0.Corner).bind fun r1_0=>((if(!(!r1_0))=true then E0 a0.Cell (1:Int) (2000000:Int)else some default).bind fun r1_1=>((if(!((!r1_0) || (!r1_1)))=true then E0 a0.Err (0:Int) (60:Int)else some default).bind fun r1_2=>some (r1_0,r1_1,r1_2))))) fun(x1:(Bool×Bool×Bool))=>(if(((!x1.1) || (!x1.2.1)) || (!x1.2.2))=true then(some (.inr (false)))else(some (.inl ())))) (A5 fun(_:Unit)=>(Option.bind (Option.bind (some (.inl ())) (A5 fun(_:Unit)=>(Ad (cp a0) (0:Int)))) (A5 fun(_:Unit)=>(Option.bind (Option.bind (some (.inl ())) (A5 fun(_:Unit)=>(Ad (cn a0) (0:Int)))) (A5 fun(_:Unit)=>(some true))))))):Option (Bool)):=M84 _
theorem M44 (a0:Ae):Ps a0=((Option.bind (if((((((decide (a0.NX < 1)) || (decide (16 < a0.NX))) || (decide (a0.NY < 1))) || (decide (16 < a0.NY))) || (decide ((a0.Alts.length:Int) < (1:Int)))) || (decide (8 < (a0.Alts.length:Int))))=true then(some (.inr ((3:Int))))else(if(((a0.Winds.length:Int) != (IntKind.wrap .i64 ((IntKind.wrap .i64 (a0.NX * a0.NY)) * (a0.Alts.length:Int)))) || ((a0.Devs.length:Int) != (IntKind.wrap .i64 ((IntKind.wrap .i64 (a0.NX * a0.NY)) * (a0.Alts.length:Int)))))=true then(some (.inr ((1:Int))))else(Option.bind (Option.bind (l6 a0) fun r=>some r) fun x6=>(if(!x6)=true then(some (.inr ((2:Int))))else(some (.inl ())))))) (A5 fun(_:Unit)=>(Option.bind (Option.bind (some (.inl ())) (A5 fun(_:Unit)=>(Ad (fun(s1:Int)=>((if(decide (s1 < (a0.Alts.length:Int)))=true then(if(0≤s1)then(if(s1 < (a0.Alts.length:Int))then(if(0≤(IntKind.wrap .i64 (s1 - 1)))then(if((IntKind.wrap .i64 (s1 - 1)) < (a0.Alts.length:Int))then(if(decide ((a0.Alts.getD s1.toNat default)≤(a0.Alts.getD (IntKind.wrap .i64 (s1 - 1)).toNat default)))=true then(some (.inr (.inr ((9:Int)))))else(some (.inl (IntKind.wrap .i64 (s1+1)))))else none)else none)else none)else none)else(some (.inr (.inl ())))):Option ((Int)⊕((Unit)⊕(Int))))) (1:Int)))) (A5 fun(_:Unit)=>(some (0:Int)))))):Option (Int)):=by kernel_rfl
noncomputable abbrev Uv (a0:Ae):(Int)→Option ((Int)⊕((Unit)⊕(Int))):=(fun(s1:Int)=>((if(decide (s1 < (a0.Alts.length:Int)))=true then(if(0≤s1)then(if(s1 < (a0.Alts.length:Int))then(if(0≤(IntKind.wrap .i64 (s1 - 1)))then(if((IntKind.wrap .i64 (s1 - 1)) < (a0.Alts.length:Int))then(if(decide ((a0.Alts.getD s1.toNat default)≤(a0.Alts.getD (IntKind.wrap .i64 (s1 - 1)).toNat default)))=true then(some (.inr (.inr ((9:Int)))))else(some (.inl (IntKind.wrap .i64 (s1+1)))))else none)else none)else none)else none)else(some (.inr (.inl ())))):Option ((Int)⊕((Unit)⊕(Int)))))
theorem A44  (a0:Ae):Ps a0=((Option.bind (if((((((decide (a0.NX < 1)) || (decide (16 < a0.NX))) || (decide (a0.NY < 1))) || (decide (16 < a0.NY))) || (decide ((a0.Alts.length:Int) < (1:Int)))) || (decide (8 < (a0.Alts.length:Int))))=true then(some (.inr ((3:Int))))else(if(((a0.Winds.length:Int) != (IntKind.wrap .i64 ((IntKind.wrap .i64 (a0.NX * a0.NY)) * (a0.Alts.length:Int)))) || ((a0.Devs.length:Int) != (IntKind.wrap .i64 ((IntKind.wrap .i64 (a0.NX * a0.NY)) * (a0.Alts.length:Int)))))=true then(some (.inr ((1:Int))))else(Option.bind (Option.bind (l6 a0) fun r=>some r) fun x6=>(if(!x6)=true then(some (.inr ((2:Int))))else(some (.inl ())))))) (A5 fun(_:Unit)=>(Option.bind (Option.bind (some (.inl ())) (A5 fun(_:Unit)=>(Ad (Uv a0) (1:Int)))) (A5 fun(_:Unit)=>(some (0:Int)))))):Option (Int)):=M44 _
theorem M48 (a0 a1 a2 a3:Int):H5 a0 a1 a2 a3=((if(a1≠0)then(some (⟨(if(if(IntKind.wrap .i64 (a2 - 2)) < (IntKind.wrap .i64 (Int.tdiv (IntKind.wrap .i64 ((if(IntKind.wrap .i64 (a0+(IntKind.wrap .i64 ((IntKind.wrap .i64 (a2 - 1)) * a1)))) < (if a3 < a0 then a0 else a3)then(IntKind.wrap .i64 (a0+(IntKind.wrap .i64 ((IntKind.wrap .i64 (a2 - 1)) * a1))))else(if a3 < a0 then a0 else a3)) - a0)) a1))then(IntKind.wrap .i64 (a2 - 2))else(IntKind.wrap .i64 (Int.tdiv (IntKind.wrap .i64 ((if(IntKind.wrap .i64 (a0+(IntKind.wrap .i64 ((IntKind.wrap .i64 (a2 - 1)) * a1)))) < (if a3 < a0 then a0 else a3)then(IntKind.wrap .i64 (a0+(IntKind.wrap .i64 ((IntKind.wrap .i64 (a2 - 1)) * a1))))else(if a3 < a0 then a0 else a3)) - a0)) a1))) < 0 then(0:Int)else(if(IntKind.wrap .i64 (a2 - 2)) < (IntKind.wrap .i64 (Int.tdiv (IntKind.wrap .i64 ((if(IntKind.wrap .i64 (a0+(IntKind.wrap .i64 ((IntKind.wrap .i64 (a2 - 1)) * a1)))) < (if a3 < a0 then a0 else a3)then(IntKind.wrap .i64 (a0+(IntKind.wrap .i64 ((IntKind.wrap .i64 (a2 - 1)) * a1))))else(if a3 < a0 then a0 else a3)) - a0)) a1))then(IntKind.wrap .i64 (a2 - 2))else(IntKind.wrap .i64 (Int.tdiv (IntKind.wrap .i64 ((if(IntKind.wrap .i64 (a0+(IntKind.wrap .i64 ((IntKind.wrap .i64 (a2 - 1)) * a1)))) < (if a3 < a0 then a0 else a3)then(IntKind.wrap .i64 (a0+(IntKind.wrap .i64 ((IntKind.wrap .i64 (a2 - 1)) * a1))))else(if a3 < a0 then a0 else a3)) - a0)) a1)))),(IntKind.wrap .i64 ((IntKind.wrap .i64 ((if(IntKind.wrap .i64 (a0+(IntKind.wrap .i64 ((IntKind.wrap .i64 (a2 - 1)) * a1)))) < (if a3 < a0 then a0 else a3)then(IntKind.wrap .i64 (a0+(IntKind.wrap .i64 ((IntKind.wrap .i64 (a2 - 1)) * a1))))else(if a3 < a0 then a0 else a3)) - a0)) - (IntKind.wrap .i64 ((if(if(IntKind.wrap .i64 (a2 - 2)) < (IntKind.wrap .i64 (Int.tdiv (IntKind.wrap .i64 ((if(IntKind.wrap .i64 (a0+(IntKind.wrap .i64 ((IntKind.wrap .i64 (a2 - 1)) * a1)))) < (if a3 < a0 then a0 else a3)then(IntKind.wrap .i64 (a0+(IntKind.wrap .i64 ((IntKind.wrap .i64 (a2 - 1)) * a1))))else(if a3 < a0 then a0 else a3)) - a0)) a1))then(IntKind.wrap .i64 (a2 - 2))else(IntKind.wrap .i64 (Int.tdiv (IntKind.wrap .i64 ((if(IntKind.wrap .i64 (a0+(IntKind.wrap .i64 ((IntKind.wrap .i64 (a2 - 1)) * a1)))) < (if a3 < a0 then a0 else a3)then(IntKind.wrap .i64 (a0+(IntKind.wrap .i64 ((IntKind.wrap .i64 (a2 - 1)) * a1))))else(if a3 < a0 then a0 else a3)) - a0)) a1))) < 0 then(0:Int)else(if(IntKind.wrap .i64 (a2 - 2)) < (IntKind.wrap .i64 (Int.tdiv (IntKind.wrap .i64 ((if(IntKind.wrap .i64 (a0+(IntKind.wrap .i64 ((IntKind.wrap .i64 (a2 - 1)) * a1)))) < (if a3 < a0 then a0 else a3)then(IntKind.wrap .i64 (a0+(IntKind.wrap .i64 ((IntKind.wrap .i64 (a2 - 1)) * a1))))else(if a3 < a0 then a0 else a3)) - a0)) a1))then(IntKind.wrap .i64 (a2 - 2))else(IntKind.wrap .i64 (Int.tdiv (IntKind.wrap .i64 ((if(IntKind.wrap .i64 (a0+(IntKind.wrap .i64 ((IntKind.wrap .i64 (a2 - 1)) * a1)))) < (if a3 < a0 then a0 else a3)then(IntKind.wrap .i64 (a0+(IntKind.wrap .i64 ((IntKind.wrap .i64 (a2 - 1)) * a1))))else(if a3 < a0 then a0 else a3)) - a0)) a1)))) * a1)))),a1⟩:Aa))else none):Option (Aa)):=by kernel_rfl
theorem M49 (a0:List Int) (a1:Int):Oo a0 a1=((Option.bind (if((0:Int)≤(0:Int))then(if(0 < (a0.length:Int))then(if(0≤(IntKind.wrap .i64 ((a0.length:Int) - (1:Int))))then(if((IntKind.wrap .i64 ((a0.length:Int) - (1:Int))) < (a0.length:Int))then(some (.inl ()))else none)else none)else none)else none) (A5 fun(_:Unit)=>(Option.bind (Ad (fun(s1:Int)=>((if(decide (s1 < (IntKind.wrap .i64 ((IntKind.wrap .i64 ((a0.length:Int) - (1:Int))) - 1))))=true→(0≤(IntKind.wrap .i64 (s1+1)))then(if(decide (s1 < (IntKind.wrap .i64 ((IntKind.wrap .i64 ((a0.length:Int) - (1:Int))) - 1))))=true→((IntKind.wrap .i64 (s1+1)) < (a0.length:Int))then(if((decide (s1 < (IntKind.wrap .i64 ((IntKind.wrap .i64 ((a0.length:Int) - (1:Int))) - 1))))&&(decide ((a0.getD (IntKind.wrap .i64 (s1+1)).toNat default)≤(if(a0.getD (IntKind.wrap .i64 ((a0.length:Int) - (1:Int))).toNat default) < (if a1 < (a0.getD (0:Int).toNat default)then(a0.getD (0:Int).toNat default)else a1)then(a0.getD (IntKind.wrap .i64 ((a0.length:Int) - (1:Int))).toNat default)else(if a1 < (a0.getD (0:Int).toNat default)then(a0.getD (0:Int).toNat default)else a1)))))=true then(some (.inl (IntKind.wrap .i64 (s1+1))))else(some (.inr (.inl s1))))else none)else none):Option ((Int)⊕((Int)⊕(Aa))))) (0:Int)) (A5 fun(y2:Int)=>(if((IntKind.wrap .i64 ((a0.length:Int) - (1:Int)))==0)=true then(some (⟨(0:Int),(0:Int),(1:Int)⟩:Aa))else(if(0≤y2)then(if(y2 < (a0.length:Int))then(if(0≤(IntKind.wrap .i64 (y2+1)))then(if((IntKind.wrap .i64 (y2+1)) < (a0.length:Int))then(if(0≤y2)then(if(y2 < (a0.length:Int))then(some (⟨y2,(IntKind.wrap .i64 ((if(a0.getD (IntKind.wrap .i64 ((a0.length:Int) - (1:Int))).toNat default) < (if a1 < (a0.getD (0:Int).toNat default)then(a0.getD (0:Int).toNat default)else a1)then(a0.getD (IntKind.wrap .i64 ((a0.length:Int) - (1:Int))).toNat default)else(if a1 < (a0.getD (0:Int).toNat default)then(a0.getD (0:Int).toNat default)else a1)) - (a0.getD y2.toNat default))),(IntKind.wrap .i64 ((a0.getD (IntKind.wrap .i64 (y2+1)).toNat default) - (a0.getD y2.toNat default)))⟩:Aa))else none)else none)else none)else none)else none)else none)))))):Option (Aa)):=by kernel_rfl
noncomputable abbrev P9 (a0:List Int) (a1:Int):(Int)→Option ((Int)⊕((Int)⊕(Aa))):=(fun(s1:Int)=>((if(decide (s1 < (IntKind.wrap .i64 ((IntKind.wrap .i64 ((a0.length:Int) - (1:Int))) - 1))))=true→(0≤(IntKind.wrap .i64 (s1+1)))then(if(decide (s1 < (IntKind.wrap .i64 ((IntKind.wrap .i64 ((a0.length:Int) - (1:Int))) - 1))))=true→((IntKind.wrap .i64 (s1+1)) < (a0.length:Int))then(if((decide (s1 < (IntKind.wrap .i64 ((IntKind.wrap .i64 ((a0.length:Int) - (1:Int))) - 1))))&&(decide ((a0.getD (IntKind.wrap .i64 (s1+1)).toNat default)≤(if(a0.getD (IntKind.wrap .i64 ((a0.length:Int) - (1:Int))).toNat default) < (if a1 < (a0.getD (0:Int).toNat default)then(a0.getD (0:Int).toNat default)else a1)then(a0.getD (IntKind.wrap .i64 ((a0.length:Int) - (1:Int))).toNat default)else(if a1 < (a0.getD (0:Int).toNat default)then(a0.getD (0:Int).toNat default)else a1)))))=true then(some (.inl (IntKind.wrap .i64 (s1+1))))else(some (.inr (.inl s1))))else none)else none):Option ((Int)⊕((Int)⊕(Aa)))))
theorem A49  (a0:List Int) (a1:Int):Oo a0 a1=((Option.bind (if((0:Int)≤(0:Int))then(if(0 < (a0.length:Int))then(if(0≤(IntKind.wrap .i64 ((a0.length:Int) - (1:Int))))then(if((IntKind.wrap .i64 ((a0.length:Int) - (1:Int))) < (a0.length:Int))then(some (.inl ()))else none)else none)else none)else none) (A5 fun(_:Unit)=>(Option.bind (Ad (P9 a0 a1) (0:Int)) (A5 fun(y2:Int)=>(if((IntKind.wrap .i64 ((a0.length:Int) - (1:Int)))==0)=true then(some (⟨(0:Int),(0:Int),(1:Int)⟩:Aa))else(if(0≤y2)then(if(y2 < (a0.length:Int))then(if(0≤(IntKind.wrap .i64 (y2+1)))then(if((IntKind.wrap .i64 (y2+1)) < (a0.length:Int))then(if(0≤y2)then(if(y2 < (a0.length:Int))then(some (⟨y2,(IntKind.wrap .i64 ((if(a0.getD (IntKind.wrap .i64 ((a0.length:Int) - (1:Int))).toNat default) < (if a1 < (a0.getD (0:Int).toNat default)then(a0.getD (0:Int).toNat default)else a1)then(a0.getD (IntKind.wrap .i64 ((a0.length:Int) - (1:Int))).toNat default)else(if a1 < (a0.getD (0:Int).toNat default)then(a0.getD (0:Int).toNat default)else a1)) - (a0.getD y2.toNat default))),(IntKind.wrap .i64 ((a0.getD (IntKind.wrap .i64 (y2+1)).toNat default) - (a0.getD y2.toNat default)))⟩:Aa))else none)else none)else none)else none)else none)else none)))))):Option (Aa)):=M49 _ _
theorem M55 (a0:Ae) (a1 a2 a3:Int):Mz a0 a1 a2 a3=((some (IntKind.wrap .i64 ((IntKind.wrap .i64 ((IntKind.wrap .i64 ((IntKind.wrap .i64 (a3 * a0.NY))+a2)) * a0.NX))+a1))):Option (Int)):=by kernel_rfl
theorem Gx (n lo hi:Int):E0 n lo hi=some (decide (lo≤n)&&decide (n≤hi)):=M47 _ _ _
def R7 (p:Be):Prop:=(-2000000≤p.X∧p.X≤2000000) ∧ -2000000≤p.Y∧p.Y≤2000000
theorem Rg (p:Be):∃ a,Jy p=some a∧(a=true↔R7 p):=by
 rw[M46]
 simp only[Gx,Option.bind_some]
 unfold R7
 by_cases c : -2000000≤p.X∧p.X≤2000000
 ·rw[decide_eq_true c.1,decide_eq_true c.2]
  refine⟨_,rfl,?_⟩
  simp only[Bool.and_self,Bool.true_and,Bool.and_eq_true,decide_eq_true_eq,c,true_and]
 ·have:(decide (-2000000≤p.X)&&decide (p.X≤2000000))=false:=by rw[Bool.eq_false_iff];simpa only[ne_eq,Bool.and_eq_true,decide_eq_true_eq] using c
  rw[this]
  exact⟨false,rfl,⟨fun h=>(by cases h),fun h=>absurd h.1 c⟩⟩
theorem q6 (p:Be):OkB (Jy p) (R7 p):=by
 obtain⟨a,h1,h2⟩:=Rg p
 exact⟨a,h1,h2.1⟩
theorem Kw {p:Be} (h:R7 p):Jy p=some true:=by
 obtain⟨a,h1,h2⟩:=Rg p
 rw[h1,h2.2 h]
structure GVal (g:Ae):Prop where
 o:R7 g.Corner
 c:1≤g.Cell∧g.Cell≤2000000
 e:0≤g.Err∧g.Err≤60
 a:∀ i,i < g.Alts.length → -200000≤gi g.Alts i∧gi g.Alts i≤6000000
 w:∀ k,k < g.Winds.length→(-340≤(g.Winds.getD k default).East∧(g.Winds.getD k default).East≤340)∧(-340≤(g.Winds.getD k default).North∧(g.Winds.getD k default).North≤340) ∧ -4000≤gi g.Devs k∧gi g.Devs k≤4000
theorem yv {g:Ae} (ha:g.Alts.length≤maxLen) (hw:g.Winds.length≤maxLen) (hd:g.Devs.length=g.Winds.length):OkB (l6 g) (GVal g):=by
 rw[A84]
 obtain⟨a0,h0,p0⟩:=q6 g.Corner
 rw[h0]
 cases a0 with
 | false=>exact⟨false,rfl,fun h=>by cases h⟩
 | true =>
  simp only[Gx,Option.bind_some,Bool.not_true,Bool.not_false,if_true,Bool.false_or]
  by_cases c1:1≤g.Cell∧g.Cell≤2000000
  case neg =>
   have:(decide (1≤g.Cell)&&decide (g.Cell≤2000000))=false:=by rw[Bool.eq_false_iff];simpa only[ne_eq,Bool.and_eq_true,decide_eq_true_eq] using c1
   rw[this];exact⟨false,rfl,fun h=>by cases h⟩
  rw[decide_eq_true c1.1,decide_eq_true c1.2]
  simp only[Bool.and_self,Option.bind_some,Bool.not_true,Bool.not_false,if_true,Bool.false_or]
  by_cases c2:0≤g.Err∧g.Err≤60
  case neg =>
   have:(decide (0≤g.Err)&&decide (g.Err≤60))=false:=by rw[Bool.eq_false_iff];simpa only[ne_eq,Bool.and_eq_true,decide_eq_true_eq] using c2
   rw[this];exact⟨false,rfl,fun h=>by cases h⟩
  rw[decide_eq_true c2.1,decide_eq_true c2.2]
  simp only[Bool.and_self,Option.bind_some,Bool.not_true,Bool.false_eq_true,if_false,A5]
  refine D1 0 g.Alts.length (fun i => -200000≤gi g.Alts i∧gi g.Alts i≤6000000) (fun i _ hi'=>?_) (fun i h=>by simp only[cp,Dm h,Bool.false_eq_true,if_false]) (fun hA=>?_)
  ·simp only[cp,As hi',decide_true,if_true,Int.toNat_natCast,Gx,Option.bind_some,La hi' ha]
   unfold gi
   by_cases c : -200000≤g.Alts.getD i default∧g.Alts.getD i default≤6000000
   ·left;refine⟨c,?_⟩;rw[decide_eq_true c.1,decide_eq_true c.2];rfl
   ·right
    have:(decide (-200000≤g.Alts.getD i default)&&decide (g.Alts.getD i default≤6000000))=false:=by rw[Bool.eq_false_iff];simpa only[ne_eq,Bool.and_eq_true,decide_eq_true_eq] using c
    rw[this];rfl
  refine D1 0 g.Winds.length (fun k=>(-340≤(g.Winds.getD k default).East∧(g.Winds.getD k default).East≤340)∧(-340≤(g.Winds.getD k default).North∧(g.Winds.getD k default).North≤340) ∧ -4000≤gi g.Devs k∧gi g.Devs k≤4000) (fun i _ hi'=>?_) (fun i h=>by simp only[cn,Dm h,Bool.false_eq_true,if_false]) (fun hW=>.true_ ⟨p0 rfl,c1,c2,fun i hi=>hA i (Nat.zero_le _) hi,fun k hk=>hW k (Nat.zero_le _) hk⟩)
  have hi2:i < g.Devs.length:=by omega
  simp only[cn,As hi',As hi2,decide_true,if_true,implies_true,Int.toNat_natCast,Gx,Option.bind_some,La hi' hw]
  unfold gi
  by_cases c : -340≤(g.Winds.getD i default).East∧(g.Winds.getD i default).East≤340
  case neg =>
   have:(decide (-340≤(g.Winds.getD i default).East)&&decide ((g.Winds.getD i default).East≤340))=false:=by rw[Bool.eq_false_iff];simpa only[ne_eq,Bool.and_eq_true,decide_eq_true_eq] using c
   right;rw[this];rfl
  rw[decide_eq_true c.1,decide_eq_true c.2]
  simp only[Bool.and_self,Option.bind_some,Bool.not_true,Bool.not_false,if_true,Bool.false_or]
  by_cases c' : -340≤(g.Winds.getD i default).North∧(g.Winds.getD i default).North≤340
  case neg =>
   have:(decide (-340≤(g.Winds.getD i default).North)&&decide ((g.Winds.getD i default).North≤340))=false:=by rw[Bool.eq_false_iff];simpa only[ne_eq,Bool.and_eq_true,decide_eq_true_eq] using c'
   right;rw[this];rfl
  rw[decide_eq_true c'.1,decide_eq_true c'.2]
  simp only[Bool.and_self,Option.bind_some,Bool.not_true,Bool.not_false,if_true,Bool.false_or]
  by_cases c2 : -4000≤g.Devs.getD i default∧g.Devs.getD i default≤4000
  case neg =>
   have:(decide (-4000≤g.Devs.getD i default)&&decide (g.Devs.getD i default≤4000))=false:=by rw[Bool.eq_false_iff];simpa only[ne_eq,Bool.and_eq_true,decide_eq_true_eq] using c2
   right;rw[this];rfl
  rw[decide_eq_true c2.1,decide_eq_true c2.2]
  left;exact⟨⟨c,c',c2⟩,rfl⟩
structure Jn (g:Ae) (nx ny nz:Nat):Prop where
 ex:g.NX=nx
 ey:g.NY=ny
 ez:g.Alts.length=nz
 x:1≤nx∧nx≤16
 y:1≤ny∧ny≤16
 z:1≤nz∧nz≤8
 lw:g.Winds.length=nx * ny * nz
 ld:g.Devs.length=nx * ny * nz
 v:GVal g
 asc:Jc g.Alts
theorem u9 {g:Ae} (ha:g.Alts.length≤maxLen) (hw:g.Winds.length≤maxLen):Ok (Ps g) (∃ nx ny nz,Jn g nx ny nz):=by
 rw[A44]
 by_cases c1:((((((decide (g.NX < 1)) || (decide (16 < g.NX))) || (decide (g.NY < 1))) || (decide (16 < g.NY))) || (decide ((g.Alts.length:Int) < (1:Int)))) || (decide (8 < (g.Alts.length:Int))))=true
 ·rw[if_pos c1];exact .err (by decide)
 rw[if_neg c1]
 simp only[Bool.or_eq_true,decide_eq_true_eq,not_or]at c1
 obtain⟨nx,hx⟩:∃ nx:Nat,g.NX=nx:=⟨g.NX.toNat,by omega⟩
 obtain⟨ny,hy⟩:∃ ny:Nat,g.NY=ny:=⟨g.NY.toNat,by omega⟩
 have hxy:nx * ny≤16 * 16:=Nat.mul_le_mul (by omega) (by omega)
 have hz:nx * ny * g.Alts.length≤16 * 16 * 8:=Nat.mul_le_mul hxy (by omega)
 have w1:IntKind.wrap .i64 ((nx:Int) * (ny:Int))=((nx * ny:Nat):Int):=by rw[Ah (by rw[← Int.natCast_mul];omega) (by rw[← Int.natCast_mul];omega),Int.natCast_mul]
 have w2:IntKind.wrap .i64 (((nx * ny:Nat):Int) * (g.Alts.length:Int))=((nx * ny * g.Alts.length:Nat):Int):=by rw[Ah (by rw[← Int.natCast_mul];omega) (by rw[← Int.natCast_mul];omega),Int.natCast_mul (nx * ny)]
 rw[hx,hy,w1,w2]
 by_cases c2:(((g.Winds.length:Int) != ((nx * ny * g.Alts.length:Nat):Int)) || ((g.Devs.length:Int) != ((nx * ny * g.Alts.length:Nat):Int)))=true
 ·rw[if_pos c2];exact .err (by decide)
 rw[if_neg c2]
 simp only[Bool.or_eq_true,bne_iff_ne,not_or,ne_eq,Decidable.not_not]at c2
 obtain⟨a,h1,h2⟩:=yv (g:=g) ha hw (by omega)
 rw[h1]
 cases a with
 | false=>exact .err (by decide)
 | true =>
  simp only[Option.bind_some,Bool.not_true,Bool.false_eq_true,if_false,A5]
  rcases Ge (b:=Uv g) (z:=(9:Int)) (k:=fun _=>some (0:Int)) 1 g.Alts.length (fun i=>gi g.Alts (i - 1) < gi g.Alts i) (fun i hi1 hi'=>by
    have z:=As (show i - 1 < g.Alts.length by omega)
    simp only[Uv,As hi',z,decide_true,if_true,Int.toNat_natCast,yz hi1 hi' ha,La hi' ha]
    unfold gi
    by_cases c:g.Alts.getD (i - 1) default < g.Alts.getD i default
    ·left
     have:decide (g.Alts.getD i default≤g.Alts.getD (i - 1) default)=false:=decide_eq_false (by omega)
     rw[this];exact⟨c,rfl⟩
    ·right
     have:decide (g.Alts.getD i default≤g.Alts.getD (i - 1) default)=true:=decide_eq_true (by omega)
     rw[this];rfl) (fun i h=>by simp only[Uv,Dm h,Bool.false_eq_true,if_false]) with⟨k1,k2⟩ | k2
  ·exact⟨0,k2,fun _=>⟨nx,ny,g.Alts.length,hx,hy,rfl,by omega,by omega,by omega,by omega,by omega,h2 rfl,We k1⟩⟩
  ·exact⟨9,k2,fun h=>by cases h⟩
structure Jo (n:Nat) (s:Aa) (i:Nat):Prop where
 ei:s.i=(i:Int)
 lt:i < n
 f0:0≤s.f
 fc:s.f≤s.c
 c1:1≤s.c∧s.c≤10000000
 nx:0 < s.f→i+1 < n
def F7 (o c n x:Int):Int:=(if o+(n - 1) * c < (if x < o then o else x)then o+(n - 1) * c else(if x < o then o else x)) - o
def sI (o c n x:Int):Int:=if(if n - 2 < F7 o c n x / c then n - 2 else F7 o c n x / c) < 0 then 0 else(if n - 2 < F7 o c n x / c then n - 2 else F7 o c n x / c)
section
variable {o c x:Int} {n:Nat}
theorem sClip_b (hc:1≤c∧c≤2000000) (hn:1≤n∧n≤16):0≤F7 o c n x∧F7 o c n x≤((n:Int) - 1) * c:=by
 have m1:0≤((n:Int) - 1) * c:=Int.mul_nonneg (by omega) (by omega)
 unfold F7
 repeat' split
 all_goals omega
theorem qu (hc:1≤c∧c≤2000000) (hn:1≤n∧n≤16) {y:Int} (h:x≤y):F7 o c n x≤F7 o c n y:=by
 have m1:0≤((n:Int) - 1) * c:=Int.mul_nonneg (by omega) (by omega)
 unfold F7
 repeat' split
 all_goals omega
theorem Ko (ho : -2000000≤o∧o≤2000000) (hx : -2000000≤x∧x≤2000000) (hc:1≤c∧c≤2000000) (hn:1≤n∧n≤16):∃ (s:Aa) (i:Nat),H5 o c n x=some s∧Jo n s i∧sI o c n x=i:=by
 have m1:0≤((n:Int) - 1) * c:=Int.mul_nonneg (by omega) (by omega)
 have m2:((n:Int) - 1) * c≤15 * 2000000:=Int.mul_le_mul (by omega) hc.2 (by omega) (by decide)
 obtain⟨k1,k2⟩:=sClip_b (o:=o) (x:=x) hc hn
 obtain⟨X,hX⟩:∃ X,F7 o c n x=X:=⟨_,rfl⟩
 rw[hX]at k1 k2
 have q0:0≤X / c:=Int.ediv_nonneg (by omega) (by omega)
 have q1:X / c * c≤X:=Int.ediv_mul_le X (by omega)
 have q2:X < X / c * c+c:=by
  have:=Int.lt_ediv_add_one_mul_self X (show 0 < c by omega)
  rw[Int.add_mul,Int.one_mul]at this;exact this
 have qn:X / c≤(n:Int) - 1:=by
  apply Int.le_of_lt_add_one
  apply Int.ediv_lt_of_lt_mul (by omega)
  have:((n:Int) - 1+1) * c=((n:Int) - 1) * c+c:=by rw[Int.add_mul,Int.one_mul]
  omega
 have qe:X / c=(n:Int) - 1→X=((n:Int) - 1) * c:=fun e=>by rw[e]at q1;omega
 have e1:Int.tdiv X c=X / c:=Int.tdiv_eq_ediv_of_nonneg (by omega)
 obtain⟨i,hi⟩:∃ i:Nat,sI o c n x=i:=⟨(sI o c n x).toNat,by unfold sI;rw[hX];split<;>(try split)<;>omega⟩
 have hi':=hi
 unfold sI at hi'
 rw[hX]at hi'
 have cs:((i:Int)=0∧(X / c=0∨(n:Int)=1))∨((i:Int)=(n:Int) - 2∧X / c=(n:Int) - 1∧2≤n)∨((i:Int)=X / c∧X / c≤(n:Int) - 2):=by
  revert hi'
  repeat' split
  all_goals omega
 have ilt:i < n:=by omega
 have n1:((n:Int) - 1) * c=((n:Int) - 2) * c+c:=by rw[show (n:Int) - 1=(n:Int) - 2+1 by omega,Int.add_mul,Int.one_mul]
 have i0:0≤(i:Int) * c:=Int.mul_nonneg (by omega) (by omega)
 have fb:(i:Int) * c≤X∧X - (i:Int) * c≤c∧(0 < X - (i:Int) * c→i+1 < n):=by
  rcases cs with⟨h,h1⟩ | ⟨h,h1,h2⟩ | ⟨h,h1⟩
  ·rw[h,Int.zero_mul]
   rcases h1 with h1 | h1
   ·rw[h1,Int.zero_mul]at q2
    refine⟨by omega,by omega,fun h0=>?_⟩
    by_cases e:(n:Int)=1
    ·rw[e]at k2;omega
    ·omega
   ·rw[h1]at k2
    omega
  ·rw[h]
   have:=qe h1
   omega
  ·rw[h]
   omega
 have im:=fb.1
 refine⟨⟨(i:Int),X - (i:Int) * c,c⟩,i,?_,⟨rfl,ilt,by simp only;omega,fb.2.1,by simp only;omega,fb.2.2⟩,hi⟩
 have w1:IntKind.wrap .i64 ((n:Int) - 1)=(n:Int) - 1:=Ah (by omega) (by omega)
 have w2:IntKind.wrap .i64 (((n:Int) - 1) * c)=((n:Int) - 1) * c:=Ah (by omega) (by omega)
 have w3:IntKind.wrap .i64 (o+((n:Int) - 1) * c)=o+((n:Int) - 1) * c:=Ah (by omega) (by omega)
 have w4:IntKind.wrap .i64 ((n:Int) - 2)=(n:Int) - 2:=Ah (by omega) (by omega)
 have w5:IntKind.wrap .i64 ((if o+((n:Int) - 1) * c < (if x < o then o else x)then o+((n:Int) - 1) * c else(if x < o then o else x)) - o)=X:=by
  have:(if o+((n:Int) - 1) * c < (if x < o then o else x)then o+((n:Int) - 1) * c else(if x < o then o else x)) - o=X:=hX
  rw[this,Ah (by omega) (by omega)]
 have w6:IntKind.wrap .i64 (X / c)=X / c:=Ah (by omega) (by omega)
 have w7:IntKind.wrap .i64 ((i:Int) * c)=(i:Int) * c:=Ah (by omega) (by omega)
 have w8:IntKind.wrap .i64 (X - (i:Int) * c)=X - (i:Int) * c:=Ah (by omega) (by omega)
 have w0:IntKind.wrap .i64 X=X:=Ah (by omega) (by omega)
 rw[M48,if_pos (by omega)]
 simp only[w1,w2,w3,w4,w5,e1,w6,hi',w7,w8,w0]
theorem Kn (hc:1≤c∧c≤2000000) (hn:1≤n∧n≤16) {y:Int} (h:x≤y):sI o c n x≤sI o c n y:=by
 have:=Int.ediv_le_ediv (show 0 < c by omega) (qu (o:=o) hc hn h)
 unfold sI
 generalize F7 o c n x / c=a at this ⊢
 generalize F7 o c n y / c=b at this ⊢
 repeat' split
 all_goals omega
end
end Go.Av.Air
set_option maxRecDepth 100000
namespace Go.Av.Air
def Nw (l:List Int) (a:Int):Int:=if gi l (l.length - 1) < (if a < gi l 0 then gi l 0 else a)then gi l (l.length - 1)else(if a < gi l 0 then gi l 0 else a)
theorem q8 (l:List Int) {a b:Int} (h:a≤b):Nw l a≤Nw l b:=by
 unfold Nw
 repeat' split
 all_goals omega
structure LevP (l:List Int) (a:Int) (i:Nat):Prop where
 lo:∀ j,1≤j→j≤i→gi l j≤Nw l a
 hi:i+2 < l.length→Nw l a < gi l (i+1)
 lt:i=0∨i+1 < l.length
theorem LevP.mono {l:List Int} {a b:Int} {i k:Nat} (h:a≤b) (H:LevP l a i) (K:LevP l b k):i≤k:=by
 by_cases hk:k < i
 ·have h1:=K.hi (by have:=H.lt;omega)
  have h2:=H.lo (k+1) (by omega) (by omega)
  have:=q8 l h
  omega
 ·omega
theorem S3 {l:List Int} {a:Int} (hl:1≤l.length∧l.length≤8) (asc:Jc l) (hb:∀ i,i < l.length → -200000≤gi l i∧gi l i≤6000000) (ha : -200000≤a∧a≤6000000) :
  ∃ (s:Aa) (i:Nat),Oo l a=some s∧Jo l.length s i∧LevP l a i:=by
 obtain⟨A,hA⟩:∃ A,Nw l a=A:=⟨_,rfl⟩
 have b0:=hb 0 (by omega)
 have bL:=hb (l.length - 1) (by omega)
 have w1:IntKind.wrap .i64 ((l.length:Int) - 1)=((l.length - 1:Nat):Int):=by rw[Ah (by omega) (by omega)];omega
 have w2:IntKind.wrap .i64 (((l.length - 1:Nat):Int) - 1)=(l.length:Int) - 2:=by rw[Ah (by omega) (by omega)];omega
 have hA':(if l.getD (l.length - 1) default < (if a < l.getD 0 default then l.getD 0 default else a)then l.getD (l.length - 1) default else(if a < l.getD 0 default then l.getD 0 default else a))=A:=hA
 have t0:(0:Int).toNat=0:=rfl
 have aB:gi l 0≤A∧A≤gi l (l.length - 1):=by
  have:gi l 0≤gi l (l.length - 1):=by
   by_cases e:l.length=1
   ·rw[e];exact Int.le_refl _
   ·exact Int.le_of_lt (asc 0 (l.length - 1) (by omega) (by omega))
  rw[← hA]
  unfold Nw
  repeat' split
  all_goals omega
 obtain⟨z,e,i,rfl,P⟩:=Ay (b:=P9 l a) (fun q=>∃ i:Nat,q=i∧(i=0∨i+1 < l.length)∧∀ j,1≤j→j≤i→gi l j≤A) (fun q=>(8 - q).toNat) (fun z=>∃ i:Nat,z=.inl (i:Int)∧LevP l a i) (fun q hq=>by
  obtain⟨i,rfl,hi,H⟩:=hq
  by_cases hlt:i+2 < l.length
  ·have c1:decide ((i:Int) < (l.length:Int) - 2)=true:=decide_eq_true (by omega)
   have z:=As (show i+1 < l.length by omega)
   have w:IntKind.wrap .i64 ((i:Int)+1)=((i+1:Nat):Int):=by rw[Ah (by omega) (by omega)];omega
   by_cases c:gi l (i+1)≤A
   ·refine .inl ⟨((i+1:Nat):Int),?_,⟨i+1,rfl,.inr (by omega),fun j h1 h2=>?_⟩,by omega⟩
    ·unfold gi at c
     simp only[P9,w1,w2,c1,w,z,implies_true,if_true,Int.toNat_natCast,t0,hA',decide_eq_true c,Bool.and_self]
    ·by_cases ej:j=i+1
     ·rw[ej];exact c
     ·exact H j h1 (by omega)
   ·refine .inr ⟨.inl (i:Int),?_,i,rfl,fun j h1 h2=>by rw[hA];exact H j h1 h2,fun _=>by rw[hA];omega,hi⟩
    unfold gi at c
    simp only[P9,w1,w2,c1,w,z,implies_true,if_true,Int.toNat_natCast,t0,hA',decide_eq_false c,Bool.and_false,Bool.false_eq_true,if_false]
  ·refine .inr ⟨.inl (i:Int),?_,i,rfl,fun j h1 h2=>by rw[hA];exact H j h1 h2,fun h=>absurd h hlt,hi⟩
   have c1:decide ((i:Int) < (l.length:Int) - 2)=false:=decide_eq_false (by omega)
   simp only[P9,w1,w2,c1,Bool.false_eq_true,false_implies,if_true,Bool.false_and,if_false]) 0 ⟨0,rfl,.inl rfl,fun j h1 h2=>by omega⟩
 have c0:(0:Int) < (l.length:Int):=by omega
 have z:=As (show l.length - 1 < l.length by omega)
 by_cases h1:l.length=1
 ·have hi0:i=0:=by have:=P.lt;omega
  subst hi0
  refine⟨⟨0,0,1⟩,0,?_,⟨rfl,by omega,by decide,by decide,by decide,fun h=>(by cases h)⟩,P⟩
  have c2:(((l.length - 1:Nat):Int)==0)=true:=by rw[beq_iff_eq];omega
  rw[A49]
  refine Bp (y:=()) (by simp only[Int.le_refl,c0,w1,z,if_true]) (Bp e ?_)
  simp only[w1,c2,if_true]
 ·have hlt:=P.lt
  have hi1:i+1 < l.length:=by omega
  have f1:gi l i≤A:=by
   by_cases e0:i=0
   ·rw[e0];exact aB.1
   ·have:=P.lo i (by omega) (Nat.le_refl _);rw[hA]at this;exact this
  have f2:A≤gi l (i+1):=by
   by_cases e0:i+2 < l.length
   ·have:=P.hi e0;rw[hA]at this;omega
   ·rw[show i+1=l.length - 1 by omega];exact aB.2
  have g1:=hb i (by omega)
  have g2:=hb (i+1) hi1
  have up:=asc i (i+1) (by omega) hi1
  refine⟨⟨(i:Int),A - gi l i,gi l (i+1) - gi l i⟩,i,?_,⟨rfl,by omega,by simp only;omega,by simp only;omega,by simp only;omega,fun _=>hi1⟩,P⟩
  have c2:(((l.length - 1:Nat):Int)==0)=false:=by rw[beq_eq_false_iff_ne];omega
  have w:IntKind.wrap .i64 ((i:Int)+1)=((i+1:Nat):Int):=by rw[Ah (by omega) (by omega)];omega
  unfold gi at f1 f2 g1 g2 up ⊢
  have w3:IntKind.wrap .i64 (A - l.getD i default)=A - l.getD i default:=Ah (by omega) (by omega)
  have w4:IntKind.wrap .i64 (l.getD (i+1) default - l.getD i default)=l.getD (i+1) default - l.getD i default:=Ah (by omega) (by omega)
  rw[A49]
  refine Bp (y:=()) (by simp only[Int.le_refl,c0,w1,z,if_true]) (Bp e ?_)
  simp only[w1,c2,Bool.false_eq_true,if_false,As (show i < l.length by omega),As hi1,w,if_true,Int.toNat_natCast,t0,hA',w3,w4]
end Go.Av.Air
set_option maxRecDepth 100000
namespace Go.Av.Air
theorem M112o0 (a0:Int) (a1:A6):Pg a0 a1=((some ()):Option (Unit)):=by kernel_rfl
theorem M112o1 (a0:Int) (a1:A6):Ph a0 a1=((some ()):Option (Unit)):=by kernel_rfl
theorem M112o2 (a0:Int) (a1:A2):Pj a0 a1=((some ()):Option (Unit)):=by kernel_rfl
theorem M89 (a0:Ae) (a1 a2:Be) (a3:A7):l8 a0 a1 a2 a3=((Option.bind (Option.bind (Option.bind (Ps a0) fun r=>some r) fun x1=>(if(x1 != 0)=true then(some (.inr (((⟨(⟨(0:Int),(0:Int)⟩:A2),(⟨(0:Int),(0:Int)⟩:A2)⟩:A6),(⟨(0:Int),(0:Int)⟩:A2),x1))))else(Option.bind (((Jy a1).bind fun r4_0=>((if(!(!r4_0))=true then Jy a2 else some default).bind fun r4_1=>some (r4_0,r4_1)))) fun(x4:(Bool×Bool))=>(if(((((!x4.1) || (!x4.2)) || (decide (a3.Lo < (-200000:Int)))) || (decide (a3.Hi < a3.Lo))) || (decide (6000000 < a3.Hi)))=true then(some (.inr (((⟨(⟨(0:Int),(0:Int)⟩:A2),(⟨(0:Int),(0:Int)⟩:A2)⟩:A6),(⟨(0:Int),(0:Int)⟩:A2),(2:Int)))))else(Option.bind (((H5 a0.Corner.X a0.Cell a0.NX (if a2.X < a1.X then a2.X else a1.X)).bind fun r6_0=>((H5 a0.Corner.X a0.Cell a0.NX (if a1.X < a2.X then a2.X else a1.X)).bind fun r6_1=>some (r6_0,r6_1)))) fun(x6:(Aa×Aa))=>(Option.bind (((H5 a0.Corner.Y a0.Cell a0.NY (if a2.Y < a1.Y then a2.Y else a1.Y)).bind fun r7_0=>((H5 a0.Corner.Y a0.Cell a0.NY (if a1.Y < a2.Y then a2.Y else a1.Y)).bind fun r7_1=>some (r7_0,r7_1)))) fun(x7:(Aa×Aa))=>(Option.bind (((Oo a0.Alts a3.Lo).bind fun r8_0=>((Oo a0.Alts a3.Hi).bind fun r8_1=>some (r8_0,r8_1)))) fun(x8:(Aa×Aa))=>(Option.bind (Option.bind (Mz a0 x6.1.i x7.1.i x8.1.i) fun r=>some r) fun x9=>(if(0≤x9)then(if(x9 < (a0.Winds.length:Int))then(if(0≤x9)then(if(x9 < (a0.Winds.length:Int))then(if(0≤x9)then(if(x9 < (a0.Winds.length:Int))then(if(0≤x9)then(if(x9 < (a0.Winds.length:Int))then(if(0≤x9)then(if(x9 < (a0.Devs.length:Int))then(if(0≤x9)then(if(x9 < (a0.Devs.length:Int))then(some (.inl (x6.1.i,(if(IntKind.wrap .i64 (a0.NX - 1)) < (IntKind.wrap .i64 (x6.2.i+1))then(IntKind.wrap .i64 (a0.NX - 1))else(IntKind.wrap .i64 (x6.2.i+1))),x7.1.i,(if(IntKind.wrap .i64 (a0.NY - 1)) < (IntKind.wrap .i64 (x7.2.i+1))then(IntKind.wrap .i64 (a0.NY - 1))else(IntKind.wrap .i64 (x7.2.i+1))),x8.1.i,(if(IntKind.wrap .i64 ((a0.Alts.length:Int) - (1:Int))) < (IntKind.wrap .i64 (x8.2.i+1))then(IntKind.wrap .i64 ((a0.Alts.length:Int) - (1:Int)))else(IntKind.wrap .i64 (x8.2.i+1))),(a0.Winds.getD x9.toNat default).East,(a0.Winds.getD x9.toNat default),(a0.Winds.getD x9.toNat default).North,(a0.Devs.getD x9.toNat default),(a0.Devs.getD x9.toNat default))))else none)else none)else none)else none)else none)else none)else none)else none)else none)else none)else none)else none))))))))) (A5 fun(y1:Int×Int×Int×Int×Int×Int×Int×Bk×Int×Int×Int)=>(Option.bind (Option.bind (some (.inl ())) (A5 fun(_:Unit)=>(Ad (fun(s2:Int×Int×Int×Int×Int×Int×Int)=>((Option.bind (if(decide (s2.1≤y1.2.2.2.2.2.1))=true then(some (.inl ()))else(some (.inr (.inr (.inl (s2.2.1,s2.2.2.1,s2.2.2.2.1,s2.2.2.2.2.1,s2.2.2.2.2.2.1,s2.2.2.2.2.2.2)))))) (A5 fun(_:Unit)=>(Option.bind (Option.bind (some (.inl ())) (A5 fun(_:Unit)=>(Ad (fun(s3:Int×Int×Int×Int×Int×Int×Int)=>((Option.bind (if(decide (s3.1≤y1.2.2.2.1))=true then(some (.inl ()))else(some (.inr (.inr (.inl (s3.2.1,s3.2.2.1,s3.2.2.2.1,s3.2.2.2.2.1,s3.2.2.2.2.2.1,s3.2.2.2.2.2.2)))))) (A5 fun(_:Unit)=>(Option.bind (Option.bind (some (.inl ())) (A5 fun(_:Unit)=>(Ad (fun(s4:Int×Int×Int×Int×Int×Int×Int)=>((if(decide (s4.1≤y1.2.1))=true then(Option.bind (Option.bind (Mz a0 s4.1 s3.1 s2.1) fun r=>some r) fun x21=>(Option.bind ((if 0≤x21 then(if x21 < (a0.Winds.length:Int)then((Pg (a0.Winds.getD x21.toNat default).East (⟨(⟨s4.2.1,s4.2.2.1⟩:A2),(⟨s4.2.2.2.1,s4.2.2.2.2.1⟩:A2)⟩:A6)).bind fun r22_0=>some (r22_0,x21))else none)else none)) fun(x22:(Unit×Int))=>(Option.bind ((if 0≤x21 then(if x21 < (a0.Winds.length:Int)then((Ph (a0.Winds.getD x21.toNat default).North (⟨(⟨(if(a0.Winds.getD x22.2.toNat default).East < (⟨(⟨s4.2.1,s4.2.2.1⟩:A2),(⟨s4.2.2.2.1,s4.2.2.2.2.1⟩:A2)⟩:A6).East.Lo then(a0.Winds.getD x22.2.toNat default).East else(⟨(⟨s4.2.1,s4.2.2.1⟩:A2),(⟨s4.2.2.2.1,s4.2.2.2.2.1⟩:A2)⟩:A6).East.Lo),(if(⟨(⟨s4.2.1,s4.2.2.1⟩:A2),(⟨s4.2.2.2.1,s4.2.2.2.2.1⟩:A2)⟩:A6).East.Hi < (a0.Winds.getD x22.2.toNat default).East then(a0.Winds.getD x22.2.toNat default).East else(⟨(⟨s4.2.1,s4.2.2.1⟩:A2),(⟨s4.2.2.2.1,s4.2.2.2.2.1⟩:A2)⟩:A6).East.Hi)⟩:A2),(⟨(⟨s4.2.1,s4.2.2.1⟩:A2),(⟨s4.2.2.2.1,s4.2.2.2.2.1⟩:A2)⟩:A6).North⟩:A6)).bind fun r23_0=>some (r23_0,x22.2,x21))else none)else none)) fun(x23:(Unit×Int×Int))=>(Option.bind ((if 0≤x21 then(if x21 < (a0.Devs.length:Int)then((Pj (a0.Devs.getD x21.toNat default) (⟨s4.2.2.2.2.2.1,s4.2.2.2.2.2.2⟩:A2)).bind fun r24_0=>some (r24_0,x21))else none)else none)) fun(x24:(Unit×Int))=>(some (.inl ((IntKind.wrap .i64 (s4.1+1)),(⟨(⟨(if(a0.Winds.getD x23.2.1.toNat default).East < (⟨(⟨s4.2.1,s4.2.2.1⟩:A2),(⟨s4.2.2.2.1,s4.2.2.2.2.1⟩:A2)⟩:A6).East.Lo then(a0.Winds.getD x23.2.1.toNat default).East else(⟨(⟨s4.2.1,s4.2.2.1⟩:A2),(⟨s4.2.2.2.1,s4.2.2.2.2.1⟩:A2)⟩:A6).East.Lo),(if(⟨(⟨s4.2.1,s4.2.2.1⟩:A2),(⟨s4.2.2.2.1,s4.2.2.2.2.1⟩:A2)⟩:A6).East.Hi < (a0.Winds.getD x23.2.1.toNat default).East then(a0.Winds.getD x23.2.1.toNat default).East else(⟨(⟨s4.2.1,s4.2.2.1⟩:A2),(⟨s4.2.2.2.1,s4.2.2.2.2.1⟩:A2)⟩:A6).East.Hi)⟩:A2),(⟨(⟨s4.2.1,s4.2.2.1⟩:A2),(⟨s4.2.2.2.1,s4.2.2.2.2.1⟩:A2)⟩:A6).North⟩:A6).East.Lo,(⟨(⟨(if(a0.Winds.getD x23.2.1.toNat default).East < (⟨(⟨s4.2.1,s4.2.2.1⟩:A2),(⟨s4.2.2.2.1,s4.2.2.2.2.1⟩:A2)⟩:A6).East.Lo then(a0.Winds.getD x23.2.1.toNat default).East else(⟨(⟨s4.2.1,s4.2.2.1⟩:A2),(⟨s4.2.2.2.1,s4.2.2.2.2.1⟩:A2)⟩:A6).East.Lo),(if(⟨(⟨s4.2.1,s4.2.2.1⟩:A2),(⟨s4.2.2.2.1,s4.2.2.2.2.1⟩:A2)⟩:A6).East.Hi < (a0.Winds.getD x23.2.1.toNat default).East then(a0.Winds.getD x23.2.1.toNat default).East else(⟨(⟨s4.2.1,s4.2.2.1⟩:A2),(⟨s4.2.2.2.1,s4.2.2.2.2.1⟩:A2)⟩:A6).East.Hi)⟩:A2),(⟨(⟨s4.2.1,s4.2.2.1⟩:A2),(⟨s4.2.2.2.1,s4.2.2.2.2.1⟩:A2)⟩:A6).North⟩:A6).East.Hi,(if(a0.Winds.getD x23.2.2.toNat default).North < (⟨(⟨(if(a0.Winds.getD x23.2.1.toNat default).East < (⟨(⟨s4.2.1,s4.2.2.1⟩:A2),(⟨s4.2.2.2.1,s4.2.2.2.2.1⟩:A2)⟩:A6).East.Lo then(a0.Winds.getD x23.2.1.toNat default).East else(⟨(⟨s4.2.1,s4.2.2.1⟩:A2),(⟨s4.2.2.2.1,s4.2.2.2.2.1⟩:A2)⟩:A6).East.Lo),(if(⟨(⟨s4.2.1,s4.2.2.1⟩:A2),(⟨s4.2.2.2.1,s4.2.2.2.2.1⟩:A2)⟩:A6).East.Hi < (a0.Winds.getD x23.2.1.toNat default).East then(a0.Winds.getD x23.2.1.toNat default).East else(⟨(⟨s4.2.1,s4.2.2.1⟩:A2),(⟨s4.2.2.2.1,s4.2.2.2.2.1⟩:A2)⟩:A6).East.Hi)⟩:A2),(⟨(⟨s4.2.1,s4.2.2.1⟩:A2),(⟨s4.2.2.2.1,s4.2.2.2.2.1⟩:A2)⟩:A6).North⟩:A6).North.Lo then(a0.Winds.getD x23.2.2.toNat default).North else(⟨(⟨(if(a0.Winds.getD x23.2.1.toNat default).East < (⟨(⟨s4.2.1,s4.2.2.1⟩:A2),(⟨s4.2.2.2.1,s4.2.2.2.2.1⟩:A2)⟩:A6).East.Lo then(a0.Winds.getD x23.2.1.toNat default).East else(⟨(⟨s4.2.1,s4.2.2.1⟩:A2),(⟨s4.2.2.2.1,s4.2.2.2.2.1⟩:A2)⟩:A6).East.Lo),(if(⟨(⟨s4.2.1,s4.2.2.1⟩:A2),(⟨s4.2.2.2.1,s4.2.2.2.2.1⟩:A2)⟩:A6).East.Hi < (a0.Winds.getD x23.2.1.toNat default).East then(a0.Winds.getD x23.2.1.toNat default).East else(⟨(⟨s4.2.1,s4.2.2.1⟩:A2),(⟨s4.2.2.2.1,s4.2.2.2.2.1⟩:A2)⟩:A6).East.Hi)⟩:A2),(⟨(⟨s4.2.1,s4.2.2.1⟩:A2),(⟨s4.2.2.2.1,s4.2.2.2.2.1⟩:A2)⟩:A6).North⟩:A6).North.Lo),(if(⟨(⟨(if(a0.Winds.getD x23.2.1.toNat default).East < (⟨(⟨s4.2.1,s4.2.2.1⟩:A2),(⟨s4.2.2.2.1,s4.2.2.2.2.1⟩:A2)⟩:A6).East.Lo then(a0.Winds.getD x23.2.1.toNat default).East else(⟨(⟨s4.2.1,s4.2.2.1⟩:A2),(⟨s4.2.2.2.1,s4.2.2.2.2.1⟩:A2)⟩:A6).East.Lo),(if(⟨(⟨s4.2.1,s4.2.2.1⟩:A2),(⟨s4.2.2.2.1,s4.2.2.2.2.1⟩:A2)⟩:A6).East.Hi < (a0.Winds.getD x23.2.1.toNat default).East then(a0.Winds.getD x23.2.1.toNat default).East else(⟨(⟨s4.2.1,s4.2.2.1⟩:A2),(⟨s4.2.2.2.1,s4.2.2.2.2.1⟩:A2)⟩:A6).East.Hi)⟩:A2),(⟨(⟨s4.2.1,s4.2.2.1⟩:A2),(⟨s4.2.2.2.1,s4.2.2.2.2.1⟩:A2)⟩:A6).North⟩:A6).North.Hi < (a0.Winds.getD x23.2.2.toNat default).North then(a0.Winds.getD x23.2.2.toNat default).North else(⟨(⟨(if(a0.Winds.getD x23.2.1.toNat default).East < (⟨(⟨s4.2.1,s4.2.2.1⟩:A2),(⟨s4.2.2.2.1,s4.2.2.2.2.1⟩:A2)⟩:A6).East.Lo then(a0.Winds.getD x23.2.1.toNat default).East else(⟨(⟨s4.2.1,s4.2.2.1⟩:A2),(⟨s4.2.2.2.1,s4.2.2.2.2.1⟩:A2)⟩:A6).East.Lo),(if(⟨(⟨s4.2.1,s4.2.2.1⟩:A2),(⟨s4.2.2.2.1,s4.2.2.2.2.1⟩:A2)⟩:A6).East.Hi < (a0.Winds.getD x23.2.1.toNat default).East then(a0.Winds.getD x23.2.1.toNat default).East else(⟨(⟨s4.2.1,s4.2.2.1⟩:A2),(⟨s4.2.2.2.1,s4.2.2.2.2.1⟩:A2)⟩:A6).East.Hi)⟩:A2),(⟨(⟨s4.2.1,s4.2.2.1⟩:A2),(⟨s4.2.2.2.1,s4.2.2.2.2.1⟩:A2)⟩:A6).North⟩:A6).North.Hi),(if(a0.Devs.getD x24.2.toNat default) < (⟨s4.2.2.2.2.2.1,s4.2.2.2.2.2.2⟩:A2).Lo then(a0.Devs.getD x24.2.toNat default)else(⟨s4.2.2.2.2.2.1,s4.2.2.2.2.2.2⟩:A2).Lo),(if(⟨s4.2.2.2.2.2.1,s4.2.2.2.2.2.2⟩:A2).Hi < (a0.Devs.getD x24.2.toNat default)then(a0.Devs.getD x24.2.toNat default)else(⟨s4.2.2.2.2.2.1,s4.2.2.2.2.2.2⟩:A2).Hi))))))))else(some (.inr (.inl (s4.2.1,s4.2.2.1,s4.2.2.2.1,s4.2.2.2.2.1,s4.2.2.2.2.2.1,s4.2.2.2.2.2.2))))):Option ((Int×Int×Int×Int×Int×Int×Int)⊕((Int×Int×Int×Int×Int×Int)⊕((Int×Int×Int×Int×Int×Int×Int)⊕((Int×Int×Int×Int×Int×Int)⊕((Int×Int×Int×Int×Int×Int×Int)⊕((Int×Int×Int×Int×Int×Int)⊕(A6×A2×Int))))))))) (y1.1,s3.2.1,s3.2.2.1,s3.2.2.2.1,s3.2.2.2.2.1,s3.2.2.2.2.2.1,s3.2.2.2.2.2.2)))) (A5 fun(y5:Int×Int×Int×Int×Int×Int)=>(some (.inl ((IntKind.wrap .i64 (s3.1+1)),y5.1,y5.2.1,y5.2.2.1,y5.2.2.2.1,y5.2.2.2.2.1,y5.2.2.2.2.2))))))):Option ((Int×Int×Int×Int×Int×Int×Int)⊕((Int×Int×Int×Int×Int×Int)⊕((Int×Int×Int×Int×Int×Int×Int)⊕((Int×Int×Int×Int×Int×Int)⊕(A6×A2×Int))))))) (y1.2.2.1,s2.2.1,s2.2.2.1,s2.2.2.2.1,s2.2.2.2.2.1,s2.2.2.2.2.2.1,s2.2.2.2.2.2.2)))) (A5 fun(y6:Int×Int×Int×Int×Int×Int)=>(some (.inl ((IntKind.wrap .i64 (s2.1+1)),y6.1,y6.2.1,y6.2.2.1,y6.2.2.2.1,y6.2.2.2.2.1,y6.2.2.2.2.2))))))):Option ((Int×Int×Int×Int×Int×Int×Int)⊕((Int×Int×Int×Int×Int×Int)⊕(A6×A2×Int))))) (y1.2.2.2.2.1,y1.2.2.2.2.2.2.1,y1.2.2.2.2.2.2.2.1.East,y1.2.2.2.2.2.2.2.1.North,y1.2.2.2.2.2.2.2.2.1,y1.2.2.2.2.2.2.2.2.2.1,y1.2.2.2.2.2.2.2.2.2.2)))) (A5 fun(y7:Int×Int×Int×Int×Int×Int)=>(Option.bind (Option.bind (some (.inl ())) (A5 fun(_:Unit)=>(Option.bind (Option.bind (some (.inl ())) (A5 fun(_:Unit)=>(Option.bind (some (.inl ())) (A5 fun(_:Unit)=>(some (.inl ())))))) (A5 fun(_:Unit)=>(Option.bind (Option.bind (some (.inl ())) (A5 fun(_:Unit)=>(Option.bind (some (.inl ())) (A5 fun(_:Unit)=>(some (.inl ())))))) (A5 fun(_:Unit)=>(Option.bind (Option.bind (some (.inl ())) (A5 fun(_:Unit)=>(Option.bind (some (.inr (.inr (.inl ())))) Vl))) Vl))))))) (A5 fun(_:Unit)=>(some ((⟨(⟨(IntKind.wrap .i64 (y7.1 - a0.Err)),(IntKind.wrap .i64 (y7.2.1+a0.Err))⟩:A2),(⟨(IntKind.wrap .i64 (y7.2.2.1 - a0.Err)),(IntKind.wrap .i64 (y7.2.2.2.1+a0.Err))⟩:A2)⟩:A6),(⟨y7.2.2.2.2.1,y7.2.2.2.2.2⟩:A2),(0:Int))))))))):Option (A6×A2×Int)):=by kernel_rfl
noncomputable abbrev Pe (y1:Int×Int×Int×Int×Int×Int×Int×Bk×Int×Int×Int) (a0:Ae) (s3:Int×Int×Int×Int×Int×Int×Int) (s2:Int×Int×Int×Int×Int×Int×Int):(Int×Int×Int×Int×Int×Int×Int)→Option ((Int×Int×Int×Int×Int×Int×Int)⊕((Int×Int×Int×Int×Int×Int)⊕((Int×Int×Int×Int×Int×Int×Int)⊕((Int×Int×Int×Int×Int×Int)⊕((Int×Int×Int×Int×Int×Int×Int)⊕((Int×Int×Int×Int×Int×Int)⊕(A6×A2×Int))))))):=(fun(s4:Int×Int×Int×Int×Int×Int×Int)=>((if(decide (s4.1≤y1.2.1))=true then(Option.bind (Option.bind (Mz a0 s4.1 s3.1 s2.1) fun r=>some r) fun x21=>(Option.bind ((if 0≤x21 then(if x21 < (a0.Winds.length:Int)then((Pg (a0.Winds.getD x21.toNat default).East (⟨(⟨s4.2.1,s4.2.2.1⟩:A2),(⟨s4.2.2.2.1,s4.2.2.2.2.1⟩:A2)⟩:A6)).bind fun r22_0=>some (r22_0,x21))else none)else none)) fun(x22:(Unit×Int))=>(Option.bind ((if 0≤x21 then(if x21 < (a0.Winds.length:Int)then((Ph (a0.Winds.getD x21.toNat default).North (⟨(⟨(if(a0.Winds.getD x22.2.toNat default).East < (⟨(⟨s4.2.1,s4.2.2.1⟩:A2),(⟨s4.2.2.2.1,s4.2.2.2.2.1⟩:A2)⟩:A6).East.Lo then(a0.Winds.getD x22.2.toNat default).East else(⟨(⟨s4.2.1,s4.2.2.1⟩:A2),(⟨s4.2.2.2.1,s4.2.2.2.2.1⟩:A2)⟩:A6).East.Lo),(if(⟨(⟨s4.2.1,s4.2.2.1⟩:A2),(⟨s4.2.2.2.1,s4.2.2.2.2.1⟩:A2)⟩:A6).East.Hi < (a0.Winds.getD x22.2.toNat default).East then(a0.Winds.getD x22.2.toNat default).East else(⟨(⟨s4.2.1,s4.2.2.1⟩:A2),(⟨s4.2.2.2.1,s4.2.2.2.2.1⟩:A2)⟩:A6).East.Hi)⟩:A2),(⟨(⟨s4.2.1,s4.2.2.1⟩:A2),(⟨s4.2.2.2.1,s4.2.2.2.2.1⟩:A2)⟩:A6).North⟩:A6)).bind fun r23_0=>some (r23_0,x22.2,x21))else none)else none)) fun(x23:(Unit×Int×Int))=>(Option.bind ((if 0≤x21 then(if x21 < (a0.Devs.length:Int)then((Pj (a0.Devs.getD x21.toNat default) (⟨s4.2.2.2.2.2.1,s4.2.2.2.2.2.2⟩:A2)).bind fun r24_0=>some (r24_0,x21))else none)else none)) fun(x24:(Unit×Int))=>(some (.inl ((IntKind.wrap .i64 (s4.1+1)),(⟨(⟨(if(a0.Winds.getD x23.2.1.toNat default).East < (⟨(⟨s4.2.1,s4.2.2.1⟩:A2),(⟨s4.2.2.2.1,s4.2.2.2.2.1⟩:A2)⟩:A6).East.Lo then(a0.Winds.getD x23.2.1.toNat default).East else(⟨(⟨s4.2.1,s4.2.2.1⟩:A2),(⟨s4.2.2.2.1,s4.2.2.2.2.1⟩:A2)⟩:A6).East.Lo),(if(⟨(⟨s4.2.1,s4.2.2.1⟩:A2),(⟨s4.2.2.2.1,s4.2.2.2.2.1⟩:A2)⟩:A6).East.Hi < (a0.Winds.getD x23.2.1.toNat default).East then(a0.Winds.getD x23.2.1.toNat default).East else(⟨(⟨s4.2.1,s4.2.2.1⟩:A2),(⟨s4.2.2.2.1,s4.2.2.2.2.1⟩:A2)⟩:A6).East.Hi)⟩:A2),(⟨(⟨s4.2.1,s4.2.2.1⟩:A2),(⟨s4.2.2.2.1,s4.2.2.2.2.1⟩:A2)⟩:A6).North⟩:A6).East.Lo,(⟨(⟨(if(a0.Winds.getD x23.2.1.toNat default).East < (⟨(⟨s4.2.1,s4.2.2.1⟩:A2),(⟨s4.2.2.2.1,s4.2.2.2.2.1⟩:A2)⟩:A6).East.Lo then(a0.Winds.getD x23.2.1.toNat default).East else(⟨(⟨s4.2.1,s4.2.2.1⟩:A2),(⟨s4.2.2.2.1,s4.2.2.2.2.1⟩:A2)⟩:A6).East.Lo),(if(⟨(⟨s4.2.1,s4.2.2.1⟩:A2),(⟨s4.2.2.2.1,s4.2.2.2.2.1⟩:A2)⟩:A6).East.Hi < (a0.Winds.getD x23.2.1.toNat default).East then(a0.Winds.getD x23.2.1.toNat default).East else(⟨(⟨s4.2.1,s4.2.2.1⟩:A2),(⟨s4.2.2.2.1,s4.2.2.2.2.1⟩:A2)⟩:A6).East.Hi)⟩:A2),(⟨(⟨s4.2.1,s4.2.2.1⟩:A2),(⟨s4.2.2.2.1,s4.2.2.2.2.1⟩:A2)⟩:A6).North⟩:A6).East.Hi,(if(a0.Winds.getD x23.2.2.toNat default).North < (⟨(⟨(if(a0.Winds.getD x23.2.1.toNat default).East < (⟨(⟨s4.2.1,s4.2.2.1⟩:A2),(⟨s4.2.2.2.1,s4.2.2.2.2.1⟩:A2)⟩:A6).East.Lo then(a0.Winds.getD x23.2.1.toNat default).East else(⟨(⟨s4.2.1,s4.2.2.1⟩:A2),(⟨s4.2.2.2.1,s4.2.2.2.2.1⟩:A2)⟩:A6).East.Lo),(if(⟨(⟨s4.2.1,s4.2.2.1⟩:A2),(⟨s4.2.2.2.1,s4.2.2.2.2.1⟩:A2)⟩:A6).East.Hi < (a0.Winds.getD x23.2.1.toNat default).East then(a0.Winds.getD x23.2.1.toNat default).East else(⟨(⟨s4.2.1,s4.2.2.1⟩:A2),(⟨s4.2.2.2.1,s4.2.2.2.2.1⟩:A2)⟩:A6).East.Hi)⟩:A2),(⟨(⟨s4.2.1,s4.2.2.1⟩:A2),(⟨s4.2.2.2.1,s4.2.2.2.2.1⟩:A2)⟩:A6).North⟩:A6).North.Lo then(a0.Winds.getD x23.2.2.toNat default).North else(⟨(⟨(if(a0.Winds.getD x23.2.1.toNat default).East < (⟨(⟨s4.2.1,s4.2.2.1⟩:A2),(⟨s4.2.2.2.1,s4.2.2.2.2.1⟩:A2)⟩:A6).East.Lo then(a0.Winds.getD x23.2.1.toNat default).East else(⟨(⟨s4.2.1,s4.2.2.1⟩:A2),(⟨s4.2.2.2.1,s4.2.2.2.2.1⟩:A2)⟩:A6).East.Lo),(if(⟨(⟨s4.2.1,s4.2.2.1⟩:A2),(⟨s4.2.2.2.1,s4.2.2.2.2.1⟩:A2)⟩:A6).East.Hi < (a0.Winds.getD x23.2.1.toNat default).East then(a0.Winds.getD x23.2.1.toNat default).East else(⟨(⟨s4.2.1,s4.2.2.1⟩:A2),(⟨s4.2.2.2.1,s4.2.2.2.2.1⟩:A2)⟩:A6).East.Hi)⟩:A2),(⟨(⟨s4.2.1,s4.2.2.1⟩:A2),(⟨s4.2.2.2.1,s4.2.2.2.2.1⟩:A2)⟩:A6).North⟩:A6).North.Lo),(if(⟨(⟨(if(a0.Winds.getD x23.2.1.toNat default).East < (⟨(⟨s4.2.1,s4.2.2.1⟩:A2),(⟨s4.2.2.2.1,s4.2.2.2.2.1⟩:A2)⟩:A6).East.Lo then(a0.Winds.getD x23.2.1.toNat default).East else(⟨(⟨s4.2.1,s4.2.2.1⟩:A2),(⟨s4.2.2.2.1,s4.2.2.2.2.1⟩:A2)⟩:A6).East.Lo),(if(⟨(⟨s4.2.1,s4.2.2.1⟩:A2),(⟨s4.2.2.2.1,s4.2.2.2.2.1⟩:A2)⟩:A6).East.Hi < (a0.Winds.getD x23.2.1.toNat default).East then(a0.Winds.getD x23.2.1.toNat default).East else(⟨(⟨s4.2.1,s4.2.2.1⟩:A2),(⟨s4.2.2.2.1,s4.2.2.2.2.1⟩:A2)⟩:A6).East.Hi)⟩:A2),(⟨(⟨s4.2.1,s4.2.2.1⟩:A2),(⟨s4.2.2.2.1,s4.2.2.2.2.1⟩:A2)⟩:A6).North⟩:A6).North.Hi < (a0.Winds.getD x23.2.2.toNat default).North then(a0.Winds.getD x23.2.2.toNat default).North else(⟨(⟨(if(a0.Winds.getD x23.2.1.toNat default).East < (⟨(⟨s4.2.1,s4.2.2.1⟩:A2),(⟨s4.2.2.2.1,s4.2.2.2.2.1⟩:A2)⟩:A6).East.Lo then(a0.Winds.getD x23.2.1.toNat default).East else(⟨(⟨s4.2.1,s4.2.2.1⟩:A2),(⟨s4.2.2.2.1,s4.2.2.2.2.1⟩:A2)⟩:A6).East.Lo),(if(⟨(⟨s4.2.1,s4.2.2.1⟩:A2),(⟨s4.2.2.2.1,s4.2.2.2.2.1⟩:A2)⟩:A6).East.Hi < (a0.Winds.getD x23.2.1.toNat default).East then(a0.Winds.getD x23.2.1.toNat default).East else(⟨(⟨s4.2.1,s4.2.2.1⟩:A2),(⟨s4.2.2.2.1,s4.2.2.2.2.1⟩:A2)⟩:A6).East.Hi)⟩:A2),(⟨(⟨s4.2.1,s4.2.2.1⟩:A2),(⟨s4.2.2.2.1,s4.2.2.2.2.1⟩:A2)⟩:A6).North⟩:A6).North.Hi),(if(a0.Devs.getD x24.2.toNat default) < (⟨s4.2.2.2.2.2.1,s4.2.2.2.2.2.2⟩:A2).Lo then(a0.Devs.getD x24.2.toNat default)else(⟨s4.2.2.2.2.2.1,s4.2.2.2.2.2.2⟩:A2).Lo),(if(⟨s4.2.2.2.2.2.1,s4.2.2.2.2.2.2⟩:A2).Hi < (a0.Devs.getD x24.2.toNat default)then(a0.Devs.getD x24.2.toNat default)else(⟨s4.2.2.2.2.2.1,s4.2.2.2.2.2.2⟩:A2).Hi))))))))else(some (.inr (.inl (s4.2.1,s4.2.2.1,s4.2.2.2.1,s4.2.2.2.2.1,s4.2.2.2.2.2.1,s4.2.2.2.2.2.2))))):Option ((Int×Int×Int×Int×Int×Int×Int)⊕((Int×Int×Int×Int×Int×Int)⊕((Int×Int×Int×Int×Int×Int×Int)⊕((Int×Int×Int×Int×Int×Int)⊕((Int×Int×Int×Int×Int×Int×Int)⊕((Int×Int×Int×Int×Int×Int)⊕(A6×A2×Int)))))))))
noncomputable abbrev V0 (y1:Int×Int×Int×Int×Int×Int×Int×Bk×Int×Int×Int) (a0:Ae) (s2:Int×Int×Int×Int×Int×Int×Int):(Int×Int×Int×Int×Int×Int×Int)→Option ((Int×Int×Int×Int×Int×Int×Int)⊕((Int×Int×Int×Int×Int×Int)⊕((Int×Int×Int×Int×Int×Int×Int)⊕((Int×Int×Int×Int×Int×Int)⊕(A6×A2×Int))))):=(fun(s3:Int×Int×Int×Int×Int×Int×Int)=>((Option.bind (if(decide (s3.1≤y1.2.2.2.1))=true then(some (.inl ()))else(some (.inr (.inr (.inl (s3.2.1,s3.2.2.1,s3.2.2.2.1,s3.2.2.2.2.1,s3.2.2.2.2.2.1,s3.2.2.2.2.2.2)))))) (A5 fun(_:Unit)=>(Option.bind (Option.bind (some (.inl ())) (A5 fun(_:Unit)=>(Ad (Pe y1 a0 s3 s2) (y1.1,s3.2.1,s3.2.2.1,s3.2.2.2.1,s3.2.2.2.2.1,s3.2.2.2.2.2.1,s3.2.2.2.2.2.2)))) (A5 fun(y5:Int×Int×Int×Int×Int×Int)=>(some (.inl ((IntKind.wrap .i64 (s3.1+1)),y5.1,y5.2.1,y5.2.2.1,y5.2.2.2.1,y5.2.2.2.2.1,y5.2.2.2.2.2))))))):Option ((Int×Int×Int×Int×Int×Int×Int)⊕((Int×Int×Int×Int×Int×Int)⊕((Int×Int×Int×Int×Int×Int×Int)⊕((Int×Int×Int×Int×Int×Int)⊕(A6×A2×Int)))))))
noncomputable abbrev V2 (y1:Int×Int×Int×Int×Int×Int×Int×Bk×Int×Int×Int) (a0:Ae):(Int×Int×Int×Int×Int×Int×Int)→Option ((Int×Int×Int×Int×Int×Int×Int)⊕((Int×Int×Int×Int×Int×Int)⊕(A6×A2×Int))):=(fun(s2:Int×Int×Int×Int×Int×Int×Int)=>((Option.bind (if(decide (s2.1≤y1.2.2.2.2.2.1))=true then(some (.inl ()))else(some (.inr (.inr (.inl (s2.2.1,s2.2.2.1,s2.2.2.2.1,s2.2.2.2.2.1,s2.2.2.2.2.2.1,s2.2.2.2.2.2.2)))))) (A5 fun(_:Unit)=>(Option.bind (Option.bind (some (.inl ())) (A5 fun(_:Unit)=>(Ad (V0 y1 a0 s2) (y1.2.2.1,s2.2.1,s2.2.2.1,s2.2.2.2.1,s2.2.2.2.2.1,s2.2.2.2.2.2.1,s2.2.2.2.2.2.2)))) (A5 fun(y6:Int×Int×Int×Int×Int×Int)=>(some (.inl ((IntKind.wrap .i64 (s2.1+1)),y6.1,y6.2.1,y6.2.2.1,y6.2.2.2.1,y6.2.2.2.2.1,y6.2.2.2.2.2))))))):Option ((Int×Int×Int×Int×Int×Int×Int)⊕((Int×Int×Int×Int×Int×Int)⊕(A6×A2×Int)))))
theorem A89  (a0:Ae) (a1 a2:Be) (a3:A7):l8 a0 a1 a2 a3=((Option.bind (Option.bind (Option.bind (Ps a0) fun r=>some r) fun x1=>(if(x1 != 0)=true then(some (.inr (((⟨(⟨(0:Int),(0:Int)⟩:A2),(⟨(0:Int),(0:Int)⟩:A2)⟩:A6),(⟨(0:Int),(0:Int)⟩:A2),x1))))else(Option.bind (((Jy a1).bind fun r4_0=>((if(!(!r4_0))=true then Jy a2 else some default).bind fun r4_1=>some (r4_0,r4_1)))) fun(x4:(Bool×Bool))=>(if(((((!x4.1) || (!x4.2)) || (decide (a3.Lo < (-200000:Int)))) || (decide (a3.Hi < a3.Lo))) || (decide (6000000 < a3.Hi)))=true then(some (.inr (((⟨(⟨(0:Int),(0:Int)⟩:A2),(⟨(0:Int),(0:Int)⟩:A2)⟩:A6),(⟨(0:Int),(0:Int)⟩:A2),(2:Int)))))else(Option.bind (((H5 a0.Corner.X a0.Cell a0.NX (if a2.X < a1.X then a2.X else a1.X)).bind fun r6_0=>((H5 a0.Corner.X a0.Cell a0.NX (if a1.X < a2.X then a2.X else a1.X)).bind fun r6_1=>some (r6_0,r6_1)))) fun(x6:(Aa×Aa))=>(Option.bind (((H5 a0.Corner.Y a0.Cell a0.NY (if a2.Y < a1.Y then a2.Y else a1.Y)).bind fun r7_0=>((H5 a0.Corner.Y a0.Cell a0.NY (if a1.Y < a2.Y then a2.Y else a1.Y)).bind fun r7_1=>some (r7_0,r7_1)))) fun(x7:(Aa×Aa))=>(Option.bind (((Oo a0.Alts a3.Lo).bind fun r8_0=>((Oo a0.Alts a3.Hi).bind fun r8_1=>some (r8_0,r8_1)))) fun(x8:(Aa×Aa))=>(Option.bind (Option.bind (Mz a0 x6.1.i x7.1.i x8.1.i) fun r=>some r) fun x9=>(if(0≤x9)then(if(x9 < (a0.Winds.length:Int))then(if(0≤x9)then(if(x9 < (a0.Winds.length:Int))then(if(0≤x9)then(if(x9 < (a0.Winds.length:Int))then(if(0≤x9)then(if(x9 < (a0.Winds.length:Int))then(if(0≤x9)then(if(x9 < (a0.Devs.length:Int))then(if(0≤x9)then(if(x9 < (a0.Devs.length:Int))then(some (.inl (x6.1.i,(if(IntKind.wrap .i64 (a0.NX - 1)) < (IntKind.wrap .i64 (x6.2.i+1))then(IntKind.wrap .i64 (a0.NX - 1))else(IntKind.wrap .i64 (x6.2.i+1))),x7.1.i,(if(IntKind.wrap .i64 (a0.NY - 1)) < (IntKind.wrap .i64 (x7.2.i+1))then(IntKind.wrap .i64 (a0.NY - 1))else(IntKind.wrap .i64 (x7.2.i+1))),x8.1.i,(if(IntKind.wrap .i64 ((a0.Alts.length:Int) - (1:Int))) < (IntKind.wrap .i64 (x8.2.i+1))then(IntKind.wrap .i64 ((a0.Alts.length:Int) - (1:Int)))else(IntKind.wrap .i64 (x8.2.i+1))),(a0.Winds.getD x9.toNat default).East,(a0.Winds.getD x9.toNat default),(a0.Winds.getD x9.toNat default).North,(a0.Devs.getD x9.toNat default),(a0.Devs.getD x9.toNat default))))else none)else none)else none)else none)else none)else none)else none)else none)else none)else none)else none)else none))))))))) (A5 fun(y1:Int×Int×Int×Int×Int×Int×Int×Bk×Int×Int×Int)=>(Option.bind (Option.bind (some (.inl ())) (A5 fun(_:Unit)=>(Ad (V2 y1 a0) (y1.2.2.2.2.1,y1.2.2.2.2.2.2.1,y1.2.2.2.2.2.2.2.1.East,y1.2.2.2.2.2.2.2.1.North,y1.2.2.2.2.2.2.2.2.1,y1.2.2.2.2.2.2.2.2.2.1,y1.2.2.2.2.2.2.2.2.2.2)))) (A5 fun(y7:Int×Int×Int×Int×Int×Int)=>(Option.bind (Option.bind (some (.inl ())) (A5 fun(_:Unit)=>(Option.bind (Option.bind (some (.inl ())) (A5 fun(_:Unit)=>(Option.bind (some (.inl ())) (A5 fun(_:Unit)=>(some (.inl ())))))) (A5 fun(_:Unit)=>(Option.bind (Option.bind (some (.inl ())) (A5 fun(_:Unit)=>(Option.bind (some (.inl ())) (A5 fun(_:Unit)=>(some (.inl ())))))) (A5 fun(_:Unit)=>(Option.bind (Option.bind (some (.inl ())) (A5 fun(_:Unit)=>(Option.bind (some (.inr (.inr (.inl ())))) Vl))) Vl))))))) (A5 fun(_:Unit)=>(some ((⟨(⟨(IntKind.wrap .i64 (y7.1 - a0.Err)),(IntKind.wrap .i64 (y7.2.1+a0.Err))⟩:A2),(⟨(IntKind.wrap .i64 (y7.2.2.1 - a0.Err)),(IntKind.wrap .i64 (y7.2.2.2.1+a0.Err))⟩:A2)⟩:A6),(⟨y7.2.2.2.2.1,y7.2.2.2.2.2⟩:A2),(0:Int))))))))):Option (A6×A2×Int)):=M89 _ _ _ _
def cell (nx ny x y z:Nat):Nat:=(z * ny+y) * nx+x
theorem F4 {nx ny nz x y z:Nat} (hx:x < nx) (hy:y < ny) (hz:z < nz):cell nx ny x y z < nx * ny * nz:=by
 unfold cell
 have h1:z * ny+y+1≤nz * ny:=by
  have:(z+1) * ny≤nz * ny:=Nat.mul_le_mul_right _ hz
  rw[Nat.add_mul]at this;omega
 have h2:(z * ny+y+1) * nx≤nz * ny * nx:=Nat.mul_le_mul_right _ h1
 rw[Nat.add_mul]at h2
 have h3:nz * ny * nx=nx * ny * nz:=by rw[Nat.mul_comm,Nat.mul_comm nz ny,Nat.mul_assoc]
 omega
variable {g:Ae} {nx ny nz:Nat}
theorem Xi (G:Jn g nx ny nz):nx * ny * nz≤2048:=Nat.mul_le_mul (Nat.mul_le_mul G.x.2 G.y.2) G.z.2
theorem Kx (G:Jn g nx ny nz) {x y z:Nat} (hx:x < nx) (hy:y < ny) (hz:z < nz):Mz g (x:Int) (y:Int) (z:Int)=some ((cell nx ny x y z:Nat):Int):=by
 have hc:=Xi G
 have hl:=F4 hx hy hz
 have h1:z * ny≤8 * 16:=Nat.mul_le_mul (by have:=G.z;omega) G.y.2
 have hx2:=G.x
 have hy2:=G.y
 have h2:(z * ny+y) * nx≤144 * 16:=Nat.mul_le_mul (by omega) hx2.2
 have e1:IntKind.wrap .i64 ((z:Int) * (ny:Int))=((z * ny:Nat):Int):=by rw[← Int.natCast_mul,Ah (by omega) (by omega)]
 have e2:IntKind.wrap .i64 (((z * ny:Nat):Int)+(y:Int))=((z * ny+y:Nat):Int):=by rw[← Int.natCast_add,Ah (by omega) (by omega)]
 have e3:IntKind.wrap .i64 (((z * ny+y:Nat):Int) * (nx:Int))=(((z * ny+y) * nx:Nat):Int):=by rw[← Int.natCast_mul,Ah (by omega) (by omega)]
 have e4:IntKind.wrap .i64 ((((z * ny+y) * nx:Nat):Int)+(x:Int))=((cell nx ny x y z:Nat):Int):=by rw[← Int.natCast_add];exact Ah (by omega) (by omega)
 rw[M55,G.ex,G.ey,e1,e2,e3,e4]
abbrev HS:=Int×Int×Int×Int×Int×Int
def Wd (s t:HS):Prop:=(t.1≤s.1∧s.2.1≤t.2.1)∧(t.2.2.1≤s.2.2.1∧s.2.2.2.1≤t.2.2.2.1)∧t.2.2.2.2.1≤s.2.2.2.2.1∧s.2.2.2.2.2≤t.2.2.2.2.2
def Hs (g:Ae) (s:HS) (k:Nat):Prop:=(s.1≤(g.Winds.getD k default).East∧(g.Winds.getD k default).East≤s.2.1)∧(s.2.2.1≤(g.Winds.getD k default).North∧(g.Winds.getD k default).North≤s.2.2.2.1)∧s.2.2.2.2.1≤gi g.Devs k∧gi g.Devs k≤s.2.2.2.2.2
def Bd (s:HS):Prop:=(-340≤s.1∧s.1≤s.2.1∧s.2.1≤340)∧(-340≤s.2.2.1∧s.2.2.1≤s.2.2.2.1∧s.2.2.2.1≤340) ∧ -4000≤s.2.2.2.2.1∧s.2.2.2.2.1≤s.2.2.2.2.2∧s.2.2.2.2.2≤4000
theorem Wd.rfl (s:HS):Wd s s:=⟨⟨Int.le_refl _,Int.le_refl _⟩,⟨Int.le_refl _,Int.le_refl _⟩,Int.le_refl _,Int.le_refl _⟩
theorem Wd.trans {s t u:HS} (h:Wd s t) (k:Wd t u):Wd s u:=by unfold Wd at *;omega
theorem Hs.wd {s t:HS} {k:Nat} (h:Hs g s k) (w:Wd s t):Hs g t k:=by unfold Hs Wd at *;omega
def Yi (g:Ae) (k:Nat) (s:HS):HS:=(if(g.Winds.getD k default).East < s.1 then(g.Winds.getD k default).East else s.1,if s.2.1 < (g.Winds.getD k default).East then(g.Winds.getD k default).East else s.2.1,
 if(g.Winds.getD k default).North < s.2.2.1 then(g.Winds.getD k default).North else s.2.2.1,if s.2.2.2.1 < (g.Winds.getD k default).North then(g.Winds.getD k default).North else s.2.2.2.1,
 if g.Devs.getD k default < s.2.2.2.2.1 then g.Devs.getD k default else s.2.2.2.2.1,if s.2.2.2.2.2 < g.Devs.getD k default then g.Devs.getD k default else s.2.2.2.2.2)
theorem yl (g:Ae) (k:Nat) (s:HS):Wd s (Yi g k s):=by
 unfold Wd Yi
 refine⟨⟨?_,?_⟩,⟨?_,?_⟩,?_,?_⟩<;>simp only<;>split<;>omega
theorem stp_hs (g:Ae) (k:Nat) (s:HS):Hs g (Yi g k s) k:=by
 unfold Hs Yi gi
 refine⟨⟨?_,?_⟩,⟨?_,?_⟩,?_,?_⟩<;>simp only<;>split<;>omega
theorem stp_bd (G:Jn g nx ny nz) {k:Nat} (hk:k < nx * ny * nz) {s:HS} (B:Bd s):Bd (Yi g k s):=by
 have h:=G.v.w k (by rw[G.lw];exact hk)
 unfold gi at h
 unfold Bd at *
 unfold Yi
 simp only
 refine⟨⟨?_,?_,?_⟩,⟨?_,?_,?_⟩,?_,?_,?_⟩<;>(repeat' split)<;>omega
abbrev YH:=Int×Int×Int×Int×Int×Int×Int×Bk×Int×Int×Int
theorem hx_loop (G:Jn g nx ny nz) {y1:YH} {x1 y z:Nat} (e1:y1.2.1=(x1:Int)) (hx1:x1 < nx) {s3 s2:Int×HS} (e3:s3.1=(y:Int)) (hy:y < ny) (e2:s2.1=(z:Int)) (hz:z < nz) {x0:Nat} (h0:x0≤x1+1) {s:HS} (B:Bd s) :
  ∃ r,Ad (Pe y1 g s3 s2) ((x0:Int),s)=some r∧∃ t:HS,r=.inl t∧Bd t∧Wd s t∧∀ x,x0≤x→x≤x1→Hs g t (cell nx ny x y z):=by
 refine Ay (b:=Pe y1 g s3 s2) (fun q=>∃ (x:Nat) (t:HS),q=((x:Int),t)∧x≤x1+1∧Bd t∧Wd s t∧∀ x',x0≤x'→x' < x→Hs g t (cell nx ny x' y z)) (fun q=>(x1+1 - q.1).toNat) (fun r=>∃ t:HS,r=.inl t∧Bd t∧Wd s t∧∀ x,x0≤x→x≤x1→Hs g t (cell nx ny x y z)) (fun q hq=>?_) _ ⟨x0,s,rfl,h0,B,Wd.rfl s,fun x' h1 h2=>by omega⟩
 obtain⟨x,t,rfl,hx,B,W,H⟩:=hq
 have hx2:=G.x
 by_cases hlt:x≤x1
 ·have hxn:x < nx:=by omega
  have hc:=Xi G
  have hk:=F4 hxn hy hz
  have ix:=Kx G hxn hy hz
  obtain⟨k,ek⟩:∃ k,cell nx ny x y z=k:=⟨_,rfl⟩
  rw[ek]at hk ix
  have kw:k < g.Winds.length:=by rw[G.lw];exact hk
  have kd:k < g.Devs.length:=by rw[G.ld];exact hk
  have d:decide ((x:Int)≤(x1:Int))=true:=decide_eq_true (by omega)
  have w:IntKind.wrap .i64 ((x:Int)+1)=((x+1:Nat):Int):=by rw[Ah (by omega) (by omega)];omega
  refine .inl ⟨(((x+1:Nat):Int),Yi g k t),?_,⟨x+1,Yi g k t,rfl,by omega,stp_bd G hk B,W.trans (yl g k t),fun x' h1 h2=>?_⟩,by simp only;omega⟩
  ·simp only[Pe,e1,e2,e3,d,if_true,ix,Option.bind_some,As kw,As kd,M112o0,M112o1,M112o2,Int.toNat_natCast,w]
   rfl
  ·by_cases ex:x'=x
   ·rw[ex,ek];exact stp_hs g k t
   ·exact(H x' h1 (by omega)).wd (yl g k t)
 ·refine .inr ⟨.inl t,?_,t,rfl,B,W,fun x' h1 h2=>H x' h1 (by omega)⟩
  have d:decide ((x:Int)≤(x1:Int))=false:=decide_eq_false (by omega)
  simp only[Pe,e1,d,Bool.false_eq_true,if_false]
theorem hy_loop (G:Jn g nx ny nz) {y1:YH} {x0 x1 y0 ye z:Nat} (a0:y1.1=(x0:Int)) (a1:y1.2.1=(x1:Int)) (b0:y1.2.2.1=(y0:Int)) (b1:y1.2.2.2.1=(ye:Int)) (hx1:x1 < nx) (h0:x0≤x1+1) (hy1:ye < ny) (hy0:y0≤ye+1) {s2:Int×HS} (e2:s2.1=(z:Int)) (hz:z < nz) {s:HS} (B:Bd s) :
  ∃ r,Ad (V0 y1 g s2) ((y0:Int),s)=some r∧∃ t:HS,r=.inl t∧Bd t∧Wd s t∧∀ x y,x0≤x→x≤x1→y0≤y→y≤ye→Hs g t (cell nx ny x y z):=by
 refine Ay (b:=V0 y1 g s2) (fun q=>∃ (y:Nat) (t:HS),q=((y:Int),t)∧y≤ye+1∧Bd t∧Wd s t∧∀ x y',x0≤x→x≤x1→y0≤y'→y' < y→Hs g t (cell nx ny x y' z)) (fun q=>(ye+1 - q.1).toNat) (fun r=>∃ t:HS,r=.inl t∧Bd t∧Wd s t∧∀ x y,x0≤x→x≤x1→y0≤y→y≤ye→Hs g t (cell nx ny x y z)) (fun q hq=>?_) _ ⟨y0,s,rfl,hy0,B,Wd.rfl s,fun x y' h1 h2 h3 h4=>by omega⟩
 obtain⟨y,t,rfl,hy,B,W,H⟩:=hq
 have hy2:=G.y
 by_cases hlt:y≤ye
 ·have d:decide ((y:Int)≤(ye:Int))=true:=decide_eq_true (by omega)
  have w:IntKind.wrap .i64 ((y:Int)+1)=((y+1:Nat):Int):=by rw[Ah (by omega) (by omega)];omega
  obtain⟨r,e,u,rfl,B',W',H'⟩:=hx_loop G a1 hx1 (s3:=((y:Int),t)) (s2:=s2) rfl (show y < ny by omega) e2 hz h0 B
  refine .inl ⟨(((y+1:Nat):Int),u),?_,⟨y+1,u,rfl,by omega,B',W.trans W',fun x y' h1 h2 h3 h4=>?_⟩,by simp only;omega⟩
  ·refine Bp (y:=()) (by simp only[b1,d,if_true]) (Bp (y:=u) (Bp (y:=()) rfl (by rw[a0];exact e)) ?_)
   simp only[w]
  ·by_cases ey:y'=y
   ·rw[ey];exact H' x h1 h2
   ·exact(H x y' h1 h2 h3 (by omega)).wd W'
 ·refine .inr ⟨.inl t,?_,t,rfl,B,W,fun x y' h1 h2 h3 h4=>H x y' h1 h2 h3 (by omega)⟩
  have d:decide ((y:Int)≤(ye:Int))=false:=decide_eq_false (by omega)
  simp only[V0,b1,d,Bool.false_eq_true,if_false,Option.bind_some,A5]
theorem hz_loop (G:Jn g nx ny nz) {y1:YH} {x0 x1 y0 ye z0 z1:Nat} (a0:y1.1=(x0:Int)) (a1:y1.2.1=(x1:Int)) (b0:y1.2.2.1=(y0:Int)) (b1:y1.2.2.2.1=(ye:Int)) (c1:y1.2.2.2.2.2.1=(z1:Int)) (hx1:x1 < nx) (h0:x0≤x1+1) (hy1:ye < ny) (hy0:y0≤ye+1) (hz1:z1 < nz) (hz0:z0≤z1+1) {s:HS} (B:Bd s) :
  ∃ r,Ad (V2 y1 g) ((z0:Int),s)=some r∧∃ t:HS,r=.inl t∧Bd t∧Wd s t∧∀ x y z,x0≤x→x≤x1→y0≤y→y≤ye→z0≤z→z≤z1→Hs g t (cell nx ny x y z):=by
 refine Ay (b:=V2 y1 g) (fun q=>∃ (z:Nat) (t:HS),q=((z:Int),t)∧z≤z1+1∧Bd t∧Wd s t∧∀ x y z',x0≤x→x≤x1→y0≤y→y≤ye→z0≤z'→z' < z→Hs g t (cell nx ny x y z')) (fun q=>(z1+1 - q.1).toNat) (fun r=>∃ t:HS,r=.inl t∧Bd t∧Wd s t∧∀ x y z,x0≤x→x≤x1→y0≤y→y≤ye→z0≤z→z≤z1→Hs g t (cell nx ny x y z)) (fun q hq=>?_) _ ⟨z0,s,rfl,hz0,B,Wd.rfl s,fun x y z' _ _ _ _ h3 h4=>by omega⟩
 obtain⟨z,t,rfl,hz,B,W,H⟩:=hq
 have hz2:=G.z
 by_cases hlt:z≤z1
 ·have d:decide ((z:Int)≤(z1:Int))=true:=decide_eq_true (by omega)
  have w:IntKind.wrap .i64 ((z:Int)+1)=((z+1:Nat):Int):=by rw[Ah (by omega) (by omega)];omega
  obtain⟨r,e,u,rfl,B',W',H'⟩:=hy_loop G a0 a1 b0 b1 hx1 h0 hy1 hy0 (s2:=((z:Int),t)) rfl (show z < nz by omega) B
  refine .inl ⟨(((z+1:Nat):Int),u),?_,⟨z+1,u,rfl,by omega,B',W.trans W',fun x y z' h1 h2 h3 h4 h5 h6=>?_⟩,by simp only;omega⟩
  ·refine Bp (y:=()) (by simp only[c1,d,if_true]) (Bp (y:=u) (Bp (y:=()) rfl (by rw[b0];exact e)) ?_)
   simp only[w]
  ·by_cases ez:z'=z
   ·rw[ez];exact H' x y h1 h2 h3 h4
   ·exact(H x y z' h1 h2 h3 h4 h5 (by omega)).wd W'
 ·refine .inr ⟨.inl t,?_,t,rfl,B,W,fun x y z' h1 h2 h3 h4 h5 h6=>H x y z' h1 h2 h3 h4 h5 (by omega)⟩
  have d:decide ((z:Int)≤(z1:Int))=false:=decide_eq_false (by omega)
  simp only[V2,c1,d,Bool.false_eq_true,if_false,Option.bind_some,A5]
end Go.Av.Air
set_option maxRecDepth 100000
namespace Go.Av.Air
theorem vl {d f c:Int} (h0:0≤f) (hc:f≤c) (c0:0 < c):(0≤d→0≤d * f / c∧d * f / c≤d)∧(d < 0→d≤d * f / c∧d * f / c≤0):=by
 constructor
 ·intro hd
  have m1:0≤d * f:=Int.mul_nonneg hd h0
  have m2:d * f≤d * c:=Int.mul_le_mul_of_nonneg_left hc hd
  refine⟨Int.ediv_nonneg m1 (by omega),?_⟩
  have:d * f / c≤d * c / c:=Int.ediv_le_ediv c0 m2
  rwa [Int.mul_ediv_cancel _ (by omega)]at this
 ·intro hd
  have m1:d * f≤0:=by
   have:=Int.mul_nonneg (show 0 ≤ -d by omega) h0
   rw[Int.neg_mul]at this;omega
  have m2:d * c≤d * f:=by
   have:=Int.mul_le_mul_of_nonneg_left hc (show 0 ≤ -d by omega)
   rw[Int.neg_mul,Int.neg_mul]at this;omega
  constructor
  ·have:d * c / c≤d * f / c:=Int.ediv_le_ediv c0 m2
   rwa [Int.mul_ediv_cancel _ (by omega)]at this
  ·have:d * f / c≤0 / c:=Int.ediv_le_ediv c0 m1
   rwa [Int.zero_ediv]at this
theorem F3 {n:Nat} {s:Aa} {i:Nat} (S:Jo n s i) {f:Int→Option Int} {L H:Int} (hn:n≤16) (hL : -5000≤L) (hH:H≤5000) (hf:∀ j:Nat,i≤j→j≤i+1→j < n→∃ v,f (j:Int)=some v∧L≤v∧v≤H) :
  ∃ v,(Option.bind (Option.bind (f s.i) fun r=>some r) fun x1=>(if(s.f==0)=true then(some x1)else(Option.bind (((f (IntKind.wrap .i64 (s.i+1))).bind fun r4_0=>((Dz (IntKind.wrap .i64 ((IntKind.wrap .i64 (r4_0 - x1)) * s.f)) s.c).bind fun r4_1=>some (r4_0,r4_1)))) fun(x4:(Int×(Int×Int)))=>(some (IntKind.wrap .i64 (x1+x4.2.1))))))=some v∧L≤v∧v≤H:=by
 obtain⟨e,lt,f0,fc,⟨c1,c2⟩,nx⟩:=S
 obtain⟨u,hu,u1,u2⟩:=hf i (Nat.le_refl _) (by omega) lt
 rw[e,hu]
 simp only[Option.bind_some]
 by_cases z:s.f=0
 ·have:(s.f==0)=true:=by rw[beq_iff_eq];exact z
  rw[if_pos this];exact⟨u,rfl,u1,u2⟩
 ·have zb:¬ ((s.f==0)=true):=by rw[beq_iff_eq];exact z
  rw[if_neg zb]
  have hi1:=nx (by omega)
  obtain⟨v,hv,v1,v2⟩:=hf (i+1) (by omega) (Nat.le_refl _) hi1
  have w:IntKind.wrap .i64 ((i:Int)+1)=((i+1:Nat):Int):=by rw[Ah (by omega) (by omega)];omega
  rw[w,hv]
  simp only[Option.bind_some]
  have w1:IntKind.wrap .i64 (v - u)=v - u:=Ah (by omega) (by omega)
  have mb : -100000000000≤(v - u) * s.f∧(v - u) * s.f≤100000000000:=by
   by_cases hd:0≤v - u
   ·have m1:=Int.mul_nonneg hd f0
    have m2:(v - u) * s.f≤10000 * 10000000:=Int.mul_le_mul (by omega) (by omega) f0 (by decide)
    omega
   ·have m1:=Int.mul_nonneg (show 0 ≤ -(v - u) by omega) f0
    have m2 : -(v - u) * s.f≤10000 * 10000000:=Int.mul_le_mul (by omega) (by omega) f0 (by decide)
    rw[Int.neg_mul]at m1 m2
    omega
  have w2:IntKind.wrap .i64 ((v - u) * s.f)=(v - u) * s.f:=Ah (by omega) (by omega)
  rw[w1,w2,s55 _ _ (by omega) (by omega) (by omega) (by omega)]
  simp only[Option.bind_some]
  obtain⟨p1,p2⟩:=vl (d:=v - u) f0 fc (by omega)
  by_cases hd:0≤v - u
  ·have:=p1 hd
   rw[Ah (by omega) (by omega)]
   exact⟨_,rfl,by omega,by omega⟩
  ·have:=p2 (by omega)
   rw[Ah (by omega) (by omega)]
   exact⟨_,rfl,by omega,by omega⟩
theorem M28 (a0:Ae) (a1:Be) (a2:Int):On a0 a1 a2=((Option.bind (Option.bind (Ps a0) fun r=>some r) fun x1=>(if(x1 != 0)=true then(some ((⟨(0:Int),(0:Int)⟩:Bk),(0:Int),x1))else(Option.bind (((Jy a1).bind fun r4_0=>((if(!(!r4_0))=true then E0 a2 (-200000:Int) (6000000:Int)else some default).bind fun r4_1=>some (r4_0,r4_1)))) fun(x4:(Bool×Bool))=>(if((!x4.1) || (!x4.2))=true then(some ((⟨(0:Int),(0:Int)⟩:Bk),(0:Int),(2:Int)))else(Option.bind (((H5 a0.Corner.X a0.Cell a0.NX a1.X).bind fun r6_0=>((H5 a0.Corner.Y a0.Cell a0.NY a1.Y).bind fun r6_1=>((Oo a0.Alts a2).bind fun r6_2=>some (r6_0,r6_1,r6_2))))) fun(x6:(Aa×Aa×Aa))=>(Option.bind (((Vc a0 x6.2.2 x6.2.1 x6.1).bind fun r8_0=>((Vd a0 x6.2.2 x6.2.1 x6.1).bind fun r8_1=>some (r8_0,r8_1,x6.2.2,x6.2.1,x6.1)))) fun(x8:(Int×Int×Aa×Aa×Aa))=>(Option.bind (((Ve a0 x8.2.2.1 x8.2.2.2.1 x8.2.2.2.2).bind fun r9_0=>some (r9_0,x8.2.2.1,x8.2.2.2.1,x8.2.2.2.2))) fun(x9:(Int×Aa×Aa×Aa))=>(some ((⟨x8.1,x8.2.1⟩:Bk),x9.1,(0:Int)))))))))):Option (Bk×Int×Int)):=by kernel_rfl
variable {g:Ae} {nx ny nz:Nat}
theorem M56o0 (a0:Int) (a1:Ae):Zm a0 a1=((if(0≤a0)then(if(a0 < (a1.Winds.length:Int))then(some ())else none)else none):Option (Unit)):=by kernel_rfl
theorem M54o0 (a0:Int) (a1:Ae) (a2 a3:Int):Lr a0 a1 a2 a3=((Option.bind (((Mz a1 a0 a2 a3).bind fun r1_0=>((Zm r1_0 a1).bind fun r1_1=>some (r1_0,r1_1)))) fun(x1:(Int×Unit))=>(some (a1.Winds.getD x1.1.toNat default).East)):Option (Int)):=by kernel_rfl
theorem M51o2 (a0:Aa) (a1:Ae) (a2 a3:Int):Zf a0 a1 a2 a3=((Option.bind (Option.bind (Lr a0.i a1 a2 a3) fun r=>some r) fun x1=>(if(a0.f==0)=true then(some x1)else(Option.bind (((Lr (IntKind.wrap .i64 (a0.i+1)) a1 a2 a3).bind fun r4_0=>((Dz (IntKind.wrap .i64 ((IntKind.wrap .i64 (r4_0 - x1)) * a0.f)) a0.c).bind fun r4_1=>some (r4_0,r4_1)))) fun(x4:(Int×(Int×Int)))=>(some (IntKind.wrap .i64 (x1+x4.2.1)))))):Option (Int)):=by kernel_rfl
theorem M53o0 (a0:Int) (a1:Aa) (a2:Ae) (a3:Int):Ln a0 a1 a2 a3=((Option.bind (Option.bind (Zf a1 a2 a0 a3) fun r=>some r) fun x1=>(some x1)):Option (Int)):=by kernel_rfl
theorem M51o1 (a0 a1:Aa) (a2:Ae) (a3:Int):Ze a0 a1 a2 a3=((Option.bind (Option.bind (Ln a0.i a1 a2 a3) fun r=>some r) fun x1=>(if(a0.f==0)=true then(some x1)else(Option.bind (((Ln (IntKind.wrap .i64 (a0.i+1)) a1 a2 a3).bind fun r4_0=>((Dz (IntKind.wrap .i64 ((IntKind.wrap .i64 (r4_0 - x1)) * a0.f)) a0.c).bind fun r4_1=>some (r4_0,r4_1)))) fun(x4:(Int×(Int×Int)))=>(some (IntKind.wrap .i64 (x1+x4.2.1)))))):Option (Int)):=by kernel_rfl
theorem M52o0 (a0:Int) (a1 a2:Aa) (a3:Ae):Lk a0 a1 a2 a3=((Option.bind (Option.bind (Ze a1 a2 a3 a0) fun r=>some r) fun x1=>(some x1)):Option (Int)):=by kernel_rfl
theorem M51o0 (a0 a1 a2:Aa) (a3:Ae):Zd a0 a1 a2 a3=((Option.bind (Option.bind (Lk a0.i a1 a2 a3) fun r=>some r) fun x1=>(if(a0.f==0)=true then(some x1)else(Option.bind (((Lk (IntKind.wrap .i64 (a0.i+1)) a1 a2 a3).bind fun r4_0=>((Dz (IntKind.wrap .i64 ((IntKind.wrap .i64 (r4_0 - x1)) * a0.f)) a0.c).bind fun r4_1=>some (r4_0,r4_1)))) fun(x4:(Int×(Int×Int)))=>(some (IntKind.wrap .i64 (x1+x4.2.1)))))):Option (Int)):=by kernel_rfl
theorem M50o0 (a0:Ae) (a1 a2 a3:Aa):Vc a0 a1 a2 a3=((Option.bind (Option.bind (Zd a1 a2 a3 a0) fun r=>some r) fun x1=>(some x1)):Option (Int)):=by kernel_rfl
theorem enc_0 (G:Jn g nx ny nz) {sx sy sz:Aa} {i j l:Nat} (X:Jo nx sx i) (Y:Jo ny sy j) (Z:Jo nz sz l) {L H:Int} (hL : -5000≤L) (hH:H≤5000)
  (hv:∀ x y z,i≤x→x≤i+1→x < nx→j≤y→y≤j+1→y < ny→l≤z→z≤l+1→z < nz→∀ k,cell nx ny x y z=k→L≤(g.Winds.getD k default).East∧(g.Winds.getD k default).East≤H):∃ v,Vc g sz sy sx=some v∧L≤v∧v≤H:=by
 have h54:∀ x y z,i≤x→x≤i+1→x < nx→j≤y→y≤j+1→y < ny→l≤z→z≤l+1→z < nz→∃ v,Lr (x:Int) g (y:Int) (z:Int)=some v∧L≤v∧v≤H:=fun x y z a1 a2 a3 b1 b2 b3 c1 c2 c3=>by
  have hk:=F4 a3 b3 c3
  have ix:=Kx G a3 b3 c3
  obtain⟨k,ek⟩:∃ k,cell nx ny x y z=k:=⟨_,rfl⟩
  rw[ek]at hk ix
  have kw:k < g.Winds.length:=by rw[G.lw];exact hk
  have kd:k < g.Devs.length:=by rw[G.ld];exact hk
  refine⟨_,?_,hv x y z a1 a2 a3 b1 b2 b3 c1 c2 c3 k ek⟩
  rw[M54o0,ix]
  simp only[Option.bind_some,M56o0,As kw,if_true,Int.toNat_natCast]
 have h53:∀ y z,j≤y→y≤j+1→y < ny→l≤z→z≤l+1→z < nz→∃ v,Ln (y:Int) sx g (z:Int)=some v∧L≤v∧v≤H:=fun y z b1 b2 b3 c1 c2 c3=>by
  obtain⟨v,h1,h2⟩:=F3 X (f:=fun q=>Lr q g (y:Int) (z:Int)) G.x.2 hL hH fun x a1 a2 a3=>h54 x y z a1 a2 a3 b1 b2 b3 c1 c2 c3
  refine⟨v,?_,h2⟩
  rw[M53o0,M51o2]
  exact Bw (Bw h1 rfl) rfl
 have h52:∀ z,l≤z→z≤l+1→z < nz→∃ v,Lk (z:Int) sy sx g=some v∧L≤v∧v≤H:=fun z c1 c2 c3=>by
  obtain⟨v,h1,h2⟩:=F3 Y (f:=fun q=>Ln q sx g (z:Int)) G.y.2 hL hH fun y b1 b2 b3=>h53 y z b1 b2 b3 c1 c2 c3
  refine⟨v,?_,h2⟩
  rw[M52o0,M51o1]
  exact Bw (Bw h1 rfl) rfl
 obtain⟨v,h1,h2⟩:=F3 Z (f:=fun q=>Lk q sy sx g) (by have:=G.z;omega) hL hH fun z c1 c2 c3=>h52 z c1 c2 c3
 refine⟨v,?_,h2⟩
 rw[M50o0,M51o0]
 exact Bw (Bw h1 rfl) rfl
theorem M57o0 (a0:Int) (a1:Ae):Zn a0 a1=((if(0≤a0)then(if(a0 < (a1.Winds.length:Int))then(some ())else none)else none):Option (Unit)):=by kernel_rfl
theorem M54o1 (a0:Int) (a1:Ae) (a2 a3:Int):Ls a0 a1 a2 a3=((Option.bind (((Mz a1 a0 a2 a3).bind fun r1_0=>((Zn r1_0 a1).bind fun r1_1=>some (r1_0,r1_1)))) fun(x1:(Int×Unit))=>(some (a1.Winds.getD x1.1.toNat default).North)):Option (Int)):=by kernel_rfl
theorem M51o5 (a0:Aa) (a1:Ae) (a2 a3:Int):Zi a0 a1 a2 a3=((Option.bind (Option.bind (Ls a0.i a1 a2 a3) fun r=>some r) fun x1=>(if(a0.f==0)=true then(some x1)else(Option.bind (((Ls (IntKind.wrap .i64 (a0.i+1)) a1 a2 a3).bind fun r4_0=>((Dz (IntKind.wrap .i64 ((IntKind.wrap .i64 (r4_0 - x1)) * a0.f)) a0.c).bind fun r4_1=>some (r4_0,r4_1)))) fun(x4:(Int×(Int×Int)))=>(some (IntKind.wrap .i64 (x1+x4.2.1)))))):Option (Int)):=by kernel_rfl
theorem M53o1 (a0:Int) (a1:Aa) (a2:Ae) (a3:Int):Lp a0 a1 a2 a3=((Option.bind (Option.bind (Zi a1 a2 a0 a3) fun r=>some r) fun x1=>(some x1)):Option (Int)):=by kernel_rfl
theorem M51o4 (a0 a1:Aa) (a2:Ae) (a3:Int):Zh a0 a1 a2 a3=((Option.bind (Option.bind (Lp a0.i a1 a2 a3) fun r=>some r) fun x1=>(if(a0.f==0)=true then(some x1)else(Option.bind (((Lp (IntKind.wrap .i64 (a0.i+1)) a1 a2 a3).bind fun r4_0=>((Dz (IntKind.wrap .i64 ((IntKind.wrap .i64 (r4_0 - x1)) * a0.f)) a0.c).bind fun r4_1=>some (r4_0,r4_1)))) fun(x4:(Int×(Int×Int)))=>(some (IntKind.wrap .i64 (x1+x4.2.1)))))):Option (Int)):=by kernel_rfl
theorem M52o1 (a0:Int) (a1 a2:Aa) (a3:Ae):Ll a0 a1 a2 a3=((Option.bind (Option.bind (Zh a1 a2 a3 a0) fun r=>some r) fun x1=>(some x1)):Option (Int)):=by kernel_rfl
theorem M51o3 (a0 a1 a2:Aa) (a3:Ae):Zg a0 a1 a2 a3=((Option.bind (Option.bind (Ll a0.i a1 a2 a3) fun r=>some r) fun x1=>(if(a0.f==0)=true then(some x1)else(Option.bind (((Ll (IntKind.wrap .i64 (a0.i+1)) a1 a2 a3).bind fun r4_0=>((Dz (IntKind.wrap .i64 ((IntKind.wrap .i64 (r4_0 - x1)) * a0.f)) a0.c).bind fun r4_1=>some (r4_0,r4_1)))) fun(x4:(Int×(Int×Int)))=>(some (IntKind.wrap .i64 (x1+x4.2.1)))))):Option (Int)):=by kernel_rfl
theorem M50o1 (a0:Ae) (a1 a2 a3:Aa):Vd a0 a1 a2 a3=((Option.bind (Option.bind (Zg a1 a2 a3 a0) fun r=>some r) fun x1=>(some x1)):Option (Int)):=by kernel_rfl
theorem enc_1 (G:Jn g nx ny nz) {sx sy sz:Aa} {i j l:Nat} (X:Jo nx sx i) (Y:Jo ny sy j) (Z:Jo nz sz l) {L H:Int} (hL : -5000≤L) (hH:H≤5000)
  (hv:∀ x y z,i≤x→x≤i+1→x < nx→j≤y→y≤j+1→y < ny→l≤z→z≤l+1→z < nz→∀ k,cell nx ny x y z=k→L≤(g.Winds.getD k default).North∧(g.Winds.getD k default).North≤H):∃ v,Vd g sz sy sx=some v∧L≤v∧v≤H:=by
 have h54:∀ x y z,i≤x→x≤i+1→x < nx→j≤y→y≤j+1→y < ny→l≤z→z≤l+1→z < nz→∃ v,Ls (x:Int) g (y:Int) (z:Int)=some v∧L≤v∧v≤H:=fun x y z a1 a2 a3 b1 b2 b3 c1 c2 c3=>by
  have hk:=F4 a3 b3 c3
  have ix:=Kx G a3 b3 c3
  obtain⟨k,ek⟩:∃ k,cell nx ny x y z=k:=⟨_,rfl⟩
  rw[ek]at hk ix
  have kw:k < g.Winds.length:=by rw[G.lw];exact hk
  have kd:k < g.Devs.length:=by rw[G.ld];exact hk
  refine⟨_,?_,hv x y z a1 a2 a3 b1 b2 b3 c1 c2 c3 k ek⟩
  rw[M54o1,ix]
  simp only[Option.bind_some,M57o0,As kw,if_true,Int.toNat_natCast]
 have h53:∀ y z,j≤y→y≤j+1→y < ny→l≤z→z≤l+1→z < nz→∃ v,Lp (y:Int) sx g (z:Int)=some v∧L≤v∧v≤H:=fun y z b1 b2 b3 c1 c2 c3=>by
  obtain⟨v,h1,h2⟩:=F3 X (f:=fun q=>Ls q g (y:Int) (z:Int)) G.x.2 hL hH fun x a1 a2 a3=>h54 x y z a1 a2 a3 b1 b2 b3 c1 c2 c3
  refine⟨v,?_,h2⟩
  rw[M53o1,M51o5]
  exact Bw (Bw h1 rfl) rfl
 have h52:∀ z,l≤z→z≤l+1→z < nz→∃ v,Ll (z:Int) sy sx g=some v∧L≤v∧v≤H:=fun z c1 c2 c3=>by
  obtain⟨v,h1,h2⟩:=F3 Y (f:=fun q=>Lp q sx g (z:Int)) G.y.2 hL hH fun y b1 b2 b3=>h53 y z b1 b2 b3 c1 c2 c3
  refine⟨v,?_,h2⟩
  rw[M52o1,M51o4]
  exact Bw (Bw h1 rfl) rfl
 obtain⟨v,h1,h2⟩:=F3 Z (f:=fun q=>Ll q sy sx g) (by have:=G.z;omega) hL hH fun z c1 c2 c3=>h52 z c1 c2 c3
 refine⟨v,?_,h2⟩
 rw[M50o1,M51o3]
 exact Bw (Bw h1 rfl) rfl
theorem M58o0 (a0:Int) (a1:Ae):Zo a0 a1=((if(0≤a0)then(if(a0 < (a1.Devs.length:Int))then(some ())else none)else none):Option (Unit)):=by kernel_rfl
theorem M54o2 (a0:Int) (a1:Ae) (a2 a3:Int):Lu a0 a1 a2 a3=((Option.bind (((Mz a1 a0 a2 a3).bind fun r1_0=>((Zo r1_0 a1).bind fun r1_1=>some (r1_0,r1_1)))) fun(x1:(Int×Unit))=>(some (a1.Devs.getD x1.1.toNat default))):Option (Int)):=by kernel_rfl
theorem M51o8 (a0:Aa) (a1:Ae) (a2 a3:Int):Zl a0 a1 a2 a3=((Option.bind (Option.bind (Lu a0.i a1 a2 a3) fun r=>some r) fun x1=>(if(a0.f==0)=true then(some x1)else(Option.bind (((Lu (IntKind.wrap .i64 (a0.i+1)) a1 a2 a3).bind fun r4_0=>((Dz (IntKind.wrap .i64 ((IntKind.wrap .i64 (r4_0 - x1)) * a0.f)) a0.c).bind fun r4_1=>some (r4_0,r4_1)))) fun(x4:(Int×(Int×Int)))=>(some (IntKind.wrap .i64 (x1+x4.2.1)))))):Option (Int)):=by kernel_rfl
theorem M53o2 (a0:Int) (a1:Aa) (a2:Ae) (a3:Int):Lq a0 a1 a2 a3=((Option.bind (Option.bind (Zl a1 a2 a0 a3) fun r=>some r) fun x1=>(some x1)):Option (Int)):=by kernel_rfl
theorem M51o7 (a0 a1:Aa) (a2:Ae) (a3:Int):Zk a0 a1 a2 a3=((Option.bind (Option.bind (Lq a0.i a1 a2 a3) fun r=>some r) fun x1=>(if(a0.f==0)=true then(some x1)else(Option.bind (((Lq (IntKind.wrap .i64 (a0.i+1)) a1 a2 a3).bind fun r4_0=>((Dz (IntKind.wrap .i64 ((IntKind.wrap .i64 (r4_0 - x1)) * a0.f)) a0.c).bind fun r4_1=>some (r4_0,r4_1)))) fun(x4:(Int×(Int×Int)))=>(some (IntKind.wrap .i64 (x1+x4.2.1)))))):Option (Int)):=by kernel_rfl
theorem M52o2 (a0:Int) (a1 a2:Aa) (a3:Ae):Lm a0 a1 a2 a3=((Option.bind (Option.bind (Zk a1 a2 a3 a0) fun r=>some r) fun x1=>(some x1)):Option (Int)):=by kernel_rfl
theorem M51o6 (a0 a1 a2:Aa) (a3:Ae):Zj a0 a1 a2 a3=((Option.bind (Option.bind (Lm a0.i a1 a2 a3) fun r=>some r) fun x1=>(if(a0.f==0)=true then(some x1)else(Option.bind (((Lm (IntKind.wrap .i64 (a0.i+1)) a1 a2 a3).bind fun r4_0=>((Dz (IntKind.wrap .i64 ((IntKind.wrap .i64 (r4_0 - x1)) * a0.f)) a0.c).bind fun r4_1=>some (r4_0,r4_1)))) fun(x4:(Int×(Int×Int)))=>(some (IntKind.wrap .i64 (x1+x4.2.1)))))):Option (Int)):=by kernel_rfl
theorem M50o2 (a0:Ae) (a1 a2 a3:Aa):Ve a0 a1 a2 a3=((Option.bind (Option.bind (Zj a1 a2 a3 a0) fun r=>some r) fun x1=>(some x1)):Option (Int)):=by kernel_rfl
theorem enc_2 (G:Jn g nx ny nz) {sx sy sz:Aa} {i j l:Nat} (X:Jo nx sx i) (Y:Jo ny sy j) (Z:Jo nz sz l) {L H:Int} (hL : -5000≤L) (hH:H≤5000)
  (hv:∀ x y z,i≤x→x≤i+1→x < nx→j≤y→y≤j+1→y < ny→l≤z→z≤l+1→z < nz→∀ k,cell nx ny x y z=k→L≤g.Devs.getD k default∧g.Devs.getD k default≤H):∃ v,Ve g sz sy sx=some v∧L≤v∧v≤H:=by
 have h54:∀ x y z,i≤x→x≤i+1→x < nx→j≤y→y≤j+1→y < ny→l≤z→z≤l+1→z < nz→∃ v,Lu (x:Int) g (y:Int) (z:Int)=some v∧L≤v∧v≤H:=fun x y z a1 a2 a3 b1 b2 b3 c1 c2 c3=>by
  have hk:=F4 a3 b3 c3
  have ix:=Kx G a3 b3 c3
  obtain⟨k,ek⟩:∃ k,cell nx ny x y z=k:=⟨_,rfl⟩
  rw[ek]at hk ix
  have kw:k < g.Winds.length:=by rw[G.lw];exact hk
  have kd:k < g.Devs.length:=by rw[G.ld];exact hk
  refine⟨_,?_,hv x y z a1 a2 a3 b1 b2 b3 c1 c2 c3 k ek⟩
  rw[M54o2,ix]
  simp only[Option.bind_some,M58o0,As kd,if_true,Int.toNat_natCast]
 have h53:∀ y z,j≤y→y≤j+1→y < ny→l≤z→z≤l+1→z < nz→∃ v,Lq (y:Int) sx g (z:Int)=some v∧L≤v∧v≤H:=fun y z b1 b2 b3 c1 c2 c3=>by
  obtain⟨v,h1,h2⟩:=F3 X (f:=fun q=>Lu q g (y:Int) (z:Int)) G.x.2 hL hH fun x a1 a2 a3=>h54 x y z a1 a2 a3 b1 b2 b3 c1 c2 c3
  refine⟨v,?_,h2⟩
  rw[M53o2,M51o8]
  exact Bw (Bw h1 rfl) rfl
 have h52:∀ z,l≤z→z≤l+1→z < nz→∃ v,Lm (z:Int) sy sx g=some v∧L≤v∧v≤H:=fun z c1 c2 c3=>by
  obtain⟨v,h1,h2⟩:=F3 Y (f:=fun q=>Lq q sx g (z:Int)) G.y.2 hL hH fun y b1 b2 b3=>h53 y z b1 b2 b3 c1 c2 c3
  refine⟨v,?_,h2⟩
  rw[M52o2,M51o7]
  exact Bw (Bw h1 rfl) rfl
 obtain⟨v,h1,h2⟩:=F3 Z (f:=fun q=>Lm q sy sx g) (by have:=G.z;omega) hL hH fun z c1 c2 c3=>h52 z c1 c2 c3
 refine⟨v,?_,h2⟩
 rw[M50o2,M51o6]
 exact Bw (Bw h1 rfl) rfl
end Go.Av.Air
set_option maxRecDepth 100000
namespace Go.Av.Air
variable {g:Ae} {nx ny nz:Nat}
theorem bo {n i k:Nat} (hn:1≤n∧n≤16) (hi:i < n) (hk:i≤k) (hk2:k < n):∃ m:Nat,(if IntKind.wrap .i64 ((n:Int) - 1) < IntKind.wrap .i64 ((k:Int)+1)then IntKind.wrap .i64 ((n:Int) - 1)else IntKind.wrap .i64 ((k:Int)+1))=(m:Int)∧m < n∧i≤m+1∧∀ x,x≤k+1→x < n→x≤m:=by
 rw[Ah (x:=(n:Int) - 1) (by omega) (by omega),Ah (x:=(k:Int)+1) (by omega) (by omega)]
 split
 ·exact⟨n - 1,by omega,by omega,by omega,fun x h1 h2=>by omega⟩
 ·exact⟨k+1,by omega,by omega,by omega,fun x h1 h2=>by omega⟩
theorem vd (a b:Int):(if b < a then b else a)≤a∧(if b < a then b else a)≤b∧a≤(if a < b then b else a)∧b≤(if a < b then b else a)∧((if b < a then b else a)=a∨(if b < a then b else a)=b)∧((if a < b then b else a)=a∨(if a < b then b else a)=b):=by
 repeat' split
 all_goals omega
structure Enc (g:Ae) (a b:Be) (lo hi:Int) (box:A6) (d:A2):Prop where
 e : -400≤box.East.Lo∧box.East.Lo≤box.East.Hi∧box.East.Hi≤400
 n : -400≤box.North.Lo∧box.North.Lo≤box.North.Hi∧box.North.Hi≤400
 dv : -4000≤d.Lo∧d.Lo≤d.Hi∧d.Hi≤4000
 at_:∀ (p:Be) (h:Int),((if b.X < a.X then b.X else a.X)≤p.X∧p.X≤(if a.X < b.X then b.X else a.X))→((if b.Y < a.Y then b.Y else a.Y)≤p.Y∧p.Y≤(if a.Y < b.Y then b.Y else a.Y))→lo≤h→h≤hi →
  ∃ (w:Bk) (v:Int),On g p h=some (w,v,0)∧(box.East.Lo≤w.East∧w.East≤box.East.Hi)∧(box.North.Lo≤w.North∧w.North≤box.North.Hi)∧d.Lo≤v∧v≤d.Hi
theorem hull_ok (hG:Ps g=some 0) (G:Jn g nx ny nz) {a b:Be} (ha:R7 a) (hb:R7 b) {lo hi:Int} (h1 : -200000≤lo) (h2:lo≤hi) (h3:hi≤6000000) :
  ∃ box d,l8 g a b ⟨lo,hi⟩=some (box,d,0)∧Enc g a b lo hi box d:=by
 obtain⟨mx1,mx2,mx3,mx4,mx5,mx6⟩:=vd a.X b.X
 obtain⟨my1,my2,my3,my4,my5,my6⟩:=vd a.Y b.Y
 obtain⟨hax,hay⟩:=ha
 obtain⟨hbx,hby⟩:=hb
 obtain⟨XL,hXL⟩:∃ z,(if b.X < a.X then b.X else a.X)=z:=⟨_,rfl⟩
 obtain⟨XH,hXH⟩:∃ z,(if a.X < b.X then b.X else a.X)=z:=⟨_,rfl⟩
 obtain⟨YL,hYL⟩:∃ z,(if b.Y < a.Y then b.Y else a.Y)=z:=⟨_,rfl⟩
 obtain⟨YU,hYU⟩:∃ z,(if a.Y < b.Y then b.Y else a.Y)=z:=⟨_,rfl⟩
 rw[hXL]at mx1 mx2 mx5
 rw[hXH]at mx3 mx4 mx6
 rw[hYL]at my1 my2 my5
 rw[hYU]at my3 my4 my6
 have o:=G.v.o
 have cc:=G.v.c
 obtain⟨xa,ia,sxa,Xa,ja⟩:=Ko (n:=nx) o.1 (show -2000000≤XL∧XL≤2000000 by omega) cc G.x
 obtain⟨xb,ib,sxb,Xb,jb⟩:=Ko (n:=nx) o.1 (show -2000000≤XH∧XH≤2000000 by omega) cc G.x
 obtain⟨ya,ka,sya,Ya,la⟩:=Ko (n:=ny) o.2 (show -2000000≤YL∧YL≤2000000 by omega) cc G.y
 obtain⟨yb,kb,syb,Yb,lb'⟩:=Ko (n:=ny) o.2 (show -2000000≤YU∧YU≤2000000 by omega) cc G.y
 have zl:=G.z
 have zn:1≤g.Alts.length∧g.Alts.length≤8:=by rw[G.ez];exact zl
 obtain⟨za,ma,sza,Za,Pa⟩:=S3 (a:=lo) zn G.asc G.v.a (by omega)
 obtain⟨zb,mb,szb,Zb,Pb⟩:=S3 (a:=hi) zn G.asc G.v.a (by omega)
 rw[G.ez]at Za Zb
 have hx':ia≤ib:=by have:=Kn (o:=g.Corner.X) cc G.x (show XL≤XH by omega);rw[ja,jb]at this;omega
 have hy':ka≤kb:=by have:=Kn (o:=g.Corner.Y) cc G.y (show YL≤YU by omega);rw[la,lb']at this;omega
 have hz':ma≤mb:=LevP.mono h2 Pa Pb
 obtain⟨X1,eX,X1n,X0,Xc⟩:=bo G.x Xa.lt hx' Xb.lt
 obtain⟨Y1,eY,Y1n,Y0,Yc⟩:=bo G.y Ya.lt hy' Yb.lt
 obtain⟨Z1,eZ,Z1n,Z0,Zc⟩:=bo (n:=nz) (by omega) Za.lt hz' Zb.lt
 have hk:=F4 Xa.lt Ya.lt Za.lt
 have ix:=Kx G Xa.lt Ya.lt Za.lt
 obtain⟨k,ek⟩:∃ k,cell nx ny ia ka ma=k:=⟨_,rfl⟩
 rw[ek]at hk ix
 have kw:k < g.Winds.length:=by rw[G.lw];exact hk
 have kd:k < g.Devs.length:=by rw[G.ld];exact hk
 obtain⟨w1,w2,w3⟩:=G.v.w k kw
 unfold gi at w3
 obtain⟨y1,hy1⟩:∃ y:YH,y=((ia:Int),(X1:Int),(ka:Int),(Y1:Int),(ma:Int),(Z1:Int),(g.Winds.getD k default).East,g.Winds.getD k default,(g.Winds.getD k default).North,g.Devs.getD k default,g.Devs.getD k default):=⟨_,rfl⟩
 obtain⟨r,e,t,rfl,B,W,H⟩:=hz_loop G (y1:=y1) (x0:=ia) (x1:=X1) (y0:=ka) (ye:=Y1) (z0:=ma) (z1:=Z1) (by rw[hy1]) (by rw[hy1]) (by rw[hy1]) (by rw[hy1]) (by rw[hy1]) X1n X0 Y1n Y0 Z1n Z0
  (s:=((g.Winds.getD k default).East,(g.Winds.getD k default).East,(g.Winds.getD k default).North,(g.Winds.getD k default).North,g.Devs.getD k default,g.Devs.getD k default)) (by unfold Bd;simp only;omega)
 have er:=G.v.e
 obtain⟨⟨b1,b2,b3⟩,⟨b4,b5,b6⟩,b7,b8,b9⟩:=B
 refine⟨⟨⟨t.1 - g.Err,t.2.1+g.Err⟩,⟨t.2.2.1 - g.Err,t.2.2.2.1+g.Err⟩⟩,⟨t.2.2.2.2.1,t.2.2.2.2.2⟩,?_,⟨by simp only;omega,by simp only;omega,by simp only;omega,fun p h px py l1 l2=>?_⟩⟩
 ·rw[A89,hG,Kw ⟨hax,hay⟩,Kw ⟨hbx,hby⟩]
  have d1:decide (lo < (-200000:Int))=false:=decide_eq_false (by omega)
  have d2:decide (hi < lo)=false:=decide_eq_false (by omega)
  have d3:decide ((6000000:Int) < hi)=false:=decide_eq_false (by omega)
  rw[hXL,hXH,hYL,hYU,G.ex,G.ey,G.ez,sxa,sxb,sya,syb,sza,szb]
  refine Bp (y:=y1) ?_ (Bp (y:=t) (Bp (y:=()) rfl (by rw[hy1]at e ⊢;exact e)) ?_)
  ·simp only[Option.bind_some,bne_self_eq_false,Bool.false_eq_true,if_false,Bool.not_true,Bool.not_false,if_true,d1,d2,d3,Bool.or_self,Xa.ei,Xb.ei,Ya.ei,Yb.ei,Za.ei,Zb.ei,ix,As kw,As kd,Int.toNat_natCast,eX,eY,eZ,hy1]
  ·have u1:IntKind.wrap .i64 (t.1 - g.Err)=t.1 - g.Err:=Ah (by omega) (by omega)
   have u2:IntKind.wrap .i64 (t.2.1+g.Err)=t.2.1+g.Err:=Ah (by omega) (by omega)
   have u3:IntKind.wrap .i64 (t.2.2.1 - g.Err)=t.2.2.1 - g.Err:=Ah (by omega) (by omega)
   have u4:IntKind.wrap .i64 (t.2.2.2.1+g.Err)=t.2.2.2.1+g.Err:=Ah (by omega) (by omega)
   simp only[Option.bind_some,A5,Vl,u1,u2,u3,u4]
 ·rw[hXL,hXH]at px
  rw[hYL,hYU]at py
  have pin:R7 p:=⟨by omega,by omega⟩
  obtain⟨sx,i,es,X,ji⟩:=Ko (n:=nx) o.1 pin.1 cc G.x
  obtain⟨sy,j,et,Y,jj⟩:=Ko (n:=ny) o.2 pin.2 cc G.y
  obtain⟨sz,l,ez,Z,P⟩:=S3 (a:=h) zn G.asc G.v.a (by omega)
  rw[G.ez]at Z
  have i1:ia≤i:=by have:=Kn (o:=g.Corner.X) cc G.x px.1;rw[ja,ji]at this;omega
  have i2:i≤ib:=by have:=Kn (o:=g.Corner.X) cc G.x px.2;rw[jb,ji]at this;omega
  have j1:ka≤j:=by have:=Kn (o:=g.Corner.Y) cc G.y py.1;rw[la,jj]at this;omega
  have j2:j≤kb:=by have:=Kn (o:=g.Corner.Y) cc G.y py.2;rw[lb',jj]at this;omega
  have z1:ma≤l:=LevP.mono l1 Pa P
  have z2:l≤mb:=LevP.mono l2 P Pb
  have hh:∀ x y z,i≤x→x≤i+1→x < nx→j≤y→y≤j+1→y < ny→l≤z→z≤l+1→z < nz→Hs g t (cell nx ny x y z):=fun x y z a1 a2 a3 b1 b2 b3 c1 c2 c3=>H x y z (by omega) (Xc x (by omega) a3) (by omega) (Yc y (by omega) b3) (by omega) (Zc z (by omega) c3)
  obtain⟨v0,g0,p0⟩:=enc_0 G X Y Z (L:=t.1) (H:=t.2.1) (by omega) (by omega) fun x y z a1 a2 a3 b1 b2 b3 c1 c2 c3 k hk=>by rw[← hk];exact(hh x y z a1 a2 a3 b1 b2 b3 c1 c2 c3).1
  obtain⟨v1,g1,p1⟩:=enc_1 G X Y Z (L:=t.2.2.1) (H:=t.2.2.2.1) (by omega) (by omega) fun x y z a1 a2 a3 b1 b2 b3 c1 c2 c3 k hk=>by rw[← hk];exact(hh x y z a1 a2 a3 b1 b2 b3 c1 c2 c3).2.1
  obtain⟨v2,g2,p2⟩:=enc_2 G X Y Z (L:=t.2.2.2.2.1) (H:=t.2.2.2.2.2) (by omega) (by omega) fun x y z a1 a2 a3 b1 b2 b3 c1 c2 c3 k hk=>by rw[← hk];exact(hh x y z a1 a2 a3 b1 b2 b3 c1 c2 c3).2.2
  refine⟨⟨v0,v1⟩,v2,?_,by simp only;omega,by simp only;omega,by simp only;omega⟩
  have d1:decide ((-200000:Int)≤h)=true:=decide_eq_true (by omega)
  have d2:decide (h≤(6000000:Int))=true:=decide_eq_true (by omega)
  rw[M28,hG,Kw pin,G.ex,G.ey,es,et,ez]
  simp only[Option.bind_some,bne_self_eq_false,Bool.false_eq_true,if_false,Bool.not_true,Bool.not_false,if_true,Gx,d1,d2,Bool.and_self,Bool.or_self,g0,g1,g2]
end Go.Av.Air
set_option maxRecDepth 100000
namespace Go.Av.Air
theorem M33 (a0 a1:Int):V9 a0 a1=((some ((decide (0≤a0))&&(decide (a0≤a1)))):Option (Bool)):=by kernel_rfl
theorem M15 (a0:F9):Rm a0=((Option.bind (((if(!((decide (a0.Empty < 1)) || (decide (3000000000 < a0.Empty))))=true then V9 a0.Loaded (IntKind.wrap .i64 ((3000000000:Int) - a0.Empty))else some default).bind fun r1_0=>((if(!(((decide (a0.Empty < 1)) || (decide (3000000000 < a0.Empty))) || (!r1_0)))=true then V9 a0.Reserve a0.Loaded else some default).bind fun r1_1=>((if(!((((decide (a0.Empty < 1)) || (decide (3000000000 < a0.Empty))) || (!r1_0)) || (!r1_1)))=true then V9 a0.Burnt a0.Loaded else some default).bind fun r1_2=>some (r1_0,r1_1,r1_2))))) fun(x1:(Bool×Bool×Bool))=>(if(((((decide (a0.Empty < 1)) || (decide (3000000000 < a0.Empty))) || (!x1.1)) || (!x1.2.1)) || (!x1.2.2))=true then(some (2:Int))else(some (0:Int)))):Option (Int)):=by kernel_rfl
theorem M16 (a0:F9):kr a0=((Option.bind (Option.bind (Rm a0) fun r=>some r) fun x1=>(if(x1 != 0)=true then(some (0:Int))else(some (IntKind.wrap .i64 (a0.Loaded - a0.Burnt))))):Option (Int)):=by kernel_rfl
theorem M7 (a0:F9):m7 a0=((Option.bind (Option.bind (Rm a0) fun r=>some r) fun x1=>(if(x1 != 0)=true then(some (0:Int))else(Option.bind (Option.bind (kr a0) fun r=>some r) fun x3=>(some (IntKind.wrap .i64 (a0.Empty+x3)))))):Option (Int)):=by kernel_rfl
structure oo (a:F9):Prop where
 e:1≤a.Empty∧a.Empty≤3000000000
 l:0≤a.Loaded∧a.Loaded≤3000000000 - a.Empty
 b:0≤a.Burnt∧a.Burnt≤a.Loaded
theorem Ns (n m:Int):OkB (V9 n m) (0≤n∧n≤m):=by rw[M33];exact Ma
theorem tx (a:F9):Ok (Rm a) (oo a):=by
 rw[M15]
 by_cases c:((decide (a.Empty < 1)) || (decide (3000000000 < a.Empty)))=true
 ·simp only[c,Bool.not_true,Bool.false_eq_true,if_false,Option.bind_some,Bool.true_or,if_true]
  exact .err (by decide)
 ·have c0:=c
  rw[Bool.not_eq_true]at c
  simp only[Bool.or_eq_true,decide_eq_true_eq,not_or]at c0
  simp only[c,Bool.not_false,if_true,Bool.false_or]
  rw[Ah (x:=3000000000 - a.Empty) (by omega) (by omega)]
  exact Ud (Ns _ _) (fun _=>Ns _ _) (fun _ _=>Ns _ _) (by decide) fun h1 h2 h3=>.zero ⟨by omega,h1,h3⟩
theorem km {a:F9} (h:Rm a=some 0) (A:oo a):kr a=some (a.Loaded - a.Burnt):=by
 have:=A.l
 have:=A.b
 have:=A.e
 rw[M16,h]
 simp only[Option.bind_some,bne_self_eq_false,Bool.false_eq_true,if_false]
 rw[Ah (by omega) (by omega)]
theorem lg {a:F9} (h:Rm a=some 0) (A:oo a):∃ m,m7 a=some m∧1≤m∧m≤3000000000:=by
 have:=A.l
 have:=A.b
 have:=A.e
 rw[M7,h,km h A]
 simp only[Option.bind_some,bne_self_eq_false,Bool.false_eq_true,if_false]
 rw[Ah (by omega) (by omega)]
 exact⟨_,rfl,by omega,by omega⟩
theorem M122 (a0:Int):AAG a0=((some ((decide (a0 < (-200000:Int))) || (decide (6000000 < a0)))):Option (Bool)):=by kernel_rfl
theorem M105 (a0 a1:Int):da a0 a1=((Option.bind (Option.bind (AAG a0) fun r=>some r) fun x1=>(if x1=true then(some (2:Int))else(if((decide (a1 < (-4000:Int))) || (decide (4000 < a1)))=true then(some (1:Int))else(some (0:Int))))):Option (Int)):=by kernel_rfl
theorem M106 (a0:List B3) (a1:Int):Pf a0 a1=((Option.bind (some (.inl ())) (A5 fun(_:Unit)=>(Option.bind (Ad (fun(s1:Int)=>((if(decide (s1 < (IntKind.wrap .i64 ((a0.length:Int) - (1:Int)))))=true→(0≤s1)then(if(decide (s1 < (IntKind.wrap .i64 ((a0.length:Int) - (1:Int)))))=true→(s1 < (a0.length:Int))then(if((decide (s1 < (IntKind.wrap .i64 ((a0.length:Int) - (1:Int)))))&&(decide ((IntKind.wrap .i64 ((a0.getD s1.toNat default).feet * (100:Int))) < a1)))=true then(some (.inl (IntKind.wrap .i64 (s1+1))))else(some (.inr (.inl s1))))else none)else none):Option ((Int)⊕((Int)⊕(Int))))) (1:Int)) (A5 fun(y2:Int)=>(if(0≤(IntKind.wrap .i64 (y2 - 1)))then(if((IntKind.wrap .i64 (y2 - 1)) < (a0.length:Int))then(if(0≤y2)then(if(y2 < (a0.length:Int))then(Option.bind (Option.bind (Dz (IntKind.wrap .i64 ((IntKind.wrap .i64 ((a0.getD y2.toNat default).value - (a0.getD (IntKind.wrap .i64 (y2 - 1)).toNat default).value)) * (IntKind.wrap .i64 (a1 - (IntKind.wrap .i64 ((a0.getD (IntKind.wrap .i64 (y2 - 1)).toNat default).feet * (100:Int))))))) (IntKind.wrap .i64 ((IntKind.wrap .i64 ((a0.getD y2.toNat default).feet - (a0.getD (IntKind.wrap .i64 (y2 - 1)).toNat default).feet)) * (100:Int)))) fun r=>some r) fun x5=>(some (IntKind.wrap .i64 ((a0.getD (IntKind.wrap .i64 (y2 - 1)).toNat default).value+x5.1))))else none)else none)else none)else none))))):Option (Int)):=by kernel_rfl
noncomputable abbrev Mu (a0:List B3) (a1:Int):(Int)→Option ((Int)⊕((Int)⊕(Int))):=(fun(s1:Int)=>((if(decide (s1 < (IntKind.wrap .i64 ((a0.length:Int) - (1:Int)))))=true→(0≤s1)then(if(decide (s1 < (IntKind.wrap .i64 ((a0.length:Int) - (1:Int)))))=true→(s1 < (a0.length:Int))then(if((decide (s1 < (IntKind.wrap .i64 ((a0.length:Int) - (1:Int)))))&&(decide ((IntKind.wrap .i64 ((a0.getD s1.toNat default).feet * (100:Int))) < a1)))=true then(some (.inl (IntKind.wrap .i64 (s1+1))))else(some (.inr (.inl s1))))else none)else none):Option ((Int)⊕((Int)⊕(Int)))))
theorem A106  (a0:List B3) (a1:Int):Pf a0 a1=((Option.bind (some (.inl ())) (A5 fun(_:Unit)=>(Option.bind (Ad (Mu a0 a1) (1:Int)) (A5 fun(y2:Int)=>(if(0≤(IntKind.wrap .i64 (y2 - 1)))then(if((IntKind.wrap .i64 (y2 - 1)) < (a0.length:Int))then(if(0≤y2)then(if(y2 < (a0.length:Int))then(Option.bind (Option.bind (Dz (IntKind.wrap .i64 ((IntKind.wrap .i64 ((a0.getD y2.toNat default).value - (a0.getD (IntKind.wrap .i64 (y2 - 1)).toNat default).value)) * (IntKind.wrap .i64 (a1 - (IntKind.wrap .i64 ((a0.getD (IntKind.wrap .i64 (y2 - 1)).toNat default).feet * (100:Int))))))) (IntKind.wrap .i64 ((IntKind.wrap .i64 ((a0.getD y2.toNat default).feet - (a0.getD (IntKind.wrap .i64 (y2 - 1)).toNat default).feet)) * (100:Int)))) fun r=>some r) fun x5=>(some (IntKind.wrap .i64 ((a0.getD (IntKind.wrap .i64 (y2 - 1)).toNat default).value+x5.1))))else none)else none)else none)else none))))):Option (Int)):=M106 _ _
theorem M107:db  = ((some ([(⟨(-2000:Int),(971400:Int)⟩:B3),(⟨(0:Int),(1000000:Int)⟩:B3),(⟨(5000:Int),(1077300:Int)⟩:B3),(⟨(10000:Int),(1163700:Int)⟩:B3),(⟨(15000:Int),(1260600:Int)⟩:B3),(⟨(20000:Int),(1370000:Int)⟩:B3),(⟨(25000:Int),(1493800:Int)⟩:B3),(⟨(30000:Int),(1634900:Int)⟩:B3),(⟨(35000:Int),(1796400:Int)⟩:B3),(⟨(40000:Int),(2015500:Int)⟩:B3),(⟨(45000:Int),(2272700:Int)⟩:B3),(⟨(50000:Int),(2562800:Int)⟩:B3),(⟨(55000:Int),(2890100:Int)⟩:B3),(⟨(60000:Int),(3259100:Int)⟩:B3)]:List B3)):Option ((List B3))):=by kernel_rfl
theorem M123:dj  = ((some ([(⟨(-2000:Int),(29211:Int)⟩:B3),(⟨(0:Int),(28815:Int)⟩:B3),(⟨(36089:Int),(21665:Int)⟩:B3),(⟨(60000:Int),(21665:Int)⟩:B3)]:List B3)):Option ((List B3))):=by kernel_rfl
theorem M85 (a0 a1:Int):m85 a0 a1=((Option.bind (Option.bind (da a0 a1) fun r=>some r) fun x1=>(if(x1 != 0)=true then(some ((0:Int),x1))else(Option.bind (((db ).bind fun r4_0=>((Pf r4_0 a0).bind fun r4_1=>(if(57630:Int)≠0 then some (r4_0,r4_1)else none)))) fun(x4:((List B3)×Int))=>(some ((IntKind.wrap .i64 (Int.tdiv (IntKind.wrap .i64 (x4.2 * (IntKind.wrap .i64 ((57630:Int)+a1)))) (57630:Int))),(0:Int)))))):Option (Int×Int)):=by kernel_rfl
theorem M108 (a0 a1:Int):qa a0 a1=((Option.bind (Option.bind (da a0 a1) fun r=>some r) fun x1=>(if(x1 != 0)=true then(some ((0:Int),x1))else(Option.bind (((dj ).bind fun r4_0=>((Pf r4_0 a0).bind fun r4_1=>some (r4_0,r4_1)))) fun(x4:((List B3)×Int))=>(some ((IntKind.wrap .i64 (x4.2+a1)),(0:Int)))))):Option (Int×Int)):=by kernel_rfl
theorem M86 (a0 a1:Int):m86 a0 a1=((Option.bind (Option.bind (qa a0 a1) fun r=>some r) fun x1=>(if(x1.2 != 0)=true then(some ((0:Int),x1.2))else(Option.bind ((if(100:Int)≠0 then((Jz (IntKind.wrap .i64 (Int.tdiv (IntKind.wrap .i64 ((388734:Int) * x1.1)) (100:Int)))).bind fun r4_0=>some r4_0)else none)) fun(x4:(Int))=>(some (x4,(0:Int)))))):Option (Int×Int)):=by kernel_rfl
theorem M59 (a0 a1:Int):Vf a0 a1=((some ((decide (0≤a0))&&(decide (a0≤a1)))):Option (Bool)):=by kernel_rfl
theorem M60 (a0 a1 a2:Int):uw a0 a1 a2=((Option.bind (Option.bind (Vf a0 (1000:Int)) fun r=>some r) fun x1=>(if(!x1)=true then(some ((0:Int),(1:Int)))else(Option.bind (Option.bind (m85 a1 a2) fun r=>some r) fun x3=>(if(x3.2 != 0)=true then(some ((0:Int),x3.2))else(if((1000000:Int)≠0)then(some ((IntKind.wrap .i64 (Int.tdiv (IntKind.wrap .i64 (a0 * x3.1)) (1000000:Int))),(0:Int)))else none))))):Option (Int×Int)):=by kernel_rfl
theorem M61 (a0 a1 a2:Int):m61 a0 a1 a2=((Option.bind (Option.bind (Vf a0 (2000:Int)) fun r=>some r) fun x1=>(if(!x1)=true then(some ((0:Int),(1:Int)))else(Option.bind (Option.bind (m86 a1 a2) fun r=>some r) fun x3=>(if(x3.2 != 0)=true then(some ((0:Int),x3.2))else(Option.bind (Option.bind (l7 (IntKind.wrap .i64 (a0 * x3.1)) (16000:Int)) fun r=>some r) fun x6=>(some (x6.1,x6.2))))))):Option (Int×Int)):=by kernel_rfl
theorem M29 (a0 a1 a2 a3:Int):dp a0 a1 a2 a3=((Option.bind (((Vf a0 (1000:Int)).bind fun r1_0=>((if(!(!r1_0))=true then Vf a1 (2000:Int)else some default).bind fun r1_1=>some (r1_0,r1_1)))) fun(x1:(Bool×Bool))=>(if((!x1.1) || (!x1.2))=true then(some ((0:Int),(1:Int)))else(Option.bind (Option.bind (uw a0 a2 a3) fun r=>some r) fun x3=>(if(x3.2 != 0)=true then(some ((0:Int),x3.2))else(Option.bind (Option.bind (m61 a1 a2 a3) fun r=>some r) fun x6=>(some ((if x6.1 < x3.1 then x6.1 else x3.1),x6.2))))))):Option (Int×Int)):=by kernel_rfl
def rP (t:List B3):List Int:=t.map fun r=>r.feet * 100
def rL (t:List B3):List Int:=t.map fun r=>r.value
structure Yw (t:List B3):Prop where
 n:2≤t.length∧t.length≤100
 asc:Jc (rP t)
 b:∀ r∈t,-100000≤r.feet∧r.feet≤100000∧0≤r.value∧r.value≤4000000
theorem Z5 {t:List B3} {i:Nat} (h:i < t.length):gi (rP t) i=(t.getD i default).feet * 100:=by simp[gi,rP,List.getD_eq_getElem?_getD,h]
theorem gi_rL {t:List B3} {i:Nat} (h:i < t.length):gi (rL t) i=(t.getD i default).value:=by simp[gi,rL,List.getD_eq_getElem?_getD,h]
theorem od {t:List B3} (H:Yw t) {a:Int} (h0:gi (rP t) 0≤a) (h1:a≤gi (rP t) (t.length - 1)):Pf t a=some (V (rP t) (rL t) a):=by
 have hn:=H.n
 have lP:(rP t).length=t.length:=by simp[rP]
 have wn:IntKind.wrap .i64 ((t.length:Int) - 1)=(t.length:Int) - 1:=Ah (by omega) (by omega)
 have fb:∀ i,i < t.length → -100000≤(t.getD i default).feet∧(t.getD i default).feet≤100000∧0≤(t.getD i default).value∧(t.getD i default).value≤4000000:=fun i hi=>H.b _ (Nt hi)
 obtain⟨z,e,k,rfl,k1,k2,k3,k4⟩:=Ay (b:=Mu t a) (fun q=>∃ k:Nat,q=k∧1≤k∧k+1≤t.length∧∀ j,1≤j→j < k→gi (rP t) j < a) (fun q=>(t.length - q).toNat) (fun z=>∃ k:Nat,z=.inl (k:Int)∧1≤k∧k < t.length∧(∀ j,1≤j→j < k→gi (rP t) j < a)∧a≤gi (rP t) k) (fun q hq=>by
  obtain⟨k,rfl,hk,hk2,K⟩:=hq
  have hlt:k < t.length:=by omega
  have f:=fb k hlt
  have wf:IntKind.wrap .i64 ((t.getD k default).feet * 100)=(t.getD k default).feet * 100:=Ah (by omega) (by omega)
  have w:IntKind.wrap .i64 ((k:Int)+1)=((k+1:Nat):Int):=by rw[Ah (by omega) (by omega)];omega
  by_cases hl:k+1 < t.length
  ·have d:decide ((k:Int) < (t.length:Int) - 1)=true:=decide_eq_true (by omega)
   by_cases c:(t.getD k default).feet * 100 < a
   ·refine .inl ⟨((k+1:Nat):Int),?_,⟨k+1,rfl,by omega,by omega,fun j j1 j2=>?_⟩,by omega⟩
    ·simp only[Mu,wn,d,As hlt,implies_true,if_true,Int.toNat_natCast,wf,decide_eq_true c,Bool.and_self,w]
    ·by_cases ej:j=k
     ·rw[ej,Z5 hlt];exact c
     ·exact K j j1 (by omega)
   ·refine .inr ⟨.inl (k:Int),?_,k,rfl,hk,hlt,K,by rw[Z5 hlt];omega⟩
    simp only[Mu,wn,d,As hlt,implies_true,if_true,Int.toNat_natCast,wf,decide_eq_false c,Bool.and_false,Bool.false_eq_true,if_false]
  ·refine .inr ⟨.inl (k:Int),?_,k,rfl,hk,hlt,K,by rw[show k=t.length - 1 by omega];exact h1⟩
   have d:decide ((k:Int) < (t.length:Int) - 1)=false:=decide_eq_false (by omega)
   simp only[Mu,wn,d,Bool.false_eq_true,false_implies,if_true,Bool.false_and,if_false]) 1 ⟨1,rfl,Nat.le_refl _,by omega,fun j j1 j2=>by omega⟩
 have up:=H.asc (k - 1) k (by omega) (by rw[lP];exact k2)
 have q1:=fb k k2
 have q2:=fb (k - 1) (by omega)
 have ab:gi (rP t) (k - 1)≤a:=by
  by_cases e1:k=1
  ·rw[e1];exact h0
  ·exact Int.le_of_lt (k3 (k - 1) (by omega) (by omega))
 have val:V (rP t) (rL t) a=C9 (rP t) (rL t) a k:=by
  by_cases e0:gi (rP t) 0=a
  ·have ek:k=1:=by
    by_cases e1:k=1
    ·exact e1
    ·have:=k3 1 (Nat.le_refl _) (by omega)
     have:=H.asc 0 1 (by omega) (by rw[lP];omega)
     omega
   subst ek
   rw[← e0,zm H.asc (rL t) (by rw[lP];omega),Nv (k:=1) rfl]
  ·have B:Below (rP t) a k:=⟨by rw[lP];omega,fun j hj=>by
    by_cases ej:j=0
    ·rw[ej];omega
    ·exact k3 j (by omega) hj,fun _=>by omega⟩
   unfold V
   rw[(Cj (rP t) a).uniq B]
   unfold G1
   rw[if_neg (by omega),if_neg (by rw[lP];omega)]
 rw[val]
 unfold C9
 rw[Z5 k2,Z5 (show k - 1 < t.length by omega)]at *
 rw[gi_rL k2,gi_rL (show k - 1 < t.length by omega)]
 obtain⟨d,hd⟩:∃ d,(t.getD k default).value - (t.getD (k - 1) default).value=d:=⟨_,rfl⟩
 obtain⟨f,hf⟩:∃ f,a - (t.getD (k - 1) default).feet * 100=f:=⟨_,rfl⟩
 obtain⟨c,hc⟩:∃ c,(t.getD k default).feet * 100 - (t.getD (k - 1) default).feet * 100=c:=⟨_,rfl⟩
 have f0:0≤f:=by omega
 have fc:f≤c:=by omega
 have mb : -100000000000000≤d * f∧d * f≤100000000000000:=by
  by_cases hd0:0≤d
  ·have m1:=Int.mul_nonneg hd0 f0
   have m2:d * f≤4000000 * 20000000:=Int.mul_le_mul (by omega) (by omega) f0 (by decide)
   omega
  ·have m1:=Int.mul_nonneg (show 0 ≤ -d by omega) f0
   have m2 : -d * f≤4000000 * 20000000:=Int.mul_le_mul (by omega) (by omega) f0 (by decide)
   rw[Int.neg_mul]at m1 m2
   omega
 obtain⟨p1,p2⟩:=vl (d:=d) f0 fc (by omega)
 have pb : -4000000≤d * f / c∧d * f / c≤4000000:=by
  by_cases hd0:0≤d
  ·have:=p1 hd0;omega
  ·have:=p2 (by omega);omega
 have w1:IntKind.wrap .i64 ((k:Int) - 1)=((k - 1:Nat):Int):=by rw[Ah (by omega) (by omega)];omega
 have w2:IntKind.wrap .i64 ((t.getD (k - 1) default).feet * 100)=(t.getD (k - 1) default).feet * 100:=Ah (by omega) (by omega)
 have w3:IntKind.wrap .i64 f=f:=Ah (by omega) (by omega)
 have w4:IntKind.wrap .i64 d=d:=Ah (by omega) (by omega)
 have w5:IntKind.wrap .i64 (d * f)=d * f:=Ah (by omega) (by omega)
 have w6:IntKind.wrap .i64 ((t.getD k default).feet - (t.getD (k - 1) default).feet)=(t.getD k default).feet - (t.getD (k - 1) default).feet:=Ah (by omega) (by omega)
 have w7:IntKind.wrap .i64 (((t.getD k default).feet - (t.getD (k - 1) default).feet) * 100)=c:=by rw[Ah (by omega) (by omega)];omega
 have w8:IntKind.wrap .i64 ((t.getD (k - 1) default).value+d * f / c)=(t.getD (k - 1) default).value+d * f / c:=Ah (by omega) (by omega)
 rw[A106]
 refine Bp (y:=()) rfl (Bp e ?_)
 simp only[w1,As (show k - 1 < t.length by omega),As k2,if_true,Int.toNat_natCast,w2,w3,w4,w5,w6,w7,s55 _ _ (show -9223372036854775807≤d * f by omega) (show d * f≤9223372036854775807 by omega) (show 0 < c by omega) (show c≤9223372036854775807 by omega),Option.bind_some,w8,hd,hf,hc]
end Go.Av.Air
set_option maxRecDepth 100000
namespace Go.Av.Air
def rtab:List B3:=[⟨-2000,971400⟩,⟨0,1000000⟩,⟨5000,1077300⟩,⟨10000,1163700⟩,⟨15000,1260600⟩,⟨20000,1370000⟩,⟨25000,1493800⟩,⟨30000,1634900⟩,⟨35000,1796400⟩,⟨40000,2015500⟩,⟨45000,2272700⟩,⟨50000,2562800⟩,⟨55000,2890100⟩,⟨60000,3259100⟩]
def ttab:List B3:=[⟨-2000,29211⟩,⟨0,28815⟩,⟨36089,21665⟩,⟨60000,21665⟩]
theorem AAH {α:Type} [Inhabited α] {l:List α} {x:α} (h:x∈l):∃ i,i < l.length∧l.getD i default=x:=by
 obtain⟨i,hi,e⟩:=List.mem_iff_getElem.1 h
 exact⟨i,hi,by rw[List.getD_eq_getElem?_getD,List.getElem?_eq_getElem hi];exact e⟩
theorem yo {t:List B3} {n:Nat} (hn:t.length=n) (h2:2≤n∧n≤100) (h:∀ i,i < n→(1≤i→gi (rP t) (i - 1) < gi (rP t) i) ∧ -100000≤(t.getD i default).feet∧(t.getD i default).feet≤100000∧0≤(t.getD i default).value∧(t.getD i default).value≤4000000):Yw t:=by
 have lP:(rP t).length=t.length:=by simp[rP]
 refine⟨by omega,We fun i h1 hi=>(h i (by omega)).1 h1,fun r hr=>?_⟩
 obtain⟨i,hi,rfl⟩:=AAH hr
 exact(h i (by omega)).2
theorem rtab_ok:Yw rtab:=yo (n:=14) rfl (by decide) (by decide)
theorem ttab_ok:Yw ttab:=yo (n:=4) rfl (by decide) (by decide)
theorem qt (a : Int) : 971400 ≤ V (rP rtab) (rL rtab) a ∧ V (rP rtab) (rL rtab) a ≤ 3259100 :=
  Gb rtab_ok.asc (by have : ∀ i, i < 14 → 971400 ≤ gi (rL rtab) i ∧ gi (rL rtab) i ≤ 3259100 := by decide
                     exact this) (by decide) a
theorem tv_b (a : Int) : 21665 ≤ V (rP ttab) (rL ttab) a ∧ V (rP ttab) (rL ttab) a ≤ 29211 :=
  Gb ttab_ok.asc (by have : ∀ i, i < 4 → 21665 ≤ gi (rL ttab) i ∧ gi (rL ttab) i ≤ 29211 := by decide
                     exact this) (by decide) a
theorem rv_mono {a b:Int} (h:a≤b):V (rP rtab) (rL rtab) a≤V (rP rtab) (rL rtab) b:=by
 have:=ae rtab_ok.asc (rL rtab) 0 (by omega) (by decide) (fun k h1 h2=>by
  have:∀ k,k < 14→0 < k→gi (rL rtab) (k - 1)≤gi (rL rtab) k:=by decide
  have:=this k h2 h1
  omega) _ rfl h
 omega
def Fe (a d:Int):Int:=V (rP rtab) (rL rtab) a * (57630+d) / 57630
theorem Vp {a d:Int} (hd : -4000≤d∧d≤4000):0≤Fe a d∧Fe a d≤4000000:=by
 have hv:=qt a
 unfold Fe
 generalize V (rP rtab) (rL rtab) a=v at hv ⊢
 have m1:0≤v * (57630+d):=Int.mul_nonneg (by omega) (by omega)
 have m2:v * (57630+d)≤3259100 * 61630:=Int.mul_le_mul hv.2 (by omega) (by omega) (by decide)
 omega
theorem wz {a b d e:Int} (h:a≤b) (k:d≤e) (hd : -4000≤d):Fe a d≤Fe b e:=by
 have hv:=qt a
 have hw:=qt b
 have hm:=rv_mono h
 unfold Fe
 apply Int.ediv_le_ediv (by decide)
 exact Int.mul_le_mul hm (by omega) (by omega) (by omega)
theorem Sw {a d:Int} (ha : -200000≤a∧a≤6000000) (hd : -4000≤d∧d≤4000):da a d=some 0:=by
 have d1:decide (a < (-200000:Int))=false:=decide_eq_false (by omega)
 have d2:decide ((6000000:Int) < a)=false:=decide_eq_false (by omega)
 have d3:decide (d < (-4000:Int))=false:=decide_eq_false (by omega)
 have d4:decide ((4000:Int) < d)=false:=decide_eq_false (by omega)
 rw[M105,M122]
 simp only[d1,d2,d3,d4,Bool.or_self,Option.bind_some,Bool.false_eq_true,if_false]
theorem AAP {a d : Int} (ha : -200000 ≤ a ∧ a ≤ 6000000) (hd : -4000 ≤ d ∧ d ≤ 4000) : m85 a d = some (Fe a d, 0) := by
  have hv := qt a
  have e : db = some rtab := M107
  have tv := od rtab_ok (a := a) (by have : gi (rP rtab) 0 = -200000 := by decide
                                     omega) (by have : gi (rP rtab) (rtab.length - 1) = 6000000 := by decide
                                                omega)
  have qb := Vp (a := a) hd
  unfold Fe at qb ⊢
  generalize V (rP rtab) (rL rtab) a = v at hv tv qb ⊢
  have m1 : 0 ≤ v * (57630 + d) := Int.mul_nonneg (by omega) (by omega)
  have m2 : v * (57630 + d) ≤ 3259100 * 61630 := Int.mul_le_mul hv.2 (by omega) (by omega) (by decide)
  have e2 : Int.tdiv (v * (57630 + d)) 57630 = v * (57630 + d) / 57630 := Int.tdiv_eq_ediv_of_nonneg m1
  rw [M85, Sw ha hd, e]
  simp only [Option.bind_some, bne_self_eq_false, Bool.false_eq_true, if_false, tv, ne_eq, (by decide : ¬ (57630 : Int) = 0), not_false_eq_true, if_true]
  rw [Ah (x := 57630 + d) (by omega) (by omega), Ah (x := v * (57630 + d)) (by omega) (by omega), e2, Ah (by omega) (by omega)]
def Jv (c a d:Int):Int:=c * Fe a d / 1000000
theorem gl {c a d:Int} (hc:0≤c∧c≤1000) (hd : -4000≤d∧d≤4000):0≤Jv c a d∧Jv c a d≤4000:=by
 have h:=Vp (a:=a) hd
 have m1:0≤c * Fe a d:=Int.mul_nonneg hc.1 h.1
 have m2:c * Fe a d≤1000 * 4000000:=Int.mul_le_mul hc.2 h.2 h.1 (by decide)
 unfold Jv
 omega
theorem yp {c c' a b d e:Int} (hc:0≤c) (k1:c≤c') (k2:a≤b) (k3:d≤e) (hd : -4000≤d) (he:e≤4000):Jv c a d≤Jv c' b e:=by
 have h:=Vp (a:=a) (show -4000≤d∧d≤4000 by omega)
 unfold Jv
 apply Int.ediv_le_ediv (by decide)
 exact Int.mul_le_mul k1 (wz k2 k3 hd) h.1 (by omega)
theorem K4 (n m:Int):Vf n m=some (decide (0≤n)&&decide (n≤m)):=M59 _ _
theorem yq {c a d:Int} (hc:0≤c∧c≤1000) (ha : -200000≤a∧a≤6000000) (hd : -4000≤d∧d≤4000):uw c a d=some (Jv c a d,0):=by
 have h:=Vp (a:=a) hd
 have m1:0≤c * Fe a d:=Int.mul_nonneg hc.1 h.1
 have m2:c * Fe a d≤1000 * 4000000:=Int.mul_le_mul hc.2 h.2 h.1 (by decide)
 have e2:Int.tdiv (c * Fe a d) 1000000=c * Fe a d / 1000000:=Int.tdiv_eq_ediv_of_nonneg m1
 rw[M60,K4,decide_eq_true hc.1,decide_eq_true hc.2,AAP ha hd]
 simp only[Option.bind_some,Bool.and_self,Bool.not_true,bne_self_eq_false,Bool.false_eq_true,if_false,ne_eq,(by decide:¬ (1000000:Int)=0),not_false_eq_true,if_true]
 rw[Ah (x:=c * Fe a d) (by omega) (by omega),e2,Ah (by omega) (by omega)]
 rfl
theorem vf {m a d : Int} (hm : 0 ≤ m ∧ m ≤ 2000) (ha : -200000 ≤ a ∧ a ≤ 6000000) (hd : -4000 ≤ d ∧ d ≤ 4000) : ∃ v, m61 m a d = some (v, 0) ∧ 0 ≤ v := by
  have hv := tv_b a
  have e : dj = some ttab := M123
  have tv := od ttab_ok (a := a) (by have : gi (rP ttab) 0 = -200000 := by decide
                                     omega) (by have : gi (rP ttab) (ttab.length - 1) = 6000000 := by decide
                                                omega)
  generalize V (rP ttab) (rL ttab) a = v at hv tv
  have t1 : qa a d = some (v + d, 0) := by
    rw [M108, Sw ha hd, e]
    simp only [Option.bind_some, bne_self_eq_false, Bool.false_eq_true, if_false, tv]
    rw [Ah (by omega) (by omega)]
  have e2 : Int.tdiv (388734 * (v + d)) 100 = 388734 * (v + d) / 100 := Int.tdiv_eq_ediv_of_nonneg (by omega)
  obtain ⟨r, hr, r0, _, r1⟩ := yh (n := 388734 * (v + d) / 100) (by omega)
  have t2 : m86 a d = some (r, 0) := by
    rw [M86, t1]
    simp only [Option.bind_some, bne_self_eq_false, Bool.false_eq_true, if_false, ne_eq, (by decide : ¬ (100 : Int) = 0), not_false_eq_true, if_true]
    rw [Ah (x := 388734 * (v + d)) (by omega) (by omega), e2, Ah (by omega) (by omega), hr]
    rfl
  have m1 : 0 ≤ m * r := Int.mul_nonneg hm.1 r0
  have m2 : m * r ≤ 2000 * 4294967296 := Int.mul_le_mul hm.2 r1 r0 (by decide)
  refine ⟨cq (m * r) 16000, ?_, Int.ediv_nonneg (by omega) (by decide)⟩
  rw [M61, K4, decide_eq_true hm.1, decide_eq_true hm.2, t2]
  simp only [Option.bind_some, Bool.and_self, Bool.not_true, bne_self_eq_false, Bool.false_eq_true, if_false]
  rw [Ah (x := m * r) (by omega) (by omega), kc _ _ m1 (by omega) (by decide) (by decide)]
  rfl
theorem gc {c m a d:Int} (hc:0≤c∧c≤1000) (hm:0≤m∧m≤2000) (ha : -200000≤a∧a≤6000000) (hd : -4000≤d∧d≤4000):∃ v,dp c m a d=some (v,0)∧0≤v∧v≤Jv c a d:=by
 obtain⟨v,e,v0⟩:=vf hm ha hd
 have hb:=gl (a:=a) hc hd
 rw[M29,K4,K4,decide_eq_true hc.1,decide_eq_true hc.2,decide_eq_true hm.1,decide_eq_true hm.2,yq hc ha hd,e]
 simp only[Option.bind_some,Bool.and_self,Bool.not_true,Bool.not_false,if_true,bne_self_eq_false,Bool.or_self,Bool.false_eq_true,if_false]
 refine⟨_,rfl,?_,?_⟩<;>split<;>omega
end Go.Av.Air
set_option maxRecDepth 100000
namespace Go.Av.Air
theorem M129 (a0:Int):Ky a0=((some ((decide ((-400:Int)≤a0))&&(decide (a0≤400)))):Option (Bool)):=by kernel_rfl
theorem M116 (a0:Bk):qd a0=((Option.bind (((Ky a0.East).bind fun r1_0=>((if r1_0=true then Ky a0.North else some default).bind fun r1_1=>some (r1_0,r1_1)))) fun(x1:(Bool×Bool))=>(some (x1.1&&x1.2))):Option (Bool)):=by kernel_rfl
theorem M119 (a0:Int):Pm a0=((if((0:Int)≤(20:Int))then(some (Int.fdiv (IntKind.wrap .i64 (a0+524288)) (2 ^ (min (20:Int).toNat (IntKind.bits .i64)))))else none):Option (Int)):=by kernel_rfl
theorem M92 (a0:Int) (a1:Bk):du a0 a1=((Option.bind (Option.bind (qd a1) fun r=>some r) fun x1=>(if(!x1)=true then(some ((0:Int),(0:Int),(1:Int)))else(Option.bind (((Mf a0).bind fun r3_0=>((Pk a0).bind fun r3_1=>some (r3_0,r3_1)))) fun(x3:(Int×Int))=>(Option.bind (((Pm (IntKind.wrap .i64 ((IntKind.wrap .i64 (a1.East * x3.1))+(IntKind.wrap .i64 (a1.North * x3.2))))).bind fun r4_0=>((Pm (IntKind.wrap .i64 ((IntKind.wrap .i64 (a1.East * x3.2)) - (IntKind.wrap .i64 (a1.North * x3.1))))).bind fun r4_1=>some (r4_0,r4_1)))) fun(x4:(Int×Int))=>(some (x4.1,x4.2,(0:Int))))))):Option (Int×Int×Int)):=by kernel_rfl
theorem M113 (a0:Int):dh a0=((some ((decide (1≤a0))&&(decide (a0≤4000)))):Option (Bool)):=by kernel_rfl
theorem M114 (a0 a1:Int):qc a0 a1=((Option.bind (((E7 a1).bind fun r1_0=>((E7 a0).bind fun r1_1=>((E7 (IntKind.wrap .i64 (r1_0 - r1_1))).bind fun r1_2=>some (r1_0,r1_1,r1_2))))) fun(x1:(Int×Int×Int))=>(if(decide (64800000 < x1.2.2))=true then(some (IntKind.wrap .i64 (x1.2.2 - 129600000)))else(some x1.2.2))):Option (Int)):=by kernel_rfl
theorem M90 (a0 a1:Int) (a2:Bk):m90 a0 a1 a2=((Option.bind (Option.bind (du a0 a2) fun r=>some r) fun x1=>(Option.bind (((if(!(x1.2.2 != 0))=true then dh a1 else some default).bind fun r2_0=>some r2_0)) fun(x2:(Bool))=>(if((x1.2.2 != 0) || (!x2))=true then(some ((0:Int),(0:Int),(1:Int)))else(if((decide ((IntKind.wrap .i64 (a1 * (1024:Int)))≤x1.2.1)) || (decide ((IntKind.wrap .i64 (a1 * (1024:Int)))≤(IntKind.wrap .i64 (0 - x1.2.1)))))=true then(some ((0:Int),(0:Int),(10:Int)))else(Option.bind (Option.bind (Jz (IntKind.wrap .i64 ((IntKind.wrap .i64 ((IntKind.wrap .i64 (a1 * (1024:Int))) * (IntKind.wrap .i64 (a1 * (1024:Int))))) - (IntKind.wrap .i64 (x1.2.1 * x1.2.1))))) fun r=>some r) fun x7=>(if(decide ((IntKind.wrap .i64 (x1.1+x7)) < 1024))=true then(some ((0:Int),(0:Int),(10:Int)))else(Option.bind (Option.bind (dg (IntKind.wrap .i64 (0 - x1.2.1)) x7) fun r=>some r) fun x10=>(Option.bind (Option.bind (qc (0:Int) x10.1) fun r=>some r) fun x11=>(some ((IntKind.wrap .i64 (x1.1+x7)),x11,(0:Int))))))))))):Option (Int×Int×Int)):=by kernel_rfl
theorem M115 (a0:A2):S5 a0=((Option.bind (((if(decide (a0.Lo≤a0.Hi))=true then Ky a0.Lo else some default).bind fun r1_0=>((if((decide (a0.Lo≤a0.Hi))&&r1_0)=true then Ky a0.Hi else some default).bind fun r1_1=>some (r1_0,r1_1)))) fun(x1:(Bool×Bool))=>(some (((decide (a0.Lo≤a0.Hi))&&x1.1)&&x1.2))):Option (Bool)):=by kernel_rfl
theorem M91 (a0:A6):v6 a0=((Option.bind (((S5 a0.East).bind fun r1_0=>((if r1_0=true then S5 a0.North else some default).bind fun r1_1=>some (r1_0,r1_1)))) fun(x1:(Bool×Bool))=>(some (x1.1&&x1.2))):Option (Bool)):=by kernel_rfl
theorem M66 (a0:Int) (a1:A2) (a2:A6):uz a0 a1 a2=((Option.bind (Option.bind (Option.bind (v6 a2) fun r=>some r) fun x1=>(if((((!x1) || (decide (a1.Lo < 1))) || (decide (4000 < a1.Hi))) || (decide (a1.Hi < a1.Lo)))=true then(some (.inr (((⟨(0:Int),(0:Int)⟩:A2),(1:Int)))))else(some (.inl ())))) (A5 fun(_:Unit)=>(Option.bind (Option.bind (some (.inl ())) (A5 fun(_:Unit)=>(Ad (fun(s1:Int×Int×Int×Int×Int)=>((Option.bind (if(decide (s1.2.2.2.2 < 2))=true then(some (.inl ()))else(some (.inr (.inr (.inl (s1.1,s1.2.1,s1.2.2.1,s1.2.2.2.1)))))) (A5 fun(_:Unit)=>(Option.bind (Option.bind (if(0≤s1.2.2.2.2)then(if(s1.2.2.2.2 < 2)then(some (.inl ()))else none)else none) (A5 fun(_:Unit)=>(Ad (fun(s2:Int×Int×Int×Int×Int)=>((if(decide (s2.2.2.2.2 < 2))=true then(if(0≤s2.2.2.2.2)then(if(s2.2.2.2.2 < 2)then(Option.bind (Option.bind (du a0 (⟨([a2.East.Lo,a2.East.Hi].getD s1.2.2.2.2.toNat 0),([a2.North.Lo,a2.North.Hi].getD s2.2.2.2.2.toNat 0)⟩:Bk)) fun r=>some r) fun x10=>(some (.inl ((if x10.1 < s2.1 then x10.1 else s2.1),(if s2.2.1 < x10.1 then x10.1 else s2.2.1),(if x10.2.1 < s2.2.2.1 then x10.2.1 else s2.2.2.1),(if s2.2.2.2.1 < x10.2.1 then x10.2.1 else s2.2.2.2.1),(IntKind.wrap .i64 (s2.2.2.2.2+1))))))else none)else none)else(some (.inr (.inl (s2.1,s2.2.1,s2.2.2.1,s2.2.2.2.1))))):Option ((Int×Int×Int×Int×Int)⊕((Int×Int×Int×Int)⊕((Int×Int×Int×Int×Int)⊕((Int×Int×Int×Int)⊕(A2×Int))))))) (s1.1,s1.2.1,s1.2.2.1,s1.2.2.2.1,(0:Int))))) (A5 fun(y3:Int×Int×Int×Int)=>(some (.inl (y3.1,y3.2.1,y3.2.2.1,y3.2.2.2,(IntKind.wrap .i64 (s1.2.2.2.2+1))))))))):Option ((Int×Int×Int×Int×Int)⊕((Int×Int×Int×Int)⊕(A2×Int))))) ((1099511627776:Int),(-1099511627776:Int),(1099511627776:Int),(-1099511627776:Int),(0:Int))))) (A5 fun(y4:Int×Int×Int×Int)=>(Option.bind (((En y4.2.2.1).bind fun r14_0=>((En y4.2.2.2).bind fun r14_1=>((En y4.2.2.1).bind fun r14_2=>((En y4.2.2.2).bind fun r14_3=>some (r14_0,r14_1,r14_2,r14_3)))))) fun(x14:(Int×Int×Int×Int))=>(if((decide (y4.2.2.1≤0))&&(decide (0≤y4.2.2.2)))=true then(if(decide ((IntKind.wrap .i64 (a1.Lo * (1024:Int)))≤(if x14.1 < x14.2.1 then x14.2.1 else x14.1)))=true then(some ((⟨(0:Int),(0:Int)⟩:A2),(10:Int)))else(Option.bind (Option.bind (Jz (IntKind.wrap .i64 ((IntKind.wrap .i64 ((IntKind.wrap .i64 (a1.Lo * (1024:Int))) * (IntKind.wrap .i64 (a1.Lo * (1024:Int))))) - (IntKind.wrap .i64 ((if x14.1 < x14.2.1 then x14.2.1 else x14.1) * (if x14.1 < x14.2.1 then x14.2.1 else x14.1)))))) fun r=>some r) fun x20=>(Option.bind (Option.bind (Jz (IntKind.wrap .i64 ((IntKind.wrap .i64 ((IntKind.wrap .i64 (a1.Hi * (1024:Int))) * (IntKind.wrap .i64 (a1.Hi * (1024:Int))))) - (IntKind.wrap .i64 ((0:Int) * (0:Int)))))) fun r=>some r) fun x21=>(if(decide ((IntKind.wrap .i64 (y4.1+x20)) < 1024))=true then(some ((⟨(0:Int),(0:Int)⟩:A2),(10:Int)))else(if((1024:Int)≠0)then(if((1024:Int)≠0)then(some ((⟨(IntKind.wrap .i64 (Int.tdiv (IntKind.wrap .i64 (y4.1+x20)) (1024:Int))),(IntKind.wrap .i64 (Int.tdiv (IntKind.wrap .i64 ((IntKind.wrap .i64 ((IntKind.wrap .i64 (y4.2.1+x21))+1024)) - 1)) (1024:Int)))⟩:A2),(0:Int)))else none)else none)))))else(if(decide ((IntKind.wrap .i64 (a1.Lo * (1024:Int)))≤(if x14.1 < x14.2.1 then x14.2.1 else x14.1)))=true then(some ((⟨(0:Int),(0:Int)⟩:A2),(10:Int)))else(Option.bind (Option.bind (Jz (IntKind.wrap .i64 ((IntKind.wrap .i64 ((IntKind.wrap .i64 (a1.Lo * (1024:Int))) * (IntKind.wrap .i64 (a1.Lo * (1024:Int))))) - (IntKind.wrap .i64 ((if x14.1 < x14.2.1 then x14.2.1 else x14.1) * (if x14.1 < x14.2.1 then x14.2.1 else x14.1)))))) fun r=>some r) fun x20=>(Option.bind (Option.bind (Jz (IntKind.wrap .i64 ((IntKind.wrap .i64 ((IntKind.wrap .i64 (a1.Hi * (1024:Int))) * (IntKind.wrap .i64 (a1.Hi * (1024:Int))))) - (IntKind.wrap .i64 ((if x14.2.2.2 < x14.2.2.1 then x14.2.2.2 else x14.2.2.1) * (if x14.2.2.2 < x14.2.2.1 then x14.2.2.2 else x14.2.2.1)))))) fun r=>some r) fun x21=>(if(decide ((IntKind.wrap .i64 (y4.1+x20)) < 1024))=true then(some ((⟨(0:Int),(0:Int)⟩:A2),(10:Int)))else(if((1024:Int)≠0)then(if((1024:Int)≠0)then(some ((⟨(IntKind.wrap .i64 (Int.tdiv (IntKind.wrap .i64 (y4.1+x20)) (1024:Int))),(IntKind.wrap .i64 (Int.tdiv (IntKind.wrap .i64 ((IntKind.wrap .i64 ((IntKind.wrap .i64 (y4.2.1+x21))+1024)) - 1)) (1024:Int)))⟩:A2),(0:Int)))else none)else none))))))))))):Option (A2×Int)):=by kernel_rfl
noncomputable abbrev Uw (a0:Int) (a2:A6) (s1:Int×Int×Int×Int×Int):(Int×Int×Int×Int×Int)→Option ((Int×Int×Int×Int×Int)⊕((Int×Int×Int×Int)⊕((Int×Int×Int×Int×Int)⊕((Int×Int×Int×Int)⊕(A2×Int))))):=(fun(s2:Int×Int×Int×Int×Int)=>((if(decide (s2.2.2.2.2 < 2))=true then(if(0≤s2.2.2.2.2)then(if(s2.2.2.2.2 < 2)then(Option.bind (Option.bind (du a0 (⟨([a2.East.Lo,a2.East.Hi].getD s1.2.2.2.2.toNat 0),([a2.North.Lo,a2.North.Hi].getD s2.2.2.2.2.toNat 0)⟩:Bk)) fun r=>some r) fun x10=>(some (.inl ((if x10.1 < s2.1 then x10.1 else s2.1),(if s2.2.1 < x10.1 then x10.1 else s2.2.1),(if x10.2.1 < s2.2.2.1 then x10.2.1 else s2.2.2.1),(if s2.2.2.2.1 < x10.2.1 then x10.2.1 else s2.2.2.2.1),(IntKind.wrap .i64 (s2.2.2.2.2+1))))))else none)else none)else(some (.inr (.inl (s2.1,s2.2.1,s2.2.2.1,s2.2.2.2.1))))):Option ((Int×Int×Int×Int×Int)⊕((Int×Int×Int×Int)⊕((Int×Int×Int×Int×Int)⊕((Int×Int×Int×Int)⊕(A2×Int)))))))
noncomputable abbrev bz (a0:Int) (a2:A6):(Int×Int×Int×Int×Int)→Option ((Int×Int×Int×Int×Int)⊕((Int×Int×Int×Int)⊕(A2×Int))):=(fun(s1:Int×Int×Int×Int×Int)=>((Option.bind (if(decide (s1.2.2.2.2 < 2))=true then(some (.inl ()))else(some (.inr (.inr (.inl (s1.1,s1.2.1,s1.2.2.1,s1.2.2.2.1)))))) (A5 fun(_:Unit)=>(Option.bind (Option.bind (if(0≤s1.2.2.2.2)then(if(s1.2.2.2.2 < 2)then(some (.inl ()))else none)else none) (A5 fun(_:Unit)=>(Ad (Uw a0 a2 s1) (s1.1,s1.2.1,s1.2.2.1,s1.2.2.2.1,(0:Int))))) (A5 fun(y3:Int×Int×Int×Int)=>(some (.inl (y3.1,y3.2.1,y3.2.2.1,y3.2.2.2,(IntKind.wrap .i64 (s1.2.2.2.2+1))))))))):Option ((Int×Int×Int×Int×Int)⊕((Int×Int×Int×Int)⊕(A2×Int)))))
theorem A66  (a0:Int) (a1:A2) (a2:A6):uz a0 a1 a2=((Option.bind (Option.bind (Option.bind (v6 a2) fun r=>some r) fun x1=>(if((((!x1) || (decide (a1.Lo < 1))) || (decide (4000 < a1.Hi))) || (decide (a1.Hi < a1.Lo)))=true then(some (.inr (((⟨(0:Int),(0:Int)⟩:A2),(1:Int)))))else(some (.inl ())))) (A5 fun(_:Unit)=>(Option.bind (Option.bind (some (.inl ())) (A5 fun(_:Unit)=>(Ad (bz a0 a2) ((1099511627776:Int),(-1099511627776:Int),(1099511627776:Int),(-1099511627776:Int),(0:Int))))) (A5 fun(y4:Int×Int×Int×Int)=>(Option.bind (((En y4.2.2.1).bind fun r14_0=>((En y4.2.2.2).bind fun r14_1=>((En y4.2.2.1).bind fun r14_2=>((En y4.2.2.2).bind fun r14_3=>some (r14_0,r14_1,r14_2,r14_3)))))) fun(x14:(Int×Int×Int×Int))=>(if((decide (y4.2.2.1≤0))&&(decide (0≤y4.2.2.2)))=true then(if(decide ((IntKind.wrap .i64 (a1.Lo * (1024:Int)))≤(if x14.1 < x14.2.1 then x14.2.1 else x14.1)))=true then(some ((⟨(0:Int),(0:Int)⟩:A2),(10:Int)))else(Option.bind (Option.bind (Jz (IntKind.wrap .i64 ((IntKind.wrap .i64 ((IntKind.wrap .i64 (a1.Lo * (1024:Int))) * (IntKind.wrap .i64 (a1.Lo * (1024:Int))))) - (IntKind.wrap .i64 ((if x14.1 < x14.2.1 then x14.2.1 else x14.1) * (if x14.1 < x14.2.1 then x14.2.1 else x14.1)))))) fun r=>some r) fun x20=>(Option.bind (Option.bind (Jz (IntKind.wrap .i64 ((IntKind.wrap .i64 ((IntKind.wrap .i64 (a1.Hi * (1024:Int))) * (IntKind.wrap .i64 (a1.Hi * (1024:Int))))) - (IntKind.wrap .i64 ((0:Int) * (0:Int)))))) fun r=>some r) fun x21=>(if(decide ((IntKind.wrap .i64 (y4.1+x20)) < 1024))=true then(some ((⟨(0:Int),(0:Int)⟩:A2),(10:Int)))else(if((1024:Int)≠0)then(if((1024:Int)≠0)then(some ((⟨(IntKind.wrap .i64 (Int.tdiv (IntKind.wrap .i64 (y4.1+x20)) (1024:Int))),(IntKind.wrap .i64 (Int.tdiv (IntKind.wrap .i64 ((IntKind.wrap .i64 ((IntKind.wrap .i64 (y4.2.1+x21))+1024)) - 1)) (1024:Int)))⟩:A2),(0:Int)))else none)else none)))))else(if(decide ((IntKind.wrap .i64 (a1.Lo * (1024:Int)))≤(if x14.1 < x14.2.1 then x14.2.1 else x14.1)))=true then(some ((⟨(0:Int),(0:Int)⟩:A2),(10:Int)))else(Option.bind (Option.bind (Jz (IntKind.wrap .i64 ((IntKind.wrap .i64 ((IntKind.wrap .i64 (a1.Lo * (1024:Int))) * (IntKind.wrap .i64 (a1.Lo * (1024:Int))))) - (IntKind.wrap .i64 ((if x14.1 < x14.2.1 then x14.2.1 else x14.1) * (if x14.1 < x14.2.1 then x14.2.1 else x14.1)))))) fun r=>some r) fun x20=>(Option.bind (Option.bind (Jz (IntKind.wrap .i64 ((IntKind.wrap .i64 ((IntKind.wrap .i64 (a1.Hi * (1024:Int))) * (IntKind.wrap .i64 (a1.Hi * (1024:Int))))) - (IntKind.wrap .i64 ((if x14.2.2.2 < x14.2.2.1 then x14.2.2.2 else x14.2.2.1) * (if x14.2.2.2 < x14.2.2.1 then x14.2.2.2 else x14.2.2.1)))))) fun r=>some r) fun x21=>(if(decide ((IntKind.wrap .i64 (y4.1+x20)) < 1024))=true then(some ((⟨(0:Int),(0:Int)⟩:A2),(10:Int)))else(if((1024:Int)≠0)then(if((1024:Int)≠0)then(some ((⟨(IntKind.wrap .i64 (Int.tdiv (IntKind.wrap .i64 (y4.1+x20)) (1024:Int))),(IntKind.wrap .i64 (Int.tdiv (IntKind.wrap .i64 ((IntKind.wrap .i64 ((IntKind.wrap .i64 (y4.2.1+x21))+1024)) - 1)) (1024:Int)))⟩:A2),(0:Int)))else none)else none))))))))))):Option (A2×Int)):=M66 _ _ _
theorem M124 (a0:Be):dk a0=((some ((((decide ((-2000000:Int)≤a0.X))&&(decide (a0.X≤2000000)))&&(decide ((-2000000:Int)≤a0.Y)))&&(decide (a0.Y≤2000000)))):Option (Bool)):=by kernel_rfl
theorem M109 (a0:List Be):dc a0=((Option.bind (some (.inl ())) (A5 fun(_:Unit)=>(Option.bind (Option.bind (some (.inl ())) (A5 fun(_:Unit)=>(Ad (fun(s1:Int)=>((if(decide (s1 < (a0.length:Int)))=true then(if(0≤s1)then(if(s1 < (a0.length:Int))then(Option.bind (Option.bind (dk (a0.getD s1.toNat default)) fun r=>some r) fun x4=>(if(!x4)=true then(some (.inr (.inr (false))))else(some (.inl (IntKind.wrap .i64 (s1+1))))))else none)else none)else(some (.inr (.inl ())))):Option ((Int)⊕((Unit)⊕(Bool))))) (0:Int)))) (A5 fun(_:Unit)=>(some true))))):Option (Bool)):=by kernel_rfl
noncomputable abbrev Qq (a0:List Be):(Int)→Option ((Int)⊕((Unit)⊕(Bool))):=(fun(s1:Int)=>((if(decide (s1 < (a0.length:Int)))=true then(if(0≤s1)then(if(s1 < (a0.length:Int))then(Option.bind (Option.bind (dk (a0.getD s1.toNat default)) fun r=>some r) fun x4=>(if(!x4)=true then(some (.inr (.inr (false))))else(some (.inl (IntKind.wrap .i64 (s1+1))))))else none)else none)else(some (.inr (.inl ())))):Option ((Int)⊕((Unit)⊕(Bool)))))
theorem A109  (a0:List Be):dc a0=((Option.bind (some (.inl ())) (A5 fun(_:Unit)=>(Option.bind (Option.bind (some (.inl ())) (A5 fun(_:Unit)=>(Ad (Qq a0) (0:Int)))) (A5 fun(_:Unit)=>(some true))))):Option (Bool)):=M109 _
theorem M110 (a0 a1:Be):AAF a0 a1=((some (⟨(IntKind.wrap .i64 (a1.X - a0.X)),(IntKind.wrap .i64 (a1.Y - a0.Y))⟩:Be)):Option (Be)):=by kernel_rfl
theorem M88 (a0 a1:Be):m88 a0 a1=((Option.bind (Option.bind (dc ([a0,a1]:List Be)) fun r=>some r) fun x1=>(if(!x1)=true then(some ((0:Int),(1:Int)))else(if((a0.X==a1.X)&&((a0.Y==a1.Y)&&true))=true then(some ((0:Int),(10:Int)))else(Option.bind (Option.bind (AAF a0 a1) fun r=>some r) fun x5=>(Option.bind (Option.bind (dg x5.X x5.Y) fun r=>some r) fun x6=>(some (x6.1,x6.2))))))):Option (Int×Int)):=by kernel_rfl
theorem Mp {x y e f:Int} (h1 : -e≤x) (h2:x≤e) (h3 : -f≤y) (h4:y≤f) : -(e * f)≤x * y∧x * y≤e * f:=by
 have h:=Int.mul_le_mul (a:=(x.natAbs:Int)) (b:=(y.natAbs:Int)) (c:=e) (d:=f) (by omega) (by omega) (by omega) (by omega)
 rw[← Int.natCast_mul,← Int.natAbs_mul]at h
 omega
theorem Si (n:Int):Ky n=some (decide (-400≤n)&&decide (n≤400)):=M129 _
theorem Yn (w:Bk):∃ a,qd w=some a∧(a=true↔((-400≤w.East∧w.East≤400) ∧ -400≤w.North∧w.North≤400)):=by
 rw[M116]
 simp only[Si,Option.bind_some]
 by_cases c : -400≤w.East∧w.East≤400
 ·rw[decide_eq_true c.1,decide_eq_true c.2]
  refine⟨_,rfl,?_⟩
  simp only[Bool.and_self,Bool.true_and,Bool.and_eq_true,decide_eq_true_eq,c,true_and,if_true,Option.getD_some]
 ·have:(decide (-400≤w.East)&&decide (w.East≤400))=false:=by rw[Bool.eq_false_iff];simpa only[ne_eq,Bool.and_eq_true,decide_eq_true_eq] using c
  rw[this]
  exact⟨false,rfl,⟨fun h=>(by cases h),fun h=>absurd h.1 c⟩⟩
theorem o5 (x:Int):Tot (Pm x):=by rw[M119,if_pos (by decide)];exact⟨_,rfl⟩
theorem nw {x A:Int} (h0:0≤A) (hA:A≤1000) (h1 : -(A * 1073741824)≤x) (h2:x≤A * 1073741824):∃ r,Pm x=some r ∧ -(A * 1024)≤r∧r≤A * 1024:=by
 have p20:(2 ^ (min (20:Int).toNat (IntKind.bits .i64)):Int)=1048576:=by decide
 rw[M119,if_pos (by decide),p20,Ah (by omega) (by omega),Int.fdiv_eq_ediv_of_nonneg _ (by decide)]
 exact⟨_,rfl,by omega,by omega⟩
theorem parts_t (c:Int) (w:Bk):Tot (du c w):=by
 obtain⟨a,e,_⟩:=Yn w
 obtain⟨s,es,_⟩:=qw c
 obtain⟨k,ek,_⟩:=AAn c
 rw[M92,e]
 cases a with
 | false=>exact⟨_,rfl⟩
 | true =>
  obtain⟨x,ex⟩:=o5 (IntKind.wrap .i64 ((IntKind.wrap .i64 (w.East * s))+(IntKind.wrap .i64 (w.North * k))))
  obtain⟨y,ey⟩:=o5 (IntKind.wrap .i64 ((IntKind.wrap .i64 (w.East * k)) - (IntKind.wrap .i64 (w.North * s))))
  simp only[Option.bind_some,Bool.not_true,Bool.false_eq_true,if_false,es,ek,ex,ey]
  exact⟨_,rfl⟩
theorem parts_b (c:Int) {w:Bk} {E N:Int} (hE : -E≤w.East∧w.East≤E) (hN : -N≤w.North∧w.North≤N) (e4:E≤400) (n4:N≤400):∃ x y,du c w=some (x,y,0)∧x≤(E+N) * 1024∧(-(E+N) * 1024≤x)∧y≤(E+N) * 1024∧(-(E+N) * 1024≤y):=by
 obtain⟨a,e,hv⟩:=Yn w
 obtain⟨s,es,s1,s2⟩:=qw c
 obtain⟨k,ek,k1,k2⟩:=AAn c
 have ha:a=true:=hv.2 (by omega)
 subst ha
 have m1:=Mp hE.1 hE.2 (show -1073741824≤s by omega) s2
 have m2:=Mp hN.1 hN.2 (show -1073741824≤k by omega) k2
 have m3:=Mp hE.1 hE.2 (show -1073741824≤k by omega) k2
 have m4:=Mp hN.1 hN.2 (show -1073741824≤s by omega) s2
 obtain⟨x,ex,x1,x2⟩:=nw (x:=w.East * s+w.North * k) (A:=E+N) (by omega) (by omega) (by omega) (by omega)
 obtain⟨y,ey,y1,y2⟩:=nw (x:=w.East * k - w.North * s) (A:=E+N) (by omega) (by omega) (by omega) (by omega)
 refine⟨x,y,?_,by omega,by omega,by omega,by omega⟩
 rw[M92,e]
 simp only[Option.bind_some,Bool.not_true,Bool.false_eq_true,if_false,es,ek]
 rw[Ah (x:=w.East * s) (by omega) (by omega),Ah (x:=w.North * k) (by omega) (by omega),Ah (x:=w.East * k) (by omega) (by omega),Ah (x:=w.North * s) (by omega) (by omega),Ah (x:=w.East * s+w.North * k) (by omega) (by omega),Ah (x:=w.East * k - w.North * s) (by omega) (by omega),ex,ey]
 rfl
theorem so (y x:Int):Tot (dg y x):=by
 have o:∀ z,S6 z=some ((decide (2147483647 < z)) || (decide (z < (-2147483647:Int)))):=fun z=>M125 z
 obtain⟨ax,hx⟩:=Yx x
 obtain⟨ay,hy⟩:=Yx y
 rw[M111,o,o]
 refine .bind (.bind .some fun _=>.bind (.ite .some .some) fun _=>.some) fun r=>.ite .some (.ite .some ?_)
 rw[hx,hy]
 simp only[Option.bind_some]
 obtain⟨q,hq,_⟩:=j9 (n:=16200000) (by decide) (by decide) (if ax < ay then ay else ax) (if ay < ax then ay else ax)
 rw[hq]
 refine .bind (.bind .some fun _=>.some) fun _=>?_
 have n:=fun a=>((Ji a).bind fun r=>(Tot.some (x:=r)))
 exact .ite (.ite .some (.ite .some (.ite .some (.bind (n _) fun _=>.some)))) (.ite .some (.ite .some (.ite .some (.bind (n _) fun _=>.some))))
theorem diff_t (a b:Int):Tot (qc a b):=by
 rw[M114]
 exact .bind (.bind (Ji _) fun _=>.bind (Ji _) fun _=>.bind (Ji _) fun _=>.some) fun _=>.ite .some .some
theorem sqr_le {a b:Int} (h0:0≤b) (h:a * a≤b * b):a≤b:=by
 by_cases c:a≤b
 ·exact c
 ·have h1:b+1≤a:=by omega
  have h2:(b+1) * (b+1)≤a * a:=Int.mul_le_mul h1 h1 (by omega) (by omega)
  have h3:(b+1) * (b+1)=b * b+b+b+1:=by rw[Int.add_mul,Int.mul_add,Int.one_mul,Int.mul_one];omega
  omega
theorem AA9 (c:Int) {t:Int} (ht:0≤t∧t≤4000) {w:Bk} {E N:Int} (hE : -E≤w.East∧w.East≤E) (hN : -N≤w.North∧w.North≤N) (e4:E≤400) (n4:N≤400) :
  ∃ g d e,m90 c t w=some (g,d,e)∧(e=0→1024≤g∧g≤(E+N+t) * 1024):=by
 obtain⟨x,y,e1,x1,x2,y1,y2⟩:=parts_b c hE hN e4 n4
 rw[M90,e1]
 simp only[Option.bind_some,bne_self_eq_false,Bool.not_false,if_true,Bool.false_or]
 have sp:dh t=some ((decide (1≤t))&&(decide (t≤4000))):=M113 t
 rw[sp]
 simp only[Option.bind_some]
 by_cases h1:1≤t
 case neg =>
  rw[decide_eq_false h1]
  exact⟨0,0,1,rfl,fun h=>by cases h⟩
 rw[decide_eq_true h1,decide_eq_true ht.2]
 simp only[Bool.and_self,Bool.not_true,Bool.false_eq_true,if_false]
 rw[Ah (x:=t * 1024) (by omega) (by omega),Ah (x:=0 - y) (by omega) (by omega)]
 by_cases h2:((decide (t * 1024≤y)) || (decide (t * 1024≤0 - y)))=true
 ·rw[if_pos h2];exact⟨0,0,10,rfl,fun h=>by cases h⟩
 rw[if_neg h2]
 simp only[Bool.or_eq_true,decide_eq_true_eq,not_or]at h2
 have ty:=Mp (x:=y) (y:=y) (e:=t * 1024) (f:=t * 1024) (by omega) (by omega) (by omega) (by omega)
 have yy:0≤y * y:=by
  by_cases hy:0≤y
  ·exact Int.mul_nonneg hy hy
  ·have:=Int.mul_nonneg (show 0 ≤ -y by omega) (show 0 ≤ -y by omega)
   rw[Int.neg_mul_neg]at this;exact this
 have tt:t * 1024 * (t * 1024)≤4096000 * 4096000:=Int.mul_le_mul (by omega) (by omega) (by omega) (by decide)
 have t0:0≤t * 1024 * (t * 1024):=Int.mul_nonneg (by omega) (by omega)
 rw[Ah (x:=t * 1024 * (t * 1024)) (by omega) (by omega),Ah (x:=y * y) (by omega) (by omega),Ah (x:=t * 1024 * (t * 1024) - y * y) (by omega) (by omega)]
 obtain⟨r,er,r0,rr,r1⟩:=yh (n:=t * 1024 * (t * 1024) - y * y) (by omega)
 have rt:r≤t * 1024:=sqr_le (by omega) (by have:=rr (by omega);omega)
 rw[er]
 simp only[Option.bind_some]
 rw[Ah (x:=x+r) (by omega) (by omega)]
 by_cases h3:x+r < 1024
 ·rw[if_pos (decide_eq_true h3)];exact⟨0,0,10,rfl,fun h=>by cases h⟩
 rw[if_neg (by simpa using h3)]
 obtain⟨q,eq⟩:=so (0 - y) r
 obtain⟨d,ed⟩:=diff_t 0 q.1
 simp only[eq,Option.bind_some,ed]
 exact⟨_,_,_,rfl,fun _=>by omega⟩
theorem box_t (b:A6):Tot (v6 b):=by
 have o:∀ i,Tot (S5 i):=fun i=>by
  rw[M115]
  exact .bind (.bind (.ite ⟨_,Si _⟩ .some) fun _=>.bind (.ite ⟨_,Si _⟩ .some) fun _=>.some) fun _=>.some
 rw[M91]
 exact .bind (.bind (o _) fun _=>.bind (.ite (o _) .some) fun _=>.some) fun _=>.some
theorem sqrt_t (x:Int):Tot (Jz (IntKind.wrap .i64 x)):=by
 obtain⟨r,h,_⟩:=sqrt_ok (n:=IntKind.wrap .i64 x) (wrap_le x)
 exact⟨r,h⟩
theorem pw (c:Int) (t:A2) (b:A6):Tot (uz c t b):=by
 rw[A66]
 refine .on (.bind (.bind (box_t b) fun _=>.some) fun _=>.ite .some .some) fun _=>.on (.on .some fun _=>?_) fun y=>?_
 ·obtain⟨x,h,_⟩:=Ay (b:=bz c b) (fun q=>∃ i:Nat,q.2.2.2.2=i∧i≤2) (fun q=>(2 - q.2.2.2.2).toNat) (fun _=>True) (fun q hq=>by
   obtain⟨q1,q2,q3,q4,q5⟩:=q
   obtain⟨i,hi,h2⟩:=hq
   simp only at hi
   subst hi
   by_cases hlt:i < 2
   ·have z1:decide ((i:Int) < 2)=true:=decide_eq_true (by omega)
    have z2:(0:Int)≤(i:Int):=by omega
    have z3:(i:Int) < 2:=by omega
    have w:IntKind.wrap .i64 ((i:Int)+1)=((i+1:Nat):Int):=by rw[Ah (by omega) (by omega)];omega
    obtain⟨x,h,u,rfl⟩:=Ay (b:=Uw c b (q1,q2,q3,q4,(i:Int))) (fun q=>∃ j:Nat,q.2.2.2.2=j∧j≤2) (fun q=>(2 - q.2.2.2.2).toNat) (fun x=>∃ u,x=.inl u) (fun q hq=>by
     obtain⟨p1,p2,p3,p4,p5⟩:=q
     obtain⟨j,hj,h2⟩:=hq
     simp only at hj
     subst hj
     by_cases hlj:j < 2
     ·have z1:decide ((j:Int) < 2)=true:=decide_eq_true (by omega)
      have z2:(0:Int)≤(j:Int):=by omega
      have z3:(j:Int) < 2:=by omega
      have w:IntKind.wrap .i64 ((j:Int)+1)=((j+1:Nat):Int):=by rw[Ah (by omega) (by omega)];omega
      obtain⟨pr,hpr⟩:=parts_t c (⟨([b.East.Lo,b.East.Hi].getD i 0),([b.North.Lo,b.North.Hi].getD j 0)⟩:Bk)
      refine .inl ⟨_,by simp only[Uw,z1,z2,z3,decide_true,if_true,Int.toNat_natCast,hpr,Option.bind_some,w];rfl,⟨j+1,rfl,by omega⟩,by simp only;omega⟩
     ·obtain rfl:j=2:=by omega
      refine .inr ⟨_,by simp only[Uw,(by decide:decide (((2:Nat):Int) < 2)=false),Bool.false_eq_true,if_false];rfl,_,rfl⟩) (q1,q2,q3,q4,0) ⟨0,rfl,by omega⟩
    refine .inl ⟨(u.1,u.2.1,u.2.2.1,u.2.2.2,((i+1:Nat):Int)),?_,⟨i+1,rfl,by omega⟩,by simp only;omega⟩
    refine Bp (y:=()) (by simp only[z1,if_true]) (Bp (y:=u) (Bp (y:=()) (by simp only[z2,z3,if_true]) h) ?_)
    simp only[w]
   ·obtain rfl:i=2:=by omega
    refine .inr ⟨_,by simp only[bz,(by decide:decide (((2:Nat):Int) < 2)=false),Bool.false_eq_true,if_false,Option.bind_some,A5];rfl,trivial⟩) (1099511627776,-1099511627776,1099511627776,-1099511627776,0) ⟨0,rfl,by omega⟩
  exact⟨x,h⟩
 ·obtain⟨a1,h1⟩:=Yx y.2.2.1
  obtain⟨a2,h2⟩:=Yx y.2.2.2
  rw[h1,h2]
  refine .bind (.bind .some fun _=>.bind .some fun _=>.bind .some fun _=>.bind .some fun _=>.some) fun x=>?_
  have s:=fun a=>((sqrt_t a).bind fun r=>(Tot.some (x:=r)))
  have z:(1024:Int)≠0:=by decide
  exact .ite (.ite .some (.bind (s _) fun _=>.bind (s _) fun _=>.ite .some (.pos z (.pos z .some)))) (.ite .some (.bind (s _) fun _=>.bind (s _) fun _=>.ite .some (.pos z (.pos z .some))))
theorem zt (a b:Be):Tot (m88 a b):=by
 have v:Tot (dc [a,b]):=by
  rw[A109]
  simp only[Option.bind_some,A5]
  obtain⟨c,h,_⟩:=D1 (b:=Qq [a,b]) (k:=fun _=>some true) (G:=True) 0 2 (fun _=>True) (fun i _ hi'=>by
   have z:dk (([a,b]:List Be).getD i default)=some _:=M124 _
   have i1:decide ((i:Int) < (([a,b]:List Be).length:Int))=true:=decide_eq_true (by show (i:Int) < 2;omega)
   have i2:(0:Int)≤(i:Int):=by omega
   have i3:(i:Int) < (([a,b]:List Be).length:Int):=by show (i:Int) < 2;omega
   have w:IntKind.wrap .i64 ((i:Int)+1)=(i:Int)+1:=Ah (by omega) (by omega)
   simp only[Qq,i1,i2,i3,decide_true,if_true,Int.toNat_natCast,z,Option.bind_some,w]
   split
   ·right;rfl
   ·left;exact⟨trivial,rfl⟩) (fun i h=>by
    have:decide ((i:Int) < (([a,b]:List Be).length:Int))=false:=decide_eq_false (by show ¬ (i:Int) < 2;omega)
    simp only[Qq,this,Bool.false_eq_true,if_false]) (fun _=>.true_ trivial)
  exact⟨c,h⟩
 rw[M88]
 refine .bind (.bind v fun _=>.some) fun _=>.ite .some (.ite .some (.bind (.bind ?_ fun _=>.some) fun _=>.bind (.bind (so _ _) fun _=>.some) fun _=>.some))
 rw[M110];exact .some
end Go.Av.Air
set_option maxRecDepth 100000
namespace Go.Av.Air
theorem M102 (a0 a1 a2:Int):G7 a0 a1 a2=((some ((decide (a1≤a0))&&(decide (a0≤a2)))):Option (Bool)):=by kernel_rfl
theorem M80 (a0:List A7) (a1:List An):N0 a0 a1=((Option.bind (if(decide (64 < (a0.length:Int)))=true then(some (.inr ((3:Int))))else(if((a1.length:Int) != (if(IntKind.wrap .i64 ((a0.length:Int) - (1:Int))) < 0 then(0:Int)else(IntKind.wrap .i64 ((a0.length:Int) - (1:Int)))))=true then(some (.inr ((1:Int))))else(some (.inl ())))) (A5 fun(_:Unit)=>(Option.bind (Option.bind (some (.inl ())) (A5 fun(_:Unit)=>(Ad (fun(s1:Int)=>((if(decide (s1 < (a0.length:Int)))=true then(if(0≤s1)then(if(s1 < (a0.length:Int))then(Option.bind (((G7 (a0.getD s1.toNat default).Lo (-1099511627776:Int) (1099511627776:Int)).bind fun r8_0=>((if(!(!r8_0))=true then G7 (a0.getD s1.toNat default).Hi (-1099511627776:Int) (1099511627776:Int)else some default).bind fun r8_1=>some (r8_0,r8_1)))) fun(x8:(Bool×Bool))=>(if((!x8.1) || (!x8.2))=true then(some (.inr (.inr ((2:Int)))))else(some (.inl (IntKind.wrap .i64 (s1+1))))))else none)else none)else(some (.inr (.inl ())))):Option ((Int)⊕((Unit)⊕(Int))))) (0:Int)))) (A5 fun(_:Unit)=>(Option.bind (Option.bind (some (.inl ())) (A5 fun(_:Unit)=>(Ad (fun(s2:Int)=>((if(decide (s2 < (a1.length:Int)))=true then(if(0≤s2)then(if(s2 < (a1.length:Int))then(Option.bind (((G7 (a1.getD s2.toNat default).Up (0:Int) (1099511627776:Int)).bind fun r14_0=>((if(!(!r14_0))=true then G7 (a1.getD s2.toNat default).Down (0:Int) (1099511627776:Int)else some default).bind fun r14_1=>some (r14_0,r14_1)))) fun(x14:(Bool×Bool))=>(if((!x14.1) || (!x14.2))=true then(some (.inr (.inr ((2:Int)))))else(some (.inl (IntKind.wrap .i64 (s2+1))))))else none)else none)else(some (.inr (.inl ())))):Option ((Int)⊕((Unit)⊕(Int))))) (0:Int)))) (A5 fun(_:Unit)=>(some (0:Int)))))))):Option (Int)):=by kernel_rfl
noncomputable abbrev Pd (a1:List An):(Int)→Option ((Int)⊕((Unit)⊕(Int))):=(fun(s2:Int)=>((if(decide (s2 < (a1.length:Int)))=true then(if(0≤s2)then(if(s2 < (a1.length:Int))then(Option.bind (((G7 (a1.getD s2.toNat default).Up (0:Int) (1099511627776:Int)).bind fun r14_0=>((if(!(!r14_0))=true then G7 (a1.getD s2.toNat default).Down (0:Int) (1099511627776:Int)else some default).bind fun r14_1=>some (r14_0,r14_1)))) fun(x14:(Bool×Bool))=>(if((!x14.1) || (!x14.2))=true then(some (.inr (.inr ((2:Int)))))else(some (.inl (IntKind.wrap .i64 (s2+1))))))else none)else none)else(some (.inr (.inl ())))):Option ((Int)⊕((Unit)⊕(Int)))))
noncomputable abbrev Uy (a0:List A7):(Int)→Option ((Int)⊕((Unit)⊕(Int))):=(fun(s1:Int)=>((if(decide (s1 < (a0.length:Int)))=true then(if(0≤s1)then(if(s1 < (a0.length:Int))then(Option.bind (((G7 (a0.getD s1.toNat default).Lo (-1099511627776:Int) (1099511627776:Int)).bind fun r8_0=>((if(!(!r8_0))=true then G7 (a0.getD s1.toNat default).Hi (-1099511627776:Int) (1099511627776:Int)else some default).bind fun r8_1=>some (r8_0,r8_1)))) fun(x8:(Bool×Bool))=>(if((!x8.1) || (!x8.2))=true then(some (.inr (.inr ((2:Int)))))else(some (.inl (IntKind.wrap .i64 (s1+1))))))else none)else none)else(some (.inr (.inl ())))):Option ((Int)⊕((Unit)⊕(Int)))))
theorem A80  (a0:List A7) (a1:List An):N0 a0 a1=((Option.bind (if(decide (64 < (a0.length:Int)))=true then(some (.inr ((3:Int))))else(if((a1.length:Int) != (if(IntKind.wrap .i64 ((a0.length:Int) - (1:Int))) < 0 then(0:Int)else(IntKind.wrap .i64 ((a0.length:Int) - (1:Int)))))=true then(some (.inr ((1:Int))))else(some (.inl ())))) (A5 fun(_:Unit)=>(Option.bind (Option.bind (some (.inl ())) (A5 fun(_:Unit)=>(Ad (Uy a0) (0:Int)))) (A5 fun(_:Unit)=>(Option.bind (Option.bind (some (.inl ())) (A5 fun(_:Unit)=>(Ad (Pd a1) (0:Int)))) (A5 fun(_:Unit)=>(some (0:Int)))))))):Option (Int)):=M80 _ _
theorem M104 (a0:List An) (a1 a2:Int):cz a0 a1 a2=((Option.bind (some (.inl ())) (A5 fun(_:Unit)=>(Option.bind (Option.bind (if(0≤a1)then(if(a1≤a2)then(if(a2≤(a0.length:Int))then(some (.inl ()))else none)else none)else none) (A5 fun(_:Unit)=>(Ad (fun(s1:Int×Int×Int)=>((if(decide (s1.2.2 < (((a2.toNat - a1.toNat):Nat):Int)))=true then(if(0≤s1.2.2)then(if(s1.2.2 < ((A9 a0 a1.toNat (a2.toNat - a1.toNat)).length:Int))then(some (.inl ((IntKind.wrap .i64 (s1.1+((A9 a0 a1.toNat (a2.toNat - a1.toNat)).getD s1.2.2.toNat default).Up)),(IntKind.wrap .i64 (s1.2.1+((A9 a0 a1.toNat (a2.toNat - a1.toNat)).getD s1.2.2.toNat default).Down)),(IntKind.wrap .i64 (s1.2.2+1)))))else none)else none)else(some (.inr (.inl (s1.1,s1.2.1))))):Option ((Int×Int×Int)⊕((Int×Int)⊕(Int×Int))))) ((0:Int),(0:Int),(0:Int))))) (A5 fun(y2:Int×Int)=>(some (y2.1,y2.2)))))):Option (Int×Int)):=by kernel_rfl
noncomputable abbrev Qp (a2:Int) (a1:Int) (a0:List An):(Int×Int×Int)→Option ((Int×Int×Int)⊕((Int×Int)⊕(Int×Int))):=(fun(s1:Int×Int×Int)=>((if(decide (s1.2.2 < (((a2.toNat - a1.toNat):Nat):Int)))=true then(if(0≤s1.2.2)then(if(s1.2.2 < ((A9 a0 a1.toNat (a2.toNat - a1.toNat)).length:Int))then(some (.inl ((IntKind.wrap .i64 (s1.1+((A9 a0 a1.toNat (a2.toNat - a1.toNat)).getD s1.2.2.toNat default).Up)),(IntKind.wrap .i64 (s1.2.1+((A9 a0 a1.toNat (a2.toNat - a1.toNat)).getD s1.2.2.toNat default).Down)),(IntKind.wrap .i64 (s1.2.2+1)))))else none)else none)else(some (.inr (.inl (s1.1,s1.2.1))))):Option ((Int×Int×Int)⊕((Int×Int)⊕(Int×Int)))))
theorem A104  (a0:List An) (a1 a2:Int):cz a0 a1 a2=((Option.bind (some (.inl ())) (A5 fun(_:Unit)=>(Option.bind (Option.bind (if(0≤a1)then(if(a1≤a2)then(if(a2≤(a0.length:Int))then(some (.inl ()))else none)else none)else none) (A5 fun(_:Unit)=>(Ad (Qp a2 a1 a0) ((0:Int),(0:Int),(0:Int))))) (A5 fun(y2:Int×Int)=>(some (y2.1,y2.2)))))):Option (Int×Int)):=M104 _ _ _
theorem M83 (a0:List A7) (a1:List An) (a2 a3:Int):v5 a0 a1 a2 a3=((if(0≤a2)then(if(a2 < (a0.length:Int))then(if(0≤a3)then(if(a3 < (a0.length:Int))then(if(a2==a3)=true then(some (IntKind.wrap .i64 ((a0.getD a2.toNat default).Lo - (a0.getD a2.toNat default).Hi)))else(if((decide ((a0.getD a2.toNat default).Hi < (a0.getD a2.toNat default).Lo)) || (decide ((a0.getD a3.toNat default).Hi < (a0.getD a3.toNat default).Lo)))=true then(some (0:Int))else(Option.bind (Option.bind (cz a1 a2 a3) fun r=>some r) fun x6=>(some (if(IntKind.wrap .i64 ((a0.getD a3.toNat default).Lo - (IntKind.wrap .i64 ((a0.getD a2.toNat default).Hi+x6.1)))) < (IntKind.wrap .i64 ((IntKind.wrap .i64 ((a0.getD a2.toNat default).Lo - x6.2)) - (a0.getD a3.toNat default).Hi))then(IntKind.wrap .i64 ((IntKind.wrap .i64 ((a0.getD a2.toNat default).Lo - x6.2)) - (a0.getD a3.toNat default).Hi))else(IntKind.wrap .i64 ((a0.getD a3.toNat default).Lo - (IntKind.wrap .i64 ((a0.getD a2.toNat default).Hi+x6.1)))))))))else none)else none)else none)else none):Option (Int)):=by kernel_rfl
theorem M36 (a0:List A7) (a1:List An):Va a0 a1=((Option.bind (Option.bind (Option.bind (N0 a0 a1) fun r=>some r) fun x1=>(if(x1 != 0)=true then(some (.inr (([],x1))))else(some (.inl ())))) (A5 fun(_:Unit)=>(Option.bind (Option.bind (some (.inl ())) (A5 fun(_:Unit)=>(Ad (fun(s1:(List Al)×(List Al)×Int)=>((Option.bind (if(decide (s1.2.2 < (a0.length:Int)))=true then(some (.inl ()))else(some (.inr (.inr (.inl (s1.1,s1.2.1)))))) (A5 fun(_:Unit)=>(Option.bind (Option.bind (some (.inl ())) (A5 fun(_:Unit)=>(Ad (fun(s2:(List Al)×(List Al)×Int)=>((if(decide (s2.2.2 < (a0.length:Int)))=true then(Option.bind (Option.bind (v5 a0 a1 s1.2.2 s2.2.2) fun r=>some r) fun x12=>(if(decide (x12≤0))=true then(some (.inl (s2.1,s2.2.1,(IntKind.wrap .i64 (s2.2.2+1)))))else(if(s1.2.2==s2.2.2)=true then(if((s2.1.length+1) * 16≤140737488355328)then(some (.inl ((s2.1++([(⟨s1.2.2,s2.2.2⟩:Al)]:List Al)),s2.2.1,(IntKind.wrap .i64 (s2.2.2+1)))))else none)else(if((s2.2.1.length+1) * 16≤140737488355328)then(some (.inl (s2.1,(s2.2.1++([(⟨s1.2.2,s2.2.2⟩:Al)]:List Al)),(IntKind.wrap .i64 (s2.2.2+1)))))else none))))else(some (.inr (.inl (s2.1,s2.2.1))))):Option (((List Al)×(List Al)×Int)⊕(((List Al)×(List Al))⊕(((List Al)×(List Al)×Int)⊕(((List Al)×(List Al))⊕((List Al)×Int))))))) (s1.1,s1.2.1,s1.2.2)))) (A5 fun(y3:(List Al)×(List Al))=>(some (.inl (y3.1,y3.2,(IntKind.wrap .i64 (s1.2.2+1))))))))):Option (((List Al)×(List Al)×Int)⊕(((List Al)×(List Al))⊕((List Al)×Int))))) ([],[],(0:Int))))) (A5 fun(y4:(List Al)×(List Al))=>(if((y4.1.length+y4.2.length) * 16≤140737488355328)then(some ((y4.1++y4.2),(0:Int)))else none))))):Option ((List Al)×Int)):=by kernel_rfl
noncomputable abbrev My (a0:List A7) (a1:List An) (s1:(List Al)×(List Al)×Int):((List Al)×(List Al)×Int)→Option (((List Al)×(List Al)×Int)⊕(((List Al)×(List Al))⊕(((List Al)×(List Al)×Int)⊕(((List Al)×(List Al))⊕((List Al)×Int))))):=(fun(s2:(List Al)×(List Al)×Int)=>((if(decide (s2.2.2 < (a0.length:Int)))=true then(Option.bind (Option.bind (v5 a0 a1 s1.2.2 s2.2.2) fun r=>some r) fun x12=>(if(decide (x12≤0))=true then(some (.inl (s2.1,s2.2.1,(IntKind.wrap .i64 (s2.2.2+1)))))else(if(s1.2.2==s2.2.2)=true then(if((s2.1.length+1) * 16≤140737488355328)then(some (.inl ((s2.1++([(⟨s1.2.2,s2.2.2⟩:Al)]:List Al)),s2.2.1,(IntKind.wrap .i64 (s2.2.2+1)))))else none)else(if((s2.2.1.length+1) * 16≤140737488355328)then(some (.inl (s2.1,(s2.2.1++([(⟨s1.2.2,s2.2.2⟩:Al)]:List Al)),(IntKind.wrap .i64 (s2.2.2+1)))))else none))))else(some (.inr (.inl (s2.1,s2.2.1))))):Option (((List Al)×(List Al)×Int)⊕(((List Al)×(List Al))⊕(((List Al)×(List Al)×Int)⊕(((List Al)×(List Al))⊕((List Al)×Int)))))))
noncomputable abbrev bw (a0:List A7) (a1:List An):((List Al)×(List Al)×Int)→Option (((List Al)×(List Al)×Int)⊕(((List Al)×(List Al))⊕((List Al)×Int))):=(fun(s1:(List Al)×(List Al)×Int)=>((Option.bind (if(decide (s1.2.2 < (a0.length:Int)))=true then(some (.inl ()))else(some (.inr (.inr (.inl (s1.1,s1.2.1)))))) (A5 fun(_:Unit)=>(Option.bind (Option.bind (some (.inl ())) (A5 fun(_:Unit)=>(Ad (My a0 a1 s1) (s1.1,s1.2.1,s1.2.2)))) (A5 fun(y3:(List Al)×(List Al))=>(some (.inl (y3.1,y3.2,(IntKind.wrap .i64 (s1.2.2+1))))))))):Option (((List Al)×(List Al)×Int)⊕(((List Al)×(List Al))⊕((List Al)×Int)))))
theorem A36  (a0:List A7) (a1:List An):Va a0 a1=((Option.bind (Option.bind (Option.bind (N0 a0 a1) fun r=>some r) fun x1=>(if(x1 != 0)=true then(some (.inr (([],x1))))else(some (.inl ())))) (A5 fun(_:Unit)=>(Option.bind (Option.bind (some (.inl ())) (A5 fun(_:Unit)=>(Ad (bw a0 a1) ([],[],(0:Int))))) (A5 fun(y4:(List Al)×(List Al))=>(if((y4.1.length+y4.2.length) * 16≤140737488355328)then(some ((y4.1++y4.2),(0:Int)))else none))))):Option ((List Al)×Int)):=M36 _ _
theorem M22 (a0:List A7) (a1:List An):dn a0 a1=((Option.bind (Option.bind (Va a0 a1) fun r=>some r) fun x1=>(if((x1.1.length:Int)==(0:Int))=true then(some ((⟨(0:Int),(0:Int)⟩:Al),false,x1.2))else(if((0:Int)≤(0:Int))then(if(0 < (x1.1.length:Int))then(some ((x1.1.getD (0:Int).toNat default),true,(0:Int)))else none)else none))):Option (Al×Bool×Int)):=by kernel_rfl
abbrev WL:=List A7
abbrev SL:=List An
structure Nl (ws:WL) (st:SL):Prop where
 few:ws.length≤64
 len:st.length=ws.length - 1
 w:∀ i,i < ws.length→(-1099511627776≤(ws.getD i default).Lo∧(ws.getD i default).Lo≤1099511627776) ∧ -1099511627776≤(ws.getD i default).Hi∧(ws.getD i default).Hi≤1099511627776
 s:∀ i,i < st.length→(0≤(st.getD i default).Up∧(st.getD i default).Up≤1099511627776)∧0≤(st.getD i default).Down∧(st.getD i default).Down≤1099511627776
variable {ws:WL} {st:SL}
theorem U0 (n lo hi:Int):G7 n lo hi=some (decide (lo≤n)&&decide (n≤hi)):=M102 _ _ _
theorem Dn {a b:Prop} [Decidable a] [Decidable b]:(decide a&&decide b)=decide (a∧b):=by by_cases h:a<;>by_cases k:b<;>simp[h,k]
theorem Je (hs:st.length≤maxLen):Ok (N0 ws st) (Nl ws st):=by
 rw[A80]
 by_cases h1:decide ((64:Int) < (ws.length:Int))=true
 ·rw[if_pos h1];exact .err (by decide)
 rw[if_neg h1]
 simp only[decide_eq_true_eq]at h1
 rw[Ah (x:=(ws.length:Int) - 1) (by omega) (by omega)]
 by_cases h2:((st.length:Int) != (if(ws.length:Int) - 1 < 0 then(0:Int)else(ws.length:Int) - 1))=true
 ·rw[if_pos h2];exact .err (by decide)
 rw[if_neg h2]
 simp only[bne_iff_ne,ne_eq,Decidable.not_not]at h2
 have hl:st.length=ws.length - 1:=by
  revert h2
  split<;>omega
 simp only[Option.bind_some,A5]
 have hm:maxLen=9223372036854775807:=rfl
 rcases Ge (b:=Uy ws) (z:=(2:Int)) (k:=fun _=>(Ad (Pd st) (0:Int)).bind (A5 fun _=>some (0:Int))) 0 ws.length (fun i=>(-1099511627776≤(ws.getD i default).Lo∧(ws.getD i default).Lo≤1099511627776) ∧ -1099511627776≤(ws.getD i default).Hi∧(ws.getD i default).Hi≤1099511627776) (fun i _ hi'=>by
   simp only[Uy,As hi',decide_true,if_true,Int.toNat_natCast,U0,Dn,Option.bind_some,W0 hi' (show ws.length≤4611686018427387904 by omega)]
   by_cases c : -1099511627776≤(ws.getD i default).Lo∧(ws.getD i default).Lo≤1099511627776
   case neg=>right;rw[decide_eq_false c];rfl
   rw[decide_eq_true c]
   by_cases d : -1099511627776≤(ws.getD i default).Hi∧(ws.getD i default).Hi≤1099511627776
   case neg=>right;simp only[Bool.not_true,Bool.not_false,if_true,decide_eq_false d,Option.bind_some,Bool.or_true]
   left
   refine⟨⟨c,d⟩,?_⟩
   simp only[Bool.not_true,Bool.not_false,if_true,decide_eq_true d,Option.bind_some,Bool.or_self,Bool.false_eq_true,if_false]) (fun i h=>by simp only[Uy,Dm h,Bool.false_eq_true,if_false]) with⟨k1,k2⟩ | k2
 case inr=>exact⟨2,k2,fun h=>by cases h⟩
 rcases Ge (b:=Pd st) (z:=(2:Int)) (k:=fun _=>some (0:Int)) 0 st.length (fun i=>(0≤(st.getD i default).Up∧(st.getD i default).Up≤1099511627776)∧0≤(st.getD i default).Down∧(st.getD i default).Down≤1099511627776) (fun i _ hi'=>by
   simp only[Pd,As hi',decide_true,if_true,Int.toNat_natCast,U0,Dn,Option.bind_some,W0 hi' (show st.length≤4611686018427387904 by omega)]
   by_cases c:0≤(st.getD i default).Up∧(st.getD i default).Up≤1099511627776
   case neg=>right;rw[decide_eq_false c];rfl
   rw[decide_eq_true c]
   by_cases d:0≤(st.getD i default).Down∧(st.getD i default).Down≤1099511627776
   case neg=>right;simp only[Bool.not_true,Bool.not_false,if_true,decide_eq_false d,Option.bind_some,Bool.or_true]
   left
   refine⟨⟨c,d⟩,?_⟩
   simp only[Bool.not_true,Bool.not_false,if_true,decide_eq_true d,Option.bind_some,Bool.or_self,Bool.false_eq_true,if_false]) (fun i h=>by simp only[Pd,Dm h,Bool.false_eq_true,if_false]) with⟨k3,k4⟩ | k4
 case inr=>exact⟨2,k2.trans k4,fun h=>by cases h⟩
 exact⟨0,k2.trans k4,fun _=>⟨by omega,hl,fun i hi=>k1 i (Nat.zero_le _) hi,fun i hi=>k3 i (Nat.zero_le _) hi⟩⟩
theorem su {i j:Nat} (h1:i≤j) (h2:j≤st.length) (h3:st.length≤64):Tot (cz st (i:Int) (j:Int)):=by
 have ls:(A9 st i (j - i)).length=j - i:=AAc
 obtain⟨x,e,u,rfl⟩:=Ay (b:=Qp (j:Int) (i:Int) st) (fun q=>∃ k:Nat,q.2.2=k∧k≤j - i) (fun q=>((j - i:Nat) - q.2.2).toNat) (fun x=>∃ u,x=.inl u) (fun q hq=>by
  obtain⟨q1,q2,q3⟩:=q
  obtain⟨k,hk,hk2⟩:=hq
  simp only at hk
  subst hk
  by_cases hlt:k < j - i
  ·have w:IntKind.wrap .i64 ((k:Int)+1)=((k+1:Nat):Int):=by rw[Ah (by omega) (by omega)];omega
   refine .inl ⟨_,by simp only[Qp,Int.toNat_natCast,ls,As hlt,decide_true,if_true,w];rfl,⟨k+1,rfl,by omega⟩,by simp only;omega⟩
  ·obtain rfl:k=j - i:=by omega
   refine .inr ⟨_,by simp only[Qp,Int.toNat_natCast,Fo,decide_false,Bool.false_eq_true,if_false];rfl,_,rfl⟩) ((0:Int),(0:Int),(0:Int)) ⟨0,rfl,Nat.zero_le _⟩
 rw[A104]
 refine⟨(u.1,u.2),Bp (y:=()) rfl (Bp (y:=u) (Bp (y:=()) ?_ e) rfl)⟩
 rw[if_pos (by omega),if_pos (by omega),if_pos (by omega)]
theorem AA3 (C:Nl ws st) {i j:Nat} (h1:i≤j) (h2:j < ws.length):Tot (v5 ws st (i:Int) (j:Int)):=by
 have hl:=C.len
 have hf:=C.few
 rw[M83]
 have zi:=As (show i < ws.length by omega)
 have zj:=As h2
 simp only[zi,zj,if_true]
 exact .ite .some (.ite .some (.bind (.bind (su h1 (by omega) (by omega)) fun _=>.some) fun _=>.some))
theorem AAk (C:Nl ws st) (h0:N0 ws st=some 0):∃ l,Va ws st=some (l,0):=by
 have hf:=C.few
 obtain⟨x,e,l1,l2,rfl,b1,b2⟩:=Ay (b:=bw ws st) (fun q=>∃ i:Nat,q.2.2=i∧i≤ws.length∧q.1.length≤i * 64∧q.2.1.length≤i * 64) (fun q=>(ws.length - q.2.2).toNat) (fun x=>∃ l1 l2,x=.inl (l1,l2)∧l1.length≤4096∧l2.length≤4096) (fun q hq=>by
  obtain⟨q1,q2,q3⟩:=q
  obtain⟨i,hi,hi2,b1,b2⟩:=hq
  simp only at hi b1 b2
  subst hi
  by_cases hlt:i < ws.length
  ·obtain⟨x,e,l1,l2,rfl,c1,c2⟩:=Ay (b:=My ws st (q1,q2,(i:Int))) (fun q=>∃ j:Nat,q.2.2=j∧i≤j∧j≤ws.length∧q.1.length≤i * 64+(j - i)∧q.2.1.length≤i * 64+(j - i)) (fun q=>(ws.length - q.2.2).toNat) (fun x=>∃ l1 l2,x=.inl (l1,l2)∧l1.length≤(i+1) * 64∧l2.length≤(i+1) * 64) (fun q hq=>by
    obtain⟨p1,p2,p3⟩:=q
    obtain⟨j,hj,hj1,hj2,b1,b2⟩:=hq
    simp only at hj b1 b2
    subst hj
    by_cases hlj:j < ws.length
    ·obtain⟨v,hv⟩:=AA3 C hj1 hlj
     have w:IntKind.wrap .i64 ((j:Int)+1)=((j+1:Nat):Int):=by rw[Ah (by omega) (by omega)];omega
     have s1:((p1.length+1) * 16≤140737488355328)=True:=eq_true (by omega)
     have s2:((p2.length+1) * 16≤140737488355328)=True:=eq_true (by omega)
     by_cases c1:decide (v≤0)=true
     ·refine .inl ⟨(p1,p2,((j+1:Nat):Int)),by simp only[My,As hlj,decide_true,if_true,hv,Option.bind_some,c1,w],⟨j+1,rfl,by omega,by omega,by simp only;omega,by simp only;omega⟩,by simp only;omega⟩
     ·by_cases c2:((i:Int)==(j:Int))=true
      ·refine .inl ⟨(p1++[⟨(i:Int),(j:Int)⟩],p2,((j+1:Nat):Int)),by simp only[My,As hlj,decide_true,if_true,hv,Option.bind_some,c1,Bool.false_eq_true,if_false,c2,s1,w],⟨j+1,rfl,by omega,by omega,by simp only[List.length_append,List.length_singleton];omega,by simp only;omega⟩,by simp only;omega⟩
      ·refine .inl ⟨(p1,p2++[⟨(i:Int),(j:Int)⟩],((j+1:Nat):Int)),by simp only[My,As hlj,decide_true,if_true,hv,Option.bind_some,c1,Bool.false_eq_true,if_false,c2,s2,w],⟨j+1,rfl,by omega,by omega,by simp only;omega,by simp only[List.length_append,List.length_singleton];omega⟩,by simp only;omega⟩
    ·obtain rfl:j=ws.length:=by omega
     refine .inr ⟨.inl (p1,p2),by simp only[My,Fo,decide_false,Bool.false_eq_true,if_false],p1,p2,rfl,by omega,by omega⟩) (q1,q2,(i:Int)) ⟨i,rfl,Nat.le_refl _,by omega,by simp only;omega,by simp only;omega⟩
   have w:IntKind.wrap .i64 ((i:Int)+1)=((i+1:Nat):Int):=by rw[Ah (by omega) (by omega)];omega
   refine .inl ⟨(l1,l2,((i+1:Nat):Int)),?_,⟨i+1,rfl,by omega,c1,c2⟩,by simp only;omega⟩
   refine Bp (y:=()) (by simp only[As hlt,decide_true,if_true]) (Bp (y:=(l1,l2)) (Bp (y:=()) rfl e) ?_)
   simp only[w]
  ·obtain rfl:i=ws.length:=by omega
   refine .inr ⟨.inl (q1,q2),by simp only[bw,Fo,decide_false,Bool.false_eq_true,if_false,Option.bind_some,A5],q1,q2,rfl,by omega,by omega⟩) (([]:List Al),([]:List Al),(0:Int)) ⟨0,rfl,Nat.zero_le _,by simp,by simp⟩
 refine⟨l1++l2,?_⟩
 rw[A36,h0]
 refine Bp (y:=()) (by simp only[Option.bind_some,bne_self_eq_false,Bool.false_eq_true,if_false]) (Bp (y:=(l1,l2)) (Bp (y:=()) rfl e) ?_)
 rw[if_pos (by show (l1.length+l2.length) * 16≤140737488355328;omega)]
theorem Rc (hs:st.length≤maxLen):Tot (dn ws st):=by
 have:∃ l e,Va ws st=some (l,e):=by
  obtain⟨c,h1,h2⟩:=Je (ws:=ws) hs
  by_cases c0:c=0
  ·subst c0
   obtain⟨l,h⟩:=AAk (h2 rfl) h1
   exact⟨l,0,h⟩
  ·have:(c != 0)=true:=by simpa using c0
   refine⟨[],c,?_⟩
   rw[A36,h1]
   simp only[Option.bind_some,this,if_true,A5]
 obtain⟨l,e,h⟩:=this
 rw[M22,h]
 simp only[Option.bind_some]
 by_cases h0:((l.length:Int)==(0:Int))=true
 ·rw[if_pos h0];exact .some
 ·have:(0:Int) < (l.length:Int):=by
   have:l.length≠0:=fun e=>h0 (by rw[e];rfl)
   omega
  rw[if_neg h0,if_pos (by decide),if_pos this];exact .some
end Go.Av.Air
