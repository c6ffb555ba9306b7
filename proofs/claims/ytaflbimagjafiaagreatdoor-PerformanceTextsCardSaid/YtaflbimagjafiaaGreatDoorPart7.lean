/- A part of the proof. -/
import Derived.Test.YtaflbimagjafiaaGreatDoorPart6
set_option linter.unusedVariables false
set_option linter.unusedSimpArgs false
set_option linter.unusedSectionVars false
set_option maxRecDepth 100000
noncomputable section
namespace Go.Av.Txs
open Go.Av
def pd (b:UInt8):Bool:=decide (33≤b.toNat)&&decide (b.toNat≤126)&&!(b==35)
def U3 (w:List UInt8):Prop:=0 < w.length∧∀ b∈w,pd b=true
def Dt (l:List (List UInt8)):List UInt8:=l.flatMap fun s=>32 :: s
def Bg:List (List UInt8)→List UInt8
 | []=>[]
 | w :: l=>w++Dt l
def Ax:Nat→List (List UInt8)→List Aj
 | _,[]=>[]
 | p,w :: l=>⟨w,(p:Int)+1⟩ :: Ax (p+w.length+1) l
theorem Md:∀ (l:List (List UInt8)) (p:Nat),(Ax p l).length=l.length
 | [],_=>rfl
 | w :: l,p=>by unfold Ax;rw[List.length_cons,List.length_cons,Md l]
theorem Zr:∀ (l:List (List UInt8)) (p i:Nat),i < l.length→((Ax p l).getD i default).Text=l.getD i []
 | [],_,_,h=>by simp at h
 | w :: l,p,0,_=>rfl
 | w :: l,p,i+1,h=>by
  unfold Ax
  have:=Zr l (p+w.length+1) i (by simpa using h)
  simpa using this
theorem f5 {b:UInt8} (h:pd b=true):33≤b.toNat∧b.toNat≤126∧b≠35:=by
 simp only[pd,Bool.and_eq_true,decide_eq_true_eq,Bool.not_eq_true',beq_eq_false_iff_ne,ne_eq]at h
 exact⟨h.1.1,h.1.2,h.2⟩
theorem Lz {y s r:List UInt8} {q i:Nat} (h:y.drop q=s++r) (hi:i < s.length):q+i < y.length∧A0 y (q+i)=(s[i].toNat:Int):=by
 have h1:(y.drop q)[i]?=some s[i]:=by rw[h,List.getElem?_append_left hi,List.getElem?_eq_getElem hi]
 rw[List.getElem?_drop]at h1
 exact⟨(List.getElem?_eq_some_iff.1 h1).1,by unfold A0;rw[h1]⟩
theorem Oy {a:List UInt8} {q:Nat} {s r:List UInt8} (h:a.drop q=s++r):a.drop (q+s.length)=r:=by
 rw[← List.drop_drop,h,List.drop_left]
theorem take_word {a:List UInt8} {q:Nat} {s r:List UInt8} (h:a.drop q=s++r):(a.take (q+s.length)).drop q=s:=by
 rw[List.drop_take,h,Nat.add_sub_cancel_left,List.take_left]
theorem gz {y w r:List UInt8} {q:Nat} (h:y.drop q=w++r) (hw:U3 w) (hr:r=[]∨∃ t,r=32 :: t):∀ (k j:Nat),j+k=w.length→Fk y (q+j)=q+w.length
 | 0,j,hj=>by
  obtain rfl:j=w.length:=by omega
  refine Mc fun hlt=>?_
  have h2:=Oy h
  rcases hr with rfl | ⟨t,rfl⟩
  ·have:=congrArg List.length h2
   rw[List.length_drop]at this
   simp at this
   omega
  ·have:=(Lz (s:=[32]) (i:=0) h2 (by simp)).2
   rw[Nat.add_zero]at this
   exact this
 | k+1,j,hj=>by
  obtain⟨h1,h2⟩:=Lz h (show j < w.length by omega)
  have h3:=f5 (hw.2 _ (List.getElem_mem (show j < w.length by omega)))
  rw[Oz h1 (by rw[h2];omega)]
  exact gz h hw hr k (j+1) (by omega)
theorem Vv {y w r:List UInt8} {q:Nat} (h:y.drop q=w++r) (hw:U3 w) (hr:r=[]∨∃ t,r=32 :: t):C3 y q=⟨w,(q:Int)+1⟩ :: C3 y (q+w.length):=by
 obtain⟨h1,h2⟩:=Lz h hw.1
 rw[Nat.add_zero]at h1 h2
 have h3:=f5 (hw.2 _ (List.getElem_mem hw.1))
 rw[Pp h1 (by rw[h2];omega),gz h hw hr (w.length - 1) 1 (by have:=hw.1;omega),take_word h]
theorem wg (l:List (List UInt8)):Dt l=[]∨∃ t,Dt l=32 :: t:=by
 cases l with
 | nil=>exact .inl rfl
 | cons s l=>exact .inr ⟨s++Dt l,rfl⟩
theorem Vu:∀ (l:List (List UInt8)) (y:List UInt8) (q:Nat),(∀ s∈l,U3 s)→q≤y.length→y.drop q=Dt l→C3 y q=Ax (q+1) l
 | [],y,q,_,hq,h=>by
  have:=congrArg List.length h
  rw[List.length_drop]at this
  simp[Dt]at this
  rw[Gs (by omega)]
  rfl
 | s :: l,y,q,hl,hq,h=>by
  have h':y.drop q=[32]++(s++Dt l):=h
  obtain⟨h1,h2⟩:=Lz (i:=0) h' (by simp)
  rw[Nat.add_zero]at h1 h2
  rw[Kz h1 h2]
  have hd:y.drop (q+1)=s++Dt l:=Oy h'
  rw[Vv hd (hl s (by simp)) (wg l)]
  have hd2:=Oy hd
  have hlen:q+1+s.length≤y.length:=by
   have:=congrArg List.length hd
   rw[List.length_drop,List.length_append]at this
   have:=(hl s (by simp)).1
   omega
  rw[Vu l y _ (fun t ht=>hl t (by simp[ht])) hlen hd2]
  rfl
theorem rr {l:List (List UInt8)} (hl:∀ s∈l,U3 s):C3 (Bg l) 0=Ax 0 l:=by
 cases l with
 | nil=>exact Gs (y:=[]) (i:=0) (Nat.le_refl _)
 | cons w l =>
  rw[Vv (y:=Bg (w :: l)) (q:=0) (w:=w) (r:=Dt l) rfl (hl w (by simp)) (wg l)]
  rw[Vu l (Bg (w :: l)) (0+w.length) (fun t ht=>hl t (by simp[ht])) (by simp[Bg]) (Oy (a:=Bg (w :: l)) (q:=0) (s:=w) (r:=Dt l) rfl)]
  rfl
theorem ab:∀ {l:List (List UInt8)},(∀ s∈l,U3 s)→∀ b∈Bg l,32≤b.toNat∧b.toNat≤126∧b≠35:=by
 intro l hl b hb
 have ok1:∀ {b:UInt8},pd b=true→32≤b.toNat∧b.toNat≤126∧b≠35:=fun {b} h=>by have:=f5 h;exact⟨by omega,this.2.1,this.2.2⟩
 cases l with
 | nil=>cases hb
 | cons w l =>
  rcases List.mem_append.1 hb with hb | hb
  ·exact ok1 ((hl w (by simp)).2 b hb)
  ·unfold Dt at hb
   obtain⟨s,hs,hb⟩:=List.mem_flatMap.1 hb
   rcases List.mem_cons.1 hb with rfl | hb
   ·exact⟨by decide,by decide,by decide⟩
   ·exact ok1 ((hl s (by simp[hs])).2 b hb)
theorem Xi {l:List (List UInt8)} (hl:∀ s∈l,U3 s) (hn:(Bg l).length≤200):Dn (Bg l)=(Ax 0 l,0,0):=by
 have hb:=ab hl
 unfold Dn
 rw[if_neg (by omega)]
 have h1:Dj (fun i=>if dt (Bg l) i=true then some (([]:List Aj),(i:Int)+1,(4:Int))else none) (Bg l).length=none:=firstR_none.2 fun i hi=>by
  have:=hb _ (List.getElem_mem hi)
  rw[if_neg]
  unfold dt
  rw[Jt hi]
  simp
  omega
 have h2:Di (Bg l)=(Bg l).length:=by
  rcases Nat.eq_or_lt_of_le (dw (Bg l)) with h | h
  ·exact h
  ·have h3:=tq h
   rw[Jt h]at h3
   have:=(hb _ (List.getElem_mem h)).2.2
   exact absurd (UInt8.toNat_inj.1 (show ((Bg l)[Di (Bg l)]).toNat=35 by omega)) this
 rw[h1,h2,List.take_length,rr hl]
 rfl
structure td (l:List (List UInt8)):Prop where
 words:∀ s∈l,U3 s
 pos:0 < l.length
 len:(Bg l).length≤200
def F7 (rs:List (List (List UInt8))):List UInt8:=rs.flatMap fun l=>Bg l++[10]
def Cz (rs:List (List (List UInt8))):List A7:=(List.range rs.length).map fun i:Nat=>⟨(i:Int)+1,Ax 0 (rs.getD i [])⟩
theorem zg (rs:List (List (List UInt8))):(Cz rs).length=rs.length:=by simp[Cz]
theorem M3 {rs:List (List (List UInt8))} {i:Nat} (h:i < rs.length):(Cz rs).getD i default=⟨(i:Int)+1,Ax 0 (rs.getD i [])⟩:=by
 unfold Cz
 rw[List.getD_eq_getElem?_getD,List.getElem?_map,List.getElem?_range h];rfl
theorem db:∀ (rs:List (List (List UInt8))),(∀ l∈rs,td l)→Bl 10 (F7 rs)=rs.map Bg++[[]]
 | [],_=>rfl
 | l :: rs,h=>by
  have hn:(10:UInt8) ∉ Bg l:=fun hm=>by
   have:=(ab (h l (by simp)).words _ hm).1
   exact absurd this (by decide)
  have e:F7 (l :: rs)=Bg l++10 :: F7 rs:=by
   unfold F7
   rw[List.flatMap_cons,List.append_assoc];rfl
  rw[e,Xh hn,db rs (fun k hk=>h k (by simp[hk]))];rfl
theorem AA2 {rs:List (List (List UInt8))} (h:∀ l∈rs,td l) (hn:(F7 rs).length≤262144):Dh (F7 rs)=([],Cz rs):=by
 unfold Dh
 rw[if_neg (by omega),db rs h]
 have key:∀ n,n≤rs.length→D5 (rs.map Bg++[[]]) n=((List.range n).map fun i:Nat=>(⟨(i:Int)+1,Ax 0 (rs.getD i [])⟩:A7),[]):=by
  intro n
  induction n with
  | zero=>intro _;rfl
  | succ n ih =>
   intro hn
   unfold D5
   rw[ih (by omega)]
   have hm:rs.getD n []∈rs:=by
    rw[List.getD_eq_getElem?_getD,List.getElem?_eq_getElem (by omega)];exact List.getElem_mem (by omega)
   have O:=h _ hm
   have e:(rs.map Bg++[[]]).getD n []=Bg (rs.getD n []):=by
    rw[List.getD_eq_getElem?_getD,List.getElem?_append_left (by rw[List.length_map];omega),List.getElem?_map,List.getElem?_eq_getElem (by omega),List.getD_eq_getElem?_getD,List.getElem?_eq_getElem (by omega)];rfl
   rw[e]
   unfold Nb
   rw[Xi O.words O.len,if_neg (fun h=>h rfl),if_pos (by show 0 < (Ax 0 (rs.getD n [])).length;rw[Md];exact O.pos),List.range_succ,List.map_append]
   rfl
 have hlast:D5 (rs.map Bg++[[]]) (rs.length+1)=D5 (rs.map Bg++[[]]) rs.length:=by
  have e:(rs.map Bg++[[]]).getD rs.length []=[]:=by
   rw[List.getD_eq_getElem?_getD,List.getElem?_append_right (by simp)];simp
  show Nb rs.length ((rs.map Bg++[[]]).getD rs.length []) _=_
  rw[e]
  unfold Nb
  rw[show Dn []=(([]:List Aj),(0:Int),(0:Int)) from Xi (l:=[]) (fun s hs=>by cases hs) (by simp[Bg]),if_neg (fun h=>h rfl),if_neg (by simp)]
 have elen:(rs.map Bg++[[]]).length=rs.length+1:=by simp
 rw[elen,hlast,key _ (Nat.le_refl _)]
 rfl
theorem Zf:∀ (n:Nat),∀ b∈Lib.decDigits n,Jv b=true:=by
 intro n
 induction n using Nat.strongRecOn with
 | _ n ih =>
  intro b hb
  by_cases h:n < 10
  ·rw[Lib.decDigits_one h,List.mem_singleton]at hb
   subst hb
   unfold Jv
   rw[show (UInt8.ofNat (48+n)).toNat=48+n from by simp;omega]
   simp
   omega
  ·rw[Nq h]at hb
   rcases List.mem_append.1 hb with hb | hb
   ·exact ih _ (by omega) b hb
   ·exact ih _ (by omega) b hb
theorem dec_all (n:Nat):(Lib.decDigits n).all Jv=true:=List.all_eq_true.2 (Zf n)
theorem dy:∀ (n:Nat),Az 0 (Lib.decDigits n)=n:=by
 intro n
 induction n using Nat.strongRecOn with
 | _ n ih =>
  by_cases h:n < 10
  ·rw[Lib.decDigits_one h]
   show 10 * 0+((UInt8.ofNat (48+n)).toNat - 48)=n
   rw[show (UInt8.ofNat (48+n)).toNat=48+n from by simp;omega]
   omega
  ·rw[Nq h,Lib.decDigits_one (i:=n % 10) (by omega)]
   have:=ih (n / 10) (by omega)
   unfold Az at this ⊢
   rw[List.foldl_append,this]
   show 10 * (n / 10)+((UInt8.ofNat (48+n % 10)).toNat - 48)=n
   rw[show (UInt8.ofNat (48+n % 10)).toNat=48+n % 10 from by simp;omega]
   omega
theorem Rr:∀ (n:Nat),∃ a l,Lib.decDigits n=a :: l∧(1≤n→49≤a.toNat):=by
 intro n
 induction n using Nat.strongRecOn with
 | _ n ih =>
  by_cases h:n < 10
  ·refine⟨_,_,Lib.decDigits_one h,fun h1=>?_⟩
   rw[show (UInt8.ofNat (48+n)).toNat=48+n from by simp;omega]
   omega
  ·obtain⟨a,l,h1,h2⟩:=ih (n / 10) (by omega)
   refine⟨a,l++Lib.decDigits (n % 10),by rw[Nq h,h1];rfl,fun _=>h2 (by omega)⟩
theorem m7 (n:Nat):Eb (Lib.decDigits n)=true:=by
 obtain⟨a,l,h1,h2⟩:=Rr n
 unfold Eb
 rw[dec_all,Bool.and_true]
 by_cases h:n < 10
 ·rw[Lib.decDigits_one h];rfl
 ·rw[h1]
  rw[show A0 (a :: l) 0=(a.toNat:Int) from rfl,show ((a.toNat:Int)==48)=false from by simp;have:=h2 (by omega);omega]
  simp
theorem dec_ng (n:Nat) (r:List UInt8):ng (Lib.decDigits n++r)=false:=by
 obtain⟨a,l,h1,h2⟩:=Rr n
 have ha:=M0 (Zf n a (by rw[h1];simp))
 unfold ng
 rw[h1,show A0 (a :: l++r) 0=(a.toNat:Int) from rfl,show ((a.toNat:Int)==45)=false from by simp;omega]
 simp
theorem itoa_ng (z:Int):ng (Lib.itoa z)=decide (z < 0)∧bd (Lib.itoa z)=Lib.decDigits z.natAbs:=by
 by_cases h:z < 0
 ·obtain⟨n,hn⟩:=Int.eq_ofNat_of_zero_le (by omega:0 ≤ -z)
  obtain rfl:z = -(n:Int):=by omega
  rw[Xy n (by omega)]
  have:ng (45 :: Lib.decDigits n)=true:=by unfold ng;rw[show A0 (45 :: Lib.decDigits n) 0=45 from rfl];simp
  refine⟨by rw[this];symm;exact decide_eq_true h,?_⟩
  unfold bd
  rw[this,if_pos rfl,show (-(n:Int)).natAbs=n from by omega]
  rfl
 ·obtain⟨n,rfl⟩:=Int.eq_ofNat_of_zero_le (by omega:0≤z)
  rw[Jo]
  have:ng (Lib.decDigits n)=false:=by have:=dec_ng n [];rwa [List.append_nil]at this
  refine⟨by rw[this];symm;exact decide_eq_false h,?_⟩
  unfold bd
  rw[this,if_neg (by decide)]
  rfl
theorem dec_0 {n:Nat} (h:1≤n):(Lib.decDigits n==[48])=false:=by
 rw[beq_eq_false_iff_ne]
 intro e
 have:=dy n
 rw[e]at this
 have h0:Az 0 [48]=0:=rfl
 omega
theorem pn_itoa {z lo hi:Int} (h1:lo≤z) (h2:z≤hi):pn (Lib.itoa z) lo hi=(z,0):=by
 obtain⟨e1,e2⟩:=itoa_ng z
 have hz:Pv (Lib.itoa z)=z:=by
  unfold Pv
  rw[e1,e2,dy]
  by_cases h:z < 0
  ·rw[if_pos (decide_eq_true h)];omega
  ·rw[if_neg (by simpa using h)];omega
 unfold pn
 rw[hz,e1,e2,m7,if_neg,if_pos ⟨h1,h2⟩]
 by_cases h:z < 0
 ·rw[dec_0 (by omega)];simp
 ·rw[show decide (z < 0)=false from decide_eq_false h];simp
theorem pa_alt {z:Int} (h1 : -200000≤z) (h2:z≤6000000):pa (Cm z)=(z,0):=by
 have e1:ng (Cm z)=decide (z < 0)∧bd (Cm z)=Lib.decDigits (z.natAbs / 100)++Hb z.natAbs:=by
  unfold Cm
  by_cases h:z < 0
  ·rw[if_pos h,List.append_assoc]
   have:ng ([45]++(Lib.decDigits (z.natAbs / 100)++Hb z.natAbs))=true:=by
    unfold ng
    rw[show A0 ([45]++(Lib.decDigits (z.natAbs / 100)++Hb z.natAbs)) 0=45 from rfl]
    simp
   refine⟨by rw[this];symm;exact decide_eq_true h,?_⟩
   unfold bd
   rw[this,if_pos rfl]
   rfl
  ·rw[if_neg h,List.nil_append]
   have:=dec_ng (z.natAbs / 100) (Hb z.natAbs)
   refine⟨by rw[this];symm;exact decide_eq_false h,?_⟩
   unfold bd
   rw[this,if_neg (by decide)]
 obtain⟨e1,e2⟩:=e1
 have hr:Gt (Cm z)=(z,true,true):=by
  unfold Gt
  rw[e1,e2]
  generalize hn:z.natAbs=n
  have hn6:n≤6000000:=by omega
  have hz:z=if z < 0 then -(n:Int)else(n:Int):=by split<;>omega
  have hv:=dy (n / 100)
  obtain⟨a0,l0,hh,_⟩:=Rr (n / 100)
  have fin:∀ q:List UInt8,k2 q=((n % 100:Nat):Int)→(if 1125899906842624 < Az 0 (Lib.decDigits (n / 100))then((0:Int),true,false)else(let m:=100 * (Az 0 (Lib.decDigits (n / 100)):Int)+k2 q
    let y:=if decide (z < 0)=true then -m else m
    (y,true,(decide ((-200000:Int)≤y))&&(decide (y≤6000000)))))=(z,true,true):=fun q hq=>by
   rw[hv,if_neg (by omega),hq]
   have hm:100 * ((n / 100:Nat):Int)+((n % 100:Nat):Int)=(n:Int):=by omega
   simp only[hm,decide_eq_true_eq]
   rw[← hz]
   rw[show decide ((-200000:Int)≤z)=true from decide_eq_true h1,show decide (z≤6000000)=true from decide_eq_true h2]
   rfl
  by_cases h0:n % 100=0
  ·have hf:Hb n=[]:=by unfold Hb;rw[if_pos h0]
   rw[hf,List.append_nil]
   have hd:Cx (Lib.decDigits (n / 100))=false:=by
    cases h:Cx (Lib.decDigits (n / 100)) with
    | false=>rfl
    | true =>
     unfold Cx at h
     rw[Bool.and_eq_true]at h
     have:=Zf _ _ (List.mem_of_getElem? (byteAt_46.1 h.2))
     revert this
     decide
   have hw:wp (Lib.decDigits (n / 100))=(Lib.decDigits (n / 100),[48,48]):=by unfold wp;rw[hd];rfl
   rw[hd,hw,if_neg (fun h=>by cases h.1),if_neg]
   ·exact fin [48,48] (by rw[h0];rfl)
   ·rw[m7]
    by_cases hz0:z < 0
    ·simp only[dec_0 (n:=n / 100) (by omega)];simp
    ·rw[show decide (z < 0)=false from decide_eq_false hz0];simp
  ·have hf:Hb n=[46]++Lib.decDigits (n % 100 / 10)++Lib.decDigits (n % 10):=by unfold Hb;rw[if_neg h0]
   rw[Lib.decDigits_one (i:=n % 100 / 10) (by omega),Lib.decDigits_one (i:=n % 10) (by omega)]at hf
   generalize hA:UInt8.ofNat (48+n % 100 / 10)=A at hf
   generalize hB:UInt8.ofNat (48+n % 10)=B at hf
   have hA2:A.toNat=48+n % 100 / 10:=by rw[← hA];simp;omega
   have hB2:B.toNat=48+n % 10:=by rw[← hB];simp;omega
   rw[hf]
   have hpl:=m7 (n / 100)
   generalize Lib.decDigits (n / 100)=Dg at hh fin hpl
   have hDl:0 < Dg.length:=by rw[hh];simp
   have hlen:(Dg++([46]++[A]++[B])).length=Dg.length+3:=by simp
   have hd:Cx (Dg++([46]++[A]++[B]))=true:=by
    unfold Cx
    rw[hlen,Nat.add_sub_cancel,show decide (3 < Dg.length+3)=true from decide_eq_true (by omega),Bool.true_and]
    refine byteAt_46.2 ?_
    rw[List.getElem?_append_right (Nat.le_refl _),Nat.sub_self]
    rfl
   have hdr:(Dg++([46]++[A]++[B])).drop (Dg.length+3 - 2)=[A,B]:=by
    rw[show Dg.length+3 - 2=Dg.length+1 from by omega,← List.drop_drop,List.drop_left]
    rfl
   have hw:wp (Dg++([46]++[A]++[B]))=(Dg,[A,B]):=by
    unfold wp
    rw[hd,if_pos rfl,hlen,hdr,Nat.add_sub_cancel,List.take_left]
   have b0:A0 [A,B] 0=(A.toNat:Int):=rfl
   have b1:A0 [A,B] 1=(B.toNat:Int):=rfl
   have hne:(([A,B]:List UInt8)==[48,48])=false:=by
    rw[beq_eq_false_iff_ne]
    intro e
    injection e with e1 e2
    injection e2 with e2
    subst e1 e2
    have:(48:UInt8).toNat=48:=rfl
    omega
   have hbp:Mp [A,B]=false:=by
    unfold Mp
    rw[hne,b0,b1,hA2,hB2]
    simp
    omega
   rw[hd,hw,hlen,hdr,hbp,if_neg (fun h=>by cases h.2),hne,Bool.and_false,Bool.or_false,hpl,if_neg (by decide)]
   exact fin [A,B] (by unfold k2;rw[b0,b1,hA2,hB2];omega)
 unfold pa
 rw[hr]
 rfl
end Go.Av.Txs
set_option maxRecDepth 100000
namespace Go.Av.Pk
open Go.Av
abbrev Uo (a0:List UInt8):(Int)→Option ((Int)⊕((Unit)⊕(Bool))):=(fun(s1:Int)=>((if(decide (s1 < (a0.length:Int)))=true then(if(0≤s1)then(if(s1 < (a0.length:Int))then(if(!(decide ((A0 a0 s1.toNat) < 65)))=true→(0≤s1)then(if(!(decide ((A0 a0 s1.toNat) < 65)))=true→(s1 < (a0.length:Int))then(if((decide ((A0 a0 s1.toNat) < 65)) || (decide (90 < (A0 a0 s1.toNat))))=true→(0≤s1)then(if((decide ((A0 a0 s1.toNat) < 65)) || (decide (90 < (A0 a0 s1.toNat))))=true→(s1 < (a0.length:Int))then(if(((decide ((A0 a0 s1.toNat) < 65)) || (decide (90 < (A0 a0 s1.toNat))))&&(!(decide ((A0 a0 s1.toNat) < 48))))=true→(0≤s1)then(if(((decide ((A0 a0 s1.toNat) < 65)) || (decide (90 < (A0 a0 s1.toNat))))&&(!(decide ((A0 a0 s1.toNat) < 48))))=true→(s1 < (a0.length:Int))then(if(((decide ((A0 a0 s1.toNat) < 65)) || (decide (90 < (A0 a0 s1.toNat))))&&((decide ((A0 a0 s1.toNat) < 48)) || (decide (57 < (A0 a0 s1.toNat)))))=true then(some (.inr (.inr (false))))else(some (.inl (IntKind.wrap .i64 (s1+1)))))else none)else none)else none)else none)else none)else none)else none)else none)else(some (.inr (.inl ())))):Option ((Int)⊕((Unit)⊕(Bool)))))
theorem A55  (a0:List UInt8) (a1:Int):m55 a0 a1=((Option.bind (if(!(((a0.length:Int)==(0:Int)) || (decide (a1 < (a0.length:Int)))))=true→((0:Int)≤(0:Int))then(if(!(((a0.length:Int)==(0:Int)) || (decide (a1 < (a0.length:Int)))))=true→(0 < (a0.length:Int))then(if(!((((a0.length:Int)==(0:Int)) || (decide (a1 < (a0.length:Int)))) || (decide ((A0 a0 (0:Int).toNat) < 65))))=true→((0:Int)≤(0:Int))then(if(!((((a0.length:Int)==(0:Int)) || (decide (a1 < (a0.length:Int)))) || (decide ((A0 a0 (0:Int).toNat) < 65))))=true→(0 < (a0.length:Int))then(if(((((a0.length:Int)==(0:Int)) || (decide (a1 < (a0.length:Int)))) || (decide ((A0 a0 (0:Int).toNat) < 65))) || (decide (90 < (A0 a0 (0:Int).toNat))))=true then(some (.inr (false)))else(some (.inl ())))else none)else none)else none)else none) (Ad fun(_:Unit)=>(Option.bind (Option.bind (some (.inl ())) (Ad fun(_:Unit)=>(Ak (Uo a0) (0:Int)))) (Ad fun(_:Unit)=>(some true))))):Option (Bool)):=by kernel_rfl
theorem A56  (a0 a1 a2:Int):Mh a0 a1 a2=((some ((decide (a1≤a0))&&(decide (a0≤a2)))):Option (Bool)):=by kernel_rfl
abbrev ai (a1:List (List Int)) (a0:Ah):(Int)→Option ((Int)⊕((Unit)⊕(Bool))):=(fun(s1:Int)=>((if(decide (s1 < (a1.length:Int)))=true then(if(0≤s1)then(if(s1 < (a1.length:Int))then(if(((a1.getD s1.toNat default).length:Int) != (a0.Masses.length:Int))=true then(some (.inr (.inr (false))))else(some (.inl (IntKind.wrap .i64 (s1+1)))))else none)else none)else(some (.inr (.inl ())))):Option ((Int)⊕((Unit)⊕(Bool)))))
theorem A57  (a0:Ah) (a1:List (List Int)):br a0 a1=((Option.bind (some (.inl ())) (Ad fun(_:Unit)=>(Option.bind (Option.bind (some (.inl ())) (Ad fun(_:Unit)=>(Ak (ai a1 a0) (0:Int)))) (Ad fun(_:Unit)=>(some ((a1.length:Int)==(a0.Alts.length:Int))))))):Option (Bool)):=by kernel_rfl
abbrev aj (a0:List Int):(Int)→Option ((Int)⊕((Unit)⊕(Bool))):=(fun(s1:Int)=>((if(decide (s1 < (a0.length:Int)))=true then(if(0≤s1)then(if(s1 < (a0.length:Int))then(if(0≤(IntKind.wrap .i64 (s1 - 1)))then(if((IntKind.wrap .i64 (s1 - 1)) < (a0.length:Int))then(if(decide ((a0.getD s1.toNat default)≤(a0.getD (IntKind.wrap .i64 (s1 - 1)).toNat default)))=true then(some (.inr (.inr (false))))else(some (.inl (IntKind.wrap .i64 (s1+1)))))else none)else none)else none)else none)else(some (.inr (.inl ())))):Option ((Int)⊕((Unit)⊕(Bool)))))
theorem A58  (a0:List Int):nj a0=((Option.bind (some (.inl ())) (Ad fun(_:Unit)=>(Option.bind (Option.bind (some (.inl ())) (Ad fun(_:Unit)=>(Ak (aj a0) (1:Int)))) (Ad fun(_:Unit)=>(some true))))):Option (Bool)):=by kernel_rfl
abbrev ak (a0:List Int) (a1:Int) (a2:Int):(Int)→Option ((Int)⊕((Unit)⊕(Bool))):=(fun(s1:Int)=>((if(decide (s1 < (a0.length:Int)))=true then(if(0≤s1)then(if(s1 < (a0.length:Int))then(Option.bind (Option.bind (Mh (a0.getD s1.toNat default) a1 a2) fun r=>some r) fun x4=>(if(!x4)=true then(some (.inr (.inr (false))))else(some (.inl (IntKind.wrap .i64 (s1+1))))))else none)else none)else(some (.inr (.inl ())))):Option ((Int)⊕((Unit)⊕(Bool)))))
theorem A59  (a0:List Int) (a1 a2:Int):Mv a0 a1 a2=((Option.bind (some (.inl ())) (Ad fun(_:Unit)=>(Option.bind (Option.bind (some (.inl ())) (Ad fun(_:Unit)=>(Ak (ak a0 a1 a2) (0:Int)))) (Ad fun(_:Unit)=>(some true))))):Option (Bool)):=by kernel_rfl
abbrev am (a0:List (List Int)) (a1:Int) (a2:Int):(Int)→Option ((Int)⊕((Unit)⊕(Bool))):=(fun(s1:Int)=>((if(decide (s1 < (a0.length:Int)))=true then(if(0≤s1)then(if(s1 < (a0.length:Int))then(Option.bind (Option.bind (Mv (a0.getD s1.toNat default) a1 a2) fun r=>some r) fun x4=>(if(!x4)=true then(some (.inr (.inr (false))))else(some (.inl (IntKind.wrap .i64 (s1+1))))))else none)else none)else(some (.inr (.inl ())))):Option ((Int)⊕((Unit)⊕(Bool)))))
theorem A60  (a0:List (List Int)) (a1 a2:Int):bt a0 a1 a2=((Option.bind (some (.inl ())) (Ad fun(_:Unit)=>(Option.bind (Option.bind (some (.inl ())) (Ad fun(_:Unit)=>(Ak (am a0 a1 a2) (0:Int)))) (Ad fun(_:Unit)=>(some true))))):Option (Bool)):=by kernel_rfl
abbrev ao (a0:List Int) (a1:Int):(Int)→Option ((Int)⊕((Unit)⊕(Bool))):=(fun(s1:Int)=>((if(decide (s1 < (a0.length:Int)))=true then(if(0≤s1)then(if(s1 < (a0.length:Int))then(if(0≤(IntKind.wrap .i64 (s1 - 1)))then(if((IntKind.wrap .i64 (s1 - 1)) < (a0.length:Int))then(if(decide ((IntKind.wrap .i64 (a1 * (a0.getD s1.toNat default))) < (IntKind.wrap .i64 (a1 * (a0.getD (IntKind.wrap .i64 (s1 - 1)).toNat default)))))=true then(some (.inr (.inr (false))))else(some (.inl (IntKind.wrap .i64 (s1+1)))))else none)else none)else none)else none)else(some (.inr (.inl ())))):Option ((Int)⊕((Unit)⊕(Bool)))))
theorem A63  (a0:List Int) (a1:Int):U1 a0 a1=((Option.bind (some (.inl ())) (Ad fun(_:Unit)=>(Option.bind (Option.bind (some (.inl ())) (Ad fun(_:Unit)=>(Ak (ao a0 a1) (1:Int)))) (Ad fun(_:Unit)=>(some true))))):Option (Bool)):=by kernel_rfl
abbrev Qc (a0:List UInt8):(Int)→Option ((Int)⊕((Unit)⊕(Bool))):=(fun(s1:Int)=>((if(decide (s1 < (a0.length:Int)))=true then(if(0≤s1)then(if(s1 < (a0.length:Int))then(if(!(decide ((A0 a0 s1.toNat) < 65)))=true→(0≤s1)then(if(!(decide ((A0 a0 s1.toNat) < 65)))=true→(s1 < (a0.length:Int))then(if((decide ((A0 a0 s1.toNat) < 65)) || (decide (90 < (A0 a0 s1.toNat))))=true→(0≤s1)then(if((decide ((A0 a0 s1.toNat) < 65)) || (decide (90 < (A0 a0 s1.toNat))))=true→(s1 < (a0.length:Int))then(if(((decide ((A0 a0 s1.toNat) < 65)) || (decide (90 < (A0 a0 s1.toNat))))&&(!(decide ((A0 a0 s1.toNat) < 48))))=true→(0≤s1)then(if(((decide ((A0 a0 s1.toNat) < 65)) || (decide (90 < (A0 a0 s1.toNat))))&&(!(decide ((A0 a0 s1.toNat) < 48))))=true→(s1 < (a0.length:Int))then(if(((decide ((A0 a0 s1.toNat) < 65)) || (decide (90 < (A0 a0 s1.toNat))))&&((decide ((A0 a0 s1.toNat) < 48)) || (decide (57 < (A0 a0 s1.toNat)))))=true then(some (.inr (.inr (false))))else(some (.inl (IntKind.wrap .i64 (s1+1)))))else none)else none)else none)else none)else none)else none)else none)else none)else(some (.inr (.inl ())))):Option ((Int)⊕((Unit)⊕(Bool)))))
theorem wv  (a0:List UInt8) (a1:Int):na a0 a1=((Option.bind (if(!((decide ((a0.length:Int) < (1:Int))) || (decide (a1 < (a0.length:Int)))))=true→((0:Int)≤(0:Int))then(if(!((decide ((a0.length:Int) < (1:Int))) || (decide (a1 < (a0.length:Int)))))=true→(0 < (a0.length:Int))then(if(!(((decide ((a0.length:Int) < (1:Int))) || (decide (a1 < (a0.length:Int)))) || (decide ((A0 a0 (0:Int).toNat) < 65))))=true→((0:Int)≤(0:Int))then(if(!(((decide ((a0.length:Int) < (1:Int))) || (decide (a1 < (a0.length:Int)))) || (decide ((A0 a0 (0:Int).toNat) < 65))))=true→(0 < (a0.length:Int))then(if((((decide ((a0.length:Int) < (1:Int))) || (decide (a1 < (a0.length:Int)))) || (decide ((A0 a0 (0:Int).toNat) < 65))) || (decide (90 < (A0 a0 (0:Int).toNat))))=true then(some (.inr (false)))else(some (.inl ())))else none)else none)else none)else none) (Ad fun(_:Unit)=>(Option.bind (Option.bind (some (.inl ())) (Ad fun(_:Unit)=>(Ak (Qc a0) (0:Int)))) (Ad fun(_:Unit)=>(some true))))):Option (Bool)):=by kernel_rfl
abbrev Qd (a0:List (List Int)) (a2:Int):(Int)→Option ((Int)⊕((Unit)⊕(Bool))):=(fun(s1:Int)=>((if(decide (s1 < (a0.length:Int)))=true then(if(0≤s1)then(if(s1 < (a0.length:Int))then(if(((a0.getD s1.toNat default).length:Int) != a2)=true then(some (.inr (.inr (false))))else(some (.inl (IntKind.wrap .i64 (s1+1)))))else none)else none)else(some (.inr (.inl ())))):Option ((Int)⊕((Unit)⊕(Bool)))))
theorem A103  (a0:List (List Int)) (a1 a2:Int):Rz a0 a1 a2=((Option.bind (if((a0.length:Int) != a1)=true then(some (.inr (false)))else(some (.inl ()))) (Ad fun(_:Unit)=>(Option.bind (Option.bind (some (.inl ())) (Ad fun(_:Unit)=>(Ak (Qd a0 a2) (0:Int)))) (Ad fun(_:Unit)=>(some true))))):Option (Bool)):=by kernel_rfl
abbrev Qe (a0:List Int):(Int)→Option ((Int)⊕((Unit)⊕(Bool))):=(fun(s1:Int)=>((if(decide (s1 < (a0.length:Int)))=true then(if(0≤s1)then(if(s1 < (a0.length:Int))then(if(0≤(IntKind.wrap .i64 (s1 - 1)))then(if((IntKind.wrap .i64 (s1 - 1)) < (a0.length:Int))then(if(decide ((a0.getD s1.toNat default)≤(a0.getD (IntKind.wrap .i64 (s1 - 1)).toNat default)))=true then(some (.inr (.inr (false))))else(some (.inl (IntKind.wrap .i64 (s1+1)))))else none)else none)else none)else none)else(some (.inr (.inl ())))):Option ((Int)⊕((Unit)⊕(Bool)))))
theorem A104  (a0:List Int):Y1 a0=((Option.bind (some (.inl ())) (Ad fun(_:Unit)=>(Option.bind (Option.bind (some (.inl ())) (Ad fun(_:Unit)=>(Ak (Qe a0) (1:Int)))) (Ad fun(_:Unit)=>(some true))))):Option (Bool)):=by kernel_rfl
abbrev Qf (a0:List Int) (a1:Int) (a2:Int):(Int)→Option ((Int)⊕((Unit)⊕(Bool))):=(fun(s1:Int)=>((if(decide (s1 < (a0.length:Int)))=true then(if(0≤s1)then(if(s1 < (a0.length:Int))then(if((decide ((a0.getD s1.toNat default) < a1)) || (decide (a2 < (a0.getD s1.toNat default))))=true then(some (.inr (.inr (false))))else(some (.inl (IntKind.wrap .i64 (s1+1)))))else none)else none)else(some (.inr (.inl ())))):Option ((Int)⊕((Unit)⊕(Bool)))))
theorem A105  (a0:List Int) (a1 a2:Int):El a0 a1 a2=((Option.bind (some (.inl ())) (Ad fun(_:Unit)=>(Option.bind (Option.bind (some (.inl ())) (Ad fun(_:Unit)=>(Ak (Qf a0 a1 a2) (0:Int)))) (Ad fun(_:Unit)=>(some true))))):Option (Bool)):=by kernel_rfl
abbrev Qg (a0:List (List Int)) (a1:Int) (a2:Int):(Int)→Option ((Int)⊕((Unit)⊕(Bool))):=(fun(s1:Int)=>((if(decide (s1 < (a0.length:Int)))=true then(if(0≤s1)then(if(s1 < (a0.length:Int))then(Option.bind (Option.bind (El (a0.getD s1.toNat default) a1 a2) fun r=>some r) fun x4=>(if(!x4)=true then(some (.inr (.inr (false))))else(some (.inl (IntKind.wrap .i64 (s1+1))))))else none)else none)else(some (.inr (.inl ())))):Option ((Int)⊕((Unit)⊕(Bool)))))
theorem A106  (a0:List (List Int)) (a1 a2:Int):S0 a0 a1 a2=((Option.bind (some (.inl ())) (Ad fun(_:Unit)=>(Option.bind (Option.bind (some (.inl ())) (Ad fun(_:Unit)=>(Ak (Qg a0 a1 a2) (0:Int)))) (Ad fun(_:Unit)=>(some true))))):Option (Bool)):=by kernel_rfl
abbrev Ql (a0:List Int):(Int)→Option ((Int)⊕((Unit)⊕(Bool))):=(fun(s1:Int)=>((if(decide (s1 < (a0.length:Int)))=true then(if(0≤s1)then(if(s1 < (a0.length:Int))then(if(0≤(IntKind.wrap .i64 (s1 - 1)))then(if((IntKind.wrap .i64 (s1 - 1)) < (a0.length:Int))then(if(decide ((a0.getD s1.toNat default) < (a0.getD (IntKind.wrap .i64 (s1 - 1)).toNat default)))=true then(some (.inr (.inr (false))))else(some (.inl (IntKind.wrap .i64 (s1+1)))))else none)else none)else none)else none)else(some (.inr (.inl ())))):Option ((Int)⊕((Unit)⊕(Bool)))))
theorem A109  (a0:List Int):Y3 a0=((Option.bind (some (.inl ())) (Ad fun(_:Unit)=>(Option.bind (Option.bind (some (.inl ())) (Ad fun(_:Unit)=>(Ak (Ql a0) (1:Int)))) (Ad fun(_:Unit)=>(some true))))):Option (Bool)):=by kernel_rfl
abbrev Qm (a0:List Int):(Int)→Option ((Int)⊕((Unit)⊕(Bool))):=(fun(s1:Int)=>((if(decide (s1 < (a0.length:Int)))=true then(if(0≤s1)then(if(s1 < (a0.length:Int))then(if(0≤(IntKind.wrap .i64 (s1 - 1)))then(if((IntKind.wrap .i64 (s1 - 1)) < (a0.length:Int))then(if(decide ((a0.getD (IntKind.wrap .i64 (s1 - 1)).toNat default) < (a0.getD s1.toNat default)))=true then(some (.inr (.inr (false))))else(some (.inl (IntKind.wrap .i64 (s1+1)))))else none)else none)else none)else none)else(some (.inr (.inl ())))):Option ((Int)⊕((Unit)⊕(Bool)))))
theorem A110  (a0:List Int):Y4 a0=((Option.bind (some (.inl ())) (Ad fun(_:Unit)=>(Option.bind (Option.bind (some (.inl ())) (Ad fun(_:Unit)=>(Ak (Qm a0) (1:Int)))) (Ad fun(_:Unit)=>(some true))))):Option (Bool)):=by kernel_rfl
theorem s32 (n lo hi:Int):Mh n lo hi=some (decide (lo≤n)&&decide (n≤hi)):=by rw[A56]
def inL (lo hi:Int) (l:List Int):Bool:=Bv 0 l.length fun i=>decide (lo≤l.getD i default)&&decide (l.getD i default≤hi)
theorem qx {l:List Int} (lo hi:Int) (hl:l.length≤maxLen):Mv l lo hi=some (inL lo hi l):=by
 have hm:=Bi hl
 have e:Ak (ak l lo hi) 0=_:=Bq (n:=l.length) (fun i=>decide (lo≤l.getD i default)&&decide (l.getD i default≤hi)) (.inr false) (.inl ()) (fun i hi=>by simp only[ak,A59,Ad,Ba hi,decide_false,Bool.false_eq_true,if_false];try rfl) _ 0 rfl fun i _ hi'=>by
  have h0:(0:Int)≤i:=by omega
  have h1:(i:Int) < l.length:=by omega
  simp only[ak,A59,Ad,s32,Int.toNat_natCast,h0,h1,decide_true,if_true,Option.bind_some]
  rw[B2 (by omega) (by omega)]
  generalize (decide (lo≤l.getD i default)&&decide (l.getD i default≤hi))=c
  cases c<;>rfl
 simp only[A59,Ad,Option.bind_some,e]
 unfold inL
 generalize Bv _ _ _=c
 cases c<;>rfl
def inT (lo hi:Int) (t:List (List Int)):Bool:=Bv 0 t.length fun i=>inL lo hi (t.getD i default)
def Py (t:List (List Int)):Prop:=t.length≤maxLen∧∀ l∈t,l.length≤maxLen
theorem s36 {t:List (List Int)} (lo hi:Int) (ht:Py t):bt t lo hi=some (inT lo hi t):=by
 have hm:=Bi ht.1
 have e:Ak (am t lo hi) 0=_:=Bq (n:=t.length) (fun i=>inL lo hi (t.getD i default)) (.inr false) (.inl ()) (fun i hi=>by simp only[am,A60,Ad,Ba hi,decide_false,Bool.false_eq_true,if_false];try rfl) _ 0 rfl fun i _ hi'=>by
  have h0:(0:Int)≤i:=by omega
  have h1:(i:Int) < t.length:=by omega
  have h2:(t.getD i default).length≤maxLen:=ht.2 _ (Ay hi')
  simp only[am,A60,Ad,Int.toNat_natCast,qx lo hi h2,h0,h1,decide_true,if_true,Option.bind_some]
  rw[B2 (by omega) (by omega)]
  generalize inL lo hi (t.getD i default)=c
  cases c<;>rfl
 simp only[A60,Ad,Option.bind_some,e]
 unfold inT
 generalize Bv _ _ _=c
 cases c<;>rfl
def shT (n m:Nat) (t:List (List Int)):Bool:=(Bv 0 t.length fun i=>(t.getD i default).length==m)&&t.length==n
theorem s33 {p:Ah} {t:List (List Int)} (ht:Py t):br p t=some (shT p.Alts.length p.Masses.length t):=by
 have hm:=Bi ht.1
 have e:Ak (ai t p) 0=_:=Bq (n:=t.length) (fun i=>(t.getD i default).length==p.Masses.length) (.inr false) (.inl ()) (fun i hi=>by simp only[ai,A57,Ad,Ba hi,decide_false,Bool.false_eq_true,if_false];try rfl) _ 0 rfl fun i _ hi'=>by
  have h0:(0:Int)≤i:=by omega
  have h1:(i:Int) < t.length:=by omega
  simp only[ai,A57,Ad,Int.toNat_natCast,h0,h1,decide_true,if_true,Option.bind_some,Xr]
  rw[B2 (by omega) (by omega),bne]
  generalize ((t.getD i default).length==p.Masses.length)=c
  cases c<;>rfl
 simp only[A57,Ad,Option.bind_some,e,Ro]
 unfold shT
 generalize Bv _ _ _=c
 cases c<;>simp
def U6 (l:List Int):Bool:=Bv 1 l.length fun i=>!decide (l.getD i default≤l.getD (i - 1) default)
theorem Vc (i:Nat) (h:1≤i):(i:Int) - 1=((i - 1:Nat):Int):=by omega
theorem s34 {l:List Int} (hl:l.length≤maxLen):nj l=some (U6 l):=by
 have hm:=Bi hl
 have e:Ak (aj l) 1=_:=Bq (n:=l.length) (fun i=>!decide (l.getD i default≤l.getD (i - 1) default)) (.inr false) (.inl ()) (fun i hi=>by simp only[aj,A58,Ad,Ba hi,decide_false,Bool.false_eq_true,if_false];try rfl) _ 1 rfl fun i h1' hi'=>by
   have h0:(0:Int)≤i:=by omega
   have h1:(i:Int) < l.length:=by omega
   have h2:(0:Int)≤((i - 1:Nat):Int):=by omega
   have h3:((i - 1:Nat):Int) < l.length:=by omega
   simp only[aj,A58,Ad]
   rw[B2 (x:=(i:Int) - 1) (by omega) (by omega),B2 (x:=(i:Int)+1) (by omega) (by omega),Vc i h1']
   simp only[Int.toNat_natCast,h0,h1,h2,h3,decide_true,if_true]
   by_cases hc:l.getD i default≤l.getD (i - 1) default<;>(simp only[hc,decide_true,decide_false,Bool.false_eq_true,if_true,if_false,Bool.not_true,Bool.not_false];try rfl)
 simp only[A58,Ad,Option.bind_some,e]
 unfold U6
 generalize Bv _ _ _=c
 cases c<;>rfl
def Fb (sg:Int) (l:List Int):Bool:=Bv 1 l.length fun i=>!decide (sg * l.getD i default < sg * l.getD (i - 1) default)
def sm (l:List Int):Prop:=∀ i,-1000000000000≤l.getD i default∧l.getD i default≤1000000000000
theorem s39 {l:List Int} {sg:Int} (hl:l.length≤maxLen) (hs:sg=1∨sg = -1) (hb:sm l):U1 l sg=some (Fb sg l):=by
 have hm:=Bi hl
 have e:Ak (ao l sg) 1=_:=Bq (n:=l.length) (fun i=>!decide (sg * l.getD i default < sg * l.getD (i - 1) default)) (.inr false) (.inl ()) (fun i hi=>by simp only[ao,A63,Ad,Ba hi,decide_false,Bool.false_eq_true,if_false];try rfl) _ 1 rfl fun i h1' hi'=>by
   have h0:(0:Int)≤i:=by omega
   have h1:(i:Int) < l.length:=by omega
   have h2:(0:Int)≤((i - 1:Nat):Int):=by omega
   have h3:((i - 1:Nat):Int) < l.length:=by omega
   have b1:=hb i
   have b2:=hb (i - 1)
   simp only[ao,A63,Ad]
   rw[B2 (x:=(i:Int) - 1) (by omega) (by omega),B2 (x:=(i:Int)+1) (by omega) (by omega),Vc i h1']
   have e1:IntKind.wrap .i64 (sg * l.getD i default)=sg * l.getD i default:=by rcases hs with rfl | rfl<;>exact B2 (by omega) (by omega)
   have e2:IntKind.wrap .i64 (sg * l.getD (i - 1) default)=sg * l.getD (i - 1) default:=by rcases hs with rfl | rfl<;>exact B2 (by omega) (by omega)
   simp only[Int.toNat_natCast,h0,h1,h2,h3,e1,e2,decide_true,if_true]
   by_cases hc:sg * l.getD i default < sg * l.getD (i - 1) default<;>(simp only[hc,decide_true,decide_false,Bool.false_eq_true,if_true,if_false,Bool.not_true,Bool.not_false];try rfl)
 simp only[A63,Ad,Option.bind_some,e]
 unfold Fb
 generalize Bv _ _ _=c
 cases c<;>rfl
def Sh (m:Nat) (t:List (List Int)):Prop:=∀ i,i < t.length→(t.getD i default).length=m
def tb (t:List (List Int)) (i j:Nat):Int:=(t.getD i default).getD j default
def W0 (t:List (List Int)) (i:Nat):Bool:=Bv 0 (t.getD i default).length fun j=>!(decide (0 < i)&&decide (tb t (i - 1) j < tb t i j))
def Jc (sg:Int) (t:List (List Int)):Bool:=Bv 0 t.length fun i=>Fb sg (t.getD i default)&&W0 t i
def smT (t:List (List Int)):Prop:=∀ i j,-1000000000000≤tb t i j∧tb t i j≤1000000000000
theorem inE (lo hi x:Int):(decide (lo≤x)&&decide (x≤hi))=!(decide (x < lo) || decide (hi < x)):=by
 rw[Bool.eq_iff_iff];simp
theorem jq {l:List Int} (lo hi:Int) (hl:l.length≤maxLen):El l lo hi=some (inL lo hi l):=by
 have hm:=Bi hl
 have e:Ak (Qf l lo hi) 0=_:=Bq (b:=Qf l lo hi) (n:=l.length) (fun i=>decide (lo≤l.getD i default)&&decide (l.getD i default≤hi)) (.inr false) (.inl ()) (fun i hi=>by simp only[Qf,A105,Ad,Ba hi,decide_false,Bool.false_eq_true,if_false];try rfl) _ 0 rfl fun i _ hi'=>by
  have h0:(0:Int)≤i:=by omega
  have h1:(i:Int) < l.length:=by omega
  simp only[Qf,A105,Ad,Int.toNat_natCast,h0,h1,decide_true,if_true,Option.bind_some,inE]
  rw[B2 (by omega) (by omega)]
  by_cases c1:l.getD i default < lo<;>by_cases c2:hi < l.getD i default<;>(simp only[c1,c2,decide_true,decide_false,Bool.false_eq_true,if_true,if_false,Bool.not_true,Bool.not_false,Bool.or_true,Bool.or_false,Bool.true_or,Bool.false_or];try rfl)
 simp only[A105,Ad,Option.bind_some,e]
 unfold inL
 generalize Bv _ _ _=c
 cases c<;>rfl
theorem s44 {t:List (List Int)} (lo hi:Int) (ht:Py t):S0 t lo hi=some (inT lo hi t):=by
 have hm:=Bi ht.1
 have e:Ak (Qg t lo hi) 0=_:=Bq (b:=Qg t lo hi) (n:=t.length) (fun i=>inL lo hi (t.getD i default)) (.inr false) (.inl ()) (fun i hi=>by simp only[Qg,A106,Ad,Ba hi,decide_false,Bool.false_eq_true,if_false];try rfl) _ 0 rfl fun i _ hi'=>by
  have h0:(0:Int)≤i:=by omega
  have h1:(i:Int) < t.length:=by omega
  have h2:(t.getD i default).length≤maxLen:=ht.2 _ (Ay hi')
  simp only[Qg,A106,Ad,Int.toNat_natCast,jq lo hi h2,h0,h1,decide_true,if_true,Option.bind_some]
  rw[B2 (by omega) (by omega)]
  generalize inL lo hi (t.getD i default)=c
  cases c<;>rfl
 simp only[A106,Ad,Option.bind_some,e]
 unfold inT
 generalize Bv _ _ _=c
 cases c<;>rfl
theorem s41 {t:List (List Int)} (n m:Nat) (ht:Py t):Rz t n m=some (shT n m t):=by
 have hm:=Bi ht.1
 have e:Ak (Qd t m) 0=_:=Bq (b:=Qd t m) (n:=t.length) (fun i=>(t.getD i default).length==m) (.inr false) (.inl ()) (fun i hi=>by simp only[Qd,A103,Ad,Ba hi,decide_false,Bool.false_eq_true,if_false];try rfl) _ 0 rfl fun i _ hi'=>by
  have h0:(0:Int)≤i:=by omega
  have h1:(i:Int) < t.length:=by omega
  simp only[Qd,A103,Ad,Int.toNat_natCast,h0,h1,decide_true,if_true,Option.bind_some,Xr]
  rw[B2 (by omega) (by omega),bne]
  generalize ((t.getD i default).length==m)=c
  cases c<;>rfl
 simp only[A103,Ad,Option.bind_some,e,Xr]
 rw[bne]
 unfold shT
 generalize Bv _ _ _=c
 generalize (t.length==n)=d
 cases c<;>cases d<;>rfl
theorem s42 {l:List Int} (hl:l.length≤maxLen):Y1 l=some (U6 l):=by
 have hm:=Bi hl
 have e:Ak (Qe l) 1=_:=Bq (b:=Qe l) (n:=l.length) (fun i=>!decide (l.getD i default≤l.getD (i - 1) default)) (.inr false) (.inl ()) (fun i hi=>by simp only[Qe,A104,Ad,Ba hi,decide_false,Bool.false_eq_true,if_false];try rfl) _ 1 rfl fun i h1' hi'=>by
   have h0:(0:Int)≤i:=by omega
   have h1:(i:Int) < l.length:=by omega
   have h2:(0:Int)≤((i - 1:Nat):Int):=by omega
   have h3:((i - 1:Nat):Int) < l.length:=by omega
   simp only[Qe,A104,Ad]
   rw[B2 (x:=(i:Int) - 1) (by omega) (by omega),B2 (x:=(i:Int)+1) (by omega) (by omega),Vc i h1']
   simp only[Int.toNat_natCast,h0,h1,h2,h3,decide_true,if_true]
   by_cases hc:l.getD i default≤l.getD (i - 1) default<;>(simp only[hc,decide_true,decide_false,Bool.false_eq_true,if_true,if_false,Bool.not_true,Bool.not_false];try rfl)
 have h:(U6 l)=Bv 1 l.length fun i=>!decide (l.getD i default≤l.getD (i - 1) default):=rfl
 simp only[A104,Ad,Option.bind_some,e]
 rw[h]
 generalize Bv _ _ _=c
 cases c<;>rfl
theorem s47 {l:List Int} (hl:l.length≤maxLen):Y3 l=some (Fb 1 l):=by
 have hm:=Bi hl
 have e:Ak (Ql l) 1=_:=Bq (b:=Ql l) (n:=l.length) (fun i=>!decide (l.getD i default < l.getD (i - 1) default)) (.inr false) (.inl ()) (fun i hi=>by simp only[Ql,A109,Ad,Ba hi,decide_false,Bool.false_eq_true,if_false];try rfl) _ 1 rfl fun i h1' hi'=>by
   have h0:(0:Int)≤i:=by omega
   have h1:(i:Int) < l.length:=by omega
   have h2:(0:Int)≤((i - 1:Nat):Int):=by omega
   have h3:((i - 1:Nat):Int) < l.length:=by omega
   simp only[Ql,A109,Ad]
   rw[B2 (x:=(i:Int) - 1) (by omega) (by omega),B2 (x:=(i:Int)+1) (by omega) (by omega),Vc i h1']
   simp only[Int.toNat_natCast,h0,h1,h2,h3,decide_true,if_true]
   by_cases hc:l.getD i default < l.getD (i - 1) default<;>(simp only[hc,decide_true,decide_false,Bool.false_eq_true,if_true,if_false,Bool.not_true,Bool.not_false];try rfl)
 have h:(Fb 1 l)=Bv 1 l.length fun i=>!decide (l.getD i default < l.getD (i - 1) default):=by unfold Fb;exact Z3 fun i _ _=>by simp only[Int.one_mul]
 simp only[A109,Ad,Option.bind_some,e]
 rw[h]
 generalize Bv _ _ _=c
 cases c<;>rfl
theorem s48 {l:List Int} (hl:l.length≤maxLen):Y4 l=some (Fb (-1) l):=by
 have hm:=Bi hl
 have e:Ak (Qm l) 1=_:=Bq (b:=Qm l) (n:=l.length) (fun i=>!decide (l.getD (i - 1) default < l.getD i default)) (.inr false) (.inl ()) (fun i hi=>by simp only[Qm,A110,Ad,Ba hi,decide_false,Bool.false_eq_true,if_false];try rfl) _ 1 rfl fun i h1' hi'=>by
   have h0:(0:Int)≤i:=by omega
   have h1:(i:Int) < l.length:=by omega
   have h2:(0:Int)≤((i - 1:Nat):Int):=by omega
   have h3:((i - 1:Nat):Int) < l.length:=by omega
   simp only[Qm,A110,Ad]
   rw[B2 (x:=(i:Int) - 1) (by omega) (by omega),B2 (x:=(i:Int)+1) (by omega) (by omega),Vc i h1']
   simp only[Int.toNat_natCast,h0,h1,h2,h3,decide_true,if_true]
   by_cases hc:l.getD (i - 1) default < l.getD i default<;>(simp only[hc,decide_true,decide_false,Bool.false_eq_true,if_true,if_false,Bool.not_true,Bool.not_false];try rfl)
 have h:(Fb (-1) l)=Bv 1 l.length fun i=>!decide (l.getD (i - 1) default < l.getD i default):=by unfold Fb;exact Z3 fun i _ _=>congrArg not (decide_eq_decide.2 (by omega))
 simp only[A110,Ad,Option.bind_some,e]
 rw[h]
 generalize Bv _ _ _=c
 cases c<;>rfl
def flR (t:List (List Int)) (i:Nat):Bool:=Bv 0 (t.getD i default).length fun j=>!((decide (0 < i)&&decide (tb t (i - 1) j < tb t i j)) || (decide (0 < j)&&decide (tb t i j < tb t i (j - 1))))
def flT (t:List (List Int)):Bool:=Bv 0 t.length fun i=>flR t i
def nmC (s:List UInt8) (i:Nat):Bool:=!((decide (A0 s i < 65) || decide (90 < A0 s i))&&(decide (A0 s i < 48) || decide (57 < A0 s i)))
def nmB (s:List UInt8) (n:Int):Bool:=!(s.length==0)&&!decide (n < (s.length:Int))&&!decide (A0 s 0 < 65)&&!decide (90 < A0 s 0)&&Bv 0 s.length (nmC s)
theorem s31 {s:List UInt8} (n:Int) (hl:s.length≤maxLen):m55 s n=some (nmB s n):=by
 have hm:=Bi hl
 have e:Ak (Uo s) 0=_:=Bq (b:=Uo s) (n:=s.length) (nmC s) (.inr false) (.inl ()) (fun i hi=>by simp only[Uo,A55,Ad,Ba hi,decide_false,Bool.false_eq_true,if_false];try rfl) _ 0 rfl fun i _ hi'=>by
  have h0:(0:Int)≤i:=by omega
  have h1:(i:Int) < s.length:=by omega
  have w1:IntKind.wrap .i64 ((i:Int)+1)=i+1:=B2 (by omega) (by omega)
  simp only[Uo,A55,Ad,w1,Int.toNat_natCast,h0,h1,decide_true,if_true,implies_true]
  unfold nmC
  by_cases c1:A0 s i < 65<;>by_cases c2:90 < A0 s i<;>by_cases c3:A0 s i < 48<;>by_cases c4:57 < A0 s i<;>(simp only[c1,c2,c3,c4,decide_true,decide_false,Bool.false_eq_true,if_true,if_false,Bool.not_true,Bool.not_false,Bool.or_true,Bool.or_false,Bool.true_or,Bool.false_or,Bool.and_true,Bool.and_false,Bool.true_and,Bool.false_and,true_implies,false_implies,implies_true,Option.bind_some]<;>rfl)
 by_cases hz:s.length=0
 ·have z1:(s.length:Int)=0:=by omega
  have z2:(s.length==0)=true:=by simpa using hz
  have z3:((s.length:Int)==(0:Int))=true:=by simpa using z1
  have z4:(s.length:Int) < 1:=by omega
  simp only[A55,Ad,nmB,z2,z3,z4,decide_true,decide_false,Bool.false_eq_true,if_true,if_false,Bool.not_true,Bool.not_false,Bool.or_true,Bool.or_false,Bool.true_or,Bool.false_or,Bool.and_true,Bool.and_false,Bool.true_and,Bool.false_and,true_implies,false_implies,implies_true,Option.bind_some]
 ·have z2:(s.length==0)=false:=by simpa using hz
  have z3:((s.length:Int)==(0:Int))=false:=by simpa using hz
  have z4:¬ (s.length:Int) < 1:=by omega
  have z5:(0:Int) < s.length:=by omega
  have t0:(0:Int).toNat=0:=rfl
  have l0:(0:Int)≤0:=by omega
  simp only[A55,Ad,nmB,z2,z3,z4,z5,t0,l0,e,decide_true,decide_false,Bool.false_eq_true,if_true,if_false,Bool.not_true,Bool.not_false,Bool.or_true,Bool.or_false,Bool.true_or,Bool.false_or,Bool.and_true,Bool.and_false,Bool.true_and,Bool.false_and,true_implies,false_implies,implies_true,Option.bind_some]
  generalize Bv _ _ _=c
  by_cases c1:n < (s.length:Int)<;>by_cases c2:A0 s 0 < 65<;>by_cases c3:90 < A0 s 0<;>cases c<;>(simp only[c1,c2,c3,decide_true,decide_false,Bool.false_eq_true,if_true,if_false,Bool.not_true,Bool.not_false,Bool.or_true,Bool.or_false,Bool.true_or,Bool.false_or,Bool.and_true,Bool.and_false,Bool.true_and,Bool.false_and,true_implies,false_implies,implies_true,Option.bind_some]<;>rfl)
theorem s40 {s:List UInt8} (n:Int) (hl:s.length≤maxLen):na s n=some (nmB s n):=by
 have hm:=Bi hl
 have e:Ak (Qc s) 0=_:=Bq (b:=Qc s) (n:=s.length) (nmC s) (.inr false) (.inl ()) (fun i hi=>by simp only[Qc,wv,Ad,Ba hi,decide_false,Bool.false_eq_true,if_false];try rfl) _ 0 rfl fun i _ hi'=>by
  have h0:(0:Int)≤i:=by omega
  have h1:(i:Int) < s.length:=by omega
  have w1:IntKind.wrap .i64 ((i:Int)+1)=i+1:=B2 (by omega) (by omega)
  simp only[Qc,wv,Ad,w1,Int.toNat_natCast,h0,h1,decide_true,if_true,implies_true]
  unfold nmC
  by_cases c1:A0 s i < 65<;>by_cases c2:90 < A0 s i<;>by_cases c3:A0 s i < 48<;>by_cases c4:57 < A0 s i<;>(simp only[c1,c2,c3,c4,decide_true,decide_false,Bool.false_eq_true,if_true,if_false,Bool.not_true,Bool.not_false,Bool.or_true,Bool.or_false,Bool.true_or,Bool.false_or,Bool.and_true,Bool.and_false,Bool.true_and,Bool.false_and,true_implies,false_implies,implies_true,Option.bind_some]<;>rfl)
 by_cases hz:s.length=0
 ·have z1:(s.length:Int)=0:=by omega
  have z2:(s.length==0)=true:=by simpa using hz
  have z3:((s.length:Int)==(0:Int))=true:=by simpa using z1
  have z4:(s.length:Int) < 1:=by omega
  simp only[wv,Ad,nmB,z2,z3,z4,decide_true,decide_false,Bool.false_eq_true,if_true,if_false,Bool.not_true,Bool.not_false,Bool.or_true,Bool.or_false,Bool.true_or,Bool.false_or,Bool.and_true,Bool.and_false,Bool.true_and,Bool.false_and,true_implies,false_implies,implies_true,Option.bind_some]
 ·have z2:(s.length==0)=false:=by simpa using hz
  have z3:((s.length:Int)==(0:Int))=false:=by simpa using hz
  have z4:¬ (s.length:Int) < 1:=by omega
  have z5:(0:Int) < s.length:=by omega
  have t0:(0:Int).toNat=0:=rfl
  have l0:(0:Int)≤0:=by omega
  simp only[wv,Ad,nmB,z2,z3,z4,z5,t0,l0,e,decide_true,decide_false,Bool.false_eq_true,if_true,if_false,Bool.not_true,Bool.not_false,Bool.or_true,Bool.or_false,Bool.true_or,Bool.false_or,Bool.and_true,Bool.and_false,Bool.true_and,Bool.false_and,true_implies,false_implies,implies_true,Option.bind_some]
  generalize Bv _ _ _=c
  by_cases c1:n < (s.length:Int)<;>by_cases c2:A0 s 0 < 65<;>by_cases c3:90 < A0 s 0<;>cases c<;>(simp only[c1,c2,c3,decide_true,decide_false,Bool.false_eq_true,if_true,if_false,Bool.not_true,Bool.not_false,Bool.or_true,Bool.or_false,Bool.true_or,Bool.false_or,Bool.and_true,Bool.and_false,Bool.true_and,Bool.false_and,true_implies,false_implies,implies_true,Option.bind_some]<;>rfl)
end Go.Av.Pk
set_option maxRecDepth 100000
namespace Go.Av.Pk
open Go.Av
abbrev Qp (a0:List (List Int)) (s1:Int):(Int)→Option ((Int)⊕((Unit)⊕((Int)⊕((Unit)⊕(Bool))))):=(fun(s2:Int)=>((if(decide (s2 < ((a0.getD s1.toNat default).length:Int)))=true then(if(decide (0 < s1))=true→(0≤s2)then(if(decide (0 < s1))=true→(s2 < ((a0.getD s1.toNat default).length:Int))then(if(decide (0 < s1))=true→(0≤(IntKind.wrap .i64 (s1 - 1)))then(if(decide (0 < s1))=true→((IntKind.wrap .i64 (s1 - 1)) < (a0.length:Int))then(if(decide (0 < s1))=true→(0≤s2)then(if(decide (0 < s1))=true→(s2 < ((a0.getD (IntKind.wrap .i64 (s1 - 1)).toNat default).length:Int))then(if((decide (0 < s1))&&(decide (((a0.getD (IntKind.wrap .i64 (s1 - 1)).toNat default).getD s2.toNat default) < ((a0.getD s1.toNat default).getD s2.toNat default))))=true then(some (.inr (.inr (.inr (.inr (false))))))else(some (.inl (IntKind.wrap .i64 (s2+1)))))else none)else none)else none)else none)else none)else none)else(some (.inr (.inl ())))):Option ((Int)⊕((Unit)⊕((Int)⊕((Unit)⊕(Bool)))))))
abbrev Up (a0:List (List Int)) (a1:Int):(Int)→Option ((Int)⊕((Unit)⊕(Bool))):=(fun(s1:Int)=>((Option.bind (if(decide (s1 < (a0.length:Int)))=true then(some (.inl ()))else(some (.inr (.inr (.inl ()))))) (Ad fun(_:Unit)=>(Option.bind (Option.bind (if(0≤s1)then(if(s1 < (a0.length:Int))then(Option.bind (Option.bind (U1 (a0.getD s1.toNat default) a1) fun r=>some r) fun x4=>(if(!x4)=true then(some (.inr (.inr (.inr (.inr (false))))))else(some (.inl ()))))else none)else none) (Ad fun(_:Unit)=>(Ak (Qp a0 s1) (0:Int)))) (Ad fun(_:Unit)=>(some (.inl (IntKind.wrap .i64 (s1+1)))))))):Option ((Int)⊕((Unit)⊕(Bool)))))
theorem t8  (a0:List (List Int)) (a1:Int):bu a0 a1=((Option.bind (some (.inl ())) (Ad fun(_:Unit)=>(Option.bind (Option.bind (some (.inl ())) (Ad fun(_:Unit)=>(Ak (Up a0 a1) (0:Int)))) (Ad fun(_:Unit)=>(some true))))):Option (Bool)):=by kernel_rfl
abbrev Uq (a0:Ah) (s1:Int):(Int)→Option ((Int)⊕((Unit)⊕((Int)⊕((Unit)⊕(Bool))))):=(fun(s2:Int)=>((if(decide (s2 < ((a0.Climb.getD s1.toNat default).length:Int)))=true then(if(0≤(IntKind.wrap .i64 (s1 - 1)))then(if((IntKind.wrap .i64 (s1 - 1)) < (a0.Climb.length:Int))then(if(0≤s2)then(if(s2 < ((a0.Climb.getD (IntKind.wrap .i64 (s1 - 1)).toNat default).length:Int))then(if(0≤s1)then(if(s1 < (a0.Climb.length:Int))then(if(0≤s2)then(if(s2 < ((a0.Climb.getD s1.toNat default).length:Int))then(if(0≤s1)then(if(s1 < (a0.Alts.length:Int))then(if(0≤(IntKind.wrap .i64 (s1 - 1)))then(if((IntKind.wrap .i64 (s1 - 1)) < (a0.Alts.length:Int))then(if(decide ((IntKind.wrap .i64 ((a0.Alts.getD s1.toNat default) - (a0.Alts.getD (IntKind.wrap .i64 (s1 - 1)).toNat default))) < (IntKind.wrap .i64 (((a0.Climb.getD (IntKind.wrap .i64 (s1 - 1)).toNat default).getD s2.toNat default) - ((a0.Climb.getD s1.toNat default).getD s2.toNat default)))))=true then(some (.inr (.inr (.inr (.inr (false))))))else(some (.inl (IntKind.wrap .i64 (s2+1)))))else none)else none)else none)else none)else none)else none)else none)else none)else none)else none)else none)else none)else(some (.inr (.inl ())))):Option ((Int)⊕((Unit)⊕((Int)⊕((Unit)⊕(Bool)))))))
abbrev Ur (a0:Ah):(Int)→Option ((Int)⊕((Unit)⊕(Bool))):=(fun(s1:Int)=>((Option.bind (if(decide (s1 < (a0.Alts.length:Int)))=true then(some (.inl ()))else(some (.inr (.inr (.inl ()))))) (Ad fun(_:Unit)=>(Option.bind (Option.bind (if(0≤s1)then(if(s1 < (a0.Climb.length:Int))then(some (.inl ()))else none)else none) (Ad fun(_:Unit)=>(Ak (Uq a0 s1) (0:Int)))) (Ad fun(_:Unit)=>(some (.inl (IntKind.wrap .i64 (s1+1)))))))):Option ((Int)⊕((Unit)⊕(Bool)))))
theorem A62  (a0:Ah):m62 a0=((Option.bind (some (.inl ())) (Ad fun(_:Unit)=>(Option.bind (Option.bind (some (.inl ())) (Ad fun(_:Unit)=>(Ak (Ur a0) (1:Int)))) (Ad fun(_:Unit)=>(some true))))):Option (Bool)):=by kernel_rfl
abbrev Qh (a0:Ah) (s1:Int):(Int)→Option ((Int)⊕((Unit)⊕((Int)⊕((Unit)⊕(Bool))))):=(fun(s2:Int)=>((if(decide (s2 < ((a0.Climb.getD s1.toNat default).length:Int)))=true then(if(0≤s2)then(if(s2 < ((a0.Climb.getD s1.toNat default).length:Int))then(if(decide (0 < s2))=true→(0≤(IntKind.wrap .i64 (s2 - 1)))then(if(decide (0 < s2))=true→((IntKind.wrap .i64 (s2 - 1)) < ((a0.Climb.getD s1.toNat default).length:Int))then(if((decide (0 < s2))&&(decide (((a0.Climb.getD s1.toNat default).getD (IntKind.wrap .i64 (s2 - 1)).toNat default) < ((a0.Climb.getD s1.toNat default).getD s2.toNat default))))=true then(some (.inr (.inr (.inr (.inr (false))))))else(if(decide (0 < s1))=true→(0≤(IntKind.wrap .i64 (s1 - 1)))then(if(decide (0 < s1))=true→((IntKind.wrap .i64 (s1 - 1)) < (a0.Climb.length:Int))then(if(decide (0 < s1))=true→(0≤s2)then(if(decide (0 < s1))=true→(s2 < ((a0.Climb.getD (IntKind.wrap .i64 (s1 - 1)).toNat default).length:Int))then(if((decide (0 < s1))&&(!(decide (((a0.Climb.getD (IntKind.wrap .i64 (s1 - 1)).toNat default).getD s2.toNat default) < ((a0.Climb.getD s1.toNat default).getD s2.toNat default)))))=true→(0≤(IntKind.wrap .i64 (s1 - 1)))then(if((decide (0 < s1))&&(!(decide (((a0.Climb.getD (IntKind.wrap .i64 (s1 - 1)).toNat default).getD s2.toNat default) < ((a0.Climb.getD s1.toNat default).getD s2.toNat default)))))=true→((IntKind.wrap .i64 (s1 - 1)) < (a0.Climb.length:Int))then(if((decide (0 < s1))&&(!(decide (((a0.Climb.getD (IntKind.wrap .i64 (s1 - 1)).toNat default).getD s2.toNat default) < ((a0.Climb.getD s1.toNat default).getD s2.toNat default)))))=true→(0≤s2)then(if((decide (0 < s1))&&(!(decide (((a0.Climb.getD (IntKind.wrap .i64 (s1 - 1)).toNat default).getD s2.toNat default) < ((a0.Climb.getD s1.toNat default).getD s2.toNat default)))))=true→(s2 < ((a0.Climb.getD (IntKind.wrap .i64 (s1 - 1)).toNat default).length:Int))then(if((decide (0 < s1))&&(!(decide (((a0.Climb.getD (IntKind.wrap .i64 (s1 - 1)).toNat default).getD s2.toNat default) < ((a0.Climb.getD s1.toNat default).getD s2.toNat default)))))=true→(0≤s1)then(if((decide (0 < s1))&&(!(decide (((a0.Climb.getD (IntKind.wrap .i64 (s1 - 1)).toNat default).getD s2.toNat default) < ((a0.Climb.getD s1.toNat default).getD s2.toNat default)))))=true→(s1 < (a0.Alts.length:Int))then(if((decide (0 < s1))&&(!(decide (((a0.Climb.getD (IntKind.wrap .i64 (s1 - 1)).toNat default).getD s2.toNat default) < ((a0.Climb.getD s1.toNat default).getD s2.toNat default)))))=true→(0≤(IntKind.wrap .i64 (s1 - 1)))then(if((decide (0 < s1))&&(!(decide (((a0.Climb.getD (IntKind.wrap .i64 (s1 - 1)).toNat default).getD s2.toNat default) < ((a0.Climb.getD s1.toNat default).getD s2.toNat default)))))=true→((IntKind.wrap .i64 (s1 - 1)) < (a0.Alts.length:Int))then(if((decide (0 < s1))&&((decide (((a0.Climb.getD (IntKind.wrap .i64 (s1 - 1)).toNat default).getD s2.toNat default) < ((a0.Climb.getD s1.toNat default).getD s2.toNat default))) || (decide ((IntKind.wrap .i64 ((a0.Alts.getD s1.toNat default) - (a0.Alts.getD (IntKind.wrap .i64 (s1 - 1)).toNat default))) < (IntKind.wrap .i64 (((a0.Climb.getD (IntKind.wrap .i64 (s1 - 1)).toNat default).getD s2.toNat default) - ((a0.Climb.getD s1.toNat default).getD s2.toNat default)))))))=true then(some (.inr (.inr (.inr (.inr (false))))))else(some (.inl (IntKind.wrap .i64 (s2+1)))))else none)else none)else none)else none)else none)else none)else none)else none)else none)else none)else none)else none))else none)else none)else none)else none)else(some (.inr (.inl ())))):Option ((Int)⊕((Unit)⊕((Int)⊕((Unit)⊕(Bool)))))))
abbrev Qi (a0:Ah):(Int)→Option ((Int)⊕((Unit)⊕(Bool))):=(fun(s1:Int)=>((Option.bind (if(decide (s1 < (a0.Climb.length:Int)))=true then(some (.inl ()))else(some (.inr (.inr (.inl ()))))) (Ad fun(_:Unit)=>(Option.bind (Option.bind (if(0≤s1)then(if(s1 < (a0.Climb.length:Int))then(some (.inl ()))else none)else none) (Ad fun(_:Unit)=>(Ak (Qh a0 s1) (0:Int)))) (Ad fun(_:Unit)=>(some (.inl (IntKind.wrap .i64 (s1+1)))))))):Option ((Int)⊕((Unit)⊕(Bool)))))
theorem lm  (a0:Ah):nc a0=((Option.bind (some (.inl ())) (Ad fun(_:Unit)=>(Option.bind (Option.bind (some (.inl ())) (Ad fun(_:Unit)=>(Ak (Qi a0) (0:Int)))) (Ad fun(_:Unit)=>(some true))))):Option (Bool)):=by kernel_rfl
abbrev Qj (a0:List (List Int)) (s1:Int):(Int)→Option ((Int)⊕((Unit)⊕((Int)⊕((Unit)⊕(Bool))))):=(fun(s2:Int)=>((if(decide (s2 < ((a0.getD s1.toNat default).length:Int)))=true then(if(decide (0 < s1))=true→(0≤s1)then(if(decide (0 < s1))=true→(s1 < (a0.length:Int))then(if(decide (0 < s1))=true→(0≤s2)then(if(decide (0 < s1))=true→(s2 < ((a0.getD s1.toNat default).length:Int))then(if(decide (0 < s1))=true→(0≤(IntKind.wrap .i64 (s1 - 1)))then(if(decide (0 < s1))=true→((IntKind.wrap .i64 (s1 - 1)) < (a0.length:Int))then(if(decide (0 < s1))=true→(0≤s2)then(if(decide (0 < s1))=true→(s2 < ((a0.getD (IntKind.wrap .i64 (s1 - 1)).toNat default).length:Int))then(if((!((decide (0 < s1))&&(decide (((a0.getD (IntKind.wrap .i64 (s1 - 1)).toNat default).getD s2.toNat default) < ((a0.getD s1.toNat default).getD s2.toNat default)))))&&(decide (0 < s2)))=true→(0≤s1)then(if((!((decide (0 < s1))&&(decide (((a0.getD (IntKind.wrap .i64 (s1 - 1)).toNat default).getD s2.toNat default) < ((a0.getD s1.toNat default).getD s2.toNat default)))))&&(decide (0 < s2)))=true→(s1 < (a0.length:Int))then(if((!((decide (0 < s1))&&(decide (((a0.getD (IntKind.wrap .i64 (s1 - 1)).toNat default).getD s2.toNat default) < ((a0.getD s1.toNat default).getD s2.toNat default)))))&&(decide (0 < s2)))=true→(0≤s2)then(if((!((decide (0 < s1))&&(decide (((a0.getD (IntKind.wrap .i64 (s1 - 1)).toNat default).getD s2.toNat default) < ((a0.getD s1.toNat default).getD s2.toNat default)))))&&(decide (0 < s2)))=true→(s2 < ((a0.getD s1.toNat default).length:Int))then(if((!((decide (0 < s1))&&(decide (((a0.getD (IntKind.wrap .i64 (s1 - 1)).toNat default).getD s2.toNat default) < ((a0.getD s1.toNat default).getD s2.toNat default)))))&&(decide (0 < s2)))=true→(0≤s1)then(if((!((decide (0 < s1))&&(decide (((a0.getD (IntKind.wrap .i64 (s1 - 1)).toNat default).getD s2.toNat default) < ((a0.getD s1.toNat default).getD s2.toNat default)))))&&(decide (0 < s2)))=true→(s1 < (a0.length:Int))then(if((!((decide (0 < s1))&&(decide (((a0.getD (IntKind.wrap .i64 (s1 - 1)).toNat default).getD s2.toNat default) < ((a0.getD s1.toNat default).getD s2.toNat default)))))&&(decide (0 < s2)))=true→(0≤(IntKind.wrap .i64 (s2 - 1)))then(if((!((decide (0 < s1))&&(decide (((a0.getD (IntKind.wrap .i64 (s1 - 1)).toNat default).getD s2.toNat default) < ((a0.getD s1.toNat default).getD s2.toNat default)))))&&(decide (0 < s2)))=true→((IntKind.wrap .i64 (s2 - 1)) < ((a0.getD s1.toNat default).length:Int))then(if(((decide (0 < s1))&&(decide (((a0.getD (IntKind.wrap .i64 (s1 - 1)).toNat default).getD s2.toNat default) < ((a0.getD s1.toNat default).getD s2.toNat default)))) || ((decide (0 < s2))&&(decide (((a0.getD s1.toNat default).getD s2.toNat default) < ((a0.getD s1.toNat default).getD (IntKind.wrap .i64 (s2 - 1)).toNat default)))))=true then(some (.inr (.inr (.inr (.inr (false))))))else(some (.inl (IntKind.wrap .i64 (s2+1)))))else none)else none)else none)else none)else none)else none)else none)else none)else none)else none)else none)else none)else none)else none)else none)else none)else(some (.inr (.inl ())))):Option ((Int)⊕((Unit)⊕((Int)⊕((Unit)⊕(Bool)))))))
abbrev Qk (a0:List (List Int)):(Int)→Option ((Int)⊕((Unit)⊕(Bool))):=(fun(s1:Int)=>((Option.bind (if(decide (s1 < (a0.length:Int)))=true then(some (.inl ()))else(some (.inr (.inr (.inl ()))))) (Ad fun(_:Unit)=>(Option.bind (Option.bind (if(0≤s1)then(if(s1 < (a0.length:Int))then(some (.inl ()))else none)else none) (Ad fun(_:Unit)=>(Ak (Qj a0 s1) (0:Int)))) (Ad fun(_:Unit)=>(some (.inl (IntKind.wrap .i64 (s1+1)))))))):Option ((Int)⊕((Unit)⊕(Bool)))))
theorem lq  (a0:List (List Int)):Y2 a0=((Option.bind (some (.inl ())) (Ad fun(_:Unit)=>(Option.bind (Option.bind (some (.inl ())) (Ad fun(_:Unit)=>(Ak (Qk a0) (0:Int)))) (Ad fun(_:Unit)=>(some true))))):Option (Bool)):=by kernel_rfl
theorem s37 {t:List (List Int)} {sg:Int} {m:Nat} (ht:Py t) (hs:sg=1∨sg = -1) (hm':Sh m t) (hb:smT t):bu t sg=some (Jc sg t):=by
 have hm:=Bi ht.1
 have M2:∀ i:Nat,i < t.length→Ak (Qp t i) 0=some (if W0 t i=true then .inl ()else .inr (.inr (.inr false))):=fun i hi =>
  Bq (b:=Qp t i) (n:=(t.getD i default).length) (fun j=>!(decide (0 < i)&&decide (tb t (i - 1) j < tb t i j))) (.inr (.inr (.inr false))) (.inl ()) (fun j hj=>by simp only[Qp,t8,Ad,Int.toNat_natCast,Ba hj,decide_false,Bool.false_eq_true,if_false];try rfl) _ 0 rfl fun j _ hj=>by
   have hr:(t.getD i default).length≤maxLen:=ht.2 _ (Ay hi)
   have hrm:=Bi hr
   have h0:(0:Int)≤j:=by omega
   have h1:(j:Int) < (t.getD i default).length:=by omega
   have w1:IntKind.wrap .i64 ((j:Int)+1)=j+1:=B2 (by omega) (by omega)
   by_cases hi0:0 < i
   ·have h2:(0:Int) < i:=by omega
    have w2:IntKind.wrap .i64 ((i:Int) - 1)=((i - 1:Nat):Int):=by rw[B2 (by omega) (by omega)];omega
    have h3:(0:Int)≤((i - 1:Nat):Int):=by omega
    have h4:((i - 1:Nat):Int) < t.length:=by omega
    have h5:(j:Int) < (t.getD (i - 1) default).length:=by rw[hm' (i - 1) (by omega),← hm' i hi];omega
    simp only[Qp,t8,Ad,w1,w2,Int.toNat_natCast,h0,h1,h2,h3,h4,h5,hi0,decide_true,if_true,true_implies,Bool.true_and]
    unfold tb
    by_cases hc:(t.getD (i - 1) default).getD j default < (t.getD i default).getD j default<;>(simp only[hc,decide_true,decide_false,Bool.false_eq_true,if_true,if_false,Bool.not_true,Bool.not_false];try rfl)
   ·have h2:¬ (0:Int) < i:=by omega
    simp only[Qp,t8,Ad,w1,Int.toNat_natCast,h0,h1,h2,hi0,decide_true,decide_false,if_true,Bool.false_eq_true,false_implies,Bool.false_and,if_false,Bool.not_false]
 have e:Ak (Up t sg) 0=_:=Bq (b:=Up t sg) (n:=t.length) (fun i=>Fb sg (t.getD i default)&&W0 t i) (.inr false) (.inl ()) (fun i hi=>by simp only[Up,t8,Ad,Ba hi,decide_false,Bool.false_eq_true,if_false,Option.bind_some];try rfl) _ 0 rfl fun i _ hi'=>by
  have h0:(0:Int)≤i:=by omega
  have h1:(i:Int) < t.length:=by omega
  have w1:IntKind.wrap .i64 ((i:Int)+1)=i+1:=B2 (by omega) (by omega)
  have hr:(t.getD i default).length≤maxLen:=ht.2 _ (Ay hi')
  simp only[Up,t8,Ad,w1,Int.toNat_natCast,s39 hr hs (hb i),M2 i hi',h0,h1,decide_true,if_true,Option.bind_some]
  generalize Fb sg (t.getD i default)=a
  generalize W0 t i=b
  cases a<;>cases b<;>rfl
 simp only[t8,Ad,Option.bind_some,e]
 unfold Jc
 generalize Bv _ _ _=c
 cases c<;>rfl
theorem s46 {t:List (List Int)} {m:Nat} (ht:Py t) (hm':Sh m t):Y2 t=some (flT t):=by
 have hm:=Bi ht.1
 have M2:∀ i:Nat,i < t.length→Ak (Qj t i) 0=some (if flR t i=true then .inl ()else .inr (.inr (.inr false))):=fun i hi =>
  Bq (b:=Qj t i) (n:=(t.getD i default).length) (fun j=>!((decide (0 < i)&&decide (tb t (i - 1) j < tb t i j)) || (decide (0 < j)&&decide (tb t i j < tb t i (j - 1))))) (.inr (.inr (.inr false))) (.inl ()) (fun j hj=>by simp only[Qj,lq,Ad,Int.toNat_natCast,Ba hj,decide_false,Bool.false_eq_true,if_false];try rfl) _ 0 rfl fun j _ hj=>by
   have hr:(t.getD i default).length≤maxLen:=ht.2 _ (Ay hi)
   have hrm:=Bi hr
   have h0:(0:Int)≤j:=by omega
   have h1:(j:Int) < (t.getD i default).length:=by omega
   have hI:(0:Int)≤i:=by omega
   have hI2:(i:Int) < t.length:=by omega
   have w1:IntKind.wrap .i64 ((j:Int)+1)=j+1:=B2 (by omega) (by omega)
   have A:(0 < i→(0:Int) < i∧IntKind.wrap .i64 ((i:Int) - 1)=((i - 1:Nat):Int)∧(0:Int)≤((i - 1:Nat):Int)∧((i - 1:Nat):Int) < t.length∧(j:Int) < (t.getD (i - 1) default).length):=fun hi0 =>
    ⟨by omega,by rw[B2 (by omega) (by omega)];omega,by omega,by omega,by rw[hm' (i - 1) (by omega),← hm' i hi];omega⟩
   have B:(0 < j→(0:Int) < j∧IntKind.wrap .i64 ((j:Int) - 1)=((j - 1:Nat):Int)∧(0:Int)≤((j - 1:Nat):Int)∧((j - 1:Nat):Int) < (t.getD i default).length):=fun hj0 =>
    ⟨by omega,by rw[B2 (by omega) (by omega)];omega,by omega,by omega⟩
   have A':¬ 0 < i→¬ (0:Int) < i:=fun _=>by omega
   have B':¬ 0 < j→¬ (0:Int) < j:=fun _=>by omega
   simp only[Qj,lq,Ad,w1,Int.toNat_natCast,h0,h1,hI,hI2,decide_true,if_true,implies_true]
   unfold tb
   by_cases hi0:0 < i
   ·obtain⟨a1,a2,a3,a4,a5⟩:=A hi0
    simp only[a1,a2,a3,a4,a5,hi0,Int.toNat_natCast,implies_true,if_true,decide_true,Bool.true_and]
    by_cases hj0:0 < j
    ·obtain⟨b1,b2,b3,b4⟩:=B hj0
     simp only[b1,b2,b3,b4,hj0,Int.toNat_natCast,implies_true,if_true,decide_true,Bool.true_and,Bool.and_true]
     by_cases c1:(t.getD (i - 1) default).getD j default < (t.getD i default).getD j default<;>by_cases c2:(t.getD i default).getD j default < (t.getD i default).getD (j - 1) default<;>(simp only[c1,c2,decide_true,decide_false,Bool.false_eq_true,if_true,if_false,Bool.not_true,Bool.not_false,Bool.or_true,Bool.or_false,Bool.true_or,Bool.false_or,Bool.and_true,Bool.and_false,true_implies,false_implies,implies_true];try rfl)
    ·simp only[B' hj0,hj0,decide_false,Bool.and_false,Bool.false_and,Bool.false_eq_true,false_implies,if_true,Bool.or_false]
     by_cases c1:(t.getD (i - 1) default).getD j default < (t.getD i default).getD j default<;>(simp only[c1,decide_true,decide_false,Bool.false_eq_true,if_true,if_false,Bool.not_true,Bool.not_false,Bool.or_true,Bool.or_false,Bool.true_or,Bool.false_or,Bool.and_true,Bool.and_false,true_implies,false_implies,implies_true];try rfl)
   ·simp only[A' hi0,hi0,decide_false,Bool.false_and,Bool.false_eq_true,false_implies,if_true,Bool.false_or,Bool.not_false,Bool.true_and]
    by_cases hj0:0 < j
    ·obtain⟨b1,b2,b3,b4⟩:=B hj0
     simp only[b1,b2,b3,b4,hj0,Int.toNat_natCast,implies_true,if_true,decide_true,Bool.true_and,Bool.and_true]
     by_cases c2:(t.getD i default).getD j default < (t.getD i default).getD (j - 1) default<;>(simp only[c2,decide_true,decide_false,Bool.false_eq_true,if_true,if_false,Bool.not_true,Bool.not_false,Bool.or_true,Bool.or_false,Bool.true_or,Bool.false_or,Bool.and_true,Bool.and_false,true_implies,false_implies,implies_true];try rfl)
    ·simp only[B' hj0,hj0,decide_false,Bool.and_false,Bool.false_and,Bool.false_eq_true,false_implies,if_true,if_false,Bool.or_false,Bool.not_false]
 have e:Ak (Qk t) 0=_:=Bq (b:=Qk t) (n:=t.length) (fun i=>flR t i) (.inr false) (.inl ()) (fun i hi=>by simp only[Qk,lq,Ad,Ba hi,decide_false,Bool.false_eq_true,if_false,Option.bind_some];try rfl) _ 0 rfl fun i _ hi'=>by
  have h0:(0:Int)≤i:=by omega
  have h1:(i:Int) < t.length:=by omega
  have w1:IntKind.wrap .i64 ((i:Int)+1)=i+1:=B2 (by omega) (by omega)
  simp only[Qk,lq,Ad,w1,Int.toNat_natCast,M2 i hi',h0,h1,decide_true,if_true,Option.bind_some]
  generalize flR t i=b
  cases b<;>rfl
 simp only[lq,Ad,Option.bind_some,e]
 unfold flT
 generalize Bv _ _ _=c
 cases c<;>rfl
def mj (p:Ah) (i j:Nat):Prop:=p.Alts.getD i default - p.Alts.getD (i - 1) default < tb p.Climb (i - 1) j - tb p.Climb i j
instance (p:Ah) (i j:Nat):Decidable (mj p i j):=by unfold mj;infer_instance
def Zt (p:Ah) (i:Nat):Bool:=Bv 0 (p.Climb.getD i default).length fun j=>!decide (mj p i j)
def W5 (p:Ah):Bool:=Bv 1 p.Alts.length fun i=>Zt p i
structure Cl (p:Ah) (m:Nat):Prop where
 fit:Py p.Climb
 fa:p.Alts.length≤maxLen
 sh:Sh m p.Climb
 len:p.Climb.length=p.Alts.length
 st:smT p.Climb
 sa:sm p.Alts
theorem s38 {p:Ah} {m:Nat} (h:Cl p m):m62 p=some (W5 p):=by
 have hm:=Bi h.fa
 have M2:∀ i:Nat,1≤i→i < p.Alts.length→Ak (Uq p i) 0=some (if Zt p i=true then .inl ()else .inr (.inr (.inr false))):=fun i hi1 hi =>
  Bq (b:=Uq p i) (n:=(p.Climb.getD i default).length) (fun j=>!decide (mj p i j)) (.inr (.inr (.inr false))) (.inl ()) (fun j hj=>by simp only[Uq,A62,Ad,Int.toNat_natCast,Ba hj,decide_false,Bool.false_eq_true,if_false];try rfl) _ 0 rfl fun j _ hj=>by
   have hr:(p.Climb.getD i default).length≤maxLen:=h.fit.2 _ (Ay (by rw[h.len];exact hi))
   have hrm:=Bi hr
   have h0:(0:Int)≤j:=by omega
   have h1:(j:Int) < (p.Climb.getD i default).length:=by omega
   have hI:(0:Int)≤i:=by omega
   have hI2:(i:Int) < p.Alts.length:=by omega
   have hI3:(i:Int) < p.Climb.length:=by rw[h.len];omega
   have w1:IntKind.wrap .i64 ((j:Int)+1)=j+1:=B2 (by omega) (by omega)
   have a2:IntKind.wrap .i64 ((i:Int) - 1)=((i - 1:Nat):Int):=by rw[B2 (by omega) (by omega)];omega
   have a3:(0:Int)≤((i - 1:Nat):Int):=by omega
   have a4:((i - 1:Nat):Int) < p.Alts.length:=by omega
   have a4':((i - 1:Nat):Int) < p.Climb.length:=by rw[h.len];omega
   have a5:(j:Int) < (p.Climb.getD (i - 1) default).length:=by rw[h.sh (i - 1) (by rw[h.len];omega),← h.sh i (by rw[h.len];exact hi)];omega
   have b1:=h.st (i - 1) j
   have b2:=h.st i j
   have b3:=h.sa i
   have b4:=h.sa (i - 1)
   unfold tb at b1 b2
   have w3:IntKind.wrap .i64 (p.Alts.getD i default - p.Alts.getD (i - 1) default)=p.Alts.getD i default - p.Alts.getD (i - 1) default:=B2 (by omega) (by omega)
   have w4:IntKind.wrap .i64 ((p.Climb.getD (i - 1) default).getD j default - (p.Climb.getD i default).getD j default)=(p.Climb.getD (i - 1) default).getD j default - (p.Climb.getD i default).getD j default:=B2 (by omega) (by omega)
   simp only[Uq,A62,Ad,w1,a2,Int.toNat_natCast,h0,h1,hI,hI2,hI3,a3,a4,a4',a5,w3,w4,decide_true,if_true]
   unfold mj tb
   by_cases hc:p.Alts.getD i default - p.Alts.getD (i - 1) default < (p.Climb.getD (i - 1) default).getD j default - (p.Climb.getD i default).getD j default<;>(simp only[hc,decide_true,decide_false,Bool.false_eq_true,if_true,if_false,Bool.not_true,Bool.not_false,Bool.or_true,Bool.or_false,Bool.true_or,Bool.false_or,Bool.and_true,Bool.and_false,Bool.true_and,Bool.false_and,true_implies,false_implies,implies_true];try rfl)
 have e:Ak (Ur p) 1=_:=Bq (b:=Ur p) (n:=p.Alts.length) (fun i=>Zt p i) (.inr false) (.inl ()) (fun i hi=>by simp only[Ur,A62,Ad,Ba hi,decide_false,Bool.false_eq_true,if_false,Option.bind_some];try rfl) _ 1 rfl fun i hi1 hi'=>by
  have h0:(0:Int)≤i:=by omega
  have h1:(i:Int) < p.Alts.length:=by omega
  have h2:(i:Int) < p.Climb.length:=by rw[h.len];omega
  have w1:IntKind.wrap .i64 ((i:Int)+1)=i+1:=B2 (by omega) (by omega)
  simp only[Ur,A62,Ad,w1,Int.toNat_natCast,M2 i hi1 hi',h0,h1,h2,decide_true,if_true,Option.bind_some]
  generalize Zt p i=b
  cases b<;>rfl
 simp only[A62,Ad,Option.bind_some,e]
 unfold W5
 generalize Bv _ _ _=c
 cases c<;>rfl
def clP (p:Ah) (i j:Nat):Bool:=!(decide (0 < j)&&decide (tb p.Climb i (j - 1) < tb p.Climb i j))&&!(decide (0 < i)&&(decide (tb p.Climb (i - 1) j < tb p.Climb i j) || decide (mj p i j)))
def clR (p:Ah) (i:Nat):Bool:=Bv 0 (p.Climb.getD i default).length fun j=>clP p i j
def clT (p:Ah):Bool:=Bv 0 p.Climb.length fun i=>clR p i
theorem s45 {p:Ah} {m:Nat} (h:Cl p m):nc p=some (clT p):=by
 have hm:=Bi h.fa
 have hmc:=Bi h.fit.1
 have M2:∀ i:Nat,i < p.Climb.length→Ak (Qh p i) 0=some (if clR p i=true then .inl ()else .inr (.inr (.inr false))):=fun i hi =>
  Bq (b:=Qh p i) (n:=(p.Climb.getD i default).length) (fun j=>clP p i j) (.inr (.inr (.inr false))) (.inl ()) (fun j hj=>by simp only[Qh,lm,Ad,Int.toNat_natCast,Ba hj,decide_false,Bool.false_eq_true,if_false];try rfl) _ 0 rfl fun j _ hj=>by
   have hr:(p.Climb.getD i default).length≤maxLen:=h.fit.2 _ (Ay hi)
   have hrm:=Bi hr
   have h0:(0:Int)≤j:=by omega
   have h1:(j:Int) < (p.Climb.getD i default).length:=by omega
   have hI:(0:Int)≤i:=by omega
   have hI2:(i:Int) < p.Alts.length:=by rw[← h.len];omega
   have hI3:(i:Int) < p.Climb.length:=by omega
   have w1:IntKind.wrap .i64 ((j:Int)+1)=j+1:=B2 (by omega) (by omega)
   have b1:=h.st (i - 1) j
   have b2:=h.st i j
   have b3:=h.sa i
   have b4:=h.sa (i - 1)
   unfold tb at b1 b2
   have w3:IntKind.wrap .i64 (p.Alts.getD i default - p.Alts.getD (i - 1) default)=p.Alts.getD i default - p.Alts.getD (i - 1) default:=B2 (by omega) (by omega)
   have w4:IntKind.wrap .i64 ((p.Climb.getD (i - 1) default).getD j default - (p.Climb.getD i default).getD j default)=(p.Climb.getD (i - 1) default).getD j default - (p.Climb.getD i default).getD j default:=B2 (by omega) (by omega)
   have A:(0 < i→(0:Int) < i∧IntKind.wrap .i64 ((i:Int) - 1)=((i - 1:Nat):Int)∧(0:Int)≤((i - 1:Nat):Int)∧((i - 1:Nat):Int) < p.Climb.length∧((i - 1:Nat):Int) < p.Alts.length∧(j:Int) < (p.Climb.getD (i - 1) default).length):=fun hi0 =>
    ⟨by omega,by rw[B2 (by omega) (by omega)];omega,by omega,by omega,by rw[← h.len];omega,by rw[h.sh (i - 1) (by omega),← h.sh i hi];omega⟩
   have B:(0 < j→(0:Int) < j∧IntKind.wrap .i64 ((j:Int) - 1)=((j - 1:Nat):Int)∧(0:Int)≤((j - 1:Nat):Int)∧((j - 1:Nat):Int) < (p.Climb.getD i default).length):=fun hj0 =>
    ⟨by omega,by rw[B2 (by omega) (by omega)];omega,by omega,by omega⟩
   have A':¬ 0 < i→¬ (0:Int) < i:=fun _=>by omega
   have B':¬ 0 < j→¬ (0:Int) < j:=fun _=>by omega
   simp only[Qh,lm,Ad,w1,Int.toNat_natCast,h0,h1,hI,hI2,hI3,decide_true,if_true,implies_true]
   unfold clP mj tb
   by_cases hi0:0 < i
   ·obtain⟨a1,a2,a3,a4,a4',a5⟩:=A hi0
    simp only[a1,a2,a3,a4,a4',a5,hi0,w3,w4,Int.toNat_natCast,implies_true,if_true,decide_true,Bool.true_and]
    by_cases hj0:0 < j
    ·obtain⟨b1,b2,b3,b4⟩:=B hj0
     simp only[b1,b2,b3,b4,hj0,Int.toNat_natCast,implies_true,if_true,decide_true,Bool.true_and]
     by_cases c0:(p.Climb.getD i default).getD (j - 1) default < (p.Climb.getD i default).getD j default<;>by_cases c1:(p.Climb.getD (i - 1) default).getD j default < (p.Climb.getD i default).getD j default<;>by_cases c2:p.Alts.getD i default - p.Alts.getD (i - 1) default < (p.Climb.getD (i - 1) default).getD j default - (p.Climb.getD i default).getD j default<;>(simp only[c0,c1,c2,decide_true,decide_false,Bool.false_eq_true,if_true,if_false,Bool.not_true,Bool.not_false,Bool.or_true,Bool.or_false,Bool.true_or,Bool.false_or,Bool.and_true,Bool.and_false,Bool.true_and,Bool.false_and,true_implies,false_implies,implies_true];try rfl)
    ·simp only[B' hj0,hj0,decide_false,Bool.and_false,Bool.false_and,Bool.false_eq_true,false_implies,if_true,if_false,Bool.not_false,Bool.true_and]
     by_cases c1:(p.Climb.getD (i - 1) default).getD j default < (p.Climb.getD i default).getD j default<;>by_cases c2:p.Alts.getD i default - p.Alts.getD (i - 1) default < (p.Climb.getD (i - 1) default).getD j default - (p.Climb.getD i default).getD j default<;>(simp only[c1,c2,decide_true,decide_false,Bool.false_eq_true,if_true,if_false,Bool.not_true,Bool.not_false,Bool.or_true,Bool.or_false,Bool.true_or,Bool.false_or,Bool.and_true,Bool.and_false,Bool.true_and,Bool.false_and,true_implies,false_implies,implies_true];try rfl)
   ·simp only[A' hi0,hi0,decide_false,Bool.false_and,Bool.false_eq_true,false_implies,if_true,if_false,Bool.not_false,Bool.and_true]
    by_cases hj0:0 < j
    ·obtain⟨b1,b2,b3,b4⟩:=B hj0
     simp only[b1,b2,b3,b4,hj0,Int.toNat_natCast,implies_true,if_true,decide_true,Bool.true_and]
     by_cases c0:(p.Climb.getD i default).getD (j - 1) default < (p.Climb.getD i default).getD j default<;>(simp only[c0,decide_true,decide_false,Bool.false_eq_true,if_true,if_false,Bool.not_true,Bool.not_false,Bool.or_true,Bool.or_false,Bool.true_or,Bool.false_or,Bool.and_true,Bool.and_false,Bool.true_and,Bool.false_and,true_implies,false_implies,implies_true];try rfl)
    ·simp only[B' hj0,hj0,decide_false,Bool.and_false,Bool.false_and,Bool.false_eq_true,false_implies,if_true,if_false,Bool.not_false]
 have e:Ak (Qi p) 0=_:=Bq (b:=Qi p) (n:=p.Climb.length) (fun i=>clR p i) (.inr false) (.inl ()) (fun i hi=>by simp only[Qi,lm,Ad,Ba hi,decide_false,Bool.false_eq_true,if_false,Option.bind_some];try rfl) _ 0 rfl fun i _ hi'=>by
  have h0:(0:Int)≤i:=by omega
  have h1:(i:Int) < p.Climb.length:=by omega
  have w1:IntKind.wrap .i64 ((i:Int)+1)=i+1:=B2 (by omega) (by omega)
  simp only[Qi,lm,Ad,w1,Int.toNat_natCast,M2 i hi',h0,h1,decide_true,if_true,Option.bind_some]
  generalize clR p i=b
  cases b<;>rfl
 simp only[lm,Ad,Option.bind_some,e]
 unfold clT
 generalize Bv _ _ _=c
 cases c<;>rfl
theorem cl_eq {p:Ah} {m:Nat} (h:Cl p m):(Jc (-1) p.Climb&&W5 p)=clT p:=by
 rw[Bool.eq_iff_iff,Bool.and_eq_true]
 unfold Jc W5 clT
 simp only[allR_iff,Bool.and_eq_true,W0,Fb,Zt,clR,clP,allR_iff,Bool.not_eq_true',Bool.and_eq_false_iff,Bool.or_eq_false_iff,decide_eq_false_iff_not]
 constructor
 ·rintro⟨h1,h2⟩ i _ hi j _ hj
  obtain⟨h3,h4⟩:=h1 i (Nat.zero_le _) hi
  refine⟨?_,?_⟩
  ·by_cases hj0:0 < j
   ·right;have:=h3 j hj0 hj;unfold tb;omega
   ·exact .inl hj0
  ·by_cases hi0:0 < i
   ·right
    refine⟨?_,h2 i hi0 (by rw[← h.len];exact hi) j (Nat.zero_le _) hj⟩
    rcases h4 j (Nat.zero_le _) hj with h5 | h5
    ·exact absurd hi0 h5
    ·exact h5
   ·exact .inl hi0
 ·intro h1
  refine⟨fun i _ hi=>⟨fun j hj1 hj=>?_,fun j _ hj=>?_⟩,fun i hi1 hi j _ hj=>?_⟩
  ·rcases (h1 i (Nat.zero_le _) hi j (Nat.zero_le _) hj).1 with h5 | h5
   ·omega
   ·unfold tb at h5;omega
  ·rcases (h1 i (Nat.zero_le _) hi j (Nat.zero_le _) hj).2 with h5 | h5
   ·exact .inl h5
   ·exact .inr h5.1
  ·rcases (h1 i (Nat.zero_le _) (by rw[h.len];exact hi) j (Nat.zero_le _) hj).2 with h5 | h5
   ·omega
   ·exact h5.2
theorem fl_eq (t:List (List Int)):Jc 1 t=flT t:=by
 rw[Bool.eq_iff_iff]
 unfold Jc flT
 simp only[allR_iff,Bool.and_eq_true,W0,Fb,flR,allR_iff,Bool.not_eq_true',Bool.and_eq_false_iff,Bool.or_eq_false_iff,decide_eq_false_iff_not]
 constructor
 ·intro h1 i _ hi j _ hj
  obtain⟨h3,h4⟩:=h1 i (Nat.zero_le _) hi
  refine⟨h4 j (Nat.zero_le _) hj,?_⟩
  by_cases hj0:0 < j
  ·right;have:=h3 j hj0 hj;unfold tb;omega
  ·exact .inl hj0
 ·intro h1 i _ hi
  refine⟨fun j hj1 hj=>?_,fun j _ hj=>(h1 i (Nat.zero_le _) hi j (Nat.zero_le _) hj).1⟩
  rcases (h1 i (Nat.zero_le _) hi j (Nat.zero_le _) hj).2 with h5 | h5
  ·omega
  ·unfold tb at h5;omega
end Go.Av.Pk
set_option maxRecDepth 100000
namespace Go.Av.Pk
open Go.Av
theorem A20  (a0:Ah):Pc a0=((Option.bind (Option.bind (m55 a0.Name (8:Int)) fun r=>some r) fun x2=>(if(!x2)=true then(some (5:Int))else(Option.bind (((Mh a0.Empty (1:Int) (3000000000:Int)).bind fun r4_0=>((if(!(!r4_0))=true then Mh a0.MaxFuel (1:Int) (IntKind.wrap .i64 ((3000000000:Int) - a0.Empty))else some default).bind fun r4_1=>some (r4_0,r4_1)))) fun(x4:(Et))=>(if((!x4.1) || (!x4.2))=true then(some (2:Int))else(if((((decide ((a0.Alts.length:Int) < (2:Int))) || (decide (12 < (a0.Alts.length:Int)))) || (decide ((a0.Masses.length:Int) < (2:Int)))) || (decide (6 < (a0.Masses.length:Int))))=true then(some (3:Int))else(Option.bind (((br a0 a0.Climb).bind fun r8_0=>((if(!(!r8_0))=true then br a0 a0.ClimbFlow else some default).bind fun r8_1=>((if(!((!r8_0) || (!r8_1)))=true then br a0 a0.Cruise else some default).bind fun r8_2=>some (r8_0,r8_1,r8_2))))) fun(x8:(Ke))=>(if(((!x8.1) || (!x8.2.1)) || (!x8.2.2))=true then(some (1:Int))else(if(((((a0.Descent.length:Int) != (a0.Alts.length:Int)) || ((a0.Idle.length:Int) != (a0.Alts.length:Int))) || ((a0.MaxSpeed.length:Int) != (a0.Alts.length:Int))) || ((a0.MinSpeed.length:Int) != (a0.Masses.length:Int)))=true then(some (1:Int))else(Option.bind (((nj a0.Alts).bind fun r12_0=>((if(!(!r12_0))=true then nj a0.Masses else some default).bind fun r12_1=>some (r12_0,r12_1)))) fun(x12:(Et))=>(if((!x12.1) || (!x12.2))=true then(some (9:Int))else(Option.bind (((Mv a0.Alts (-200000:Int) (6000000:Int)).bind fun r14_0=>((if(!(!r14_0))=true then Mh a0.Ceiling (-200000:Int) (6000000:Int)else some default).bind fun r14_1=>((if(!((!r14_0) || (!r14_1)))=true then Mv a0.Masses (1:Int) (3000000000:Int)else some default).bind fun r14_2=>some (r14_0,r14_1,r14_2))))) fun(x14:(Ke))=>(if(((!x14.1) || (!x14.2.1)) || (!x14.2.2))=true then(some (2:Int))else(Option.bind (((bt a0.Climb (0:Int) (10000:Int)).bind fun r16_0=>((if(!(!r16_0))=true then Mv a0.Descent (1:Int) (10000:Int)else some default).bind fun r16_1=>some (r16_0,r16_1)))) fun(x16:(Et))=>(if((!x16.1) || (!x16.2))=true then(some (2:Int))else(Option.bind (((bt a0.ClimbFlow (0:Int) (50000:Int)).bind fun r18_0=>((if(!(!r18_0))=true then bt a0.Cruise (0:Int) (50000:Int)else some default).bind fun r18_1=>((if(!((!r18_0) || (!r18_1)))=true then Mv a0.Idle (0:Int) (50000:Int)else some default).bind fun r18_2=>some (r18_0,r18_1,r18_2))))) fun(x18:(Ke))=>(if(((!x18.1) || (!x18.2.1)) || (!x18.2.2))=true then(some (2:Int))else(Option.bind (((Mv a0.MaxSpeed (1:Int) (1000:Int)).bind fun r20_0=>((if(!(!r20_0))=true then Mv a0.MinSpeed (1:Int) (1000:Int)else some default).bind fun r20_1=>((if(!((!r20_0) || (!r20_1)))=true then Mh a0.Ref (1:Int) (1000:Int)else some default).bind fun r20_2=>((if(!(((!r20_0) || (!r20_1)) || (!r20_2)))=true then Mh a0.Extra (0:Int) (100:Int)else some default).bind fun r20_3=>some (r20_0,r20_1,r20_2,r20_3)))))) fun(x20:(Yx))=>(if((((!x20.1) || (!x20.2.1)) || (!x20.2.2.1)) || (!x20.2.2.2))=true then(some (2:Int))else(Option.bind (((bu a0.Climb (-1:Int)).bind fun r22_0=>((if(!(!r22_0))=true then m62 a0 else some default).bind fun r22_1=>((if(!((!r22_0) || (!r22_1)))=true then bu a0.ClimbFlow (1:Int)else some default).bind fun r22_2=>((if(!(((!r22_0) || (!r22_1)) || (!r22_2)))=true then bu a0.Cruise (1:Int)else some default).bind fun r22_3=>some (r22_0,r22_1,r22_2,r22_3)))))) fun(x22:(Yx))=>(if((((!x22.1) || (!x22.2.1)) || (!x22.2.2.1)) || (!x22.2.2.2))=true then(some (11:Int))else(Option.bind (((U1 a0.Descent (1:Int)).bind fun r24_0=>((if(!(!r24_0))=true then U1 a0.Idle (-1:Int)else some default).bind fun r24_1=>((if(!((!r24_0) || (!r24_1)))=true then U1 a0.MaxSpeed (-1:Int)else some default).bind fun r24_2=>((if(!(((!r24_0) || (!r24_1)) || (!r24_2)))=true then U1 a0.MinSpeed (1:Int)else some default).bind fun r24_3=>some (r24_0,r24_1,r24_2,r24_3)))))) fun(x24:(Yx))=>(if((((!x24.1) || (!x24.2.1)) || (!x24.2.2.1)) || (!x24.2.2.2))=true then(some (11:Int))else(some (0:Int)))))))))))))))))))))))):Option (Int)):=by kernel_rfl
theorem A43  (a0:Ah):tz a0=((Option.bind (Option.bind (na a0.Name (8:Int)) fun r=>some r) fun x2=>(if(!x2)=true then(some (5:Int))else(if((((decide (a0.Empty < 1)) || (decide (3000000000 < a0.Empty))) || (decide (a0.MaxFuel < 1))) || (decide ((IntKind.wrap .i64 ((3000000000:Int) - a0.Empty)) < a0.MaxFuel)))=true then(some (2:Int))else(if((((decide ((a0.Alts.length:Int) < (2:Int))) || (decide (12 < (a0.Alts.length:Int)))) || (decide ((a0.Masses.length:Int) < (2:Int)))) || (decide (6 < (a0.Masses.length:Int))))=true then(some (3:Int))else(Option.bind (((Rz a0.Climb (a0.Alts.length:Int) (a0.Masses.length:Int)).bind fun r8_0=>((if(!(!r8_0))=true then Rz a0.ClimbFlow (a0.Alts.length:Int) (a0.Masses.length:Int)else some default).bind fun r8_1=>((if(!((!r8_0) || (!r8_1)))=true then Rz a0.Cruise (a0.Alts.length:Int) (a0.Masses.length:Int)else some default).bind fun r8_2=>some (r8_0,r8_1,r8_2))))) fun(x8:(Ke))=>(if(((!x8.1) || (!x8.2.1)) || (!x8.2.2))=true then(some (1:Int))else(if(((((a0.Descent.length:Int) != (a0.Alts.length:Int)) || ((a0.Idle.length:Int) != (a0.Alts.length:Int))) || ((a0.MaxSpeed.length:Int) != (a0.Alts.length:Int))) || ((a0.MinSpeed.length:Int) != (a0.Masses.length:Int)))=true then(some (1:Int))else(Option.bind (((Y1 a0.Alts).bind fun r12_0=>((if(!(!r12_0))=true then Y1 a0.Masses else some default).bind fun r12_1=>some (r12_0,r12_1)))) fun(x12:(Et))=>(if((!x12.1) || (!x12.2))=true then(some (9:Int))else(Option.bind (((El a0.Alts (-200000:Int) (6000000:Int)).bind fun r14_0=>((if(!(!r14_0))=true then El ([a0.Ceiling]:List Int) (-200000:Int) (6000000:Int)else some default).bind fun r14_1=>some (r14_0,r14_1)))) fun(x14:(Et))=>(if((!x14.1) || (!x14.2))=true then(some (2:Int))else(Option.bind (((El a0.Masses (1:Int) (3000000000:Int)).bind fun r16_0=>((if(!(!r16_0))=true then S0 a0.Climb (0:Int) (10000:Int)else some default).bind fun r16_1=>((if(!((!r16_0) || (!r16_1)))=true then El a0.Descent (1:Int) (10000:Int)else some default).bind fun r16_2=>some (r16_0,r16_1,r16_2))))) fun(x16:(Ke))=>(if(((!x16.1) || (!x16.2.1)) || (!x16.2.2))=true then(some (2:Int))else(Option.bind (((S0 a0.ClimbFlow (0:Int) (50000:Int)).bind fun r18_0=>((if(!(!r18_0))=true then S0 a0.Cruise (0:Int) (50000:Int)else some default).bind fun r18_1=>((if(!((!r18_0) || (!r18_1)))=true then El a0.Idle (0:Int) (50000:Int)else some default).bind fun r18_2=>some (r18_0,r18_1,r18_2))))) fun(x18:(Ke))=>(if(((!x18.1) || (!x18.2.1)) || (!x18.2.2))=true then(some (2:Int))else(Option.bind (((El a0.MaxSpeed (1:Int) (1000:Int)).bind fun r20_0=>((if(!(!r20_0))=true then El a0.MinSpeed (1:Int) (1000:Int)else some default).bind fun r20_1=>some (r20_0,r20_1)))) fun(x20:(Et))=>(if((!x20.1) || (!x20.2))=true then(some (2:Int))else(Option.bind (((El ([a0.Ref]:List Int) (1:Int) (1000:Int)).bind fun r22_0=>((if(!(!r22_0))=true then El ([a0.Extra]:List Int) (0:Int) (100:Int)else some default).bind fun r22_1=>some (r22_0,r22_1)))) fun(x22:(Et))=>(if((!x22.1) || (!x22.2))=true then(some (2:Int))else(Option.bind (((nc a0).bind fun r24_0=>((if(!(!r24_0))=true then Y2 a0.ClimbFlow else some default).bind fun r24_1=>((if(!((!r24_0) || (!r24_1)))=true then Y2 a0.Cruise else some default).bind fun r24_2=>some (r24_0,r24_1,r24_2))))) fun(x24:(Ke))=>(if(((!x24.1) || (!x24.2.1)) || (!x24.2.2))=true then(some (11:Int))else(Option.bind (((Y3 a0.Descent).bind fun r26_0=>((if(!(!r26_0))=true then Y4 a0.Idle else some default).bind fun r26_1=>((if(!((!r26_0) || (!r26_1)))=true then Y4 a0.MaxSpeed else some default).bind fun r26_2=>((if(!(((!r26_0) || (!r26_1)) || (!r26_2)))=true then Y3 a0.MinSpeed else some default).bind fun r26_3=>some (r26_0,r26_1,r26_2,r26_3)))))) fun(x26:(Yx))=>(if((((!x26.1) || (!x26.2.1)) || (!x26.2.2.1)) || (!x26.2.2.2))=true then(some (11:Int))else(some (0:Int))))))))))))))))))))))))):Option (Int)):=by kernel_rfl
def inI (lo hi x:Int):Bool:=decide (lo≤x)&&decide (x≤hi)
theorem s32' (n lo hi:Int):Mh n lo hi=some (inI lo hi n):=s32 n lo hi
theorem inI1 (lo hi x:Int):(decide (x < lo) || decide (hi < x))=!inI lo hi x:=by unfold inI;rw[inE,Bool.not_not]
theorem inI2 (X:Bool) (lo hi x:Int):(X || decide (x < lo) || decide (hi < x))=(X || !inI lo hi x):=by rw[Bool.or_assoc,inI1]
theorem inL1 (lo hi x:Int):inL lo hi [x]=inI lo hi x:=by simp[inL,inI,Bv]
theorem s43' (lo hi x:Int):El ([x]:List Int) lo hi=some (inI lo hi x):=by rw[jq lo hi (by unfold maxLen;simp),inL1]
theorem Wm {lo hi:Int} {l:List Int} (h:inL lo hi l=true) (h1 : -1000000000000≤lo) (h2:hi≤1000000000000):sm l:=fun i=>by
 by_cases hi':i < l.length
 ·unfold inL at h
  have:=allR_iff.1 h i (Nat.zero_le _) hi'
  simp only[Bool.and_eq_true,decide_eq_true_eq]at this
  omega
 ·rw[List.getD_eq_getElem?_getD,List.getElem?_eq_none (by omega)]
  show -1000000000000≤(0:Int)∧(0:Int)≤1000000000000
  omega
theorem qz {lo hi:Int} {t:List (List Int)} (h:inT lo hi t=true) (h1 : -1000000000000≤lo) (h2:hi≤1000000000000):smT t:=fun i j=>by
 by_cases hi':i < t.length
 ·unfold inT at h
  exact Wm (allR_iff.1 h i (Nat.zero_le _) hi') h1 h2 j
 ·unfold tb
  rw[List.getD_eq_getElem?_getD (l:=t),List.getElem?_eq_none (by omega)]
  show -1000000000000≤(0:Int)∧(0:Int)≤1000000000000
  omega
theorem sh_of {n m:Nat} {t:List (List Int)} (h:shT n m t=true):Sh m t∧t.length=n:=by
 unfold shT at h
 simp only[Bool.and_eq_true,beq_iff_eq]at h
 exact⟨fun i hi=>by simpa using allR_iff.1 h.1 i (Nat.zero_le _) hi,h.2⟩
def good (p:Ah):Bool:=(nmB p.Name 8)&&(inI 1 3000000000 p.Empty)&&(inI 1 (IntKind.wrap .i64 (3000000000 - p.Empty)) p.MaxFuel)&&(inI 2 12 (p.Alts.length:Int))&&(inI 2 6 (p.Masses.length:Int))&&(shT p.Alts.length p.Masses.length p.Climb)&&(shT p.Alts.length p.Masses.length p.ClimbFlow)&&(shT p.Alts.length p.Masses.length p.Cruise)&&!((((((p.Descent.length:Int) != (p.Alts.length:Int)) || ((p.Idle.length:Int) != (p.Alts.length:Int))) || ((p.MaxSpeed.length:Int) != (p.Alts.length:Int))) || ((p.MinSpeed.length:Int) != (p.Masses.length:Int))))&&(U6 p.Alts)&&(U6 p.Masses)&&(inL (-200000) 6000000 p.Alts)&&(inI (-200000) 6000000 p.Ceiling)&&(inL 1 3000000000 p.Masses)&&(inT 0 10000 p.Climb)&&(inL 1 10000 p.Descent)&&(inT 0 50000 p.ClimbFlow)&&(inT 0 50000 p.Cruise)&&(inL 0 50000 p.Idle)&&(inL 1 1000 p.MaxSpeed)&&(inL 1 1000 p.MinSpeed)&&(inI 1 1000 p.Ref)&&(inI 0 100 p.Extra)&&(Jc (-1) p.Climb)&&(W5 p)&&(Jc 1 p.ClimbFlow)&&(Jc 1 p.Cruise)&&(Fb 1 p.Descent)&&(Fb (-1) p.Idle)&&(Fb (-1) p.MaxSpeed)&&(Fb 1 p.MinSpeed)
theorem both {p:Ah} (h:Kt p):∃ c,Pc p=some c∧tz p=some c∧(c=0↔good p=true):=by
 obtain⟨kN,_,_,kA,kM,kC,kF,kR,kD,kI,kX,kn,_,_,_⟩:=h
 have fC:Py p.Climb:=⟨kC.1,fun l hl=>(kC.2 l hl).1⟩
 have fF:Py p.ClimbFlow:=⟨kF.1,fun l hl=>(kF.2 l hl).1⟩
 have fR:Py p.Cruise:=⟨kR.1,fun l hl=>(kR.2 l hl).1⟩
 have a0:=s31 8 kN
 have a1:=s40 8 kN
 have a2:=s33 (p:=p) fC
 have a3:=s33 (p:=p) fF
 have a4:=s33 (p:=p) fR
 have a5:=s41 p.Alts.length p.Masses.length fC
 have a6:=s41 p.Alts.length p.Masses.length fF
 have a7:=s41 p.Alts.length p.Masses.length fR
 have a8:=s34 kA.1
 have a9:=s34 kM.1
 have a10:=s42 kA.1
 have a11:=s42 kM.1
 have a12:=qx (-200000) 6000000 kA.1
 have a13:=qx 1 3000000000 kM.1
 have a14:=qx 1 10000 kD.1
 have a15:=qx 0 50000 kI.1
 have a16:=qx 1 1000 kX.1
 have a17:=qx 1 1000 kn.1
 have a18:=jq (-200000) 6000000 kA.1
 have a19:=jq 1 3000000000 kM.1
 have a20:=jq 1 10000 kD.1
 have a21:=jq 0 50000 kI.1
 have a22:=jq 1 1000 kX.1
 have a23:=jq 1 1000 kn.1
 have a24:=s36 0 10000 fC
 have a25:=s36 0 50000 fF
 have a26:=s36 0 50000 fR
 have a27:=s44 0 10000 fC
 have a28:=s44 0 50000 fF
 have a29:=s44 0 50000 fR
 cases c0:(nmB p.Name 8)
 rotate_left
 cases c1:(inI 1 3000000000 p.Empty)
 rotate_left
 cases c2:(inI 1 (IntKind.wrap .i64 (3000000000 - p.Empty)) p.MaxFuel)
 rotate_left
 cases c3:(inI 2 12 (p.Alts.length:Int))
 rotate_left
 cases c4:(inI 2 6 (p.Masses.length:Int))
 rotate_left
 cases c5:(shT p.Alts.length p.Masses.length p.Climb)
 rotate_left
 cases c6:(shT p.Alts.length p.Masses.length p.ClimbFlow)
 rotate_left
 cases c7:(shT p.Alts.length p.Masses.length p.Cruise)
 rotate_left
 rcases Bool.eq_false_or_eq_true ((((((p.Descent.length:Int) != (p.Alts.length:Int)) || ((p.Idle.length:Int) != (p.Alts.length:Int))) || ((p.MaxSpeed.length:Int) != (p.Alts.length:Int))) || ((p.MinSpeed.length:Int) != (p.Masses.length:Int)))) with c8 | c8
 rotate_left
 cases c9:(U6 p.Alts)
 rotate_left
 cases c10:(U6 p.Masses)
 rotate_left
 cases c11:(inL (-200000) 6000000 p.Alts)
 rotate_left
 cases c12:(inI (-200000) 6000000 p.Ceiling)
 rotate_left
 cases c13:(inL 1 3000000000 p.Masses)
 rotate_left
 cases c14:(inT 0 10000 p.Climb)
 rotate_left
 cases c15:(inL 1 10000 p.Descent)
 rotate_left
 cases c16:(inT 0 50000 p.ClimbFlow)
 rotate_left
 cases c17:(inT 0 50000 p.Cruise)
 rotate_left
 cases c18:(inL 0 50000 p.Idle)
 rotate_left
 cases c19:(inL 1 1000 p.MaxSpeed)
 rotate_left
 cases c20:(inL 1 1000 p.MinSpeed)
 rotate_left
 cases c21:(inI 1 1000 p.Ref)
 rotate_left
 cases c22:(inI 0 100 p.Extra)
 rotate_left
 have cl:Cl p p.Masses.length:=⟨fC,kA.1,(sh_of c5).1,(sh_of c5).2,qz c14 (by decide) (by decide),Wm c11 (by decide) (by decide)⟩
 have b0:=s37 fC (.inr rfl) cl.sh cl.st
 have b1:=s38 cl
 have b2:=s37 fF (.inl rfl) (sh_of c6).1 (qz c16 (by decide) (by decide))
 have b3:=s37 fR (.inl rfl) (sh_of c7).1 (qz c17 (by decide) (by decide))
 have b4:=s45 cl
 have b5:=s46 fF (sh_of c6).1
 have b6:=s46 fR (sh_of c7).1
 rw[← cl_eq cl]at b4
 rw[← fl_eq]at b5 b6
 have b7:=s39 kD.1 (.inl rfl) (Wm c15 (by decide) (by decide))
 have b8:=s39 kI.1 (.inr rfl) (Wm c18 (by decide) (by decide))
 have b9:=s39 kX.1 (.inr rfl) (Wm c19 (by decide) (by decide))
 have b10:=s39 kn.1 (.inl rfl) (Wm c20 (by decide) (by decide))
 have b11:=s47 kD.1
 have b12:=s48 kI.1
 have b13:=s48 kX.1
 have b14:=s47 kn.1
 cases c23:(Jc (-1) p.Climb)
 rotate_left
 cases c24:(W5 p)
 rotate_left
 cases c25:(Jc 1 p.ClimbFlow)
 rotate_left
 cases c26:(Jc 1 p.Cruise)
 rotate_left
 cases c27:(Fb 1 p.Descent)
 rotate_left
 cases c28:(Fb (-1) p.Idle)
 rotate_left
 cases c29:(Fb (-1) p.MaxSpeed)
 rotate_left
 cases c30:(Fb 1 p.MinSpeed)
 rotate_left
 all_goals
  refine⟨(Pc p).getD 0,?_,?_,?_⟩
  all_goals (simp only[*,A20,A43,good,s32',s43',inI1,inI2,decide_true,decide_false,Bool.false_eq_true,if_true,if_false,Bool.not_true,Bool.not_false,Bool.or_true,Bool.or_false,Bool.true_or,Bool.false_or,Bool.and_true,Bool.and_false,Bool.true_and,Bool.false_and,Option.bind_some,Option.getD_some];try decide)
end Go.Av.Pk
set_option maxRecDepth 100000
namespace Go.Av.Txs
open Go.Av
theorem A46o1  (a0 a1:Int) (a2:List Aj) (a3 a4:Int) (a5:A5):Wd a0 a1 a2 a3 a4 a5=((Option.bind (Option.bind (bf a1 a2 a3 a4 a5 a0) fun r=>some r) fun x1=>(some (x1.1,x1.2.1,x1.2.2.1,x1.2.2.2.1,x1.2.2.2.2.1,x1.2.2.2.2.2))):Option (Nj)):=by kernel_rfl
theorem A111o1  (a0:Int) (a1:List Aj) (a2 a3:Int) (a4:A5) (a5:Int):bf a0 a1 a2 a3 a4 a5=((Option.bind (Option.bind (He a0 a1 a2 a3 a4) fun r=>some r) fun x2=>(if(!x2.1)=true then(some (([]:List UInt8),x2.2.2.1,x2.2.2.2.1,x2.2.2.2.2.1,x2.2.2.2.2.2.1,x2.2.2.2.2.2.2))else(Option.bind (Option.bind (bg x2.2.1 a5) fun r=>some r) fun x5=>(if(x5.1 != 0)=true then(Option.bind (((D8 x2.2.2.2.1 x5.1 a0 a1 x2.2.2.1 x2.2.2.2.1 (⟨x2.2.2.2.2.1,x2.2.2.2.2.2.1,x2.2.2.2.2.2.2⟩:A5)).bind fun r7_0=>some (r7_0,x2))) fun(x7:((Eu)×(Gw)))=>(some (([]:List UInt8),x7.2.2.2.1,x7.2.2.2.2.1,x7.1.1,x7.1.2.1,x7.1.2.2)))else(some (x5.2,x2.2.2.1,x2.2.2.2.1,x2.2.2.2.2.1,x2.2.2.2.2.2.1,x2.2.2.2.2.2.2)))))):Option (Nj)):=by kernel_rfl
theorem A112o0  (a0:List UInt8) (a1:Int):bg a0 a1=((Option.bind (Option.bind (m55 a0 a1) fun r=>some r) fun x1=>(if(!x1)=true then(some ((5:Int),([]:List UInt8)))else(some ((0:Int),a0)))):Option (P49)):=by kernel_rfl
theorem A115o0  (a0:Int) (a1:List Aj) (a2 a3:Int) (a4:A5):Uu a0 a1 a2 a3 a4=((Option.bind (Option.bind (J5 a0 a1 a2 a3 a4) fun r=>some r) fun x1=>(if(false || (a4.Code != 0))=true then(some (0:Int))else(some (IntKind.wrap .i64 ((a1.length:Int) - a2))))):Option (Int)):=by kernel_rfl
theorem A116o0  (a0:Int) (a1:Ab):Qq a0 a1=((Option.bind (Option.bind (Hf a1) fun r=>some r) fun x1=>(if(!x1.1)=true then(some (([]:List UInt8),a1.line.A8,a1.line.A2,x1.2.2.1,x1.2.2.2.1,x1.2.2.2.2.1,x1.2.2.2.2.2.1,x1.2.2.2.2.2.2.1,x1.2.2.2.2.2.2.2))else(Option.bind (Option.bind (na x1.2.1 a0) fun r=>some r) fun x4=>(if(!x4)=true then(Option.bind (((Ci x1.2.2.2.1 (5:Int) (⟨a1.line,x1.2.2.1,x1.2.2.2.1,(⟨x1.2.2.2.2.1,x1.2.2.2.2.2.1,x1.2.2.2.2.2.2.1⟩:A5),x1.2.2.2.2.2.2.2⟩:Ab)).bind fun r5_0=>some (r5_0,x1))) fun(x5:((P6)×(H6)))=>(some (([]:List UInt8),(⟨a1.line,x5.2.2.2.1,x5.2.2.2.2.1,(⟨x5.2.2.2.2.2.1,x5.2.2.2.2.2.2.1,x5.2.2.2.2.2.2.2.1⟩:A5),x5.2.2.2.2.2.2.2.2⟩:Ab).line.A8,(⟨a1.line,x5.2.2.2.1,x5.2.2.2.2.1,(⟨x5.2.2.2.2.2.1,x5.2.2.2.2.2.2.1,x5.2.2.2.2.2.2.2.1⟩:A5),x5.2.2.2.2.2.2.2.2⟩:Ab).line.A2,(⟨a1.line,x5.2.2.2.1,x5.2.2.2.2.1,(⟨x5.2.2.2.2.2.1,x5.2.2.2.2.2.2.1,x5.2.2.2.2.2.2.2.1⟩:A5),x5.2.2.2.2.2.2.2.2⟩:Ab).at_,(⟨a1.line,x5.2.2.2.1,x5.2.2.2.2.1,(⟨x5.2.2.2.2.2.1,x5.2.2.2.2.2.2.1,x5.2.2.2.2.2.2.2.1⟩:A5),x5.2.2.2.2.2.2.2.2⟩:Ab).last,x5.1.1,x5.1.2.1,x5.1.2.2.1,x5.1.2.2.2)))else(some (x1.2.1,a1.line.A8,a1.line.A2,x1.2.2.1,x1.2.2.2.1,x1.2.2.2.2.1,x1.2.2.2.2.2.1,x1.2.2.2.2.2.2.1,x1.2.2.2.2.2.2.2)))))):Option (P45)):=by kernel_rfl
theorem A139o0  (a0:Ab):Uw a0=((if a0.failed=true then(some (0:Int))else(some (IntKind.wrap .i64 ((a0.line.A2.length:Int) - a0.at_)))):Option (Int)):=by kernel_rfl
theorem ww  (a0:List UInt8) (a1:List A7) (a2:Int) (a3:A5) (a4:Bool):Ht a0 a1 a2 a3 a4=((if a4=true then(some (a3.Line,a3.Ai,a3.Code,a4))else(if(a2==(a1.length:Int))=true then(if(decide (0 < a2))=true then(if(0≤(IntKind.wrap .i64 (a2 - 1)))then(if((IntKind.wrap .i64 (a2 - 1)) < (a1.length:Int))then(some ((IntKind.wrap .i64 ((a1.getD (IntKind.wrap .i64 (a2 - 1)).toNat default).A8+1)),(1:Int),(4:Int),true))else none)else none)else(some ((1:Int),(1:Int),(4:Int),true)))else(Option.bind ((if 0≤a2 then(if a2 < (a1.length:Int)then((S2 (a1.getD a2.toNat default)).bind fun r8_0=>some r8_0)else none)else none)) fun(x8:(Unit))=>(Option.bind (Option.bind (Pd ([a0]:List (List UInt8)) (a1.getD a2.toNat default).A8 (a1.getD a2.toNat default).A2 (0:Int) (1:Int) (⟨(0:Int),(0:Int),(0:Int)⟩:A5)) fun r=>some r) fun x10=>none)))):Option (P6)):=by kernel_rfl
theorem A45o2  (a0:List UInt8) (a1:List A7) (a2:Int) (a3:A5) (a4:Bool):M4 a0 a1 a2 a3 a4=((if a4=true then none else(if(a2==(a1.length:Int))=true then(if(decide (0 < a2))=true then(if(0≤(IntKind.wrap .i64 (a2 - 1)))then(if((IntKind.wrap .i64 (a2 - 1)) < (a1.length:Int))then none else none)else none)else none)else(Option.bind ((if 0≤a2 then(if a2 < (a1.length:Int)then((S2 (a1.getD a2.toNat default)).bind fun r8_0=>some r8_0)else none)else none)) fun(x8:(Unit))=>(Option.bind (Option.bind (Pd ([a0]:List (List UInt8)) (a1.getD a2.toNat default).A8 (a1.getD a2.toNat default).A2 (0:Int) (1:Int) (⟨(0:Int),(0:Int),(0:Int)⟩:A5)) fun r=>some r) fun x10=>(some (x10.2.1,x10.2.2.1,x10.2.2.2.1,x10.2.2.2.2.1,x10.2.2.2.2.2)))))):Option (P2)):=by kernel_rfl
theorem wx  (a0:Int) (a1:List Aj) (a2 a3:Int) (a4:A5):Bw a0 a1 a2 a3 a4=((Option.bind (Option.bind (bv (0:Int) (3000000000:Int) a0 a1 a2 a3 a4) fun r=>some r) fun x1=>(some (x1.1,x1.2.1,x1.2.2.1,x1.2.2.2.1,x1.2.2.2.2.1,x1.2.2.2.2.2))):Option (Aw)):=by kernel_rfl
theorem A49o0  (a0:List A7) (a1:Int) (a2:A5) (a3:Bool) (a4:Int) (a5:List Aj) (a6 a7:Int) (a8:A5):Kp a0 a1 a2 a3 a4 a5 a6 a7 a8=((Option.bind (Option.bind (bw a4 a5 a6 a7 a8) fun r=>some r) fun x0=>(if(x0.1&&(!a3))=true then(some (x0.2.1,x0.2.2.1,x0.2.2.2,true))else(some (a2.Line,a2.Ai,a2.Code,a3)))):Option (P6)):=by kernel_rfl
abbrev O1 (a1:List A7) (a2:Int):(Nk)→Option ((Nk)⊕((Nk)⊕(P8))):=(fun(s2:Nk)=>((Option.bind (Option.bind (Uu (a1.getD a2.toNat default).A8 (a1.getD a2.toNat default).A2 s2.2.1 s2.2.2.1 (⟨s2.2.2.2.1,s2.2.2.2.2.1,s2.2.2.2.2.2⟩:A5)) fun r=>some r) fun x5=>(if((decide (0 < x5))&&(decide ((s2.1.length:Int) < (6:Int))))=true then(Option.bind (((Bw (a1.getD a2.toNat default).A8 (a1.getD a2.toNat default).A2 s2.2.1 s2.2.2.1 (⟨s2.2.2.2.1,s2.2.2.2.2.1,s2.2.2.2.2.2⟩:A5)).bind fun r6_0=>(if(s2.1.length+1) * 8≤140737488355328 then some r6_0 else none))) fun(x6:((Aw)))=>(some (.inl ((s2.1++([x6.1]:List Int)),x6.2.1,x6.2.2.1,x6.2.2.2.1,x6.2.2.2.2.1,x6.2.2.2.2.2))))else(some (.inr (.inl (s2.1,s2.2.1,s2.2.2.1,(⟨s2.2.2.2.1,s2.2.2.2.2.1,s2.2.2.2.2.2⟩:A5).Line,(⟨s2.2.2.2.1,s2.2.2.2.2.1,s2.2.2.2.2.2⟩:A5).Ai,(⟨s2.2.2.2.1,s2.2.2.2.2.1,s2.2.2.2.2.2⟩:A5).Code)))))):Option ((Nk)⊕((Nk)⊕(P8)))))
theorem A50o0  (a0:List UInt8) (a1:List A7) (a2:Int) (a3:A5) (a4:Bool):Ce a0 a1 a2 a3 a4=((je (Option.bind (Option.bind (Option.bind (Ht a0 a1 a2 a3 a4) fun r=>some r) fun x1=>(if true=true then(some (.inr (([],a2,x1.1,x1.2.1,x1.2.2.1,x1.2.2.2))))else(Option.bind (none) fun(x4:(Unit))=>none))) (Ad fun(y:Empty)=>none)) (Option.bind (Option.bind (Option.bind (M4 a0 a1 a2 a3 a4) fun r=>some r) fun x1=>(if false=true then(some (.inr (([],(IntKind.wrap .i64 (a2+1)),a3.Line,a3.Ai,a3.Code,a4))))else(Option.bind (Option.bind (Bw (a1.getD a2.toNat default).A8 (a1.getD a2.toNat default).A2 x1.1 x1.2.1 (⟨x1.2.2.1,x1.2.2.2.1,x1.2.2.2.2⟩:A5)) fun r=>some r) fun x4=>(some (.inl (([x4.1]:List Int),x4.2.1,x4.2.2.1,x4.2.2.2.1,x4.2.2.2.2.1,x4.2.2.2.2.2)))))) (Ad fun(y1:Nk)=>(Option.bind (Ak (O1 a1 a2) (y1.1,y1.2.1,y1.2.2.1,y1.2.2.2.1,y1.2.2.2.2.1,y1.2.2.2.2.2)) (Ad fun(y3:Nk)=>(Option.bind (Option.bind (Kp a1 (IntKind.wrap .i64 (a2+1)) a3 a4 (a1.getD a2.toNat default).A8 (a1.getD a2.toNat default).A2 y3.2.1 y3.2.2.1 (⟨y3.2.2.2.1,y3.2.2.2.2.1,y3.2.2.2.2.2⟩:A5)) fun r=>some r) fun x7=>(some (y3.1,(IntKind.wrap .i64 (a2+1)),x7.1,x7.2.1,x7.2.2.1,x7.2.2.2)))))))):Option (P8)):=by kernel_rfl
abbrev Gr:(Yw)→Option ((Yw)⊕((tg)⊕(X0))):=(fun(s2:Yw)=>((Option.bind ((if((!(s2.2.1==0))&&(decide (s2.2.1 < 6)))=true then((Uw (⟨(⟨s2.2.2.1,s2.2.2.2.1⟩:A7),s2.2.2.2.2.1,s2.2.2.2.2.2.1,(⟨s2.2.2.2.2.2.2.1,s2.2.2.2.2.2.2.2.1,s2.2.2.2.2.2.2.2.2.1⟩:A5),s2.2.2.2.2.2.2.2.2.2⟩:Ab)).bind fun r5_0=>some r5_0)else(if((!(s2.2.1==0))&&(decide (s2.2.1 < 6)))=true then none else(if(!(s2.2.1==0))=true→(decide (s2.2.1 < 6))=false then some default else none)))) fun(x5:(Int))=>(if((!(s2.2.1==0))&&(decide (s2.2.1 < 6)))=true then(if((s2.2.1==0) || ((decide (s2.2.1 < 6))&&(decide (0 < x5))))=true then(Option.bind (((Bx (0:Int) (3000000000:Int) (⟨(⟨s2.2.2.1,s2.2.2.2.1⟩:A7),s2.2.2.2.2.1,s2.2.2.2.2.2.1,(⟨s2.2.2.2.2.2.2.1,s2.2.2.2.2.2.2.2.1,s2.2.2.2.2.2.2.2.2.1⟩:A5),s2.2.2.2.2.2.2.2.2.2⟩:Ab)).bind fun r7_0=>(if(s2.1.length+1) * 8≤140737488355328 then some r7_0 else none))) fun(x7:((Bk)))=>(some (.inl ((s2.1++([x7.1]:List Int)),(IntKind.wrap .i64 (s2.2.1+1)),x7.2.1,x7.2.2.1,x7.2.2.2.1,x7.2.2.2.2.1,x7.2.2.2.2.2.1,x7.2.2.2.2.2.2.1,x7.2.2.2.2.2.2.2.1,x7.2.2.2.2.2.2.2.2))))else(some (.inr (.inl (s2.1,(⟨(⟨s2.2.2.1,s2.2.2.2.1⟩:A7),s2.2.2.2.2.1,s2.2.2.2.2.2.1,(⟨s2.2.2.2.2.2.2.1,s2.2.2.2.2.2.2.2.1,s2.2.2.2.2.2.2.2.2.1⟩:A5),s2.2.2.2.2.2.2.2.2.2⟩:Ab).line.A8,(⟨(⟨s2.2.2.1,s2.2.2.2.1⟩:A7),s2.2.2.2.2.1,s2.2.2.2.2.2.1,(⟨s2.2.2.2.2.2.2.1,s2.2.2.2.2.2.2.2.1,s2.2.2.2.2.2.2.2.2.1⟩:A5),s2.2.2.2.2.2.2.2.2.2⟩:Ab).line.A2,(⟨(⟨s2.2.2.1,s2.2.2.2.1⟩:A7),s2.2.2.2.2.1,s2.2.2.2.2.2.1,(⟨s2.2.2.2.2.2.2.1,s2.2.2.2.2.2.2.2.1,s2.2.2.2.2.2.2.2.2.1⟩:A5),s2.2.2.2.2.2.2.2.2.2⟩:Ab).at_,(⟨(⟨s2.2.2.1,s2.2.2.2.1⟩:A7),s2.2.2.2.2.1,s2.2.2.2.2.2.1,(⟨s2.2.2.2.2.2.2.1,s2.2.2.2.2.2.2.2.1,s2.2.2.2.2.2.2.2.2.1⟩:A5),s2.2.2.2.2.2.2.2.2.2⟩:Ab).last,(⟨(⟨s2.2.2.1,s2.2.2.2.1⟩:A7),s2.2.2.2.2.1,s2.2.2.2.2.2.1,(⟨s2.2.2.2.2.2.2.1,s2.2.2.2.2.2.2.2.1,s2.2.2.2.2.2.2.2.2.1⟩:A5),s2.2.2.2.2.2.2.2.2.2⟩:Ab).diag.Line,(⟨(⟨s2.2.2.1,s2.2.2.2.1⟩:A7),s2.2.2.2.2.1,s2.2.2.2.2.2.1,(⟨s2.2.2.2.2.2.2.1,s2.2.2.2.2.2.2.2.1,s2.2.2.2.2.2.2.2.2.1⟩:A5),s2.2.2.2.2.2.2.2.2.2⟩:Ab).diag.Ai,(⟨(⟨s2.2.2.1,s2.2.2.2.1⟩:A7),s2.2.2.2.2.1,s2.2.2.2.2.2.1,(⟨s2.2.2.2.2.2.2.1,s2.2.2.2.2.2.2.2.1,s2.2.2.2.2.2.2.2.2.1⟩:A5),s2.2.2.2.2.2.2.2.2.2⟩:Ab).diag.Code,(⟨(⟨s2.2.2.1,s2.2.2.2.1⟩:A7),s2.2.2.2.2.1,s2.2.2.2.2.2.1,(⟨s2.2.2.2.2.2.2.1,s2.2.2.2.2.2.2.2.1,s2.2.2.2.2.2.2.2.2.1⟩:A5),s2.2.2.2.2.2.2.2.2.2⟩:Ab).failed)))))else(if((!(s2.2.1==0))&&(decide (s2.2.1 < 6)))=true then none else(if((s2.2.1==0) || false)=true then(Option.bind (((Bx (0:Int) (3000000000:Int) (⟨(⟨s2.2.2.1,s2.2.2.2.1⟩:A7),s2.2.2.2.2.1,s2.2.2.2.2.2.1,(⟨s2.2.2.2.2.2.2.1,s2.2.2.2.2.2.2.2.1,s2.2.2.2.2.2.2.2.2.1⟩:A5),s2.2.2.2.2.2.2.2.2.2⟩:Ab)).bind fun r7_0=>(if(s2.1.length+1) * 8≤140737488355328 then some r7_0 else none))) fun(x7:((Bk)))=>(some (.inl ((s2.1++([x7.1]:List Int)),(IntKind.wrap .i64 (s2.2.1+1)),x7.2.1,x7.2.2.1,x7.2.2.2.1,x7.2.2.2.2.1,x7.2.2.2.2.2.1,x7.2.2.2.2.2.2.1,x7.2.2.2.2.2.2.2.1,x7.2.2.2.2.2.2.2.2))))else(some (.inr (.inl (s2.1,s2.2.2.1,s2.2.2.2.1,s2.2.2.2.2.1,s2.2.2.2.2.2.1,s2.2.2.2.2.2.2.1,s2.2.2.2.2.2.2.2.1,s2.2.2.2.2.2.2.2.2.1,s2.2.2.2.2.2.2.2.2.2)))))))):Option ((Yw)⊕((tg)⊕(X0)))))
theorem A117  (a0:A7) (a1:List UInt8):Uv a0 a1=((Option.bind (Option.bind (Option.bind (N5 a0) fun r=>some r) fun x1=>(Option.bind (Option.bind (Jg ([a1]:List (List UInt8)) (⟨a0,(0:Int),(1:Int),(⟨(0:Int),(0:Int),(0:Int)⟩:A5),false⟩:Ab)) fun r=>some r) fun x2=>(some (.inl (x2.2.1,x2.2.2.1,x2.2.2.2.1,x2.2.2.2.2.1,x2.2.2.2.2.2.1,x2.2.2.2.2.2.2.1,x2.2.2.2.2.2.2.2.1,x2.2.2.2.2.2.2.2.2))))) (Ad fun(y1:P3)=>(Option.bind (Option.bind (some (.inl ())) (Ad fun(_:Unit)=>(Ak (Gr) ([],(0:Int),y1.1,y1.2.1,y1.2.2.1,y1.2.2.2.1,y1.2.2.2.2.1,y1.2.2.2.2.2.1,y1.2.2.2.2.2.2.1,y1.2.2.2.2.2.2.2)))) (Ad fun(y3:tg)=>(Option.bind (Option.bind (Hu (⟨(⟨y3.2.1,y3.2.2.1⟩:A7),y3.2.2.2.1,y3.2.2.2.2.1,(⟨y3.2.2.2.2.2.1,y3.2.2.2.2.2.2.1,y3.2.2.2.2.2.2.2.1⟩:A5),y3.2.2.2.2.2.2.2.2⟩:Ab)) fun r=>some r) fun x8=>(some (y3.1,(⟨x8.2.1,x8.2.2.1,x8.2.2.2⟩:A5),x8.1))))))):Option (X0)):=by kernel_rfl
def s0:Sc:=⟨0,1,⟨0,0,0⟩⟩
theorem scan_eq {L:A7} (O:Cv L):S2 L=some ():=by
 rw[A83o0,if_pos (Nat.le_trans (Nat.mul_le_mul_right 24 O.len) (by decide))]
def M6 (ls:List A7):A5:=if 0 < ls.length then⟨(ls.getD (ls.length - 1) default).A8+1,1,4⟩else⟨1,1,4⟩
def H5 (L:A7) (s:Sc):List UInt8×Sc:=match (C9 L s).1 with
 | none=>([],(C9 L s).2)
 | some t=>if Pk.nmB t 8=true then(t,(C9 L s).2)else([],(C9 L s).2.fail L.A8 (C9 L s).2.l 5)
theorem nameS_n {L:A7} {s:Sc} (h:s.n≤L.A2.length):(H5 L s).2.n≤L.A2.length:=by
 unfold H5
 split
 ·exact M9 h
 ·split
  ·exact M9 h
  ·show (Sc.fail _ _ _ _).n≤_
   rw[D6];exact M9 h
theorem ml_200 {n:Nat} (h:n≤200):n≤maxLen:=Nat.le_trans h (by decide)
theorem name_eq {L:A7} (O:Cv L) {s:Sc} (h:s.n≤L.A2.length):Wd (8:Int) L.A8 L.A2 (s.n:Int) s.l s.d=some ((H5 L s).1,C8 (H5 L s).2):=by
 rw[A46o1,A111o1,Wn O h]
 simp only[bs]
 unfold H5
 cases hk:(C9 L s).1 with
 | none=>rfl
 | some t =>
  simp only[Option.isSome_some,Bool.not_true,Bool.false_eq_true,if_false,bs,ol,Option.getD_some]
  rw[A112o0,Pk.s31 8 (ml_200 (Sm O h hk))]
  simp only[bs]
  generalize (C9 L s).2=q
  cases Pk.nmB t 8 with
  | true=>rfl
  | false =>
   have:=Nh q.l 5 L.A8 L.A2 (q.n:Int) q.l q
   rw[if_pos (show (!false)=true from rfl)]
   simp only[bs]
   rw[if_pos (show ((5:Int) != 0)=true from rfl)]
   simp only[C8]
   rw[this]
   simp only[bs,Bool.false_eq_true,if_false,D6,Gi]
theorem rname_eq {L:A7} (O:Cv L) {s:Sc} (h:s.n≤L.A2.length):Qq (8:Int) (rS L s)=some ((H5 L s).1,L.A8,L.A2,C7 (H5 L s).2):=by
 rw[A116o0,Si O h]
 simp only[bs]
 unfold H5
 cases hk:(C9 L s).1 with
 | none=>rfl
 | some t =>
  simp only[Option.isSome_some,Bool.not_true,Bool.false_eq_true,if_false,bs,ol,Option.getD_some]
  rw[Pk.s40 8 (ml_200 (Sm O h hk))]
  simp only[bs]
  generalize (C9 L s).2=q
  cases Pk.nmB t 8 with
  | true=>rfl
  | false =>
   rw[if_pos (show (!false)=true from rfl)]
   have:=Lp q.l 5 L q
   unfold rS at this
   simp only[C7]
   show (Option.bind ((Ci q.l 5 (⟨L,(q.n:Int),q.l,q.d,q.d.Code != 0⟩:Ab)).bind _) _)=_
   rw[this]
   simp only[bs,Bool.false_eq_true,if_false,D6,Gi]
   rfl
def Jd (L:A7) (s:Sc):Int:=if s.d.Code≠0 then 0 else(L.A2.length:Int) - (s.n:Int)
theorem tw {L:A7} (O:Cv L) {s:Sc} (h:s.n≤L.A2.length):Uu L.A8 L.A2 (s.n:Int) s.l s.d=some (Jd L s):=by
 have:=O.len
 rw[A115o0,Yu]
 simp only[bs,Bool.false_or]
 unfold Jd
 by_cases hc:s.d.Code=0
 ·rw[if_neg (show ¬ (s.d.Code != 0)=true from by simp[hc]),if_neg (show ¬ s.d.Code≠0 from fun h=>h hc),B2 (by omega) (by omega)]
 ·rw[if_pos (show (s.d.Code != 0)=true from by simp[hc]),if_pos (show s.d.Code≠0 from hc)]
theorem rleft_eq {L:A7} (O:Cv L) {s:Sc} (h:s.n≤L.A2.length):Uw (rS L s)=some (Jd L s):=by
 have:=O.len
 rw[A139o0]
 unfold Jd
 by_cases hc:s.d.Code=0
 ·rw[if_neg (show ¬ (rS L s).failed=true from by simp[rS,hc]),if_neg (show ¬ s.d.Code≠0 from fun h=>h hc)]
  show some (IntKind.wrap .i64 ((L.A2.length:Int) - (s.n:Int)))=_
  rw[B2 (by omega) (by omega)]
 ·rw[if_pos (show (rS L s).failed=true from by simp[rS,hc]),if_pos (show s.d.Code≠0 from hc)]
abbrev Dx (L:A7) (s:Sc):Int×Sc:=Lj 0 3000000000 L s
def Mj (L:A7):Nat→List Int→Sc→List Int×Sc
 | 0,l,s=>(l,s)
 | k+1,l,s=>if 0 < Jd L s then Mj L k (l++[(Dx L s).1]) (Dx L s).2 else(l,s)
theorem mrS_n {L:A7}:∀ (k:Nat) (l:List Int) (s:Sc),s.n≤L.A2.length→(Mj L k l s).2.n≤L.A2.length∧(Mj L k l s).1.length≤l.length+k
 | 0,l,s,h=>⟨h,Nat.le_refl _⟩
 | k+1,l,s,h=>by
  unfold Mj
  split
  ·have:=mrS_n k (l++[(Dx L s).1]) (Dx L s).2 (Hi h)
   rw[List.length_append,List.length_singleton]at this
   exact⟨this.1,by omega⟩
  ·exact⟨h,by show l.length≤_;omega⟩
def ba (w:List UInt8) (L:A7):List Int×Sc:=Mj L 5 [(Dx L (C4 w L s0)).1] (Dx L (C4 w L s0)).2
def Ff (w:List UInt8) (L:A7):List Int×Bool×A5:=((ba w L).1,C5 L (ba w L).2)
theorem zi {w:List UInt8} {L:A7}:(Dx L (C4 w L s0)).2.n≤L.A2.length∧(ba w L).2.n≤L.A2.length∧(ba w L).1.length≤6:=by
 have h0:(Dx L (C4 w L s0)).2.n≤L.A2.length:=Hi (Ra (Nat.zero_le _))
 have:=mrS_n 5 [(Dx L (C4 w L s0)).1] _ h0
 exact⟨h0,this.1,this.2⟩
theorem list_loop {ls:List A7} {i:Nat} {L:A7} (hL:ls.getD i default=L) (O:Cv L):∀ (k:Nat) (l:List Int) (s:Sc),l.length+k=6→s.n≤L.A2.length→Ak (O1 ls (i:Int)) (l,C8 s)=some (.inl ((Mj L k l s).1,C8 (Mj L k l s).2)):=by
 intro k
 induction k with
 | zero =>
  intro l s hk h
  refine Bh ?_
  have hl:=tw O h
  simp only[O1,Int.toNat_natCast,hL,C8]
  rw[hl]
  simp only[bs]
  rw[if_neg (show ¬ ((decide (0 < Jd L s))&&(decide ((l.length:Int) < (6:Int))))=true from by
   rw[show decide ((l.length:Int) < (6:Int))=false from decide_eq_false (by omega)];simp)]
  rfl
 | succ k ih =>
  intro l s hk h
  have hl:=tw O h
  unfold Mj
  by_cases hc:0 < Jd L s
  ·rw[if_pos hc]
   refine Bm (s':=(l++[(Dx L s).1],C8 (Dx L s).2)) ?_ (ih _ _ (by rw[List.length_append,List.length_singleton];omega) (Hi h))
   have hn:=nu (lo:=0) (hi:=3000000000) (by decide) (by decide) O h
   simp only[O1,Int.toNat_natCast,hL,C8]
   rw[hl]
   simp only[bs]
   rw[if_pos (show ((decide (0 < Jd L s))&&(decide ((l.length:Int) < (6:Int))))=true from by
    rw[decide_eq_true hc,decide_eq_true (show (l.length:Int) < 6 from by omega)];rfl)]
   rw[wx]
   rw[hn]
   simp only[bs]
   rw[if_pos (Es (by omega))]
   rfl
  ·rw[if_neg hc]
   refine Bh ?_
   simp only[O1,Int.toNat_natCast,hL,C8]
   rw[hl]
   simp only[bs]
   rw[if_neg (show ¬ ((decide (0 < Jd L s))&&(decide ((l.length:Int) < (6:Int))))=true from by
    rw[decide_eq_false hc];simp)]
theorem bind_no {α β:Type} (x:Option α):(x.bind fun _=>(none:Option β))=none:=by cases x<;>rfl
section
variable {ls:List A7} (hl:ls.length≤300001) (ho:∀ L∈ls,Cv L)
theorem u4 (w:List UInt8) (i:Int) (d:A5):Ht w ls i d true=some (d.Line,d.Ai,d.Code,true):=by rw[ww,if_pos rfl]
include hl ho in
theorem ez (w:List UInt8) (d:A5):Ht w ls (ls.length:Int) d false=some ((M6 ls).Line,(M6 ls).Ai,(M6 ls).Code,true):=by
 rw[ww,if_neg (show ¬ (false=true) from by decide),if_pos (beq_self_eq_true _)]
 unfold M6
 by_cases h:0 < ls.length
 ·have e:IntKind.wrap .i64 ((ls.length:Int) - 1)=((ls.length - 1:Nat):Int):=by rw[B2 (by omega) (by omega)];omega
  have O:=ho _ (Ay (l:=ls) (i:=ls.length - 1) (by omega))
  rw[if_pos (decide_eq_true (show (0:Int) < (ls.length:Int) from by omega)),e,if_pos (by omega),if_pos (by omega),Int.toNat_natCast,if_pos h,B2 (by have:=O.num;omega) (by have:=O.num;omega)]
 ·rw[if_neg (show ¬ decide ((0:Int) < (ls.length:Int))=true from fun e=>h (by have:=of_decide_eq_true e;omega)),if_neg h]
theorem nw {i:Nat} (h:i < ls.length) (w:List UInt8) (d:A5):Ht w ls (i:Int) d false=none:=by
 rw[ww,if_neg (show ¬ (false=true) from by decide),if_neg (show ¬ ((i:Int)==(ls.length:Int))=true from by simp;omega)]
 simp only[bind_no]
include ho in
theorem ny {i:Nat} (h:i < ls.length) (w:List UInt8) (d:A5) {L:A7} (hL:ls.getD i default=L):M4 w ls (i:Int) d false=some (C8 (C4 w L s0)):=by
 have O:Cv L:=hL ▸ ho _ (Ay h)
 obtain⟨v,hw⟩:=word_eq (w:=w) O (s:=s0) (Nat.zero_le _)
 have hw':Pd [w] L.A8 L.A2 (0:Int) 1 ⟨0,0,0⟩=some (v,C8 (C4 w L s0)):=hw
 rw[A45o2,if_neg (show ¬ (false=true) from by decide),if_neg (show ¬ ((i:Int)==(ls.length:Int))=true from by simp;omega),if_pos (by omega),if_pos (by omega),Int.toNat_natCast,hL,scan_eq O]
 simp only[bs]
 rw[hw']
 rfl
def D3 (e:Bool×A5) (d:A5):A5×Bool:=if e.1=true then(e.2,true)else(d,false)
theorem me {L:A7} {s:Sc} (h:s.n≤L.A2.length) (i:Int) (d:A5):Kp ls i d false L.A8 L.A2 (s.n:Int) s.l s.d=some ((D3 (C5 L s) d).1.Line,(D3 (C5 L s) d).1.Ai,(D3 (C5 L s) d).1.Code,(D3 (C5 L s) d).2):=by
 rw[A49o0,end_eq h]
 simp only[bs]
 unfold D3
 cases (C5 L s).1<;>rfl
def Ec (ls:List A7) (w:List UInt8) (i:Nat) (d:A5) (bad:Bool):List Int×Nat×A5×Bool :=
 if bad=true then([],i,d,true)else if i=ls.length then([],i,M6 ls,true)
 else((Ff w (ls.getD i default)).1,i+1,D3 (Ff w (ls.getD i default)).2 d)
def Vn (x:List Int×Nat×A5×Bool):List Int×Int×P6:=(x.1,(x.2.1:Int),x.2.2.1.Line,x.2.2.1.Ai,x.2.2.1.Code,x.2.2.2)
include hl ho in
theorem Gq (w:List UInt8) {i:Nat} (hi:i≤ls.length) (d:A5) (bad:Bool):Ce w ls (i:Int) d bad=some (Vn (Ec ls w i d bad)):=by
 rw[A50o0]
 unfold Ec
 cases bad with
 | true =>
  rw[u4]
  rfl
 | false =>
  rw[if_neg (show ¬ (false=true) from by decide)]
  by_cases h:i=ls.length
  ·rw[if_pos h,h,ez hl ho]
   rfl
  ·rw[if_neg h]
   have hlt:i < ls.length:=by omega
   generalize hL:ls.getD i default=L
   have O:Cv L:=hL ▸ ho _ (Ay hlt)
   have hn:=nu (lo:=0) (hi:=3000000000) (by decide) (by decide) O (s:=C4 w L s0) (Ra (Nat.zero_le _))
   obtain⟨k1,k2,k3⟩:=zi (w:=w) (L:=L)
   have lp:=list_loop hL O 5 [(Dx L (C4 w L s0)).1] (Dx L (C4 w L s0)).2 rfl k1
   rw[nw hlt,ny ho hlt w d hL]
   simp only[bs,je]
   simp only[Int.toNat_natCast,hL,Bool.false_eq_true,if_false]
   rw[wx]
   simp only[C8]at hn ⊢
   rw[hn]
   simp only[bs,ol]
   simp only[C8]at lp
   rw[lp]
   simp only[bs,ol]
   have f:=me (ls:=ls) k2 (i+1) d
   rw[wn (by omega)]
   unfold ba at f k2
   rw[show (((i+1:Nat):Int))=(i:Int)+1 from by omega,f]
   rfl
end
end Go.Av.Txs
set_option maxRecDepth 100000
namespace Go.Av.Txs
open Go.Av
theorem wz  (a0:List A7) (a1:Int) (a2:A5) (a3:Bool) (a4:List UInt8) (a5 a6:Int) (a7 a8:List Int) (a9 a10 a11:List (List Int)) (a12 a13 a14 a15:List Int) (a16 a17 a18:Int):G8 a0 a1 a2 a3 a4 a5 a6 a7 a8 a9 a10 a11 a12 a13 a14 a15 a16 a17 a18=((je (Option.bind (Option.bind (Ht ([82,79,87]:List UInt8) a0 a1 a2 a3) fun r=>some r) fun x0=>(if true=true then(some (a1,x0.1,x0.2.1,x0.2.2.1,x0.2.2.2,a7,a9,a10,a11,a12,a13,a14))else(if((a7.length:Int)==(12:Int))=true then(Option.bind (none) fun(x3:(Unit))=>none)else none))) (Option.bind (Option.bind (M4 ([82,79,87]:List UInt8) a0 a1 a2 a3) fun r=>some r) fun x0=>(if false=true then(some ((IntKind.wrap .i64 (a1+1)),a2.Line,a2.Ai,a2.Code,a3,a7,a9,a10,a11,a12,a13,a14))else(if((a7.length:Int)==(12:Int))=true then(Option.bind (((bz (3:Int) (a0.getD a1.toNat default).A8 (a0.getD a1.toNat default).A2 x0.1 x0.2.1 (⟨x0.2.2.1,x0.2.2.2.1,x0.2.2.2.2⟩:A5)).bind fun r3_0=>some (r3_0,x0))) fun(x3:((Eu)×(P2)))=>(Option.bind (((Ko (a0.getD a1.toNat default).A8 (a0.getD a1.toNat default).A2 x3.2.1 x3.2.2.1 (⟨x3.1.1,x3.1.2.1,x3.1.2.2⟩:A5)).bind fun r4_0=>(if(a7.length+1) * 8≤140737488355328 then some r4_0 else none))) fun(x4:((Aw)))=>(Option.bind (((Bw (a0.getD a1.toNat default).A8 (a0.getD a1.toNat default).A2 x4.2.1 x4.2.2.1 (⟨x4.2.2.2.1,x4.2.2.2.2.1,x4.2.2.2.2.2⟩:A5)).bind fun r5_0=>(if(a12.length+1) * 8≤140737488355328 then some r5_0 else none))) fun(x5:((Aw)))=>(Option.bind (((Bw (a0.getD a1.toNat default).A8 (a0.getD a1.toNat default).A2 x5.2.1 x5.2.2.1 (⟨x5.2.2.2.1,x5.2.2.2.2.1,x5.2.2.2.2.2⟩:A5)).bind fun r6_0=>(if(a13.length+1) * 8≤140737488355328 then some r6_0 else none))) fun(x6:((Aw)))=>(Option.bind (((Bw (a0.getD a1.toNat default).A8 (a0.getD a1.toNat default).A2 x6.2.1 x6.2.2.1 (⟨x6.2.2.2.1,x6.2.2.2.2.1,x6.2.2.2.2.2⟩:A5)).bind fun r7_0=>(if(a14.length+1) * 8≤140737488355328 then some r7_0 else none))) fun(x7:((Aw)))=>(Option.bind (((Kp a0 (IntKind.wrap .i64 (a1+1)) a2 a3 (a0.getD a1.toNat default).A8 (a0.getD a1.toNat default).A2 x7.2.1 x7.2.2.1 (⟨x7.2.2.2.1,x7.2.2.2.2.1,x7.2.2.2.2.2⟩:A5)).bind fun r8_0=>some (r8_0,x7))) fun(x8:((P6)×(Aw)))=>(Option.bind (((Ce ([67,76,73,77,66]:List UInt8) a0 (IntKind.wrap .i64 (a1+1)) (⟨x8.1.1,x8.1.2.1,x8.1.2.2.1⟩:A5) x8.1.2.2.2).bind fun r9_0=>(if(a9.length+1) * 24≤140737488355328 then some r9_0 else none))) fun(x9:((P8)))=>(Option.bind (((Ce ([67,76,73,77,66,70,76,79,87]:List UInt8) a0 x9.2.1 (⟨x9.2.2.1,x9.2.2.2.1,x9.2.2.2.2.1⟩:A5) x9.2.2.2.2.2).bind fun r10_0=>(if(a10.length+1) * 24≤140737488355328 then some r10_0 else none))) fun(x10:((P8)))=>(Option.bind (((Ce ([67,82,85,73,83,69]:List UInt8) a0 x10.2.1 (⟨x10.2.2.1,x10.2.2.2.1,x10.2.2.2.2.1⟩:A5) x10.2.2.2.2.2).bind fun r11_0=>(if(a11.length+1) * 24≤140737488355328 then some r11_0 else none))) fun(x11:((P8)))=>(some (x11.2.1,x11.2.2.1,x11.2.2.2.1,x11.2.2.2.2.1,x11.2.2.2.2.2,(a7++([x4.1]:List Int)),(a9++([x9.1]:List (List Int))),(a10++([x10.1]:List (List Int))),(a11++([x11.1]:List (List Int))),(a12++([x5.1]:List Int)),(a13++([x6.1]:List Int)),(a14++([x7.1]:List Int)))))))))))))else(Option.bind (((Ko (a0.getD a1.toNat default).A8 (a0.getD a1.toNat default).A2 x0.1 x0.2.1 (⟨x0.2.2.1,x0.2.2.2.1,x0.2.2.2.2⟩:A5)).bind fun r4_0=>(if(a7.length+1) * 8≤140737488355328 then some r4_0 else none))) fun(x4:((Aw)))=>(Option.bind (((Bw (a0.getD a1.toNat default).A8 (a0.getD a1.toNat default).A2 x4.2.1 x4.2.2.1 (⟨x4.2.2.2.1,x4.2.2.2.2.1,x4.2.2.2.2.2⟩:A5)).bind fun r5_0=>(if(a12.length+1) * 8≤140737488355328 then some r5_0 else none))) fun(x5:((Aw)))=>(Option.bind (((Bw (a0.getD a1.toNat default).A8 (a0.getD a1.toNat default).A2 x5.2.1 x5.2.2.1 (⟨x5.2.2.2.1,x5.2.2.2.2.1,x5.2.2.2.2.2⟩:A5)).bind fun r6_0=>(if(a13.length+1) * 8≤140737488355328 then some r6_0 else none))) fun(x6:((Aw)))=>(Option.bind (((Bw (a0.getD a1.toNat default).A8 (a0.getD a1.toNat default).A2 x6.2.1 x6.2.2.1 (⟨x6.2.2.2.1,x6.2.2.2.2.1,x6.2.2.2.2.2⟩:A5)).bind fun r7_0=>(if(a14.length+1) * 8≤140737488355328 then some r7_0 else none))) fun(x7:((Aw)))=>(Option.bind (((Kp a0 (IntKind.wrap .i64 (a1+1)) a2 a3 (a0.getD a1.toNat default).A8 (a0.getD a1.toNat default).A2 x7.2.1 x7.2.2.1 (⟨x7.2.2.2.1,x7.2.2.2.2.1,x7.2.2.2.2.2⟩:A5)).bind fun r8_0=>some (r8_0,x7))) fun(x8:((P6)×(Aw)))=>(Option.bind (((Ce ([67,76,73,77,66]:List UInt8) a0 (IntKind.wrap .i64 (a1+1)) (⟨x8.1.1,x8.1.2.1,x8.1.2.2.1⟩:A5) x8.1.2.2.2).bind fun r9_0=>(if(a9.length+1) * 24≤140737488355328 then some r9_0 else none))) fun(x9:((P8)))=>(Option.bind (((Ce ([67,76,73,77,66,70,76,79,87]:List UInt8) a0 x9.2.1 (⟨x9.2.2.1,x9.2.2.2.1,x9.2.2.2.2.1⟩:A5) x9.2.2.2.2.2).bind fun r10_0=>(if(a10.length+1) * 24≤140737488355328 then some r10_0 else none))) fun(x10:((P8)))=>(Option.bind (((Ce ([67,82,85,73,83,69]:List UInt8) a0 x10.2.1 (⟨x10.2.2.1,x10.2.2.2.1,x10.2.2.2.2.1⟩:A5) x10.2.2.2.2.2).bind fun r11_0=>(if(a11.length+1) * 24≤140737488355328 then some r11_0 else none))) fun(x11:((P8)))=>(some (x11.2.1,x11.2.2.1,x11.2.2.2.1,x11.2.2.2.2.1,x11.2.2.2.2.2,(a7++([x4.1]:List Int)),(a9++([x9.1]:List (List Int))),(a10++([x10.1]:List (List Int))),(a11++([x11.1]:List (List Int))),(a12++([x5.1]:List Int)),(a13++([x6.1]:List Int)),(a14++([x7.1]:List Int)))))))))))))))):Option (P1)):=by kernel_rfl
def wROW:List UInt8:=[82,79,87]
def wCLIMB:List UInt8:=[67,76,73,77,66]
def wCLIMBFLOW:List UInt8:=[67,76,73,77,66,70,76,79,87]
def wCRUISE:List UInt8:=[67,82,85,73,83,69]
def En (L:A7):Sc:=C4 wROW L s0
def Gn (k:Nat) (L:A7):Sc:=if k=12 then(En L).fail L.A8 (En L).l 3 else En L
def L8 (k:Nat) (L:A7):Int×Sc:=Jl L (Gn k L)
def L9 (k:Nat) (L:A7):Int×Sc:=Dx L (L8 k L).2
def La (k:Nat) (L:A7):Int×Sc:=Dx L (L9 k L).2
def Gp (k:Nat) (L:A7):Int×Sc:=Dx L (La k L).2
theorem rq_n {k:Nat} {L:A7}:(En L).n≤L.A2.length∧(Gn k L).n≤L.A2.length∧(L8 k L).2.n≤L.A2.length∧(L9 k L).2.n≤L.A2.length∧(La k L).2.n≤L.A2.length∧(Gp k L).2.n≤L.A2.length:=by
 have h0:(En L).n≤L.A2.length:=Ra (Nat.zero_le _)
 have h1:(Gn k L).n≤L.A2.length:=by unfold Gn;split;(· rw[D6];exact h0);exact h0
 have h2:(L8 k L).2.n≤L.A2.length:=altS_n h1
 have h3:(L9 k L).2.n≤L.A2.length:=Hi h2
 have h4:(La k L).2.n≤L.A2.length:=Hi h3
 exact⟨h0,h1,h2,h3,h4,Hi h4⟩
structure RH where
 a:Int
 x:Int
 y:Int
 z:Int
 e:Bool×A5
def R7 (k:Nat) (L:A7):RH:=⟨(L8 k L).1,(L9 k L).1,(La k L).1,(Gp k L).1,C5 L (Gp k L).2⟩
structure PR where
 i:Nat
 d:A5
 bad:Bool
 g:Ah
def addRow (g:Ah) (h:RH) (c f r:List Int):Ah:={ g with Alts:=g.Alts++[h.a],Climb:=g.Climb++[c],ClimbFlow:=g.ClimbFlow++[f],Cruise:=g.Cruise++[r],Descent:=g.Descent++[h.x],Idle:=g.Idle++[h.y],MaxSpeed:=g.MaxSpeed++[h.z] }
def l9 (ls:List A7) (p:PR) (h:RH) (c1:List Int×Nat×A5×Bool):PR :=
 let c2:=Ec ls wCLIMBFLOW c1.2.1 c1.2.2.1 c1.2.2.2
 let c3:=Ec ls wCRUISE c2.2.1 c2.2.2.1 c2.2.2.2
 ⟨c3.2.1,c3.2.2.1,c3.2.2.2,addRow p.g h c1.1 c2.1 c3.1⟩
def Dd (ls:List A7) (p:PR):PR :=
 if p.bad=true then p else if p.i=ls.length then⟨p.i,M6 ls,true,p.g⟩
 else l9 ls p (R7 p.g.Alts.length (ls.getD p.i default)) (Ec ls wCLIMB (p.i+1) (D3 (R7 p.g.Alts.length (ls.getD p.i default)).e p.d).1 (D3 (R7 p.g.Alts.length (ls.getD p.i default)).e p.d).2)
def Oh (p:PR):P1:=((p.i:Int),p.d.Line,p.d.Ai,p.d.Code,p.bad,p.g.Alts,p.g.Climb,p.g.ClimbFlow,p.g.Cruise,p.g.Descent,p.g.Idle,p.g.MaxSpeed)
def lu (g:Ah):Prop:=g.Alts.length≤1000000∧g.Descent.length≤1000000∧g.Idle.length≤1000000∧g.MaxSpeed.length≤1000000∧g.Climb.length≤1000000∧g.ClimbFlow.length≤1000000∧g.Cruise.length≤1000000
theorem N8 {ls:List A7} (w:List UInt8) {i:Nat} (hi:i≤ls.length) (d:A5) (bad:Bool):(Ec ls w i d bad).2.1≤ls.length:=by
 unfold Ec
 split
 ·exact hi
 ·split
  ·exact hi
  ·show i+1≤_;omega
theorem S7 {L:A7} (O:Cv L) {s:Sc} (h:s.n≤L.A2.length):Bw L.A8 L.A2 (s.n:Int) s.l s.d=some ((Dx L s).1,C8 (Dx L s).2):=by
 rw[wx,nu (by decide) (by decide) O h]
 rfl
section
variable {ls:List A7} (hl:ls.length≤300001) (ho:∀ L∈ls,Cv L)
include hl ho
theorem row_in {i:Nat} (hi:i < ls.length) (d:A5) {g:Ah} (hz:lu g):G8 ls (i:Int) d false g.Name g.Empty g.MaxFuel g.Alts g.Masses g.Climb g.ClimbFlow g.Cruise g.Descent g.Idle g.MaxSpeed g.MinSpeed g.Ref g.Extra g.Ceiling=some (Oh (Dd ls ⟨i,d,false,g⟩)):=by
 generalize hL:ls.getD i default=L
 have O:Cv L:=hL ▸ ho _ (Ay hi)
 obtain⟨n0,n1,n2,n3,n4,n5⟩:=rq_n (k:=g.Alts.length) (L:=L)
 have kA:Ko L.A8 L.A2 ((Gn g.Alts.length L).n:Int) (Gn g.Alts.length L).l (Gn g.Alts.length L).d=some ((L8 g.Alts.length L).1,C8 (L8 g.Alts.length L).2):=alt_eq O n1
 have k3:Bw L.A8 L.A2 ((L8 g.Alts.length L).2.n:Int) (L8 g.Alts.length L).2.l (L8 g.Alts.length L).2.d=some ((L9 g.Alts.length L).1,C8 (L9 g.Alts.length L).2):=S7 O n2
 have k4:Bw L.A8 L.A2 ((L9 g.Alts.length L).2.n:Int) (L9 g.Alts.length L).2.l (L9 g.Alts.length L).2.d=some ((La g.Alts.length L).1,C8 (La g.Alts.length L).2):=S7 O n3
 have k5:Bw L.A8 L.A2 ((La g.Alts.length L).2.n:Int) (La g.Alts.length L).2.l (La g.Alts.length L).2.d=some ((Gp g.Alts.length L).1,C8 (Gp g.Alts.length L).2):=S7 O n4
 have kE:=me (ls:=ls) n5 (IntKind.wrap .i64 ((i:Int)+1)) d
 have hr:Dd ls ⟨i,d,false,g⟩=l9 ls ⟨i,d,false,g⟩ (R7 g.Alts.length L) (Ec ls wCLIMB (i+1) (D3 (C5 L (Gp g.Alts.length L).2) d).1 (D3 (C5 L (Gp g.Alts.length L).2) d).2):=by
  unfold Dd
  simp only[Bool.false_eq_true,if_false]
  rw[if_neg (by omega),hL]
  rfl
 rw[hr,wz]
 have x0:=nw hi ([82,79,87]:List UInt8) d
 have x1:=ny ho hi ([82,79,87]:List UInt8) d hL
 rw[x0,x1]
 simp only[Option.bind_none,bs,je]
 simp only[Bool.false_eq_true,if_false,Int.toNat_natCast,hL]
 rw[show C4 ([82,79,87]:List UInt8) L s0=En L from rfl]
 simp only[C8]
 unfold l9 R7
 simp only
 by_cases h12:g.Alts.length=12
 ·rw[if_pos (show ((g.Alts.length:Int)==(12:Int))=true from by simp[h12])]
  have e1:(En L).fail L.A8 (En L).l 3=Gn g.Alts.length L:=by unfold Gn;rw[if_pos h12]
  have hF:=Fail_eq 3 (L:=L) (s:=En L)
  rw[hF,e1]
  simp only[bs]
  rw[show ((En L).n:Int)=((Gn g.Alts.length L).n:Int) from by rw[← e1,D6],show (En L).l=(Gn g.Alts.length L).l from by rw[← e1,Gi]]
  rw[kA]
  simp only[bs,C8]
  rw[if_pos (Es hz.1)]
  simp only[bs]
  rw[k3]
  simp only[bs,C8]
  rw[if_pos (Es hz.2.1)]
  simp only[bs]
  rw[k4]
  simp only[bs,C8]
  rw[if_pos (Es hz.2.2.1)]
  simp only[bs]
  rw[k5]
  simp only[bs,C8]
  rw[if_pos (Es hz.2.2.2.1)]
  simp only[bs]
  rw[kE]
  simp only[bs]
  rw[wn (by omega)]
  generalize hE:D3 (C5 L (Gp g.Alts.length L).2) d=E
  have l1:=Gq hl ho wCLIMB (i:=i+1) (by omega) E.1 E.2
  have b1:=N8 (ls:=ls) wCLIMB (i:=i+1) (by omega) E.1 E.2
  rw[show wCLIMB=([67,76,73,77,66]:List UInt8) from rfl]at l1
  rw[l1]
  simp only[bs,Vn]
  rw[if_pos (F1 hz.2.2.2.2.1)]
  simp only[bs]
  generalize hc1:Ec ls wCLIMB (i+1) E.1 E.2=c1 at b1
  have l2:=Gq hl ho wCLIMBFLOW b1 c1.2.2.1 c1.2.2.2
  have b2:=N8 (ls:=ls) wCLIMBFLOW b1 c1.2.2.1 c1.2.2.2
  rw[show wCLIMBFLOW=([67,76,73,77,66,70,76,79,87]:List UInt8) from rfl]at l2
  rw[show Ec ls ([67,76,73,77,66]:List UInt8) (i+1) E.1 E.2=c1 from hc1]
  rw[l2]
  simp only[bs,Vn]
  rw[if_pos (F1 hz.2.2.2.2.2.1)]
  simp only[bs]
  generalize hc2:Ec ls wCLIMBFLOW c1.2.1 c1.2.2.1 c1.2.2.2=c2 at b2
  have l3:=Gq hl ho wCRUISE b2 c2.2.2.1 c2.2.2.2
  rw[show wCRUISE=([67,82,85,73,83,69]:List UInt8) from rfl]at l3
  rw[show Ec ls ([67,76,73,77,66,70,76,79,87]:List UInt8) c1.2.1 c1.2.2.1 c1.2.2.2=c2 from hc2]
  rw[l3]
  simp only[bs,Vn]
  rw[if_pos (F1 hz.2.2.2.2.2.2)]
  simp only[bs]
  rfl
 ·rw[if_neg (show ¬ ((g.Alts.length:Int)==(12:Int))=true from by simp;omega)]
  rw[show En L=Gn g.Alts.length L from by unfold Gn;rw[if_neg h12]]
  rw[kA]
  simp only[bs,C8]
  rw[if_pos (Es hz.1)]
  simp only[bs]
  rw[k3]
  simp only[bs,C8]
  rw[if_pos (Es hz.2.1)]
  simp only[bs]
  rw[k4]
  simp only[bs,C8]
  rw[if_pos (Es hz.2.2.1)]
  simp only[bs]
  rw[k5]
  simp only[bs,C8]
  rw[if_pos (Es hz.2.2.2.1)]
  simp only[bs]
  rw[kE]
  simp only[bs]
  rw[wn (by omega)]
  generalize hE:D3 (C5 L (Gp g.Alts.length L).2) d=E
  have l1:=Gq hl ho wCLIMB (i:=i+1) (by omega) E.1 E.2
  have b1:=N8 (ls:=ls) wCLIMB (i:=i+1) (by omega) E.1 E.2
  rw[show wCLIMB=([67,76,73,77,66]:List UInt8) from rfl]at l1
  rw[l1]
  simp only[bs,Vn]
  rw[if_pos (F1 hz.2.2.2.2.1)]
  simp only[bs]
  generalize hc1:Ec ls wCLIMB (i+1) E.1 E.2=c1 at b1
  have l2:=Gq hl ho wCLIMBFLOW b1 c1.2.2.1 c1.2.2.2
  have b2:=N8 (ls:=ls) wCLIMBFLOW b1 c1.2.2.1 c1.2.2.2
  rw[show wCLIMBFLOW=([67,76,73,77,66,70,76,79,87]:List UInt8) from rfl]at l2
  rw[show Ec ls ([67,76,73,77,66]:List UInt8) (i+1) E.1 E.2=c1 from hc1]
  rw[l2]
  simp only[bs,Vn]
  rw[if_pos (F1 hz.2.2.2.2.2.1)]
  simp only[bs]
  generalize hc2:Ec ls wCLIMBFLOW c1.2.1 c1.2.2.1 c1.2.2.2=c2 at b2
  have l3:=Gq hl ho wCRUISE b2 c2.2.2.1 c2.2.2.2
  rw[show wCRUISE=([67,82,85,73,83,69]:List UInt8) from rfl]at l3
  rw[show Ec ls ([67,76,73,77,66,70,76,79,87]:List UInt8) c1.2.1 c1.2.2.1 c1.2.2.2=c2 from hc2]
  rw[l3]
  simp only[bs,Vn]
  rw[if_pos (F1 hz.2.2.2.2.2.2)]
  simp only[bs]
  rfl
theorem qn {p:PR} (hi:p.i≤ls.length) (hz:lu p.g):G8 ls (p.i:Int) p.d p.bad p.g.Name p.g.Empty p.g.MaxFuel p.g.Alts p.g.Masses p.g.Climb p.g.ClimbFlow p.g.Cruise p.g.Descent p.g.Idle p.g.MaxSpeed p.g.MinSpeed p.g.Ref p.g.Extra p.g.Ceiling=some (Oh (Dd ls p)):=by
 obtain⟨i,d,bad,g⟩:=p
 simp only at hi hz ⊢
 cases bad with
 | true =>
  rw[wz,u4]
  rfl
 | false =>
  rcases Nat.eq_or_lt_of_le hi with h | h
  ·rw[wz,h,ez hl ho]
   unfold Dd
   simp only[Bool.false_eq_true,if_false]
   rw[if_pos trivial]
   rfl
  ·exact row_in hl ho h d hz
end
end Go.Av.Txs
set_option maxRecDepth 100000
namespace Go.Av.Txs
open Go.Av
def zP:Ah:=⟨[],0,0,[],[],[],[],[],[],[],[],[],0,0,0⟩
def wPERF:List UInt8:=[80,69,82,70]
def wMASSES:List UInt8:=[77,65,83,83,69,83]
def wMINSPEED:List UInt8:=[77,73,78,83,80,69,69,68]
def Qx (L:A7):Sc:=C4 wPERF L s0
def L3 (L:A7):List UInt8×Sc:=H5 L (Qx L)
def L4 (L:A7):Int×Sc:=Dx L (L3 L).2
def L5 (L:A7):Int×Sc:=Dx L (L4 L).2
def L6 (L:A7):Int×Sc:=Dx L (L5 L).2
def L7 (L:A7):Int×Sc:=Dx L (L6 L).2
def K5 (L:A7):Int×Sc:=Jl L (L7 L).2
theorem pq_n {L:A7}:(Qx L).n≤L.A2.length∧(L3 L).2.n≤L.A2.length∧(L4 L).2.n≤L.A2.length∧(L5 L).2.n≤L.A2.length∧(L6 L).2.n≤L.A2.length∧(L7 L).2.n≤L.A2.length∧(K5 L).2.n≤L.A2.length:=by
 have h0:(Qx L).n≤L.A2.length:=Ra (Nat.zero_le _)
 have h1:(L3 L).2.n≤L.A2.length:=nameS_n h0
 have h2:(L4 L).2.n≤L.A2.length:=Hi h1
 have h3:(L5 L).2.n≤L.A2.length:=Hi h2
 have h4:(L6 L).2.n≤L.A2.length:=Hi h3
 have h5:(L7 L).2.n≤L.A2.length:=Hi h4
 exact⟨h0,h1,h2,h3,h4,h5,altS_n h5⟩
structure PH where
 nm:List UInt8
 em:Int
 mf:Int
 rf:Int
 ex:Int
 ce:Int
 e:Bool×A5
def Zx (L:A7):PH:=⟨(L3 L).1,(L4 L).1,(L5 L).1,(L6 L).1,(L7 L).1,(K5 L).1,C5 L (K5 L).2⟩
def Gu (g:Ah) (h:PH):Ah:={ g with Name:=h.nm,Empty:=h.em,MaxFuel:=h.mf,Ref:=h.rf,Extra:=h.ex,Ceiling:=h.ce }
def Hj (e:Bool×A5) (g:Ah):Ah⊕A5:=if e.1=true then .inr e.2 else .inl g
def Pz (g:Ah) (h:RH):Ah:={ g with Alts:=g.Alts++[h.a],Descent:=g.Descent++[h.x],Idle:=g.Idle++[h.y],MaxSpeed:=g.MaxSpeed++[h.z] }
def Xm (g:Ah) (l:List Int):Ah:={ g with Climb:=g.Climb++[l] }
def Cb (g:Ah) (l:List Int):Ah:={ g with ClimbFlow:=g.ClimbFlow++[l] }
def lw (g:Ah) (l:List Int):Ah:={ g with Cruise:=g.Cruise++[l] }
def B3 (L:A7) (i:Nat) (g:Ah):Ah⊕A5 :=
 if i=0 then Hj (Zx L).e (Gu g (Zx L))
 else if i=1 then Hj (Ff wMASSES L).2 { g with Masses:=(Ff wMASSES L).1 }
 else if i=2 then Hj (Ff wMINSPEED L).2 { g with MinSpeed:=(Ff wMINSPEED L).1 }
 else if i % 4=3 then Hj (R7 g.Alts.length L).e (Pz g (R7 g.Alts.length L))
 else if i % 4=0 then Hj (Ff wCLIMB L).2 (Xm g (Ff wCLIMB L).1)
 else if i % 4=1 then Hj (Ff wCLIMBFLOW L).2 (Cb g (Ff wCLIMBFLOW L).1)
 else Hj (Ff wCRUISE L).2 (lw g (Ff wCRUISE L).1)
def Dv (ls:List A7):Nat→Nat→Ah→Ah⊕A5
 | 0,i,g=>.inl g
 | k+1,i,g=>match B3 (ls.getD i default) i g with
  | .inr d=>.inr d
  | .inl g'=>Dv ls k (i+1) g'
def Cw (g:Ah):Int:=(Pc g).getD 0
def Lh (ls:List A7):Ah⊕A5→Ah×List A5
 | .inr d=>(zP,[d])
 | .inl g=>if ls.length < 7∨ls.length % 4≠3 then(zP,[M6 ls])else if Cw g≠0 then(zP,[⟨(ls.getD 0 default).A8,((ls.getD 0 default).A2.getD 0 default).Ai,Cw g⟩])else(g,[])
def Hk (s:List UInt8):Ah×List A5:=if 0 < (Dh s).1.length then(zP,(Dh s).1)else Lh (Dh s).2 (Dv (Dh s).2 (Dh s).2.length 0 zP)
def X2 (ls:List A7) (p:PR) (Q:Ah×List A5):Prop:=(p.bad=true∧Q=(zP,[p.d]))∨(p.bad=false∧p.i≤ls.length∧Q=Lh ls (Dv ls (ls.length - p.i) p.i p.g))
section
variable {ls:List A7} {Q:Ah×List A5}
theorem qd {i:Nat} {g g' g'':Ah} {e:Bool×A5} (hi:i < ls.length) (hQ:Q=Lh ls (Dv ls (ls.length - i) i g)) (hs:B3 (ls.getD i default) i g=Hj e g') (d:A5) (hg:e.1=false→g''=g'):X2 ls ⟨i+1,(D3 e d).1,(D3 e d).2,g''⟩ Q:=by
 have hrun:Dv ls (ls.length - i) i g=match B3 (ls.getD i default) i g with | .inr d=>(Sum.inr d:Ah⊕A5) | .inl g'=>Dv ls (ls.length - (i+1)) (i+1) g':=by
  rw[show ls.length - i=(ls.length - (i+1))+1 from by omega]
  rfl
 rw[hs]at hrun
 unfold Hj at hrun
 unfold D3
 obtain⟨b,x⟩:=e
 cases b with
 | true =>
  refine .inl ⟨rfl,?_⟩
  rw[hQ,hrun]
  rfl
 | false =>
  refine .inr ⟨rfl,hi,?_⟩
  rw[hQ,hrun,hg rfl]
  rfl
theorem w5 {i:Nat} {g g'':Ah} (hi:i=ls.length) (hQ:Q=Lh ls (Dv ls (ls.length - i) i g)) (hm:i < 7∨i % 4≠3):X2 ls ⟨i,M6 ls,true,g''⟩ Q:=by
 refine .inl ⟨rfl,?_⟩
 rw[hQ,hi,Nat.sub_self]
 show (if _ then _ else _)=_
 rw[if_pos (by rw[← hi];exact hm)]
theorem Oa {w:List UInt8} {p:PR} (f:List Int→Ah) (R:X2 ls p Q) (hs:p.bad=false→B3 (ls.getD p.i default) p.i p.g=Hj (Ff w (ls.getD p.i default)).2 (f (Ff w (ls.getD p.i default)).1)) (hm:p.bad=false→p.i < 7∨p.i % 4≠3) :
  X2 ls ⟨(Ec ls w p.i p.d p.bad).2.1,(Ec ls w p.i p.d p.bad).2.2.1,(Ec ls w p.i p.d p.bad).2.2.2,f (Ec ls w p.i p.d p.bad).1⟩ Q∧((Ec ls w p.i p.d p.bad).2.2.2=false→p.bad=false∧(Ec ls w p.i p.d p.bad).2.1=p.i+1):=by
 obtain⟨i,d,bad,g⟩:=p
 simp only at hs hm ⊢
 rcases R with⟨h1,h2⟩ | ⟨h1,h2,h3⟩
 ·simp only at h1 h2
  subst h1
  exact⟨.inl ⟨rfl,h2⟩,fun h=>by cases h⟩
 ·simp only at h1 h2 h3
  subst h1
  unfold Ec
  rw[if_neg (show ¬ (false=true) from by decide)]
  by_cases h:i=ls.length
  ·rw[if_pos h]
   exact⟨w5 h h3 (hm rfl),fun h=>by cases h⟩
  ·rw[if_neg h]
   exact⟨qd (by omega) h3 (hs rfl) d fun _=>rfl,fun _=>⟨rfl,rfl⟩⟩
theorem w6 {p:PR} (R:X2 ls p Q) (hm:p.bad=false→p.i % 4=3∧3≤p.i∧(p.i < ls.length∨p.i=3)):X2 ls (Dd ls p) Q∧((Dd ls p).bad=false→p.bad=false∧(Dd ls p).i=p.i+4):=by
 obtain⟨i,d,bad,g⟩:=p
 rcases R with⟨h1,h2⟩ | ⟨h1,h2,h3⟩
 ·simp only at h1 h2
  subst h1
  have e:Dd ls ⟨i,d,true,g⟩=⟨i,d,true,g⟩:=by unfold Dd;rw[if_pos rfl]
  rw[e]
  exact⟨.inl ⟨rfl,h2⟩,fun h=>by cases h⟩
 ·simp only at h1 h2 h3 hm
  subst h1
  obtain⟨m1,m2,m3⟩:=hm rfl
  unfold Dd
  simp only[Bool.false_eq_true,if_false]
  by_cases h:i=ls.length
  ·rw[if_pos h]
   exact⟨w5 h h3 (.inl (by omega)),fun h=>by cases h⟩
  ·rw[if_neg h]
   generalize hH:R7 g.Alts.length (ls.getD i default)=H
   have hs0:B3 (ls.getD i default) i g=Hj H.e (Pz g H):=by
    unfold B3
    rw[if_neg (by omega),if_neg (by omega),if_neg (by omega),if_pos m1,hH]
   have R1:=qd (g'':=Pz g H) (by omega) h3 hs0 d fun _=>rfl
   obtain⟨R2,k2⟩:=Oa (w:=wCLIMB) (Xm (Pz g H)) R1 (fun hb=>by
    show B3 _ (i+1) (Pz g H)=_
    unfold B3
    rw[if_neg (by omega),if_neg (by omega),if_neg (by omega),if_neg (by omega),if_pos (by omega)]) (fun _=>.inr (by show (i+1) % 4≠3;omega))
   generalize hc1:Ec ls wCLIMB (i+1) (D3 H.e d).1 (D3 H.e d).2=c1 at R2 k2 ⊢
   simp only at R2 k2
   obtain⟨R3,k3⟩:=Oa (w:=wCLIMBFLOW) (Cb (Xm (Pz g H) c1.1)) R2 (fun hb=>by
    have:=(k2 hb).2
    show B3 (ls.getD c1.2.1 default) c1.2.1 _=Hj (Ff wCLIMBFLOW (ls.getD c1.2.1 default)).2 _
    rw[this]
    unfold B3
    rw[if_neg (by omega),if_neg (by omega),if_neg (by omega),if_neg (by omega),if_neg (by omega),if_pos (by omega)]) (fun hb=>.inr (by have:=(k2 hb).2;show c1.2.1 % 4≠3;omega))
   simp only at R3 k3
   generalize hc2:Ec ls wCLIMBFLOW c1.2.1 c1.2.2.1 c1.2.2.2=c2 at R3 k3
   obtain⟨R4,k4⟩:=Oa (w:=wCRUISE) (lw (Cb (Xm (Pz g H) c1.1) c2.1)) R3 (fun hb=>by
    have:=(k3 hb).2
    have:=(k2 (k3 hb).1).2
    show B3 (ls.getD c2.2.1 default) c2.2.1 _=Hj (Ff wCRUISE (ls.getD c2.2.1 default)).2 _
    unfold B3
    rw[if_neg (by omega),if_neg (by omega),if_neg (by omega),if_neg (by omega),if_neg (by omega),if_neg (by omega)]) (fun hb=>.inr (by have:=(k3 hb).2;have:=(k2 (k3 hb).1).2;show c2.2.1 % 4≠3;omega))
   simp only at R4 k4
   unfold l9
   simp only[hc2]
   refine⟨R4,fun hb=>⟨trivial,?_⟩⟩
   have:=(k4 hb).2
   have:=(k3 (k4 hb).1).2
   have:=(k2 (k3 (k4 hb).1).1).2
   show (Ec ls wCRUISE c2.2.1 c2.2.2.1 c2.2.2.2).2.1=_
   omega
def Er (ls:List A7):Nat→PR→PR
 | 0,p=>p
 | k+1,p=>if p.bad=false∧p.i < ls.length then Er ls k (Dd ls p)else p
theorem qe:∀ (k:Nat) {p:PR},X2 ls p Q→(p.bad=false→p.i % 4=3∧7≤p.i)→X2 ls (Er ls k p) Q∧((Er ls k p).bad=false→((Er ls k p).i % 4=3∧7≤(Er ls k p).i)∧(ls.length - p.i≤k→(Er ls k p).i=ls.length))
 | 0,p,R,hm=>⟨R,fun hb=>⟨hm hb,fun hk=>by
   rcases R with⟨h1,_⟩ | ⟨_,h2,_⟩
   ·rw[show (Er ls 0 p).bad=p.bad from rfl,h1]at hb;cases hb
   ·show p.i=_;omega⟩⟩
 | k+1,p,R,hm=>by
  unfold Er
  by_cases hc:p.bad=false∧p.i < ls.length
  ·rw[if_pos hc]
   obtain⟨m1,m2⟩:=hm hc.1
   obtain⟨R1,k1⟩:=w6 R fun _=>⟨m1,by omega,.inl hc.2⟩
   obtain⟨R2,k2⟩:=qe k R1 fun hb=>by have:=(k1 hb).2;omega
   refine⟨R2,fun hb=>⟨(k2 hb).1,fun hk=>(k2 hb).2 ?_⟩⟩
   by_cases hb1:(Dd ls p).bad=false
   ·have:=(k1 hb1).2;omega
   · -- a reader that gave up stays so
    have e:Er ls k (Dd ls p)=Dd ls p:=by
     cases k with
     | zero=>rfl
     | succ k=>unfold Er;rw[if_neg fun h=>hb1 h.1]
    rw[e]at hb
    exact absurd hb hb1
  ·rw[if_neg hc]
   refine⟨R,fun hb=>⟨hm hb,fun _=>?_⟩⟩
   rcases R with⟨h1,_⟩ | ⟨_,h2,_⟩
   ·rw[h1]at hb;cases hb
   ·have:¬ p.i < ls.length:=fun h=>hc ⟨hb,h⟩
    omega
end
def Nm (x:Int):Prop := -3000000000≤x∧x≤3000000000
def LN (n:Nat) (l:List Int):Prop:=l.length≤n∧∀ b∈l,Nm b
def LT (n:Nat) (t:List (List Int)):Prop:=t.length≤n∧∀ l∈t,LN 6 l
theorem LN.more {n:Nat} {l:List Int} {x:Int} (h:LN n l) (hx:Nm x):LN (n+1) (l++[x]) :=
 ⟨by rw[List.length_append,List.length_singleton];exact Nat.succ_le_succ h.1,fun b hb=>by
  rcases List.mem_append.1 hb with hb | hb
  ·exact h.2 b hb
  ·rw[List.mem_singleton.1 hb];exact hx⟩
theorem LN.up {n:Nat} {l:List Int} (h:LN n l):LN (n+1) l:=⟨Nat.le_succ_of_le h.1,h.2⟩
theorem LT.more {n:Nat} {t:List (List Int)} {l:List Int} (h:LT n t) (hx:LN 6 l):LT (n+1) (t++[l]) :=
 ⟨by rw[List.length_append,List.length_singleton];exact Nat.succ_le_succ h.1,fun b hb=>by
  rcases List.mem_append.1 hb with hb | hb
  ·exact h.2 b hb
  ·rw[List.mem_singleton.1 hb];exact hx⟩
theorem LT.up {n:Nat} {t:List (List Int)} (h:LT n t):LT (n+1) t:=⟨Nat.le_succ_of_le h.1,h.2⟩
theorem u0:Nm 0:=⟨by decide,by decide⟩
theorem Fh {L:A7} {s:Sc}:Nm (Dx L s).1:=by
 unfold Dx Lj
 split
 ·exact u0
 ·rename_i t _
  show Nm (pn t 0 3000000000).1
  unfold pn
  split
  ·exact u0
  ·split
   ·rename_i h;exact⟨by omega,h.2⟩
   ·exact u0
theorem Z5 {L:A7} {s:Sc}:Nm (Jl L s).1:=by
 unfold Jl
 split
 ·exact u0
 ·rename_i t _
  show Nm (pa t).1
  unfold pa
  split
  ·exact u0
  ·split
   ·exact u0
   ·rename_i h4
    show Nm (Gt t).1
    have h5:(Gt t).2.2=true:=by simpa using h4
    have : -200000≤(Gt t).1∧(Gt t).1≤6000000:=by
     unfold Gt at h5 ⊢
     split at h5
     ·cases h5
     ·rename_i c1
      rw[if_neg c1]
      split at h5
      ·cases h5
      ·rename_i c2
       rw[if_neg c2]
       split at h5
       ·cases h5
       ·rename_i c3
        rw[if_neg c3]
        simpa using h5
    exact⟨by omega,by omega⟩
theorem mr_in {L:A7}:∀ (k:Nat) (l:List Int) (s:Sc),(∀ b∈l,Nm b)→∀ b∈(Mj L k l s).1,Nm b
 | 0,l,s,h=>h
 | k+1,l,s,h=>by
  unfold Mj
  split
  ·refine mr_in k _ _ fun b hb=>?_
   rcases List.mem_append.1 hb with hb | hb
   ·exact h b hb
   ·rw[List.mem_singleton.1 hb];exact Fh
  ·exact h
theorem Wc {w:List UInt8} {L:A7}:LN 6 (Ff w L).1:=⟨(zi (w:=w) (L:=L)).2.2,mr_in 5 _ _ fun b hb=>by rw[List.mem_singleton.1 hb];exact Fh⟩
structure OkQ (i:Nat) (g:Ah):Prop where
 nm:g.Name.length≤300
 em:Nm g.Empty
 mf:Nm g.MaxFuel
 al:LN i g.Alts
 ma:LN 6 g.Masses
 cl:LT i g.Climb
 cf:LT i g.ClimbFlow
 cr:LT i g.Cruise
 de:LN i g.Descent
 id:LN i g.Idle
 ms:LN i g.MaxSpeed
 mi:LN 6 g.MinSpeed
 rf:Nm g.Ref
 ex:Nm g.Extra
 ce:Nm g.Ceiling
theorem Mk (n:Nat):LN n []:=⟨Nat.zero_le _,fun b hb=>absurd hb List.not_mem_nil⟩
theorem nr (n:Nat):LT n []:=⟨Nat.zero_le _,fun b hb=>absurd hb List.not_mem_nil⟩
theorem zP_ok:OkQ 0 zP:=⟨Nat.zero_le _,⟨by decide,by decide⟩,⟨by decide,by decide⟩,Mk _,Mk _,nr _,nr _,nr _,Mk _,Mk _,Mk _,Mk _,⟨by decide,by decide⟩,⟨by decide,by decide⟩,⟨by decide,by decide⟩⟩
theorem Ll {e:Bool×A5} {g g':Ah} (h:Hj e g=.inl g'):g=g':=by
 unfold Hj at h
 split at h
 ·cases h
 ·injection h
theorem nq {L:A7} (O:Cv L) {s:Sc} (h:s.n≤L.A2.length):(H5 L s).1.length≤300:=by
 unfold H5
 split
 ·exact Nat.zero_le _
 ·rename_i t ht
  split
  ·have:=Sm O h ht
   show t.length≤300
   omega
  ·exact Nat.zero_le _
theorem fg {L:A7} (O:Cv L) {i:Nat} {g g':Ah} (I:OkQ i g) (h:B3 L i g=.inl g'):OkQ (i+1) g':=by
 unfold B3 at h
 split at h
 ·obtain rfl:=Ll h
  exact⟨nq O pq_n.1,Fh,Fh,I.al.up,I.ma,I.cl.up,I.cf.up,I.cr.up,I.de.up,I.id.up,I.ms.up,I.mi,Fh,Fh,Z5⟩
 ·split at h
  ·obtain rfl:=Ll h
   exact⟨I.nm,I.em,I.mf,I.al.up,Wc,I.cl.up,I.cf.up,I.cr.up,I.de.up,I.id.up,I.ms.up,I.mi,I.rf,I.ex,I.ce⟩
  ·split at h
   ·obtain rfl:=Ll h
    exact⟨I.nm,I.em,I.mf,I.al.up,I.ma,I.cl.up,I.cf.up,I.cr.up,I.de.up,I.id.up,I.ms.up,Wc,I.rf,I.ex,I.ce⟩
   ·split at h
    ·obtain rfl:=Ll h
     exact⟨I.nm,I.em,I.mf,I.al.more Z5,I.ma,I.cl.up,I.cf.up,I.cr.up,I.de.more Fh,I.id.more Fh,I.ms.more Fh,I.mi,I.rf,I.ex,I.ce⟩
    ·split at h
     ·obtain rfl:=Ll h
      exact⟨I.nm,I.em,I.mf,I.al.up,I.ma,I.cl.more Wc,I.cf.up,I.cr.up,I.de.up,I.id.up,I.ms.up,I.mi,I.rf,I.ex,I.ce⟩
     ·split at h
      ·obtain rfl:=Ll h
       exact⟨I.nm,I.em,I.mf,I.al.up,I.ma,I.cl.up,I.cf.more Wc,I.cr.up,I.de.up,I.id.up,I.ms.up,I.mi,I.rf,I.ex,I.ce⟩
      ·obtain rfl:=Ll h
       exact⟨I.nm,I.em,I.mf,I.al.up,I.ma,I.cl.up,I.cf.up,I.cr.more Wc,I.de.up,I.id.up,I.ms.up,I.mi,I.rf,I.ex,I.ce⟩
theorem fd {ls:List A7} (ho:∀ L∈ls,Cv L):∀ (k i:Nat) {g g':Ah},i+k≤ls.length→OkQ i g→Dv ls k i g=.inl g'→OkQ (i+k) g'
 | 0,i,g,g',_,I,h=>by
  injection h with h
  subst h
  exact I
 | k+1,i,g,g',hk,I,h=>by
  have h':(match B3 (ls.getD i default) i g with | .inr d=>.inr d | .inl g1=>Dv ls k (i+1) g1)=Sum.inl g':=h
  cases hs:B3 (ls.getD i default) i g with
  | inr d=>rw[hs]at h';cases h'
  | inl g1 =>
   rw[hs]at h'
   have:=fd ho k (i+1) (by omega) (fg (ho _ (Ay (by omega))) I hs) h'
   rwa [show i+1+k=i+(k+1) from by omega]at this
theorem fl {x:Int} (h:Nm x):(Lit.int .i64 x).wf=true:=by
 have h1 : -9223372036854775808≤x:=by have:=h.1;omega
 have h2:x≤9223372036854775807:=by have:=h.2;omega
 simp only[Lit.wf,Bool.and_eq_true,decide_eq_true_eq]
 exact⟨h1,h2⟩
theorem cj {i:Nat} {g:Ah} (hi:i≤1000000) (I:OkQ i g):Kt g:=by
 have m6:(1000000:Nat)≤maxLen:=by decide
 have ln:∀ {n:Nat} {l:List Int},n≤1000000→LN n l→l.length≤maxLen∧∀ b∈l,(Lit.int .i64 b).wf=true:=fun hn h=>⟨by have:=h.1;omega,fun b hb=>fl (h.2 b hb)⟩
 have lt:∀ {t:List (List Int)},LT i t→t.length≤maxLen∧∀ b∈t,(b.length≤maxLen∧∀ c∈b,(Lit.int .i64 c).wf=true):=fun h=>⟨by have:=h.1;omega,fun b hb=>ln (by decide) (h.2 b hb)⟩
 exact⟨by have:=I.nm;omega,fl I.em,fl I.mf,ln hi I.al,ln (by decide) I.ma,lt I.cl,lt I.cf,lt I.cr,ln hi I.de,ln hi I.id,ln hi I.ms,ln (by decide) I.mi,fl I.rf,fl I.ex,fl I.ce⟩
theorem ym {g:Ah} (h:Kt g):Pc g=some (Cw g):=by
 obtain⟨c,h1,_,_⟩:=Pk.both h
 unfold Cw
 rw[h1]
 rfl
theorem chk_r {g:Ah} (h:Kt g):tz g=some (Cw g):=by
 obtain⟨c,h1,h2,_⟩:=Pk.both h
 unfold Cw
 rw[h1,h2]
 rfl
theorem Xs {g:Ah} (h:Kt g):Cw g=0↔Pk.good g=true:=by
 obtain⟨c,h1,_,h3⟩:=Pk.both h
 unfold Cw
 rw[h1]
 exact h3
end Go.Av.Txs
set_option maxRecDepth 100000
namespace Go.Av.Txs
open Go.Av
theorem M16_1 (a0:List UInt8) (y1:Sz):(yn a0 y1).m=((Ak (fun(s2:P1)=>((if((!s2.2.2.2.2.1)&&(decide (s2.1 < (y1.2.1.length:Int))))=true then(Option.bind (Option.bind (G8 y1.2.1 s2.1 (⟨s2.2.1,s2.2.2.1,s2.2.2.2.1⟩:A5) s2.2.2.2.2.1 ([]:List UInt8) (0:Int) (0:Int) s2.2.2.2.2.2.1 y1.2.2.2.2.2.2.2.2.1 s2.2.2.2.2.2.2.1 s2.2.2.2.2.2.2.2.1 s2.2.2.2.2.2.2.2.2.1 s2.2.2.2.2.2.2.2.2.2.1 s2.2.2.2.2.2.2.2.2.2.2.1 s2.2.2.2.2.2.2.2.2.2.2.2 y1.2.2.2.2.2.2.2.2.2.2.2.2.2.2.2 (0:Int) (0:Int) (0:Int)) fun r=>some r) fun x16=>(some (.inl (x16.1,x16.2.1,x16.2.2.1,x16.2.2.2.1,x16.2.2.2.2.1,x16.2.2.2.2.2.1,x16.2.2.2.2.2.2.1,x16.2.2.2.2.2.2.2.1,x16.2.2.2.2.2.2.2.2.1,x16.2.2.2.2.2.2.2.2.2.1,x16.2.2.2.2.2.2.2.2.2.2.1,x16.2.2.2.2.2.2.2.2.2.2.2))))else(some (.inr (.inl (s2.1,s2.2.1,s2.2.2.1,s2.2.2.2.1,s2.2.2.2.2.1,s2.2.2.2.2.2.1,s2.2.2.2.2.2.2.1,s2.2.2.2.2.2.2.2.1,s2.2.2.2.2.2.2.2.2.1,s2.2.2.2.2.2.2.2.2.2.1,s2.2.2.2.2.2.2.2.2.2.2.1,s2.2.2.2.2.2.2.2.2.2.2.2))))):Option ((P1)⊕((P1)⊕(Gh))))) (y1.2.2.1,y1.2.2.2.1,y1.2.2.2.2.1,y1.2.2.2.2.2.1,y1.2.2.2.2.2.2.1,y1.2.2.2.2.2.2.2.1,y1.2.2.2.2.2.2.2.2.2.1,y1.2.2.2.2.2.2.2.2.2.2.1,y1.2.2.2.2.2.2.2.2.2.2.2.1,y1.2.2.2.2.2.2.2.2.2.2.2.2.1,y1.2.2.2.2.2.2.2.2.2.2.2.2.2.1,y1.2.2.2.2.2.2.2.2.2.2.2.2.2.2.1)):Option ((P1)⊕(Gh))):=by kernel_rfl
theorem M16_2 (a0:List UInt8) (y1:Sz) (y3:P1):(yo a0 y1 y3).m=((if y3.2.2.2.2.1=true then(some ((⟨([]:List UInt8),(0:Int),(0:Int),[],[],[],[],[],[],[],[],[],(0:Int),(0:Int),(0:Int)⟩:Ah),([(⟨y3.2.1,y3.2.2.1,y3.2.2.2.1⟩:A5)]:List A5)))else(Option.bind (Option.bind (Pc (⟨([]:List UInt8),(0:Int),(0:Int),y3.2.2.2.2.2.1,y1.2.2.2.2.2.2.2.2.1,y3.2.2.2.2.2.2.1,y3.2.2.2.2.2.2.2.1,y3.2.2.2.2.2.2.2.2.1,y3.2.2.2.2.2.2.2.2.2.1,y3.2.2.2.2.2.2.2.2.2.2.1,y3.2.2.2.2.2.2.2.2.2.2.2,y1.2.2.2.2.2.2.2.2.2.2.2.2.2.2.2,(0:Int),(0:Int),(0:Int)⟩:Ah)) fun r=>some r) fun x19=>(if(x19 != 0)=true then(if((0:Int)≤(0:Int))then(if(0 < (y1.1.length:Int))then(if((0:Int)≤(0:Int))then(if(0 < (y1.1.length:Int))then(if((0:Int)≤(0:Int))then(if(0 < ((y1.1.getD (0:Int).toNat default).A2.length:Int))then(some ((⟨([]:List UInt8),(0:Int),(0:Int),[],[],[],[],[],[],[],[],[],(0:Int),(0:Int),(0:Int)⟩:Ah),([(⟨(y1.1.getD (0:Int).toNat default).A8,((y1.1.getD (0:Int).toNat default).A2.getD (0:Int).toNat default).Ai,x19⟩:A5)]:List A5)))else none)else none)else none)else none)else none)else none)else(some ((⟨([]:List UInt8),(0:Int),(0:Int),y3.2.2.2.2.2.1,y1.2.2.2.2.2.2.2.2.1,y3.2.2.2.2.2.2.1,y3.2.2.2.2.2.2.2.1,y3.2.2.2.2.2.2.2.2.1,y3.2.2.2.2.2.2.2.2.2.1,y3.2.2.2.2.2.2.2.2.2.2.1,y3.2.2.2.2.2.2.2.2.2.2.2,y1.2.2.2.2.2.2.2.2.2.2.2.2.2.2.2,(0:Int),(0:Int),(0:Int)⟩:Ah),[]))))):Option (Gh)):=by kernel_rfl
theorem M16_4 (a0:List UInt8) (y4:P7):(kt a0 y4).m=((Option.bind (Option.bind (M4 ([80,69,82,70]:List UInt8) y4.1 (0:Int) (⟨(0:Int),(0:Int),(0:Int)⟩:A5) false) fun r=>some r) fun x6=>(if true=true then(Option.bind (Option.bind (Wd (8:Int) (y4.1.getD (0:Int).toNat default).A8 (y4.1.getD (0:Int).toNat default).A2 x6.1 x6.2.1 (⟨x6.2.2.1,x6.2.2.2.1,x6.2.2.2.2⟩:A5)) fun r=>some r) fun x8=>(Option.bind (((Bw (y4.1.getD (0:Int).toNat default).A8 (y4.1.getD (0:Int).toNat default).A2 x8.2.1 x8.2.2.1 (⟨x8.2.2.2.1,x8.2.2.2.2.1,x8.2.2.2.2.2⟩:A5)).bind fun r9_0=>((Bw (y4.1.getD (0:Int).toNat default).A8 (y4.1.getD (0:Int).toNat default).A2 r9_0.2.1 r9_0.2.2.1 (⟨r9_0.2.2.2.1,r9_0.2.2.2.2.1,r9_0.2.2.2.2.2⟩:A5)).bind fun r9_1=>((Bw (y4.1.getD (0:Int).toNat default).A8 (y4.1.getD (0:Int).toNat default).A2 r9_1.2.1 r9_1.2.2.1 (⟨r9_1.2.2.2.1,r9_1.2.2.2.2.1,r9_1.2.2.2.2.2⟩:A5)).bind fun r9_2=>((Bw (y4.1.getD (0:Int).toNat default).A8 (y4.1.getD (0:Int).toNat default).A2 r9_2.2.1 r9_2.2.2.1 (⟨r9_2.2.2.2.1,r9_2.2.2.2.2.1,r9_2.2.2.2.2.2⟩:A5)).bind fun r9_3=>some (r9_0,r9_1,r9_2,r9_3)))))) fun(x9:((Aw)×(Aw)×(Aw)×(Aw)))=>(Option.bind (Option.bind (Ko (y4.1.getD (0:Int).toNat default).A8 (y4.1.getD (0:Int).toNat default).A2 x9.2.2.2.2.1 x9.2.2.2.2.2.1 (⟨x9.2.2.2.2.2.2.1,x9.2.2.2.2.2.2.2.1,x9.2.2.2.2.2.2.2.2⟩:A5)) fun r=>some r) fun x10=>(Option.bind (((Kp y4.1 (IntKind.wrap .i64 ((0:Int)+(1:Int))) (⟨(0:Int),(0:Int),(0:Int)⟩:A5) false (y4.1.getD (0:Int).toNat default).A8 (y4.1.getD (0:Int).toNat default).A2 x10.2.1 x10.2.2.1 (⟨x10.2.2.2.1,x10.2.2.2.2.1,x10.2.2.2.2.2⟩:A5)).bind fun r11_0=>some (r11_0,x10))) fun(x11:((P6)×(Aw)))=>(some (.inl (x11.1.1,x11.1.2.1,x11.1.2.2.1,x11.1.2.2.2,x8.1,x9.1.1,x9.2.1.1,x9.2.2.1.1,x9.2.2.2.1,x10.1)))))))else(some (.inl ((⟨(0:Int),(0:Int),(0:Int)⟩:A5).Line,(⟨(0:Int),(0:Int),(0:Int)⟩:A5).Ai,(⟨(0:Int),(0:Int),(0:Int)⟩:A5).Code,false,([]:List UInt8),(0:Int),(0:Int),(0:Int),(0:Int),(0:Int)))))):Option ((Mb)⊕(Gh))):=by kernel_rfl
theorem M16_6 (a0:List UInt8) (y4:P7) (y5:Mb) (y6:P5):(ku a0 y4 y5 y6).m=((Ak (fun(s7:P1)=>((if((!s7.2.2.2.2.1)&&(decide (s7.1 < (y4.1.length:Int))))=true then(Option.bind (Option.bind (G8 y4.1 s7.1 (⟨s7.2.1,s7.2.2.1,s7.2.2.2.1⟩:A5) s7.2.2.2.2.1 y5.2.2.2.2.1 y5.2.2.2.2.2.1 y5.2.2.2.2.2.2.1 s7.2.2.2.2.2.1 y6.2.2.2.2.2.2.1 s7.2.2.2.2.2.2.1 s7.2.2.2.2.2.2.2.1 s7.2.2.2.2.2.2.2.2.1 s7.2.2.2.2.2.2.2.2.2.1 s7.2.2.2.2.2.2.2.2.2.2.1 s7.2.2.2.2.2.2.2.2.2.2.2 y6.2.2.2.2.2.2.2.2.2.2.2.2.2 y5.2.2.2.2.2.2.2.1 y5.2.2.2.2.2.2.2.2.1 y5.2.2.2.2.2.2.2.2.2) fun r=>some r) fun x16=>(some (.inl (x16.1,x16.2.1,x16.2.2.1,x16.2.2.2.1,x16.2.2.2.2.1,x16.2.2.2.2.2.1,x16.2.2.2.2.2.2.1,x16.2.2.2.2.2.2.2.1,x16.2.2.2.2.2.2.2.2.1,x16.2.2.2.2.2.2.2.2.2.1,x16.2.2.2.2.2.2.2.2.2.2.1,x16.2.2.2.2.2.2.2.2.2.2.2))))else(some (.inr (.inl (s7.1,s7.2.1,s7.2.2.1,s7.2.2.2.1,s7.2.2.2.2.1,s7.2.2.2.2.2.1,s7.2.2.2.2.2.2.1,s7.2.2.2.2.2.2.2.1,s7.2.2.2.2.2.2.2.2.1,s7.2.2.2.2.2.2.2.2.2.1,s7.2.2.2.2.2.2.2.2.2.2.1,s7.2.2.2.2.2.2.2.2.2.2.2))))):Option ((P1)⊕((P1)⊕(Gh))))) (y6.1,y6.2.1,y6.2.2.1,y6.2.2.2.1,y6.2.2.2.2.1,y6.2.2.2.2.2.1,y6.2.2.2.2.2.2.2.1,y6.2.2.2.2.2.2.2.2.1,y6.2.2.2.2.2.2.2.2.2.1,y6.2.2.2.2.2.2.2.2.2.2.1,y6.2.2.2.2.2.2.2.2.2.2.2.1,y6.2.2.2.2.2.2.2.2.2.2.2.2.1)):Option ((P1)⊕(Gh))):=by kernel_rfl
theorem M16_7 (a0:List UInt8) (y4:P7) (y5:Mb) (y6:P5) (y8:P1):(kv a0 y4 y5 y6 y8).m=((if y8.2.2.2.2.1=true then(some ((⟨([]:List UInt8),(0:Int),(0:Int),[],[],[],[],[],[],[],[],[],(0:Int),(0:Int),(0:Int)⟩:Ah),([(⟨y8.2.1,y8.2.2.1,y8.2.2.2.1⟩:A5)]:List A5)))else(Option.bind (Option.bind (Pc (⟨y5.2.2.2.2.1,y5.2.2.2.2.2.1,y5.2.2.2.2.2.2.1,y8.2.2.2.2.2.1,y6.2.2.2.2.2.2.1,y8.2.2.2.2.2.2.1,y8.2.2.2.2.2.2.2.1,y8.2.2.2.2.2.2.2.2.1,y8.2.2.2.2.2.2.2.2.2.1,y8.2.2.2.2.2.2.2.2.2.2.1,y8.2.2.2.2.2.2.2.2.2.2.2,y6.2.2.2.2.2.2.2.2.2.2.2.2.2,y5.2.2.2.2.2.2.2.1,y5.2.2.2.2.2.2.2.2.1,y5.2.2.2.2.2.2.2.2.2⟩:Ah)) fun r=>some r) fun x19=>(if(x19 != 0)=true then(if((0:Int)≤(0:Int))then(if(0 < (y4.1.length:Int))then(if((0:Int)≤(0:Int))then(if(0 < (y4.1.length:Int))then(if((0:Int)≤(0:Int))then(if(0 < ((y4.1.getD (0:Int).toNat default).A2.length:Int))then(some ((⟨([]:List UInt8),(0:Int),(0:Int),[],[],[],[],[],[],[],[],[],(0:Int),(0:Int),(0:Int)⟩:Ah),([(⟨(y4.1.getD (0:Int).toNat default).A8,((y4.1.getD (0:Int).toNat default).A2.getD (0:Int).toNat default).Ai,x19⟩:A5)]:List A5)))else none)else none)else none)else none)else none)else none)else(some ((⟨y5.2.2.2.2.1,y5.2.2.2.2.2.1,y5.2.2.2.2.2.2.1,y8.2.2.2.2.2.1,y6.2.2.2.2.2.2.1,y8.2.2.2.2.2.2.1,y8.2.2.2.2.2.2.2.1,y8.2.2.2.2.2.2.2.2.1,y8.2.2.2.2.2.2.2.2.2.1,y8.2.2.2.2.2.2.2.2.2.2.1,y8.2.2.2.2.2.2.2.2.2.2.2,y6.2.2.2.2.2.2.2.2.2.2.2.2.2,y5.2.2.2.2.2.2.2.1,y5.2.2.2.2.2.2.2.2.1,y5.2.2.2.2.2.2.2.2.2⟩:Ah),[]))))):Option (Gh)):=by kernel_rfl
theorem M16_8 (a0:List UInt8) (y4:P7) (y5:Mb):(kw a0 y4 y5).m=((Option.bind (Option.bind (Option.bind (Ce ([77,65,83,83,69,83]:List UInt8) y4.1 (IntKind.wrap .i64 ((0:Int)+(1:Int))) (⟨y5.1,y5.2.1,y5.2.2.1⟩:A5) y5.2.2.2.1) fun r=>some r) fun x12=>(Option.bind (Option.bind (Ce ([77,73,78,83,80,69,69,68]:List UInt8) y4.1 x12.2.1 (⟨x12.2.2.1,x12.2.2.2.1,x12.2.2.2.2.1⟩:A5) x12.2.2.2.2.2) fun r=>some r) fun x13=>(Option.bind (((G8 y4.1 x13.2.1 (⟨x13.2.2.1,x13.2.2.2.1,x13.2.2.2.2.1⟩:A5) x13.2.2.2.2.2 y5.2.2.2.2.1 y5.2.2.2.2.2.1 y5.2.2.2.2.2.2.1 ([]:List Int) x12.1 ([]:List (List Int)) ([]:List (List Int)) ([]:List (List Int)) ([]:List Int) ([]:List Int) ([]:List Int) x13.1 y5.2.2.2.2.2.2.2.1 y5.2.2.2.2.2.2.2.2.1 y5.2.2.2.2.2.2.2.2.2).bind fun r14_0=>some (r14_0,x12,x13))) fun(x14:((P1)×(P8)×(P8)))=>(some (.inl (x14.1.1,x14.1.2.1,x14.1.2.2.1,x14.1.2.2.2.1,x14.1.2.2.2.2.1,x14.1.2.2.2.2.2.1,x14.2.1.1,x14.1.2.2.2.2.2.2.1,x14.1.2.2.2.2.2.2.2.1,x14.1.2.2.2.2.2.2.2.2.1,x14.1.2.2.2.2.2.2.2.2.2.1,x14.1.2.2.2.2.2.2.2.2.2.2.1,x14.1.2.2.2.2.2.2.2.2.2.2.2,x14.2.2.1)))))) (Ad fun(y6:P5)=>(Option.bind (ku a0 y4 y5 y6).m (Ad fun(y8:P1)=>(kv a0 y4 y5 y6 y8).m)))):Option (Gh)):=by kernel_rfl
theorem M16_9 (a0:List UInt8) (y4:P7):(yp a0 y4).m=((Option.bind (if(decide (0 < (y4.2.length:Int)))=true then(some (.inr (((⟨([]:List UInt8),(0:Int),(0:Int),[],[],[],[],[],[],[],[],[],(0:Int),(0:Int),(0:Int)⟩:Ah),y4.2))))else(some (.inl ()))) (Ad fun(_:Unit)=>(Option.bind (some (.inl ())) (Ad fun(_:Unit)=>(Option.bind (some (.inl ())) (Ad fun(_:Unit)=>(Option.bind (kt a0 y4).m (Ad fun(y5:Mb)=>(kw a0 y4 y5).m)))))))):Option (Gh)):=by kernel_rfl
theorem M16 (a0:List UInt8):m16 a0=((je (Option.bind (Option.bind (Option.bind (S1 a0) fun r=>some r) fun x1=>(if(decide (0 < (x1.1.length:Int)))=true then(some (.inr (((⟨([]:List UInt8),(0:Int),(0:Int),[],[],[],[],[],[],[],[],[],(0:Int),(0:Int),(0:Int)⟩:Ah),x1.1))))else(Option.bind (((Ht ([80,69,82,70]:List UInt8) x1.2 (0:Int) (⟨(0:Int),(0:Int),(0:Int)⟩:A5) false).bind fun r6_0=>some (r6_0,x1))) fun(x6:((P6)×(Ea)))=>(if false=true then(Option.bind (none) fun(x8:(Unit))=>none)else(Option.bind (((Ce ([77,65,83,83,69,83]:List UInt8) x6.2.2 (0:Int) (⟨x6.1.1,x6.1.2.1,x6.1.2.2.1⟩:A5) x6.1.2.2.2).bind fun r12_0=>some (r12_0,x6.2))) fun(x12:((P8)×(Ea)))=>(Option.bind (((Ce ([77,73,78,83,80,69,69,68]:List UInt8) x12.2.2 x12.1.2.1 (⟨x12.1.2.2.1,x12.1.2.2.2.1,x12.1.2.2.2.2.1⟩:A5) x12.1.2.2.2.2.2).bind fun r13_0=>some (r13_0,x12.2))) fun(x13:((P8)×(Ea)))=>(Option.bind (((G8 x13.2.2 x13.1.2.1 (⟨x13.1.2.2.1,x13.1.2.2.2.1,x13.1.2.2.2.2.1⟩:A5) x13.1.2.2.2.2.2 ([]:List UInt8) (0:Int) (0:Int) ([]:List Int) x12.1.1 ([]:List (List Int)) ([]:List (List Int)) ([]:List (List Int)) ([]:List Int) ([]:List Int) ([]:List Int) x13.1.1 (0:Int) (0:Int) (0:Int)).bind fun r14_0=>some (r14_0,x13.2,x12.1,x13.1))) fun(x14:((P1)×(Ea)×(P8)×(P8)))=>(some (.inl (x1.2,x14.2.1.2,x14.1.1,x14.1.2.1,x14.1.2.2.1,x14.1.2.2.2.1,x14.1.2.2.2.2.1,x14.1.2.2.2.2.2.1,x14.2.2.1.1,x14.1.2.2.2.2.2.2.1,x14.1.2.2.2.2.2.2.2.1,x14.1.2.2.2.2.2.2.2.2.1,x14.1.2.2.2.2.2.2.2.2.2.1,x14.1.2.2.2.2.2.2.2.2.2.2.1,x14.1.2.2.2.2.2.2.2.2.2.2.2,x14.2.2.2.1)))))))))) (Ad fun(y1:Sz)=>(Option.bind (yn a0 y1).m (Ad fun(y3:P1)=>(yo a0 y1 y3).m)))) (Option.bind (some (.inl ())) (Ad fun(_:Unit)=>(Option.bind (Option.bind (Option.bind (S1 a0) fun r=>some r) fun x1=>(some (.inl (x1.2,x1.1)))) (Ad fun(y4:P7)=>(yp a0 y4).m))))):Option (Gh)):=by kernel_rfl
theorem OkQ.mono {n m:Nat} {g:Ah} (I:OkQ n g) (h:n≤m):OkQ m g :=
 ⟨I.nm,I.em,I.mf,⟨Nat.le_trans I.al.1 h,I.al.2⟩,I.ma,⟨Nat.le_trans I.cl.1 h,I.cl.2⟩,⟨Nat.le_trans I.cf.1 h,I.cf.2⟩,⟨Nat.le_trans I.cr.1 h,I.cr.2⟩,⟨Nat.le_trans I.de.1 h,I.de.2⟩,⟨Nat.le_trans I.id.1 h,I.id.2⟩,⟨Nat.le_trans I.ms.1 h,I.ms.2⟩,I.mi,I.rf,I.ex,I.ce⟩
theorem OkQ.sz {n:Nat} {g:Ah} (I:OkQ n g) (h:n≤1000000):lu g :=
 ⟨Nat.le_trans I.al.1 h,Nat.le_trans I.de.1 h,Nat.le_trans I.id.1 h,Nat.le_trans I.ms.1 h,Nat.le_trans I.cl.1 h,Nat.le_trans I.cf.1 h,Nat.le_trans I.cr.1 h⟩
section
variable {ls:List A7}
theorem Va (w:List UInt8) (i:Nat) (d:A5) (bad:Bool):LN 6 (Ec ls w i d bad).1:=by
 unfold Ec
 split
 ·exact Mk _
 ·split
  ·exact Mk _
  ·exact Wc
theorem pr (w:List UInt8) (i:Nat) (d:A5) (bad:Bool):i≤(Ec ls w i d bad).2.1:=by
 unfold Ec
 split
 ·exact Nat.le_refl _
 ·split
  ·exact Nat.le_refl _
  ·show i≤i+1;omega
theorem Yd {n:Nat} {p:PR} (I:OkQ n p.g):OkQ (n+1) (Dd ls p).g:=by
 unfold Dd
 split
 ·exact I.mono (Nat.le_succ _)
 ·split
  ·exact I.mono (Nat.le_succ _)
  ·exact⟨I.nm,I.em,I.mf,I.al.more Z5,I.ma,I.cl.more (Va _ _ _ _),I.cf.more (Va _ _ _ _),I.cr.more (Va _ _ _ _),I.de.more Fh,I.id.more Fh,I.ms.more Fh,I.mi,I.rf,I.ex,I.ce⟩
theorem ql {p:PR} (h:p.i≤ls.length):(Dd ls p).i≤ls.length:=by
 unfold Dd
 split
 ·exact h
 ·split
  ·exact h
  ·rename_i _ hn
   exact N8 _ (N8 _ (N8 _ (by omega) _ _) _ _) _ _
theorem w7 {p:PR} (hb:p.bad=false) (h:p.i < ls.length):p.i < (Dd ls p).i:=by
 unfold Dd
 rw[if_neg (by rw[hb];decide),if_neg (by omega)]
 exact Nat.le_trans (pr (ls:=ls) wCLIMB _ _ _) (Nat.le_trans (pr (ls:=ls) wCLIMBFLOW _ _ _) (pr (ls:=ls) wCRUISE _ _ _))
structure Fx (nm:List UInt8) (em mf:Int) (ma mi:List Int) (rf ex ce:Int) (g:Ah):Prop where
 nm:g.Name=nm
 em:g.Empty=em
 mf:g.MaxFuel=mf
 ma:g.Masses=ma
 mi:g.MinSpeed=mi
 rf:g.Ref=rf
 ex:g.Extra=ex
 ce:g.Ceiling=ce
variable {nm:List UInt8} {em mf:Int} {ma mi:List Int} {rf ex ce:Int}
theorem fc {p:PR} (F:Fx nm em mf ma mi rf ex ce p.g):Fx nm em mf ma mi rf ex ce (Dd ls p).g:=by
 unfold Dd
 split
 ·exact F
 ·split
  ·exact F
  ·exact⟨F.nm,F.em,F.mf,F.ma,F.mi,F.rf,F.ex,F.ce⟩
abbrev StR:=Int×Int×Int×Int×Bool×(List Int)×(List (List Int))×(List (List Int))×(List (List Int))×(List Int)×(List Int)×(List Int)
variable (hl:ls.length≤300001) (ho:∀ L∈ls,Cv L)
include hl ho
theorem rows_loop {X:Type} {b:StR→Option (StR⊕(StR⊕X))} (hb:∀ s:StR,b s=(if((!s.2.2.2.2.1)&&(decide (s.1 < (ls.length:Int))))=true then(Option.bind (Option.bind (G8 ls s.1 (⟨s.2.1,s.2.2.1,s.2.2.2.1⟩:A5) s.2.2.2.2.1 nm em mf s.2.2.2.2.2.1 ma s.2.2.2.2.2.2.1 s.2.2.2.2.2.2.2.1 s.2.2.2.2.2.2.2.2.1 s.2.2.2.2.2.2.2.2.2.1 s.2.2.2.2.2.2.2.2.2.2.1 s.2.2.2.2.2.2.2.2.2.2.2 mi rf ex ce) fun r=>some r) fun x16=>(some (.inl (x16.1,x16.2.1,x16.2.2.1,x16.2.2.2.1,x16.2.2.2.2.1,x16.2.2.2.2.2.1,x16.2.2.2.2.2.2.1,x16.2.2.2.2.2.2.2.1,x16.2.2.2.2.2.2.2.2.1,x16.2.2.2.2.2.2.2.2.2.1,x16.2.2.2.2.2.2.2.2.2.2.1,x16.2.2.2.2.2.2.2.2.2.2.2))))else(some (.inr (.inl (s.1,s.2.1,s.2.2.1,s.2.2.2.1,s.2.2.2.2.1,s.2.2.2.2.2.1,s.2.2.2.2.2.2.1,s.2.2.2.2.2.2.2.1,s.2.2.2.2.2.2.2.2.1,s.2.2.2.2.2.2.2.2.2.1,s.2.2.2.2.2.2.2.2.2.2.1,s.2.2.2.2.2.2.2.2.2.2.2)))))) :
  ∀ (k:Nat) (p:PR),ls.length - p.i≤k→p.i≤ls.length→Fx nm em mf ma mi rf ex ce p.g→(p.bad=false→OkQ p.i p.g)→Ak b (Oh p)=some (.inl (Oh (Er ls k p))):=by
 have out:∀ p:PR,¬ (p.bad=false∧p.i < ls.length)→Ak b (Oh p)=some (.inl (Oh p)):=fun p hc=>Bh (by
  rw[hb]
  rw[if_neg (by
   show ¬ ((!p.bad)&&(decide ((p.i:Int) < (ls.length:Int))))=true
   rw[Bool.and_eq_true,decide_eq_true_eq,Bool.not_eq_true']
   exact fun h=>hc ⟨h.1,by omega⟩)])
 intro k
 induction k with
 | zero =>
  intro p hk hi F I
  exact out p fun h=>by omega
 | succ k ih =>
  intro p hk hi F I
  unfold Er
  by_cases hc:p.bad=false∧p.i < ls.length
  ·rw[if_pos hc]
   have I1:=I hc.1
   have ge:=w7 hc.1 hc.2
   have rq:=qn hl ho (p:=p) hi (I1.sz (by omega))
   refine Bm (s':=Oh (Dd ls p)) ?_ (ih (Dd ls p) (by omega) (ql hi) (fc F) fun _=>(Yd I1).mono ge)
   rw[hb]
   rw[if_pos (by
    show ((!p.bad)&&(decide ((p.i:Int) < (ls.length:Int))))=true
    rw[hc.1,decide_eq_true (show (p.i:Int) < (ls.length:Int) from by omega)]
    rfl)]
   rw[F.nm,F.em,F.mf,F.ma,F.mi,F.rf,F.ex,F.ce]at rq
   unfold Oh at rq ⊢
   simp only
   rw[rq]
   rfl
  ·rw[if_neg hc]
   exact out p hc
theorem end_p {Q:Ah×List A5} {p:PR} (R:X2 ls p Q) (F:Fx nm em mf ma mi rf ex ce p.g) (hf:p.bad=false→p.i=ls.length∧ls.length % 4=3∧7≤ls.length∧OkQ ls.length p.g) (s:List UInt8) (ds:List A5) (q1 q2 q3:Int) (q4:Bool) (r1 r2 r3 r4:Int) (r5:Bool) (r6:List Int) (t1 t2 t3:List (List Int)) (t4 t5 t6:List Int) :
  (kv s (ls,ds) (q1,q2,q3,q4,nm,em,mf,rf,ex,ce) (r1,r2,r3,r4,r5,r6,ma,t1,t2,t3,t4,t5,t6,mi) (Oh p)).m=some Q:=by
 obtain⟨rfl,rfl,rfl,rfl,rfl,rfl,rfl,rfl⟩:=F
 rw[M16_7]
 rcases R with⟨h1,h2⟩ | ⟨h1,h2,h3⟩
 ·rw[if_pos (show (Oh p).2.2.2.2.1=true from h1),h2]
  rfl
 ·obtain⟨f1,f2,f3,f4⟩:=hf h1
  rw[if_neg (show ¬ (Oh p).2.2.2.2.1=true from by show ¬ p.bad=true;rw[h1];decide)]
  have hq:Q=if Cw p.g≠0 then(zP,[⟨(ls.getD 0 default).A8,((ls.getD 0 default).A2.getD 0 default).Ai,Cw p.g⟩])else(p.g,[]):=by
   rw[h3,f1,Nat.sub_self]
   show (if _ then _ else _)=_
   rw[if_neg (by omega)]
  have hc:=ym (cj (by omega) f4)
  unfold Oh
  simp only
  rw[show (⟨p.g.Name,p.g.Empty,p.g.MaxFuel,p.g.Alts,p.g.Masses,p.g.Climb,p.g.ClimbFlow,p.g.Cruise,p.g.Descent,p.g.Idle,p.g.MaxSpeed,p.g.MinSpeed,p.g.Ref,p.g.Extra,p.g.Ceiling⟩:Ah)=p.g from rfl,hc]
  simp only[bs]
  have O0:=ho _ (Ay (l:=ls) (i:=0) (by omega))
  have hne:=O0.ne
  rw[hq]
  by_cases h0:Cw p.g=0
  ·rw[if_neg (by simpa using h0),if_neg (fun h=>h h0)]
  ·rw[if_pos (show (Cw p.g != 0)=true from by simpa using h0),if_pos h0]
   rw[if_pos (by omega),if_pos (by omega),if_pos (by omega),if_pos (by omega),if_pos (by omega),if_pos (by show (0:Int) < (((ls.getD 0 default).A2.length:Nat):Int);omega)]
   rfl
theorem head_p (hpos:0 < ls.length) (s:List UInt8) (ds:List A5) {h:PH} (hh:Zx (ls.getD 0 default)=h) :
  (kt s (ls,ds)).m=some (.inl ((D3 h.e ⟨0,0,0⟩).1.Line,(D3 h.e ⟨0,0,0⟩).1.Ai,(D3 h.e ⟨0,0,0⟩).1.Code,(D3 h.e ⟨0,0,0⟩).2,h.nm,h.em,h.mf,h.rf,h.ex,h.ce)):=by
 subst hh
 generalize hL:ls.getD 0 default=L
 have O:Cv L:=hL ▸ ho _ (Ay hpos)
 obtain⟨n0,n1,n2,n3,n4,n5,n6⟩:=pq_n (L:=L)
 have kN:Wd (8:Int) L.A8 L.A2 ((Qx L).n:Int) (Qx L).l (Qx L).d=some ((L3 L).1,C8 (L3 L).2):=name_eq O n0
 have k2:Bw L.A8 L.A2 ((L3 L).2.n:Int) (L3 L).2.l (L3 L).2.d=some ((L4 L).1,C8 (L4 L).2):=S7 O n1
 have k3:Bw L.A8 L.A2 ((L4 L).2.n:Int) (L4 L).2.l (L4 L).2.d=some ((L5 L).1,C8 (L5 L).2):=S7 O n2
 have k4:Bw L.A8 L.A2 ((L5 L).2.n:Int) (L5 L).2.l (L5 L).2.d=some ((L6 L).1,C8 (L6 L).2):=S7 O n3
 have k5:Bw L.A8 L.A2 ((L6 L).2.n:Int) (L6 L).2.l (L6 L).2.d=some ((L7 L).1,C8 (L7 L).2):=S7 O n4
 have kA:Ko L.A8 L.A2 ((L7 L).2.n:Int) (L7 L).2.l (L7 L).2.d=some ((K5 L).1,C8 (K5 L).2):=alt_eq O n5
 have kE:=me (ls:=ls) n6 (IntKind.wrap .i64 ((0:Int)+(1:Int))) ⟨0,0,0⟩
 have x1:M4 ([80,69,82,70]:List UInt8) ls (0:Int) (⟨(0:Int),(0:Int),(0:Int)⟩:A5) false=some (C8 (Qx L)):=ny ho hpos ([80,69,82,70]:List UInt8) ⟨0,0,0⟩ hL
 rw[M16_4,x1]
 have hL':ls.getD (0:Int).toNat default=L:=hL
 simp only[bs,hL',C8]
 rw[if_pos trivial,kN]
 simp only[bs,C8]
 rw[k2]
 simp only[bs,C8]
 rw[k3]
 simp only[bs,C8]
 rw[k4]
 simp only[bs,C8]
 rw[k5]
 simp only[bs,C8]
 rw[kA]
 simp only[bs,C8]
 rw[kE]
 rfl
theorem body_p (hpos:0 < ls.length) (s:List UInt8) (ds:List A5) {h:PH} (hh:Zx (ls.getD 0 default)=h) {Q:Ah×List A5} (hQ:Q=Lh ls (Dv ls ls.length 0 zP)) :
  (kw s (ls,ds) ((D3 h.e ⟨0,0,0⟩).1.Line,(D3 h.e ⟨0,0,0⟩).1.Ai,(D3 h.e ⟨0,0,0⟩).1.Code,(D3 h.e ⟨0,0,0⟩).2,h.nm,h.em,h.mf,h.rf,h.ex,h.ce)).m=some Q:=by
 have O:Cv (ls.getD 0 default):=ho _ (Ay hpos)
 have I0:OkQ 1 (Gu zP h):=by
  have:=fg O (i:=0) (g:=zP) (g':=Gu zP (Zx (ls.getD 0 default))) zP_ok
  subst hh
  have z:=zP_ok
  exact⟨nq O pq_n.1,Fh,Fh,z.al.up,z.ma,z.cl.up,z.cf.up,z.cr.up,z.de.up,z.id.up,z.ms.up,z.mi,Fh,Fh,Z5⟩
 have R0:X2 ls ⟨0+1,(D3 h.e ⟨0,0,0⟩).1,(D3 h.e ⟨0,0,0⟩).2,Gu zP h⟩ Q:=qd (g:=zP) hpos (by rw[Nat.sub_zero];exact hQ) (by unfold B3;rw[if_pos rfl,hh]) ⟨0,0,0⟩ fun _=>rfl
 generalize D3 h.e ⟨0,0,0⟩=E at R0 ⊢
 obtain⟨R1,k1⟩:=Oa (w:=wMASSES) (fun l=>{ Gu zP h with Masses:=l }) R0 (fun hb=>by
  show B3 _ (0+1) (Gu zP h)=_
  unfold B3
  rw[if_neg (by omega),if_pos rfl]) (fun _=>.inl (by show 0+1 < 7;omega))
 have l1:=Gq hl ho wMASSES (i:=1) hpos E.1 E.2
 have b1:=N8 (ls:=ls) wMASSES (i:=1) hpos E.1 E.2
 have g1:=Va (ls:=ls) wMASSES 1 E.1 E.2
 simp only at R1 k1
 rw[Nat.zero_add]at R1 k1
 generalize hc1:Ec ls wMASSES 1 E.1 E.2=c1 at R1 k1 l1 b1 g1
 obtain⟨R2,k2⟩:=Oa (w:=wMINSPEED) (fun l=>{ Gu zP h with Masses:=c1.1,MinSpeed:=l }) R1 (fun hb=>by
  have e:=(k1 hb).2
  show B3 (ls.getD c1.2.1 default) c1.2.1 _=Hj (Ff wMINSPEED (ls.getD c1.2.1 default)).2 _
  rw[e]
  unfold B3
  rw[if_neg (by omega),if_neg (by omega),if_pos rfl]) (fun hb=>.inl (by have:=(k1 hb).2;show c1.2.1 < 7;omega))
 have l2:=Gq hl ho wMINSPEED b1 c1.2.2.1 c1.2.2.2
 have b2:=N8 (ls:=ls) wMINSPEED b1 c1.2.2.1 c1.2.2.2
 have g2:=Va (ls:=ls) wMINSPEED c1.2.1 c1.2.2.1 c1.2.2.2
 simp only at R2 k2
 generalize hc2:Ec ls wMINSPEED c1.2.1 c1.2.2.1 c1.2.2.2=c2 at R2 k2 l2 b2 g2
 have I2:OkQ 1 ({ Gu zP h with Masses:=c1.1,MinSpeed:=c2.1 }:Ah):=⟨I0.nm,I0.em,I0.mf,I0.al,g1,I0.cl,I0.cf,I0.cr,I0.de,I0.id,I0.ms,g2,I0.rf,I0.ex,I0.ce⟩
 have F2:Fx h.nm h.em h.mf c1.1 c2.1 h.rf h.ex h.ce ({ Gu zP h with Masses:=c1.1,MinSpeed:=c2.1 }:Ah):=⟨rfl,rfl,rfl,rfl,rfl,rfl,rfl,rfl⟩
 have hp1:∀ p1:PR,p1=⟨c2.2.1,c2.2.2.1,c2.2.2.2,{ Gu zP h with Masses:=c1.1,MinSpeed:=c2.1 }⟩→p1.bad=false→p1.i=3:=fun p1 e hb=>by
  subst e
  have:=(k2 hb).2
  have:=(k1 (k2 hb).1).2
  show c2.2.1=3
  omega
 have rq:=qn hl ho (p:=⟨c2.2.1,c2.2.2.1,c2.2.2.2,{ Gu zP h with Masses:=c1.1,MinSpeed:=c2.1 }⟩) b2 (I2.sz (by decide))
 obtain⟨R3,k3⟩:=w6 R2 fun hb=>by have:=hp1 _ rfl hb;simp only at this ⊢;omega
 have I3:=Yd (ls:=ls) (p:=⟨c2.2.1,c2.2.2.1,c2.2.2.2,{ Gu zP h with Masses:=c1.1,MinSpeed:=c2.1 }⟩) I2
 have F3:=fc (ls:=ls) (p:=⟨c2.2.1,c2.2.2.1,c2.2.2.2,{ Gu zP h with Masses:=c1.1,MinSpeed:=c2.1 }⟩) F2
 have b3:=ql (ls:=ls) (p:=⟨c2.2.1,c2.2.2.1,c2.2.2.2,{ Gu zP h with Masses:=c1.1,MinSpeed:=c2.1 }⟩) b2
 have k3':∀ p2:PR,Dd ls ⟨c2.2.1,c2.2.2.1,c2.2.2.2,{ Gu zP h with Masses:=c1.1,MinSpeed:=c2.1 }⟩=p2→p2.bad=false→p2.i=7:=fun p2 e hb=>by
  subst e
  exact(k3 hb).2.trans (congrArg (·+4) (hp1 _ rfl (k3 hb).1))
 generalize hp2:Dd ls ⟨c2.2.1,c2.2.2.1,c2.2.2.2,{ Gu zP h with Masses:=c1.1,MinSpeed:=c2.1 }⟩=p2 at R3 I3 F3 b3 rq
 have k4:=k3' p2 hp2
 have I4:p2.bad=false→OkQ p2.i p2.g:=fun hb=>I3.mono (by rw[k4 hb];decide)
 obtain⟨R5,k5⟩:=qe (ls.length - p2.i) R3 fun hb=>by rw[k4 hb];decide
 have lp:(ku s (ls,ds) (E.1.Line,E.1.Ai,E.1.Code,E.2,h.nm,h.em,h.mf,h.rf,h.ex,h.ce) ((p2.i:Int),p2.d.Line,p2.d.Ai,p2.d.Code,p2.bad,p2.g.Alts,c1.1,p2.g.Climb,p2.g.ClimbFlow,p2.g.Cruise,p2.g.Descent,p2.g.Idle,p2.g.MaxSpeed,c2.1)).m=some (.inl (Oh (Er ls (ls.length - p2.i) p2))):=by
  rw[M16_6]
  exact rows_loop hl ho (fun s1=>rfl) (ls.length - p2.i) p2 (Nat.le_refl _) b3 F3 I4
 have ok5:∀ (k:Nat) (p:PR),Fx h.nm h.em h.mf c1.1 c2.1 h.rf h.ex h.ce p.g→(p.bad=false→OkQ p.i p.g)→p.i≤ls.length→Fx h.nm h.em h.mf c1.1 c2.1 h.rf h.ex h.ce (Er ls k p).g∧((Er ls k p).bad=false→OkQ (Er ls k p).i (Er ls k p).g):=by
  intro k
  induction k with
  | zero=>exact fun p F I _=>⟨F,I⟩
  | succ k ih =>
   intro p F I hi
   unfold Er
   by_cases hc:p.bad=false∧p.i < ls.length
   ·rw[if_pos hc]
    exact ih _ (fc F) (fun _=>(Yd (I hc.1)).mono (w7 hc.1 hc.2)) (ql hi)
   ·rw[if_neg hc]
    exact⟨F,I⟩
 obtain⟨F5,I5⟩:=ok5 (ls.length - p2.i) p2 F3 I4 b3
 have en:=end_p hl ho R5 F5 (fun hb=>by
  obtain⟨⟨e1,e2⟩,e3⟩:=k5 hb
  have e4:=e3 (Nat.le_refl _)
  exact⟨e4,by rw[← e4];exact e1,by rw[← e4];exact e2,by have:=I5 hb;rw[e4]at this;exact this⟩) s ds E.1.Line E.1.Ai E.1.Code E.2 (p2.i:Int) p2.d.Line p2.d.Ai p2.d.Code p2.bad p2.g.Alts p2.g.Climb p2.g.ClimbFlow p2.g.Cruise p2.g.Descent p2.g.Idle p2.g.MaxSpeed
 rw[M16_8]
 rw[show IntKind.wrap .i64 ((0:Int)+(1:Int))=((1:Nat):Int) from by decide]
 have l1':Ce ([77,65,83,83,69,83]:List UInt8) ls ((1:Nat):Int) (⟨E.1.Line,E.1.Ai,E.1.Code⟩:A5) E.2=some (Vn c1):=l1
 have l2':Ce ([77,73,78,83,80,69,69,68]:List UInt8) ls (c1.2.1:Int) (⟨c1.2.2.1.Line,c1.2.2.1.Ai,c1.2.2.1.Code⟩:A5) c1.2.2.2=some (Vn c2):=l2
 have rq':G8 ls (c2.2.1:Int) (⟨c2.2.2.1.Line,c2.2.2.1.Ai,c2.2.2.1.Code⟩:A5) c2.2.2.2 h.nm h.em h.mf ([]:List Int) c1.1 ([]:List (List Int)) ([]:List (List Int)) ([]:List (List Int)) ([]:List Int) ([]:List Int) ([]:List Int) c2.1 h.rf h.ex h.ce=some (Oh p2):=rq
 simp only
 rw[l1']
 simp only[bs,Vn]
 rw[l2']
 simp only[bs,Vn]
 rw[rq']
 simp only[bs,ol,Oh]
 rw[lp]
 simp only[bs,ol]
 exact en
end
theorem gk (s:List UInt8):m16 s=some (Hk s):=by
 rw[M16]
 simp only[Read_p,bs]
 unfold Hk
 obtain⟨hl,ho⟩:=Yc s
 generalize Dh s=R at hl ho
 obtain⟨ds,ls⟩:=R
 simp only at hl ho ⊢
 by_cases hd:0 < ds.length
 ·rw[if_pos (decide_eq_true (show (0:Int) < (ds.length:Int) from by omega)),if_pos hd]
  rfl
 ·rw[if_neg (show ¬ decide ((0:Int) < (ds.length:Int))=true from fun e=>hd (by have:=of_decide_eq_true e;omega)),if_neg hd]
  by_cases h0:ls.length=0
  ·have hnil:ls=[]:=List.length_eq_zero_iff.1 h0
   subst hnil
   have q0:Ht ([80,69,82,70]:List UInt8) [] (0:Int) (⟨(0:Int),(0:Int),(0:Int)⟩:A5) false=some (1,1,4,true):=ez hl ho _ _
   have q1:Ce ([77,65,83,83,69,83]:List UInt8) [] (0:Int) (⟨(1:Int),(1:Int),(4:Int)⟩:A5) true=some ([],0,1,1,4,true):=Gq hl ho wMASSES (i:=0) (Nat.le_refl _) ⟨1,1,4⟩ true
   have q2:Ce ([77,73,78,83,80,69,69,68]:List UInt8) [] (0:Int) (⟨(1:Int),(1:Int),(4:Int)⟩:A5) true=some ([],0,1,1,4,true):=Gq hl ho wMINSPEED (i:=0) (Nat.le_refl _) ⟨1,1,4⟩ true
   have q3:G8 [] (0:Int) (⟨(1:Int),(1:Int),(4:Int)⟩:A5) true ([]:List UInt8) (0:Int) (0:Int) ([]:List Int) ([]:List Int) ([]:List (List Int)) ([]:List (List Int)) ([]:List (List Int)) ([]:List Int) ([]:List Int) ([]:List Int) ([]:List Int) (0:Int) (0:Int) (0:Int)=some (0,1,1,4,true,[],[],[],[],[],[],[]):=qn hl ho (p:=⟨0,⟨1,1,4⟩,true,zP⟩) (Nat.le_refl _) (zP_ok.sz (by decide))
   rw[q0]
   simp only[bs,Bool.false_eq_true,if_false]
   rw[q1]
   simp only[bs]
   rw[q2]
   simp only[bs]
   rw[q3]
   simp only[bs,ol]
   rw[M16_1]
   rw[Bh (x:=Sum.inl (0,1,1,4,true,[],[],[],[],[],[],[])) (by
    simp only[Bool.not_true,Bool.false_and,Bool.false_eq_true,if_false])]
   simp only[bs,ol]
   rw[M16_2]
   rfl
  ·have hpos:0 < ls.length:=by omega
   have q0:Ht ([80,69,82,70]:List UInt8) ls (0:Int) (⟨(0:Int),(0:Int),(0:Int)⟩:A5) false=none:=nw hpos _ _
   rw[q0]
   simp only[Option.bind_none,bs,ol,je]
   rw[M16_9]
   rw[if_neg (show ¬ decide ((0:Int) < (ds.length:Int))=true from fun e=>hd (by have:=of_decide_eq_true e;omega))]
   simp only[bs,ol]
   rw[head_p hl ho hpos s ds rfl]
   simp only[bs,ol]
   exact body_p hl ho hpos s ds rfl rfl
end Go.Av.Txs
set_option maxRecDepth 100000
namespace Go.Av.Txs
open Go.Av
theorem Ye (L:A7):N5 L=some ():=by rw[A91o0]
def tN (L:A7) (l:List Int) (s:Sc):Yw:=(l,(l.length:Int),L.A8,L.A2,C7 s)
theorem numR_loop {L:A7} (O:Cv L):∀ (k:Nat) (l:List Int) (s:Sc),l.length+k=6→0 < l.length→s.n≤L.A2.length→Ak Gr (tN L l s)=some (.inl ((Mj L k l s).1,L.A8,L.A2,C7 (Mj L k l s).2)):=by
 intro k
 induction k with
 | zero =>
  intro l s hk h0 h
  refine Bh ?_
  have e0:((l.length:Int)==0)=false:=by rw[beq_eq_false_iff_ne];omega
  have e6:decide ((l.length:Int) < 6)=false:=decide_eq_false (by omega)
  show Gr (l,(l.length:Int),L.A8,L.A2,(s.n:Int),s.l,s.d.Line,s.d.Ai,s.d.Code,s.d.Code != 0)=_
  simp only[Gr,e0,e6,Bool.not_false,Bool.true_and,Bool.and_false,Bool.false_eq_true,if_false,Bool.or_self,Bool.false_and,bs]
  simp only[implies_true,if_true,bs]
  rfl
 | succ k ih =>
  intro l s hk h0 h
  have e0:((l.length:Int)==0)=false:=by rw[beq_eq_false_iff_ne];omega
  have e6:decide ((l.length:Int) < 6)=true:=decide_eq_true (by omega)
  have hl:=rleft_eq O h
  unfold rS at hl
  unfold Mj
  by_cases hc:0 < Jd L s
  ·rw[if_pos hc]
   have hn:=Hx (lo:=0) (hi:=3000000000) (by decide) (by decide) O h
   unfold rS at hn
   refine Bm (s':=tN L (l++[(Dx L s).1]) (Dx L s).2) ?_ (ih _ _ (by rw[List.length_append,List.length_singleton];omega) (by rw[List.length_append];omega) (Hi h))
   show Gr (l,(l.length:Int),L.A8,L.A2,(s.n:Int),s.l,s.d.Line,s.d.Ai,s.d.Code,s.d.Code != 0)=_
   simp only[Gr,e0,e6,Bool.not_false,Bool.true_and,if_true]
   rw[hl]
   simp only[bs,Bool.false_or]
   rw[if_pos (decide_eq_true hc),hn]
   simp only[bs,C7]
   rw[if_pos (Es (by omega))]
   simp only[bs]
   rw[wn (by omega)]
   unfold tN
   rw[List.length_append,List.length_singleton]
   rfl
  ·rw[if_neg hc]
   refine Bh ?_
   show Gr (l,(l.length:Int),L.A8,L.A2,(s.n:Int),s.l,s.d.Line,s.d.Ai,s.d.Code,s.d.Code != 0)=_
   simp only[Gr,e0,e6,Bool.not_false,Bool.true_and,if_true]
   rw[hl]
   simp only[bs,Bool.false_or]
   rw[if_neg (by simpa using hc)]
   rfl
theorem Ks {L:A7} (O:Cv L) (w:List UInt8):Uv L w=some ((Ff w L).1,(Ff w L).2.2,(Ff w L).2.1):=by
 obtain⟨v,hw⟩:=Yj (w:=w) O (s:=s0) (Nat.zero_le _)
 have k0:Jg [w] ⟨L,0,1,⟨0,0,0⟩,false⟩=some (v,L.A8,L.A2,C7 (C4 w L s0)):=hw
 have hn:=Hx (lo:=0) (hi:=3000000000) (by decide) (by decide) O (s:=C4 w L s0) (Ra (Nat.zero_le _))
 unfold rS at hn
 obtain⟨k1,k2,k3⟩:=zi (w:=w) (L:=L)
 have lp:=numR_loop O 5 [(Dx L (C4 w L s0)).1] (Dx L (C4 w L s0)).2 rfl (Nat.succ_pos 0) k1
 have f:=fb k2
 unfold rS at f
 have first:Ak Gr ([],(0:Int),L.A8,L.A2,C7 (C4 w L s0))=some (.inl ((ba w L).1,L.A8,L.A2,C7 (ba w L).2)):=by
  refine Bm (s':=tN L [(Dx L (C4 w L s0)).1] (Dx L (C4 w L s0)).2) ?_ lp
  have e0:((0:Int)==0)=true:=rfl
  simp only[Gr,e0,Bool.not_true,Bool.false_and,Bool.false_eq_true,if_false,Bool.true_or,if_true,C7,false_implies,bs]
  rw[hn]
  simp only[bs,C7]
  rw[if_pos (show ((([]:List Int).length+1) * 8≤140737488355328) from by decide)]
  rfl
 rw[A117]
 simp only[Ye,bs]
 rw[k0]
 simp only[C7]at first
 simp only[bs,ol,C7]
 rw[first]
 simp only[bs,ol]
 rw[f]
 rfl
end Go.Av.Txs
