/- A part of the proof. -/
import Derived.Test.YtffeiidbkbeonaaPart5
set_option linter.unusedVariables false
set_option linter.unusedSimpArgs false
set_option maxRecDepth 100000
namespace Go.Av.Air
variable {N:Nat} {es:List T72}
theorem set_same {α:Type} (l:List α) (i:Nat) (d:α):l.set i (l.getD i d)=l:=by
 apply List.ext_getElem
 ·simp
 ·intro k h1 h2
  rw[List.getElem_set]
  by_cases e:i=k
  ·subst e;rw[if_pos rfl,List.getD_eq_getElem?_getD,List.getElem?_eq_getElem h2];rfl
  ·rw[if_neg e]
theorem rw_rows {n:Nat} (hn:n=N) (G:GOk N es) {bm:Int→List T72→Option ((Int×List T72)⊕(Unit×List T72))} (hb:∀ i,i < es.length→∀ l:List T72,l.length≤8192→bm (i:Int) l=some (.inl (((i+1:Nat):Int),l++[es.getD i default])))
  (he:∀ l,bm (es.length:Int) l=some (.inr ((),l))):loopO (rwM n (fun s:Int=>(es.getD s.toNat default).From.toNat) bm) ((0:Int),List.replicate n [])=some ((),rows N es):=by
 subst hn
 have hN:=G.n1
 have h0:List.replicate n ([]:List T72)=rows n (es.take 0):=by
  apply List.ext_getElem
  ·simp[rows]
  ·intro k h1 h2;simp[rows,row]
 rw[h0]
 refine loop_st es.length (fun i=>((i:Int),rows n (es.take i))) ((),rows n es) (fun i hi=>?_) ?_
 ·obtain⟨x,hx⟩:∃ x,es.getD i default=x:=⟨_,rfl⟩
  obtain⟨g1,g2,_⟩:=G.e x (by rw[← hx];exact getD_mem hi)
  have hj:x.From=((x.From.toNat:Nat):Int):=by omega
  have hlt:x.From.toNat < n:=by omega
  have hst:=rows_step (N:=n) (es:=es) hi (j:=x.From.toNat) (by rw[hx];exact hj) hlt
  rw[hx]at hst
  have hr:=row_len (es:=es.take i) x.From.toNat
  have ht:(es.take i).length≤es.length:=List.length_take_le' _ _
  have h8:=G.few
  simp only[rwM,Int.toNat_natCast,hx]
  rw[if_pos hlt,rows_at0 hlt,hb i hi _ (by omega),hx]
  simp only[Option.bind_some,hst]
 ·simp only[rwM,Int.toNat_natCast]
  have hd:es.getD es.length default=default:=by simp[List.getD_eq_getElem?_getD]
  have e0:(default:T72).From.toNat=0:=rfl
  rw[hd,e0,if_pos (by omega),he]
  simp only[Option.bind_some,set_same,List.take_length]
abbrev CL:=List T115
def lb (s:CL) (i:Nat):T115:=s.getD i default
theorem lb_set {s:CL} {i k:Nat} {a:T115} (hi:i < s.length):lb (s.set i a) k=if k=i then a else lb s k:=getD_setL hi
def lc (a b:T115):Prop:=a.cost < b.cost∨(a.cost=b.cost∧a.edges≤b.edges)
theorem lc_rfl (a:T115):lc a a:=.inr ⟨rfl,Int.le_refl _⟩
theorem lc_trans {a b c:T115} (h:lc a b) (k:lc b c):lc a c:=by unfold lc at *;omega
def cand (s:CL) (i:Nat):Prop:=(lb s i).done=false∧0≤(lb s i).cost
theorem M63 (a0:T115) (a1 a2:Int):m63 a0 a1 a2=((some (((decide (a0.cost < 0)) || (decide (a1 < a0.cost))) || ((a1==a0.cost)&&(decide (a2 < a0.edges))))):Option (Bool)):=by kernel_rfl
theorem M41o0 (a0:Int) (a1:List T72) (a2:Int):m41o0 a0 a1 a2=((Option.bind (Option.bind ((if 0≤a0 then(if a0=a0 then(if a0 * 24≤140737488355328 then(if a0≤9223372036854775807 then some ()else none)else none)else none)else none)) fun(x1:(Unit))=>(some (.inl ()))) (onS fun(_:Unit)=>(Option.bind (Option.bind (some (.inl ())) (onS fun(_:Unit)=>(loopO (fun(s1:(List T115)×Int)=>((if(decide (s1.2 < a0))=true then(if(0≤s1.2)then(if(s1.2 < (s1.1.length:Int))then(if(s1.2.toNat < s1.1.length)then(some (.inl ((s1.1.set s1.2.toNat (⟨(-1:Int),(s1.1.getD s1.2.toNat default).edges,(s1.1.getD s1.2.toNat default).done⟩:T115)),(IntKind.wrap .i64 (s1.2+1)))))else none)else none)else none)else(some (.inr (.inl s1.1)))):Option (((List T115)×Int)⊕(((List T115))⊕((List T115)))))) ((List.replicate a0.toNat (⟨(0:Int),(0:Int),false⟩:T115)),(0:Int))))) (onS fun(y2:(List T115))=>(Option.bind (if(0≤a2)then(if(a2 < (y2.length:Int))then(if(a2.toNat < y2.length)then(if(0≤a0)then(if(a0=a0)then(if(a0 * 24≤140737488355328)then(if(a0≤9223372036854775807)then(some (.inl ()))else none)else none)else none)else none)else none)else none)else none) (onS fun(_:Unit)=>(Option.bind (Option.bind (some (.inl ())) (onS fun(_:Unit)=>(Option.bind (loopO (rwM a0.toNat (fun(s3:Int)=>(a1.getD s3.toNat default).From.toNat) (fun(s3:Int) (l3:List T72)=>((if(decide (s3 < (a1.length:Int)))=true then(if(0≤s3)then(if(s3 < (a1.length:Int))then(if(s3.toNat < a1.length)then(if(0≤(a1.getD s3.toNat default).From)then(if((a1.getD s3.toNat default).From < (a0.toNat:Int))then(if((a1.getD s3.toNat default).From.toNat < a0.toNat)then(if((a1.getD s3.toNat default).From.toNat=(a1.getD s3.toNat default).From.toNat)then(if((l3.length+1) * 24≤140737488355328)then(if(0≤(a1.getD s3.toNat default).From)then(if((a1.getD s3.toNat default).From < (a0.toNat:Int))then(if((a1.getD s3.toNat default).From.toNat < a0.toNat)then(if((a1.getD s3.toNat default).From.toNat=(a1.getD s3.toNat default).From.toNat)then(some (.inl ((IntKind.wrap .i64 (s3+1)),(l3++([(a1.getD s3.toNat default)]:List T72)))))else none)else none)else none)else none)else none)else none)else none)else none)else none)else none)else none)else none)else(some (.inr (((),l3))))):Option (((Int)×List T72)⊕((Unit)×List T72))))) ((0:Int),List.replicate a0.toNat ([]:List T72))) fun(p:(Unit)×List (List T72))=>(some (.inl p.2))))) (onS fun(y4:(List (List T72)))=>(loopO (fun(s5:(List T115))=>((Option.bind (some (.inl ())) (onS fun(_:Unit)=>(Option.bind (Option.bind (some (.inl ())) (onS fun(_:Unit)=>(loopO (fun(s6:Int×Int)=>((if(decide (s6.2 < (s5.length:Int)))=true then(if(0≤s6.2)then(if(s6.2 < (s5.length:Int))then(if(s6.2.toNat < s5.length)then(Option.bind ((if(((!(s5.getD s6.2.toNat default).done)&&(decide (0≤(s5.getD s6.2.toNat default).cost)))&&(!(decide (s6.1 < 0))))=true→0≤s6.1 then(if(((!(s5.getD s6.2.toNat default).done)&&(decide (0≤(s5.getD s6.2.toNat default).cost)))&&(!(decide (s6.1 < 0))))=true→s6.1 < (s5.length:Int)then(if(((!(s5.getD s6.2.toNat default).done)&&(decide (0≤(s5.getD s6.2.toNat default).cost)))&&(!(decide (s6.1 < 0))))=true→s6.1.toNat < s5.length then((if(((!(s5.getD s6.2.toNat default).done)&&(decide (0≤(s5.getD s6.2.toNat default).cost)))&&(!(decide (s6.1 < 0))))=true then m63 (s5.getD s6.1.toNat default) (s5.getD s6.2.toNat default).cost (s5.getD s6.2.toNat default).edges else some default).bind fun r18_0=>some r18_0)else none)else none)else none)) fun(x18:(Bool))=>(if(((!(s5.getD s6.2.toNat default).done)&&(decide (0≤(s5.getD s6.2.toNat default).cost)))&&((decide (s6.1 < 0)) || x18))=true then(some (.inl (s6.2,(IntKind.wrap .i64 (s6.2+1)))))else(some (.inl (s6.1,(IntKind.wrap .i64 (s6.2+1)))))))else none)else none)else none)else(some (.inr (.inl s6.1)))):Option ((Int×Int)⊕((Int)⊕(((List T115))⊕((List T115))))))) ((-1:Int),(0:Int))))) (onS fun(y7:Int)=>(Option.bind (if(decide (y7 < 0))=true then(some (.inr (.inr (s5))))else(if(0≤y7)then(if(y7 < (s5.length:Int))then(if(y7.toNat < s5.length)then(if(0≤y7)then(if(y7 < (y4.length:Int))then(some (.inl ()))else none)else none)else none)else none)else none)) (onS fun(_:Unit)=>(loopO (fun(s8:(List T115)×Int)=>((if(decide (s8.2 < ((y4.getD y7.toNat default).length:Int)))=true then(if(0≤s8.2)then(if(s8.2 < ((y4.getD y7.toNat default).length:Int))then(if(0≤y7)then(if(y7 < (s8.1.length:Int))then(if(y7.toNat < s8.1.length)then(if(0≤y7)then(if(y7 < (s8.1.length:Int))then(if(y7.toNat < s8.1.length)then(if(0≤((y4.getD y7.toNat default).getD s8.2.toNat default).To)then(if(((y4.getD y7.toNat default).getD s8.2.toNat default).To < (s8.1.length:Int))then(Option.bind ((if((y4.getD y7.toNat default).getD s8.2.toNat default).To.toNat < s8.1.length then(if(!(s8.1.getD ((y4.getD y7.toNat default).getD s8.2.toNat default).To.toNat default).done)=true→((y4.getD y7.toNat default).getD s8.2.toNat default).To.toNat < s8.1.length then((if(!(s8.1.getD ((y4.getD y7.toNat default).getD s8.2.toNat default).To.toNat default).done)=true then m63 (s8.1.getD ((y4.getD y7.toNat default).getD s8.2.toNat default).To.toNat default) (IntKind.wrap .i64 ((s8.1.getD y7.toNat default).cost+((y4.getD y7.toNat default).getD s8.2.toNat default).Cost)) (IntKind.wrap .i64 ((s8.1.getD y7.toNat default).edges+1))else some default).bind fun r29_0=>some r29_0)else none)else none)) fun(x29:(Bool))=>(if((!(s8.1.getD ((y4.getD y7.toNat default).getD s8.2.toNat default).To.toNat default).done)&&x29)=true then(if(((y4.getD y7.toNat default).getD s8.2.toNat default).To.toNat < s8.1.length)then(if(((y4.getD y7.toNat default).getD s8.2.toNat default).To.toNat < s8.1.length)then(some (.inl (((s8.1.set ((y4.getD y7.toNat default).getD s8.2.toNat default).To.toNat (⟨(IntKind.wrap .i64 ((s8.1.getD y7.toNat default).cost+((y4.getD y7.toNat default).getD s8.2.toNat default).Cost)),(s8.1.getD ((y4.getD y7.toNat default).getD s8.2.toNat default).To.toNat default).edges,(s8.1.getD ((y4.getD y7.toNat default).getD s8.2.toNat default).To.toNat default).done⟩:T115)).set ((y4.getD y7.toNat default).getD s8.2.toNat default).To.toNat (⟨((s8.1.set ((y4.getD y7.toNat default).getD s8.2.toNat default).To.toNat (⟨(IntKind.wrap .i64 ((s8.1.getD y7.toNat default).cost+((y4.getD y7.toNat default).getD s8.2.toNat default).Cost)),(s8.1.getD ((y4.getD y7.toNat default).getD s8.2.toNat default).To.toNat default).edges,(s8.1.getD ((y4.getD y7.toNat default).getD s8.2.toNat default).To.toNat default).done⟩:T115)).getD ((y4.getD y7.toNat default).getD s8.2.toNat default).To.toNat default).cost,(IntKind.wrap .i64 ((s8.1.getD y7.toNat default).edges+1)),((s8.1.set ((y4.getD y7.toNat default).getD s8.2.toNat default).To.toNat (⟨(IntKind.wrap .i64 ((s8.1.getD y7.toNat default).cost+((y4.getD y7.toNat default).getD s8.2.toNat default).Cost)),(s8.1.getD ((y4.getD y7.toNat default).getD s8.2.toNat default).To.toNat default).edges,(s8.1.getD ((y4.getD y7.toNat default).getD s8.2.toNat default).To.toNat default).done⟩:T115)).getD ((y4.getD y7.toNat default).getD s8.2.toNat default).To.toNat default).done⟩:T115)),(IntKind.wrap .i64 (s8.2+1)))))else none)else none)else(some (.inl (s8.1,(IntKind.wrap .i64 (s8.2+1)))))))else none)else none)else none)else none)else none)else none)else none)else none)else none)else none)else(some (.inr (.inl s8.1)))):Option (((List T115)×Int)⊕(((List T115))⊕((List T115)))))) ((s5.set y7.toNat (⟨(s5.getD y7.toNat default).cost,(s5.getD y7.toNat default).edges,true⟩:T115)),(0:Int))))))))):Option (((List T115))⊕((List T115))))) (y2.set a2.toNat (⟨(0:Int),(y2.getD a2.toNat default).edges,(y2.getD a2.toNat default).done⟩:T115))))))))))):Option ((List T115))):=by kernel_rfl
noncomputable abbrev lo41o0_1 (y4:(List (List T72))) (y7:Int):((List T115)×Int)→Option (((List T115)×Int)⊕(((List T115))⊕((List T115)))):=(fun(s8:(List T115)×Int)=>((if(decide (s8.2 < ((y4.getD y7.toNat default).length:Int)))=true then(if(0≤s8.2)then(if(s8.2 < ((y4.getD y7.toNat default).length:Int))then(if(0≤y7)then(if(y7 < (s8.1.length:Int))then(if(y7.toNat < s8.1.length)then(if(0≤y7)then(if(y7 < (s8.1.length:Int))then(if(y7.toNat < s8.1.length)then(if(0≤((y4.getD y7.toNat default).getD s8.2.toNat default).To)then(if(((y4.getD y7.toNat default).getD s8.2.toNat default).To < (s8.1.length:Int))then(Option.bind ((if((y4.getD y7.toNat default).getD s8.2.toNat default).To.toNat < s8.1.length then(if(!(s8.1.getD ((y4.getD y7.toNat default).getD s8.2.toNat default).To.toNat default).done)=true→((y4.getD y7.toNat default).getD s8.2.toNat default).To.toNat < s8.1.length then((if(!(s8.1.getD ((y4.getD y7.toNat default).getD s8.2.toNat default).To.toNat default).done)=true then m63 (s8.1.getD ((y4.getD y7.toNat default).getD s8.2.toNat default).To.toNat default) (IntKind.wrap .i64 ((s8.1.getD y7.toNat default).cost+((y4.getD y7.toNat default).getD s8.2.toNat default).Cost)) (IntKind.wrap .i64 ((s8.1.getD y7.toNat default).edges+1))else some default).bind fun r29_0=>some r29_0)else none)else none)) fun(x29:(Bool))=>(if((!(s8.1.getD ((y4.getD y7.toNat default).getD s8.2.toNat default).To.toNat default).done)&&x29)=true then(if(((y4.getD y7.toNat default).getD s8.2.toNat default).To.toNat < s8.1.length)then(if(((y4.getD y7.toNat default).getD s8.2.toNat default).To.toNat < s8.1.length)then(some (.inl (((s8.1.set ((y4.getD y7.toNat default).getD s8.2.toNat default).To.toNat (⟨(IntKind.wrap .i64 ((s8.1.getD y7.toNat default).cost+((y4.getD y7.toNat default).getD s8.2.toNat default).Cost)),(s8.1.getD ((y4.getD y7.toNat default).getD s8.2.toNat default).To.toNat default).edges,(s8.1.getD ((y4.getD y7.toNat default).getD s8.2.toNat default).To.toNat default).done⟩:T115)).set ((y4.getD y7.toNat default).getD s8.2.toNat default).To.toNat (⟨((s8.1.set ((y4.getD y7.toNat default).getD s8.2.toNat default).To.toNat (⟨(IntKind.wrap .i64 ((s8.1.getD y7.toNat default).cost+((y4.getD y7.toNat default).getD s8.2.toNat default).Cost)),(s8.1.getD ((y4.getD y7.toNat default).getD s8.2.toNat default).To.toNat default).edges,(s8.1.getD ((y4.getD y7.toNat default).getD s8.2.toNat default).To.toNat default).done⟩:T115)).getD ((y4.getD y7.toNat default).getD s8.2.toNat default).To.toNat default).cost,(IntKind.wrap .i64 ((s8.1.getD y7.toNat default).edges+1)),((s8.1.set ((y4.getD y7.toNat default).getD s8.2.toNat default).To.toNat (⟨(IntKind.wrap .i64 ((s8.1.getD y7.toNat default).cost+((y4.getD y7.toNat default).getD s8.2.toNat default).Cost)),(s8.1.getD ((y4.getD y7.toNat default).getD s8.2.toNat default).To.toNat default).edges,(s8.1.getD ((y4.getD y7.toNat default).getD s8.2.toNat default).To.toNat default).done⟩:T115)).getD ((y4.getD y7.toNat default).getD s8.2.toNat default).To.toNat default).done⟩:T115)),(IntKind.wrap .i64 (s8.2+1)))))else none)else none)else(some (.inl (s8.1,(IntKind.wrap .i64 (s8.2+1)))))))else none)else none)else none)else none)else none)else none)else none)else none)else none)else none)else(some (.inr (.inl s8.1)))):Option (((List T115)×Int)⊕(((List T115))⊕((List T115))))))
noncomputable abbrev lo41o0_2 (s5:(List T115)):(Int×Int)→Option ((Int×Int)⊕((Int)⊕(((List T115))⊕((List T115))))):=(fun(s6:Int×Int)=>((if(decide (s6.2 < (s5.length:Int)))=true then(if(0≤s6.2)then(if(s6.2 < (s5.length:Int))then(if(s6.2.toNat < s5.length)then(Option.bind ((if(((!(s5.getD s6.2.toNat default).done)&&(decide (0≤(s5.getD s6.2.toNat default).cost)))&&(!(decide (s6.1 < 0))))=true→0≤s6.1 then(if(((!(s5.getD s6.2.toNat default).done)&&(decide (0≤(s5.getD s6.2.toNat default).cost)))&&(!(decide (s6.1 < 0))))=true→s6.1 < (s5.length:Int)then(if(((!(s5.getD s6.2.toNat default).done)&&(decide (0≤(s5.getD s6.2.toNat default).cost)))&&(!(decide (s6.1 < 0))))=true→s6.1.toNat < s5.length then((if(((!(s5.getD s6.2.toNat default).done)&&(decide (0≤(s5.getD s6.2.toNat default).cost)))&&(!(decide (s6.1 < 0))))=true then m63 (s5.getD s6.1.toNat default) (s5.getD s6.2.toNat default).cost (s5.getD s6.2.toNat default).edges else some default).bind fun r18_0=>some r18_0)else none)else none)else none)) fun(x18:(Bool))=>(if(((!(s5.getD s6.2.toNat default).done)&&(decide (0≤(s5.getD s6.2.toNat default).cost)))&&((decide (s6.1 < 0)) || x18))=true then(some (.inl (s6.2,(IntKind.wrap .i64 (s6.2+1)))))else(some (.inl (s6.1,(IntKind.wrap .i64 (s6.2+1)))))))else none)else none)else none)else(some (.inr (.inl s6.1)))):Option ((Int×Int)⊕((Int)⊕(((List T115))⊕((List T115)))))))
noncomputable abbrev lo41o0_3 (y4:(List (List T72))):((List T115))→Option (((List T115))⊕((List T115))):=(fun(s5:(List T115))=>((Option.bind (some (.inl ())) (onS fun(_:Unit)=>(Option.bind (Option.bind (some (.inl ())) (onS fun(_:Unit)=>(loopO (lo41o0_2 s5) ((-1:Int),(0:Int))))) (onS fun(y7:Int)=>(Option.bind (if(decide (y7 < 0))=true then(some (.inr (.inr (s5))))else(if(0≤y7)then(if(y7 < (s5.length:Int))then(if(y7.toNat < s5.length)then(if(0≤y7)then(if(y7 < (y4.length:Int))then(some (.inl ()))else none)else none)else none)else none)else none)) (onS fun(_:Unit)=>(loopO (lo41o0_1 y4 y7) ((s5.set y7.toNat (⟨(s5.getD y7.toNat default).cost,(s5.getD y7.toNat default).edges,true⟩:T115)),(0:Int))))))))):Option (((List T115))⊕((List T115)))))
noncomputable abbrev lo41o0_4 (a0:Int):((List T115)×Int)→Option (((List T115)×Int)⊕(((List T115))⊕((List T115)))):=(fun(s1:(List T115)×Int)=>((if(decide (s1.2 < a0))=true then(if(0≤s1.2)then(if(s1.2 < (s1.1.length:Int))then(if(s1.2.toNat < s1.1.length)then(some (.inl ((s1.1.set s1.2.toNat (⟨(-1:Int),(s1.1.getD s1.2.toNat default).edges,(s1.1.getD s1.2.toNat default).done⟩:T115)),(IntKind.wrap .i64 (s1.2+1)))))else none)else none)else none)else(some (.inr (.inl s1.1)))):Option (((List T115)×Int)⊕(((List T115))⊕((List T115))))))
theorem A41o0  (a0:Int) (a1:List T72) (a2:Int):m41o0 a0 a1 a2=((Option.bind (Option.bind ((if 0≤a0 then(if a0=a0 then(if a0 * 24≤140737488355328 then(if a0≤9223372036854775807 then some ()else none)else none)else none)else none)) fun(x1:(Unit))=>(some (.inl ()))) (onS fun(_:Unit)=>(Option.bind (Option.bind (some (.inl ())) (onS fun(_:Unit)=>(loopO (lo41o0_4 a0) ((List.replicate a0.toNat (⟨(0:Int),(0:Int),false⟩:T115)),(0:Int))))) (onS fun(y2:(List T115))=>(Option.bind (if(0≤a2)then(if(a2 < (y2.length:Int))then(if(a2.toNat < y2.length)then(if(0≤a0)then(if(a0=a0)then(if(a0 * 24≤140737488355328)then(if(a0≤9223372036854775807)then(some (.inl ()))else none)else none)else none)else none)else none)else none)else none) (onS fun(_:Unit)=>(Option.bind (Option.bind (some (.inl ())) (onS fun(_:Unit)=>(Option.bind (loopO (rwM a0.toNat (fun(s3:Int)=>(a1.getD s3.toNat default).From.toNat) (fun(s3:Int) (l3:List T72)=>((if(decide (s3 < (a1.length:Int)))=true then(if(0≤s3)then(if(s3 < (a1.length:Int))then(if(s3.toNat < a1.length)then(if(0≤(a1.getD s3.toNat default).From)then(if((a1.getD s3.toNat default).From < (a0.toNat:Int))then(if((a1.getD s3.toNat default).From.toNat < a0.toNat)then(if((a1.getD s3.toNat default).From.toNat=(a1.getD s3.toNat default).From.toNat)then(if((l3.length+1) * 24≤140737488355328)then(if(0≤(a1.getD s3.toNat default).From)then(if((a1.getD s3.toNat default).From < (a0.toNat:Int))then(if((a1.getD s3.toNat default).From.toNat < a0.toNat)then(if((a1.getD s3.toNat default).From.toNat=(a1.getD s3.toNat default).From.toNat)then(some (.inl ((IntKind.wrap .i64 (s3+1)),(l3++([(a1.getD s3.toNat default)]:List T72)))))else none)else none)else none)else none)else none)else none)else none)else none)else none)else none)else none)else none)else(some (.inr (((),l3))))):Option (((Int)×List T72)⊕((Unit)×List T72))))) ((0:Int),List.replicate a0.toNat ([]:List T72))) fun(p:(Unit)×List (List T72))=>(some (.inl p.2))))) (onS fun(y4:(List (List T72)))=>(loopO (lo41o0_3 y4) (y2.set a2.toNat (⟨(0:Int),(y2.getD a2.toNat default).edges,(y2.getD a2.toNat default).done⟩:T115))))))))))):Option ((List T115))):=M41o0 _ _ _
theorem better_eq (a:T115) (c e:Int):m63 a c e=some (((decide (a.cost < 0)) || (decide (c < a.cost))) || ((c==a.cost)&&(decide (e < a.edges)))):=M63 _ _ _
theorem pick_ok {s:CL} (hl:s.length≤512):∃ x,loopO (lo41o0_2 s) ((-1:Int),(0:Int))=some x∧∃ r:Int,x=.inl r∧((r = -1∧∀ j,j < s.length→¬ cand s j)∨∃ m:Nat,r=m∧m < s.length∧cand s m∧∀ j,j < s.length→cand s j→lc (lb s m) (lb s j)):=by
 refine loop_meas (b:=lo41o0_2 s) (fun q=>∃ i:Nat,q.2=i∧i≤s.length∧((q.1 = -1∧∀ j,j < i→¬ cand s j)∨∃ m:Nat,q.1=m∧m < s.length∧cand s m∧∀ j,j < i→cand s j→lc (lb s m) (lb s j))) (fun q=>(s.length - q.2).toNat)
  (fun x=>∃ r:Int,x=.inl r∧((r = -1∧∀ j,j < s.length→¬ cand s j)∨∃ m:Nat,r=m∧m < s.length∧cand s m∧∀ j,j < s.length→cand s j→lc (lb s m) (lb s j))) (fun q hq=>?_) _ ⟨0,rfl,by omega,.inl ⟨rfl,fun j hj=>absurd hj (Nat.not_lt_zero j)⟩⟩
 obtain⟨r,q2⟩:=q
 obtain⟨i,hqi,hi,H⟩:=hq
 simp only at hqi H
 subst hqi
 by_cases hlt:i < s.length
 ·have w1:IntKind.wrap .i64 ((i:Int)+1)=((i+1:Nat):Int):=by rw[wr1 hlt (by omega)];omega
  obtain⟨c,hc⟩:∃ c,lb s i=c:=⟨_,rfl⟩
  have hc':s.getD i default=c:=hc
  have step:∀ r':Int,((r' = -1∧∀ j,j < i+1→¬ cand s j)∨∃ m:Nat,r'=m∧m < s.length∧cand s m∧∀ j,j < i+1→cand s j→lc (lb s m) (lb s j))→lo41o0_2 s (r,(i:Int))=some (.inl (r',((i+1:Nat):Int))) →
    (∃ s',lo41o0_2 s (r,(i:Int))=some (.inl s')∧(∃ i:Nat,s'.2=i∧i≤s.length∧((s'.1 = -1∧∀ j,j < i→¬ cand s j)∨∃ m:Nat,s'.1=m∧m < s.length∧cand s m∧∀ j,j < i→cand s j→lc (lb s m) (lb s j)))∧(s.length - s'.2).toNat < (s.length - ((i:Int))).toNat):=fun r' h1 h2=>⟨_,h2,⟨i+1,rfl,hlt,h1⟩,by simp only;omega⟩
  left
  by_cases hcd:cand s i
  ·obtain⟨k1,k2⟩:=hcd
   rw[hc]at k1 k2
   have d2:decide (0≤c.cost)=true:=decide_eq_true k2
   rcases H with⟨rfl,h2⟩ | ⟨m,rfl,hm,h3,h4⟩
   ·refine step (i:Int) (.inr ⟨i,rfl,hlt,⟨by rw[hc];exact k1,by rw[hc];exact k2⟩,fun j hj cj=>?_⟩) ?_
    ·by_cases e:j=i
     ·rw[e];exact lc_rfl _
     ·exact absurd cj (h2 j (by omega))
    ·have dm:decide ((-1:Int) < 0)=true:=by decide
     simp only[lo41o0_2,inL hlt,decide_true,if_true,Int.toNat_natCast,hlt,hc',k1,d2,dm,Bool.not_false,Bool.not_true,Bool.and_true,Bool.and_false,Bool.and_self,Bool.true_and,Bool.false_eq_true,false_implies,if_false,Option.bind_some,Bool.true_or,w1]
   ·have dm:decide ((m:Int) < 0)=false:=decide_eq_false (by omega)
    obtain⟨b,hb⟩:∃ b,lb s m=b:=⟨_,rfl⟩
    have hb':s.getD m default=b:=hb
    have kb:=h3.2
    rw[hb]at kb
    by_cases hlb:c.cost < b.cost∨(c.cost=b.cost∧c.edges < b.edges)
    ·have bt:(((decide (b.cost < 0)) || (decide (c.cost < b.cost))) || ((c.cost==b.cost)&&(decide (c.edges < b.edges))))=true:=by
      simp only[Bool.or_eq_true,Bool.and_eq_true,decide_eq_true_eq,beq_iff_eq];omega
     refine step (i:Int) (.inr ⟨i,rfl,hlt,⟨by rw[hc];exact k1,by rw[hc];exact k2⟩,fun j hj cj=>?_⟩) ?_
     ·by_cases e:j=i
      ·rw[e];exact lc_rfl _
      ·refine lc_trans ?_ (h4 j (by omega) cj)
       rw[hc,hb];unfold lc;omega
     ·simp only[lo41o0_2,inL hlt,inL hm,decide_true,if_true,Int.toNat_natCast,hlt,hm,hc',hb',k1,d2,dm,better_eq,bt,Bool.not_false,Bool.not_true,Bool.and_true,Bool.and_false,Bool.and_self,Bool.true_and,implies_true,Option.bind_some,Bool.or_true,w1]
    ·have bt:(((decide (b.cost < 0)) || (decide (c.cost < b.cost))) || ((c.cost==b.cost)&&(decide (c.edges < b.edges))))=false:=by
      rw[Bool.eq_false_iff];simp only[ne_eq,Bool.or_eq_true,Bool.and_eq_true,decide_eq_true_eq,beq_iff_eq];omega
     refine step (m:Int) (.inr ⟨m,rfl,hm,h3,fun j hj cj=>?_⟩) ?_
     ·by_cases e:j=i
      ·rw[e,hc,hb];unfold lc;omega
      ·exact h4 j (by omega) cj
     ·simp only[lo41o0_2,inL hlt,inL hm,decide_true,if_true,Int.toNat_natCast,hlt,hm,hc',hb',k1,d2,dm,better_eq,bt,Bool.not_false,Bool.not_true,Bool.and_true,Bool.and_false,Bool.and_self,Bool.true_and,implies_true,Option.bind_some,Bool.or_false,Bool.false_or,Bool.false_eq_true,if_false,w1]
  ·have cf:((!c.done)&&(decide (0≤c.cost)))=false:=by
    rw[Bool.eq_false_iff]
    simp only[ne_eq,Bool.and_eq_true,Bool.not_eq_true',decide_eq_true_eq]
    intro h;exact hcd ⟨by rw[hc];exact h.1,by rw[hc];exact h.2⟩
   refine step r ?_ ?_
   ·rcases H with⟨h1,h2⟩ | ⟨m,h1,h2,h3,h4⟩
    ·refine .inl ⟨h1,fun j hj=>?_⟩
     by_cases e:j=i
     ·rw[e];exact hcd
     ·exact h2 j (by omega)
    ·refine .inr ⟨m,h1,h2,h3,fun j hj cj=>?_⟩
     by_cases e:j=i
     ·rw[e]at cj;exact absurd cj hcd
     ·exact h4 j (by omega) cj
   ·simp only[lo41o0_2,inL hlt,decide_true,if_true,Int.toNat_natCast,hlt,hc',cf,Bool.false_and,Bool.false_eq_true,false_implies,if_false,Option.bind_some,w1]
 ·obtain rfl:i=s.length:=by omega
  refine .inr ⟨.inl r,?_,r,rfl,H⟩
  simp only[lo41o0_2,lt_irr,decide_false,Bool.false_eq_true,if_false]
theorem neg_ok (hN:N≤512):∃ x,loopO (lo41o0_4 (N:Int)) (List.replicate N (⟨(0:Int),(0:Int),false⟩:T115),(0:Int))=some x∧∃ s:CL,x=.inl s∧s.length=N∧∀ k,k < N→lb s k=⟨-1,0,false⟩:=by
 refine loop_meas (b:=lo41o0_4 (N:Int)) (fun q=>∃ i:Nat,q.2=i∧i≤N∧q.1.length=N∧∀ k,k < N→lb q.1 k=⟨if k < i then -1 else 0,0,false⟩) (fun q=>(N - q.2).toNat)
  (fun x=>∃ s:CL,x=.inl s∧s.length=N∧∀ k,k < N→lb s k=⟨-1,0,false⟩) (fun q hq=>?_) _ ⟨0,rfl,by omega,by simp,fun k hk=>by simp[lb,List.getD_eq_getElem?_getD,hk]⟩
 obtain⟨s,q2⟩:=q
 obtain⟨i,hqi,hi,hl,H⟩:=hq
 simp only at hqi H hl
 subst hqi
 by_cases hlt:i < N
 ·have w1:IntKind.wrap .i64 ((i:Int)+1)=((i+1:Nat):Int):=by rw[wr1 hlt (by omega)];omega
  have hs:s.getD i default=⟨0,0,false⟩:=by have:=H i hlt;rw[if_neg (by omega)]at this;exact this
  refine .inl ⟨(s.set i ⟨-1,0,false⟩,((i+1:Nat):Int)),?_,⟨i+1,rfl,hlt,by simp[hl],fun k hk=>?_⟩,by simp only;omega⟩
  ·simp only[lo41o0_4,inL hlt,decide_true,if_true,Int.toNat_natCast,hl,hlt,hs,w1]
  ·rw[lb_set (by omega)]
   by_cases e:k=i
   ·rw[if_pos e,if_pos (by omega)]
   ·rw[if_neg e,H k hk]
    by_cases h:k < i
    ·rw[if_pos h,if_pos (by omega)]
    ·rw[if_neg h,if_neg (by omega)]
 ·obtain rfl:i=N:=by omega
  refine .inr ⟨.inl s,?_,s,rfl,hl,fun k hk=>by rw[H k hk,if_pos hk]⟩
  simp only[lo41o0_4,lt_irr,decide_false,Bool.false_eq_true,if_false]
end Go.Av.Air
set_option maxRecDepth 100000
namespace Go.Av.Air
variable {N:Nat} {es:List T72} {fr:Nat}
def et (es:List T72) (u i:Nat):Nat:=((row es u).getD i default).To.toNat
def ec (es:List T72) (u i:Nat):Int:=((row es u).getD i default).Cost
theorem et_ok (G:GOk N es) {u i:Nat} (hi:i < (row es u).length):((row es u).getD i default)∈es∧((row es u).getD i default).From=(u:Int)∧((row es u).getD i default).To=((et es u i:Nat):Int)∧et es u i < N∧0≤ec es u i∧ec es u i≤1099511627776:=by
 have h:=mem_row.1 (getD_mem hi)
 obtain⟨g1,g2,g3,g4,g5,g6⟩:=G.e _ h.1
 exact⟨h.1,h.2,by unfold et;omega,by unfold et;omega,g5,g6⟩
def le3 (x a:T115) (c:Int):Prop:=x.cost < a.cost+c∨(x.cost=a.cost+c∧x.edges≤a.edges+1)
structure GInv (N:Nat) (es:List T72) (fr:Nat) (X:Nat→Nat→Prop) (s:CL) (D:List Nat):Prop where
 len:s.length=N
 nd:D.Nodup
 dn:∀ k,k < N→((lb s k).done=true↔k∈D)
 dlt:∀ k∈D,k < N∧0≤(lb s k).cost
 good:∀ k,k < N→0≤(lb s k).cost→0≤(lb s k).edges∧(k∈D→(lb s k).edges < D.length)∧(lb s k).edges≤D.length∧(lb s k).cost≤(lb s k).edges * 1099511627776
 mono:∀ d∈D,∀ o,o < N→cand s o→lc (lb s d) (lb s o)
 fe:∀ u∈D,∀ i,i < (row es u).length→X u i→0≤(lb s (et es u i)).cost∧le3 (lb s (et es u i)) (lb s u) (ec es u i)
 tight:∀ k,k < N→0≤(lb s k).cost→(k=fr∧(lb s k).cost=0∧(lb s k).edges=0)∨∃ u,u∈D∧(∃ i,i < (row es u).length∧et es u i=k∧(lb s k).cost=(lb s u).cost+ec es u i)∧(lb s k).edges=(lb s u).edges+1
 start:fr < N∧(lb s fr).cost=0∧(lb s fr).edges=0
variable {s:CL} {D:List Nat} {X:Nat→Nat→Prop}
theorem GInv.few (H:GInv N es fr X s D):D.length≤N:=by
 have:=nodup_le (l:=D) (m:=List.range N) H.nd (fun x hx=>List.mem_range.2 (H.dlt x hx).1)
 simpa using this
theorem GInv.pop (H:GInv N es fr (fun _ _=>True) s D) {m:Nat} (hm:m < N) (hc:cand s m) (hl:∀ k,k < N→cand s k→lc (lb s m) (lb s k)) {x:T115} (hx:x=⟨(lb s m).cost,(lb s m).edges,true⟩) :
  GInv N es fr (fun u i=>u=m→i < 0) (s.set m x) (m :: D):=by
 have mD:m ∉ D:=fun h=>by
  have:=(H.dn m hm).2 h
  rw[hc.1]at this;cases this
 have ms:m < s.length:=by rw[H.len];exact hm
 have em:lb (s.set m x) m=x:=by rw[lb_set ms,if_pos rfl]
 have ek:∀ k,k≠m→lb (s.set m x) k=lb s k:=fun k hk=>by rw[lb_set ms,if_neg hk]
 have ec':∀ k,(lb (s.set m x) k).cost=(lb s k).cost∧(lb (s.set m x) k).edges=(lb s k).edges:=fun k=>by
  by_cases e:k=m
  ·rw[e,em,hx];exact⟨rfl,rfl⟩
  ·rw[ek k e];exact⟨rfl,rfl⟩
 have clc:∀ a b,lc (lb s a) (lb s b)→lc (lb (s.set m x) a) (lb (s.set m x) b):=fun a b h=>by
  unfold lc at *;rw[(ec' a).1,(ec' a).2,(ec' b).1,(ec' b).2];exact h
 have ccd:∀ k,cand (s.set m x) k→k≠m∧cand s k:=fun k h=>by
  by_cases e:k=m
  ·rw[e]at h;have:=h.1;rw[em,hx]at this;cases this
  ·refine⟨e,?_⟩
   have:=h
   unfold cand at this ⊢
   rw[ek k e]at this;exact this
 refine⟨by rw[List.length_set];exact H.len,List.nodup_cons.2 ⟨mD,H.nd⟩,fun k hk=>?_,fun k hk=>?_,fun k hk h0=>?_,fun d hd o ho co=>?_,fun u hu i hi hX=>?_,fun k hk h0=>?_,⟨H.start.1,?_⟩⟩
 ·by_cases e:k=m
  ·rw[e,em,hx];simp
  ·rw[ek k e,H.dn k hk];simp[e]
 ·rw[(ec' k).1]
  rcases List.mem_cons.1 hk with rfl | hk
  ·exact⟨hm,hc.2⟩
  ·exact H.dlt k hk
 ·rw[(ec' k).1]at h0
  rw[(ec' k).1,(ec' k).2]
  obtain⟨g1,g2,g3,g4⟩:=H.good k hk h0
  simp only[List.length_cons]
  exact⟨g1,fun _=>by omega,by omega,g4⟩
 ·obtain⟨o1,o2⟩:=ccd o co
  refine clc d o ?_
  rcases List.mem_cons.1 hd with rfl | hd
  ·exact hl o ho o2
  ·exact H.mono d hd o ho o2
 ·unfold le3
  rw[(ec' _).1,(ec' _).1,(ec' _).2,(ec' _).2]
  rcases List.mem_cons.1 hu with rfl | hu
  ·exact absurd (hX rfl) (Nat.not_lt_zero i)
  ·exact H.fe u hu i hi trivial
 ·rw[(ec' k).1]at h0
  rw[(ec' k).1,(ec' k).2]
  rcases H.tight k hk h0 with h | ⟨u,hu,⟨i,h1,h2,h3⟩,h4⟩
  ·exact .inl h
  ·exact .inr ⟨u,List.mem_cons_of_mem _ hu,⟨i,h1,h2,by rw[(ec' u).1];exact h3⟩,by rw[(ec' u).2];exact h4⟩
 ·rw[(ec' fr).1,(ec' fr).2];exact H.start.2
theorem GInv.keep {m j:Nat} (H:GInv N es fr (fun u i=>u=m→i < j) s D) (h0:0≤(lb s (et es m j)).cost) (hk:le3 (lb s (et es m j)) (lb s m) (ec es m j)):GInv N es fr (fun u i=>u=m→i < j+1) s D:=by
 refine { H with fe:=fun u hu i hi hx=>?_ }
 by_cases e:u=m∧i=j
 ·obtain⟨rfl,rfl⟩:=e
  exact⟨h0,hk⟩
 ·exact H.fe u hu i hi fun eu=>by
   have:=hx eu
   have:i≠j:=fun ei=>e ⟨eu,ei⟩
   omega
theorem GInv.old (G:GOk N es) {m j:Nat} (H:GInv N es fr (fun u i=>u=m→i < j) s D) (hm:m∈D) (mx:∀ d∈D,lc (lb s d) (lb s m)) (hj:j < (row es m).length) (ht:et es m j∈D):GInv N es fr (fun u i=>u=m→i < j+1) s D:=by
 obtain⟨e1,e2,e3,e4,e5,e6⟩:=et_ok G hj
 refine H.keep (H.dlt _ ht).2 ?_
 have:=mx _ ht
 unfold lc at this
 unfold le3
 omega
theorem GInv.new (G:GOk N es) {m j:Nat} (H:GInv N es fr (fun u i=>u=m→i < j) s D) (hm:m∈D) (mx:∀ d∈D,lc (lb s d) (lb s m)) (hj:j < (row es m).length) (ht:et es m j ∉ D)
  (hb:(lb s (et es m j)).cost < 0∨(lb s m).cost+ec es m j < (lb s (et es m j)).cost∨((lb s m).cost+ec es m j=(lb s (et es m j)).cost∧(lb s m).edges+1 < (lb s (et es m j)).edges)) {x:T115} (hx:x=⟨(lb s m).cost+ec es m j,(lb s m).edges+1,(lb s (et es m j)).done⟩) :
  GInv N es fr (fun u i=>u=m→i < j+1) (s.set (et es m j) x) D:=by
 obtain⟨e1,e2,e3,e4,e5,e6⟩:=et_ok G hj
 obtain⟨t,et'⟩:∃ t,et es m j=t:=⟨_,rfl⟩
 obtain⟨c,ec'⟩:∃ c,ec es m j=c:=⟨_,rfl⟩
 rw[ec']at hx hb e5 e6
 rw[et']at hx hb ht e4 ⊢
 have ts:t < s.length:=by rw[H.len];exact e4
 have tm:t≠m:=fun e=>ht (e ▸ hm)
 obtain⟨m1,m2⟩:=H.dlt m hm
 obtain⟨g1,g2,g3,g4⟩:=H.good m m1 m2
 have tx:lb (s.set t x) t=x:=by rw[lb_set ts,if_pos rfl]
 have ek:∀ k,k≠t→lb (s.set t x) k=lb s k:=fun k hk=>by rw[lb_set ts,if_neg hk]
 have eD:∀ k∈D,lb (s.set t x) k=lb s k:=fun k hk=>ek k fun e=>ht (e ▸ hk)
 have xc:x.cost=(lb s m).cost+c:=by rw[hx]
 have xe:x.edges=(lb s m).edges+1:=by rw[hx]
 have xd:x.done=(lb s t).done:=by rw[hx]
 have tf:t≠fr:=fun e=>by
  have:=H.start.2
  rw[← e]at this
  omega
 refine⟨by rw[List.length_set];exact H.len,H.nd,fun k hk=>?_,fun k hk=>?_,fun k hk h0=>?_,fun d hd o ho co=>?_,fun u hu i hi hX=>?_,fun k hk h0=>?_,⟨H.start.1,?_⟩⟩
 ·by_cases e:k=t
  ·rw[e,tx,xd];exact H.dn t e4
  ·rw[ek k e];exact H.dn k hk
 ·rw[eD k hk];exact H.dlt k hk
 ·by_cases e:k=t
  ·rw[e,tx,xc,xe]
   refine⟨by omega,fun h=>absurd h ht,?_,by omega⟩
   have:=g2 hm
   omega
  ·rw[ek k e]at h0 ⊢;exact H.good k hk h0
 ·rw[eD d hd]
  by_cases e:o=t
  ·rw[e,tx]
   have:=mx d hd
   unfold lc at *
   omega
  ·rw[ek o e]
   unfold cand at co
   rw[ek o e]at co
   exact H.mono d hd o ho co
 ·rw[eD u hu]
  by_cases e:u=m∧i=j
  ·obtain⟨rfl,rfl⟩:=e
   rw[et',ec',tx]
   unfold le3
   omega
  ·have old:=H.fe u hu i hi fun eu=>by
    have:=hX eu
    have:i≠j:=fun ei=>e ⟨eu,ei⟩
    omega
   by_cases e2:et es u i=t
   ·rw[e2]at old ⊢
    rw[tx]
    unfold le3 at *
    omega
   ·rw[ek _ e2];exact old
 ·by_cases e:k=t
  ·right
   refine⟨m,hm,⟨j,hj,by rw[et',e],?_⟩,?_⟩
   ·rw[e,tx,eD m hm,xc,ec']
   ·rw[e,tx,eD m hm,xe]
  ·rw[ek k e]at h0 ⊢
   rcases H.tight k hk h0 with h | ⟨u,hu,h1,h2⟩
   ·exact .inl h
   ·exact .inr ⟨u,hu,by rw[eD u hu];exact h1,by rw[eD u hu];exact h2⟩
 ·rw[ek fr (fun e=>tf e.symm)];exact H.start.2
end Go.Av.Air
set_option maxRecDepth 100000
namespace Go.Av.Air
variable {N:Nat} {es:List T72} {fr:Nat} {s:CL} {D:List Nat}
theorem getD_self {α:Type} [Inhabited α] {l:List α} {i:Nat} {a:α} (hi:i < l.length):(l.set i a).getD i default=a:=by rw[getD_setL hi,if_pos rfl]
theorem rx_round (G:GOk N es) {m j:Nat} (H:GInv N es fr (fun u i=>u=m→i < j) s D) (hm:m∈D) (mx:∀ d∈D,lc (lb s d) (lb s m)) (hj:j < (row es m).length) :
  ∃ s':CL,lo41o0_1 (rows N es) (m:Int) (s,(j:Int))=some (.inl (s',((j+1:Nat):Int)))∧GInv N es fr (fun u i=>u=m→i < j+1) s' D∧∀ d∈D,lb s' d=lb s d:=by
 obtain⟨e1,e2,e3,e4,e5,e6⟩:=et_ok G hj
 have hN:=G.n2
 have h8:=G.few
 have hrl:=row_len (es:=es) m
 obtain⟨mN,m2⟩:=H.dlt m hm
 obtain⟨g1,g2,g3,g4⟩:=H.good m mN m2
 have hD:=H.few
 have hl:=H.len
 have hdone:=H.dn _ e4
 obtain⟨t,ht⟩:∃ t,et es m j=t:=⟨_,rfl⟩
 obtain⟨c,hc⟩:∃ c,ec es m j=c:=⟨_,rfl⟩
 have hc':((row es m).getD j default).Cost=c:=hc
 have keep:=fun h1 h2=>GInv.keep (fr:=fr) (s:=s) (D:=D) H h1 h2
 have old:=H.old G hm mx hj
 have new:=fun h1 h2=>H.new G hm mx hj h1 h2 rfl
 rw[ht]at e3 e4 keep old new hdone
 rw[hc]at keep new e5 e6
 obtain⟨a,ha⟩:∃ a,lb s m=a:=⟨_,rfl⟩
 obtain⟨b,hb⟩:∃ b,lb s t=b:=⟨_,rfl⟩
 have ha':s.getD m default=a:=ha
 have hb':s.getD t default=b:=hb
 rw[ha]at keep new m2 g1 g2 g3 g4
 rw[hb]at keep new hdone
 have g2':=g2 hm
 have w1:IntKind.wrap .i64 ((j:Int)+1)=((j+1:Nat):Int):=by rw[wr1 hj (by omega)];omega
 have w2:IntKind.wrap .i64 (a.cost+c)=a.cost+c:=w64 (by omega) (by omega)
 have w3:IntKind.wrap .i64 (a.edges+1)=a.edges+1:=w64 (by omega) (by omega)
 have ts:t < s.length:=by omega
 have hr:(rows N es).getD m default=row es m:=rows_at mN
 by_cases hd:t∈D
 ·have bd:b.done=true:=hdone.2 hd
  refine⟨s,?_,old hd,fun d _=>rfl⟩
  simp only[lo41o0_1,Int.toNat_natCast,hr,inL hj,decide_true,if_true,hl,inL mN,inL e4,mN,e4,e3,hb',bd,Bool.not_true,Bool.false_eq_true,false_implies,if_false,Option.bind_some,Bool.false_and,w1]
 have bd:b.done=false:=by
  cases q:b.done with
  | false=>rfl
  | true=>exact absurd (hdone.1 q) hd
 by_cases hbt:b.cost < 0∨a.cost+c < b.cost∨(a.cost+c=b.cost∧a.edges+1 < b.edges)
 ·have bt:(((decide (b.cost < 0)) || (decide (a.cost+c < b.cost))) || ((a.cost+c==b.cost)&&(decide (a.edges+1 < b.edges))))=true:=by
   simp only[Bool.or_eq_true,Bool.and_eq_true,decide_eq_true_eq,beq_iff_eq];omega
  refine⟨_,?_,new hd hbt,fun d hd'=>?_⟩
  ·simp only[lo41o0_1,Int.toNat_natCast,hr,inL hj,decide_true,if_true,hl,inL mN,inL e4,mN,e4,e3,hb',ha',bd,Bool.not_false,implies_true,better_eq,hc',w2,w3,bt,Option.bind_some,Bool.and_self,getD_self ts,List.set_set,w1]
  ·rw[lb_set ts,if_neg];rintro rfl;exact hd hd'
 ·have bt:(((decide (b.cost < 0)) || (decide (a.cost+c < b.cost))) || ((a.cost+c==b.cost)&&(decide (a.edges+1 < b.edges))))=false:=by
   rw[Bool.eq_false_iff];simp only[ne_eq,Bool.or_eq_true,Bool.and_eq_true,decide_eq_true_eq,beq_iff_eq];omega
  refine⟨s,?_,keep (by omega) (by unfold le3;omega),fun d _=>rfl⟩
  simp only[lo41o0_1,Int.toNat_natCast,hr,inL hj,decide_true,if_true,hl,inL mN,inL e4,mN,e4,e3,hb',ha',bd,Bool.not_false,implies_true,better_eq,hc',w2,w3,bt,Option.bind_some,Bool.and_false,Bool.false_eq_true,if_false,w1]
theorem rx_loop (G:GOk N es) {m:Nat} (H:GInv N es fr (fun u i=>u=m→i < 0) s D) (hm:m∈D) (mx:∀ d∈D,lc (lb s d) (lb s m)) :
  ∃ x,loopO (lo41o0_1 (rows N es) (m:Int)) (s,(0:Int))=some x∧∃ s',x=.inl s'∧GInv N es fr (fun _ _=>True) s' D:=by
 refine loop_meas (b:=lo41o0_1 (rows N es) (m:Int)) (fun q=>∃ j:Nat,q.2=j∧j≤(row es m).length∧GInv N es fr (fun u i=>u=m→i < j) q.1 D∧∀ d∈D,lc (lb q.1 d) (lb q.1 m)) (fun q=>((row es m).length - q.2).toNat)
  (fun x=>∃ s',x=.inl s'∧GInv N es fr (fun _ _=>True) s' D) (fun q hq=>?_) _ ⟨0,rfl,by omega,H,mx⟩
 obtain⟨s,q2⟩:=q
 obtain⟨j,hqj,hj,H,mx⟩:=hq
 simp only at hqj H mx
 subst hqj
 by_cases hlt:j < (row es m).length
 ·obtain⟨s',h1,h2,h3⟩:=rx_round G H hm mx hlt
  exact .inl ⟨_,h1,⟨j+1,rfl,hlt,h2,fun d hd=>by simp only;rw[h3 d hd,h3 m hm];exact mx d hd⟩,by simp only;omega⟩
 ·obtain rfl:j=(row es m).length:=by omega
  refine .inr ⟨.inl s,?_,s,rfl,{ H with fe:=fun u hu i hi _=>H.fe u hu i hi fun e=>by rw[e]at hi;exact hi }⟩
  have hr:(rows N es).getD m default=row es m:=rows_at (H.dlt m hm).1
  simp only[lo41o0_1,Int.toNat_natCast,hr,lt_irr,decide_false,Bool.false_eq_true,if_false]
theorem ro2_loop (G:GOk N es) (H:GInv N es fr (fun _ _=>True) s D):∃ s',loopO (lo41o0_3 (rows N es)) s=some s'∧∃ D',GInv N es fr (fun _ _=>True) s' D'∧∀ k,k < N→¬ cand s' k:=by
 refine loop_gm (b:=lo41o0_3 (rows N es)) (fun n s=>∃ D:List Nat,n=N - D.length∧GInv N es fr (fun _ _=>True) s D) (fun s'=>∃ D',GInv N es fr (fun _ _=>True) s' D'∧∀ k,k < N→¬ cand s' k) (fun n s hs=>?_) (N - D.length) s ⟨D,rfl,H⟩
 obtain⟨D,rfl,H⟩:=hs
 have hN:=G.n2
 have hl:=H.len
 obtain⟨x,h1,r,rfl,hr⟩:=pick_ok (s:=s) (by omega)
 rw[hl]at hr
 rcases hr with⟨rfl,h2⟩ | ⟨m,rfl,hm,h2,h3⟩
 ·refine .inr ⟨s,?_,D,H,h2⟩
  have dm:decide ((-1:Int) < 0)=true:=by decide
  simp only[lo41o0_3,Option.bind_some,onS,h1,dm,if_true]
 ·have H2:=H.pop hm h2 h3 rfl
  have ms:m < s.length:=by omega
  have mx:∀ d∈m :: D,lc (lb (s.set m ⟨(lb s m).cost,(lb s m).edges,true⟩) d) (lb (s.set m ⟨(lb s m).cost,(lb s m).edges,true⟩) m):=fun d hd=>by
   have em:lb (s.set m ⟨(lb s m).cost,(lb s m).edges,true⟩) m=⟨(lb s m).cost,(lb s m).edges,true⟩:=by rw[lb_set ms,if_pos rfl]
   by_cases e:d=m
   ·rw[e];exact lc_rfl _
   ·have hd:d∈D:=(List.mem_cons.1 hd).resolve_left e
    have:=H.mono d hd m hm h2
    rw[em,lb_set ms,if_neg e]
    exact this
  obtain⟨x,e1,s',rfl,e2⟩:=rx_loop G H2 (by simp) mx
  have hf:=e2.few
  refine .inl ⟨s',N - (m :: D).length,?_,by simp only[List.length_cons]at hf ⊢;omega,m :: D,rfl,e2⟩
  have dm:decide ((m:Int) < 0)=false:=decide_eq_false (by omega)
  refine on_l (y:=()) rfl (on_l (y:=(m:Int)) (on_l (y:=()) rfl h1) (on_l (y:=()) ?_ ?_))
  ·simp only[dm,Bool.false_eq_true,if_false,hl,rows_len,inL hm,Int.toNat_natCast,hm,if_true]
  ·simp only[Int.toNat_natCast];exact e1
structure Sv (N:Nat) (es:List T72) (fr:Nat) (s:CL):Prop where
 len:s.length=N
 good:∀ k,k < N→0≤(lb s k).cost→0≤(lb s k).edges∧(lb s k).edges < 512∧(lb s k).cost≤(lb s k).edges * 1099511627776
 neg:∀ k,k < N→(lb s k).cost < 562949953421312
 fe:∀ x∈es,0≤(lb s x.From.toNat).cost→0≤(lb s x.To.toNat).cost∧(lb s x.To.toNat).cost≤(lb s x.From.toNat).cost+x.Cost
 tight:∀ k,k < N→0≤(lb s k).cost→(k=fr∧(lb s k).cost=0∧(lb s k).edges=0)∨∃ x∈es,x.To=(k:Int)∧0≤(lb s x.From.toNat).cost∧(lb s k).cost=(lb s x.From.toNat).cost+x.Cost∧(lb s k).edges=(lb s x.From.toNat).edges+1
 start:fr < N∧(lb s fr).cost=0∧(lb s fr).edges=0
noncomputable abbrev rwB (N:Nat) (es:List T72):Int→List T72→Option (((Int)×List T72)⊕((Unit)×List T72)):=fun(s3:Int) (l3:List T72)=>((if(decide (s3 < (es.length:Int)))=true then(if(0≤s3)then(if(s3 < (es.length:Int))then(if(s3.toNat < es.length)then(if(0≤(es.getD s3.toNat default).From)then(if((es.getD s3.toNat default).From < ((N:Int).toNat:Int))then(if((es.getD s3.toNat default).From.toNat < (N:Int).toNat)then(if((es.getD s3.toNat default).From.toNat=(es.getD s3.toNat default).From.toNat)then(if((l3.length+1) * 24≤140737488355328)then(if(0≤(es.getD s3.toNat default).From)then(if((es.getD s3.toNat default).From < ((N:Int).toNat:Int))then(if((es.getD s3.toNat default).From.toNat < (N:Int).toNat)then(if((es.getD s3.toNat default).From.toNat=(es.getD s3.toNat default).From.toNat)then(some (.inl ((IntKind.wrap .i64 (s3+1)),(l3++([(es.getD s3.toNat default)]:List T72)))))else none)else none)else none)else none)else none)else none)else none)else none)else none)else none)else none)else none)else(some (.inr (((),l3))))):Option (((Int)×List T72)⊕((Unit)×List T72)))
theorem clabels_eq (G:GOk N es) (hf:fr < N):∃ s,m41o0 (N:Int) es (fr:Int)=some s∧Sv N es fr s:=by
 have h1:=G.n1
 have h2:=G.n2
 have h8:=G.few
 obtain⟨x,e1,s0,rfl,l0,z0⟩:=neg_ok (N:=N) h2
 have hr:=rw_rows (N:=N) (es:=es) (n:=(N:Int).toNat) rfl G (bm:=rwB N es) (fun i hi l hl=>?_) (fun l=>?_)
 rotate_left 1
 ·obtain⟨x,hx⟩:∃ x,es.getD i default=x:=⟨_,rfl⟩
  obtain⟨g1,g2,_⟩:=G.e x (by rw[← hx];exact getD_mem hi)
  have hlt:(x.From.toNat < N)=True:=eq_true (by omega)
  have w1:IntKind.wrap .i64 ((i:Int)+1)=((i+1:Nat):Int):=by rw[wr1 hi (by omega)];omega
  have p24:((l.length+1) * 24≤140737488355328)=True:=eq_true (by omega)
  simp only[rwB,Int.toNat_natCast,inL hi,decide_true,if_true,hi,hx,g1,g2,hlt,p24,w1]
 ·simp only[rwB,lt_irr,decide_false,Bool.false_eq_true,if_false]
 have fs:fr < s0.length:=by omega
 obtain⟨s1,hs1⟩:∃ s1:CL,s1=s0.set fr (⟨(0:Int),(lb s0 fr).edges,(lb s0 fr).done⟩:T115):=⟨_,rfl⟩
 have b1:∀ k,k < N→lb s1 k=⟨if k=fr then 0 else -1,0,false⟩:=fun k hk=>by
  rw[hs1,lb_set fs,z0 fr hf]
  by_cases e:k=fr
  ·rw[if_pos e,if_pos e]
  ·rw[if_neg e,if_neg e,z0 k hk]
 have c1:∀ k,k < N→0≤(lb s1 k).cost→k=fr:=fun k hk h=>by
  rw[b1 k hk]at h
  by_cases e:k=fr
  ·exact e
  ·simp only[if_neg e]at h;omega
 have I0:GInv N es fr (fun _ _=>True) s1 []:=by
  refine⟨by rw[hs1,List.length_set];exact l0,List.nodup_nil,fun k hk=>?_,fun k hk=>(by cases hk),fun k hk h=>?_,fun d hd=>(by cases hd),fun u hu=>(by cases hu),fun k hk h=>?_,hf,?_⟩
  ·rw[b1 k hk];simp
  ·rw[b1 k hk,if_pos (c1 k hk h)];simp
  ·have e:=c1 k hk h
   rw[b1 k hk,if_pos e];exact .inl ⟨e,rfl,rfl⟩
  ·rw[b1 fr hf,if_pos rfl];exact⟨rfl,rfl⟩
 obtain⟨s',e3,D,H,hno⟩:=ro2_loop G I0
 have dD:∀ k,k < N→0≤(lb s' k).cost→k∈D:=fun k hk h=>by
  rw[← H.dn k hk]
  cases q:(lb s' k).done with
  | true=>rfl
  | false=>exact absurd ⟨q,h⟩ (hno k hk)
 have hD:=H.few
 have gd:∀ k,k < N→0≤(lb s' k).cost→0≤(lb s' k).edges∧(lb s' k).edges < 512∧(lb s' k).cost≤(lb s' k).edges * 1099511627776:=fun k hk h=>by
  obtain⟨g1,g2,g3,g4⟩:=H.good k hk h
  have:=g2 (dD k hk h)
  exact⟨g1,by omega,g4⟩
 refine⟨s',?_,H.len,gd,fun k hk=>?_,fun x hx h=>?_,fun k hk h=>?_,H.start⟩
 ·rw[A41o0]
  have q1:((N:Int)=(N:Int))=True:=eq_true rfl
  have q2:((0:Int)≤(N:Int))=True:=eq_true (by omega)
  have q3:((N:Int) * 24≤140737488355328)=True:=eq_true (by omega)
  have q4:((N:Int)≤9223372036854775807)=True:=eq_true (by omega)
  refine on_l (y:=()) (bind_to (x:=()) (by simp only[q2,q3,q4,if_true]) rfl) (on_l (y:=s0) (on_l (y:=()) rfl ?_) (on_l (y:=()) ?_ (on_l (y:=rows N es) (on_l (y:=()) rfl (bind_to hr rfl)) ?_)))
  ·simp only[Int.toNat_natCast];exact e1
  ·simp only[l0,inL hf,Int.toNat_natCast,hf,q2,q3,q4,if_true]
  ·simp only[Int.toNat_natCast]
   rw[hs1]at e3
   exact e3
 ·by_cases h:0≤(lb s' k).cost
  ·obtain⟨g1,g2,g3⟩:=gd k hk h
   omega
  ·omega
 ·obtain⟨g1,g2,g3,g4,g5,g6⟩:=G.e x hx
  have hu:x.From.toNat∈D:=dD _ (by omega) h
  obtain⟨i,hi,ei⟩:=mem_getD (mem_row.2 ⟨hx,(show x.From=((x.From.toNat:Nat):Int) by omega)⟩)
  obtain⟨k1,k2⟩:=H.fe _ hu i hi trivial
  have e1:et es x.From.toNat i=x.To.toNat:=by unfold et;rw[ei]
  have e2:ec es x.From.toNat i=x.Cost:=by unfold ec;rw[ei]
  rw[e1]at k1 k2
  rw[e2]at k2
  refine⟨k1,?_⟩
  unfold le3 at k2
  omega
 ·rcases H.tight k hk h with h | ⟨u,hu,⟨i,hi,h1,h2⟩,h3⟩
  ·exact .inl h
  ·obtain⟨e1,e2,e3,e4,e5,e6⟩:=et_ok G hi
   have eu:((row es u).getD i default).From.toNat=u:=by omega
   rw[h1]at e3
   refine .inr ⟨_,e1,e3,?_,?_,?_⟩
   ·rw[eu];exact(H.dlt u hu).2
   ·rw[eu];exact h2
   ·rw[eu];exact h3
end Go.Av.Air
set_option maxRecDepth 100000
namespace Go.Av.Air
theorem M43o0 (a0:T72) (a1:List T115) (a2:Int):m43o0 a0 a1 a2=((if(0≤a0.From)then(if(a0.From < (a1.length:Int))then(if(a0.From.toNat < a1.length)then(if((a0.To==a2)&&(decide (0≤(a1.getD a0.From.toNat default).cost)))=true→(0≤a2)then(if((a0.To==a2)&&(decide (0≤(a1.getD a0.From.toNat default).cost)))=true→(a2 < (a1.length:Int))then(if((a0.To==a2)&&(decide (0≤(a1.getD a0.From.toNat default).cost)))=true→(a2.toNat < a1.length)then(if(((a0.To==a2)&&(decide (0≤(a1.getD a0.From.toNat default).cost)))&&((IntKind.wrap .i64 ((a1.getD a0.From.toNat default).cost+a0.Cost))==(a1.getD a2.toNat default).cost))=true→(0≤a2)then(if(((a0.To==a2)&&(decide (0≤(a1.getD a0.From.toNat default).cost)))&&((IntKind.wrap .i64 ((a1.getD a0.From.toNat default).cost+a0.Cost))==(a1.getD a2.toNat default).cost))=true→(a2 < (a1.length:Int))then(if(((a0.To==a2)&&(decide (0≤(a1.getD a0.From.toNat default).cost)))&&((IntKind.wrap .i64 ((a1.getD a0.From.toNat default).cost+a0.Cost))==(a1.getD a2.toNat default).cost))=true→(a2.toNat < a1.length)then(some ())else none)else none)else none)else none)else none)else none)else none)else none)else none):Option (Unit)):=by kernel_rfl
theorem M42o0 (a0:List T72) (a1:List T115) (a2:Int):m42o0 a0 a1 a2=((Option.bind (some (.inl ())) (onS fun(_:Unit)=>(Option.bind (Option.bind (some (.inl ())) (onS fun(_:Unit)=>(loopO (fun(s1:Int)=>((if(decide (s1 < (a0.length:Int)))=true then(Option.bind ((if 0≤s1 then(if s1 < (a0.length:Int)then(if s1.toNat < a0.length then((m43o0 (a0.getD s1.toNat default) a1 a2).bind fun r4_0=>some r4_0)else none)else none)else none)) fun(x4:(Unit))=>(if(((((a0.getD s1.toNat default).To==a2)&&(decide (0≤(a1.getD (a0.getD s1.toNat default).From.toNat default).cost)))&&((IntKind.wrap .i64 ((a1.getD (a0.getD s1.toNat default).From.toNat default).cost+(a0.getD s1.toNat default).Cost))==(a1.getD a2.toNat default).cost))&&((IntKind.wrap .i64 ((a1.getD (a0.getD s1.toNat default).From.toNat default).edges+1))==(a1.getD a2.toNat default).edges))=true then(some (.inr (.inr (s1))))else(some (.inl (IntKind.wrap .i64 (s1+1))))))else(some (.inr (.inl ())))):Option ((Int)⊕((Unit)⊕(Int))))) (0:Int)))) (onS fun(_:Unit)=>(some (-1:Int)))))):Option (Int)):=by kernel_rfl
noncomputable abbrev lo42o0_1 (a0:List T72) (a1:List T115) (a2:Int):(Int)→Option ((Int)⊕((Unit)⊕(Int))):=(fun(s1:Int)=>((if(decide (s1 < (a0.length:Int)))=true then(Option.bind ((if 0≤s1 then(if s1 < (a0.length:Int)then(if s1.toNat < a0.length then((m43o0 (a0.getD s1.toNat default) a1 a2).bind fun r4_0=>some r4_0)else none)else none)else none)) fun(x4:(Unit))=>(if(((((a0.getD s1.toNat default).To==a2)&&(decide (0≤(a1.getD (a0.getD s1.toNat default).From.toNat default).cost)))&&((IntKind.wrap .i64 ((a1.getD (a0.getD s1.toNat default).From.toNat default).cost+(a0.getD s1.toNat default).Cost))==(a1.getD a2.toNat default).cost))&&((IntKind.wrap .i64 ((a1.getD (a0.getD s1.toNat default).From.toNat default).edges+1))==(a1.getD a2.toNat default).edges))=true then(some (.inr (.inr (s1))))else(some (.inl (IntKind.wrap .i64 (s1+1))))))else(some (.inr (.inl ())))):Option ((Int)⊕((Unit)⊕(Int)))))
theorem A42o0  (a0:List T72) (a1:List T115) (a2:Int):m42o0 a0 a1 a2=((Option.bind (some (.inl ())) (onS fun(_:Unit)=>(Option.bind (Option.bind (some (.inl ())) (onS fun(_:Unit)=>(loopO (lo42o0_1 a0 a1 a2) (0:Int)))) (onS fun(_:Unit)=>(some (-1:Int)))))):Option (Int)):=M42o0 _ _ _
theorem M44o0 (a0:List Int):m44o0 a0=((Option.bind (some (.inl ())) (onS fun(_:Unit)=>(loopO (fun(s1:(List Int)×Int×Int)=>((if(decide (s1.2.1 < s1.2.2))=true then(if(0≤s1.2.2)then(if(s1.2.2 < (a0.length:Int))then(if(s1.2.2.toNat < a0.length)then(if(0≤s1.2.1)then(if(s1.2.1 < (a0.length:Int))then(if(s1.2.1.toNat < a0.length)then(if(0≤s1.2.1)then(if(s1.2.1 < (a0.length:Int))then(if(s1.2.1.toNat < a0.length)then(if(0≤s1.2.2)then(if(s1.2.2 < (a0.length:Int))then(if(s1.2.2.toNat < a0.length)then(some (.inl ((((subL s1.1 0 a0.length).set s1.2.1.toNat (s1.1.getD s1.2.2.toNat default)).set s1.2.2.toNat (s1.1.getD s1.2.1.toNat default)),(IntKind.wrap .i64 (s1.2.1+1)),(IntKind.wrap .i64 (s1.2.2 - 1)))))else none)else none)else none)else none)else none)else none)else none)else none)else none)else none)else none)else none)else(some (.inr (s1.1)))):Option (((List Int)×Int×Int)⊕((List Int))))) (a0,(0:Int),(IntKind.wrap .i64 ((a0.length:Int) - (1:Int))))))):Option ((List Int))):=by kernel_rfl
noncomputable abbrev lo44o0_1 (a0:List Int):((List Int)×Int×Int)→Option (((List Int)×Int×Int)⊕((List Int))):=(fun(s1:(List Int)×Int×Int)=>((if(decide (s1.2.1 < s1.2.2))=true then(if(0≤s1.2.2)then(if(s1.2.2 < (a0.length:Int))then(if(s1.2.2.toNat < a0.length)then(if(0≤s1.2.1)then(if(s1.2.1 < (a0.length:Int))then(if(s1.2.1.toNat < a0.length)then(if(0≤s1.2.1)then(if(s1.2.1 < (a0.length:Int))then(if(s1.2.1.toNat < a0.length)then(if(0≤s1.2.2)then(if(s1.2.2 < (a0.length:Int))then(if(s1.2.2.toNat < a0.length)then(some (.inl ((((subL s1.1 0 a0.length).set s1.2.1.toNat (s1.1.getD s1.2.2.toNat default)).set s1.2.2.toNat (s1.1.getD s1.2.1.toNat default)),(IntKind.wrap .i64 (s1.2.1+1)),(IntKind.wrap .i64 (s1.2.2 - 1)))))else none)else none)else none)else none)else none)else none)else none)else none)else none)else none)else none)else none)else(some (.inr (s1.1)))):Option (((List Int)×Int×Int)⊕((List Int)))))
theorem A44o0  (a0:List Int):m44o0 a0=((Option.bind (some (.inl ())) (onS fun(_:Unit)=>(loopO (lo44o0_1 a0) (a0,(0:Int),(IntKind.wrap .i64 ((a0.length:Int) - (1:Int))))))):Option ((List Int))):=M44o0 _
theorem M14o0 (a0:Int) (a1:List T72) (a2 a3:Int):m14o0 a0 a1 a2 a3=((Option.bind (Option.bind (Option.bind (m40 (⟨a0,a1⟩:T66) a2 a3) fun r=>some r) fun x1=>(if(x1 != 0)=true then(some (.inr ((x1,[],[]))))else(Option.bind (Option.bind (m41o0 a0 a1 a2) fun r=>some r) fun x4=>(if(0≤a3)then(if(a3 < (x4.length:Int))then(if(a3.toNat < x4.length)then(if(decide ((x4.getD a3.toNat default).cost < 0))=true then(some (.inr (((6:Int),[],[]))))else(some (.inl x4)))else none)else none)else none)))) (onS fun(y1:(List T115))=>(Option.bind (Option.bind (some (.inl ())) (onS fun(_:Unit)=>(loopO (fun(s2:Int×Int)=>((if(decide (s2.2 < (y1.length:Int)))=true then(if(0≤s2.2)then(if(s2.2 < (y1.length:Int))then(if(s2.2.toNat < y1.length)then(some (.inl ((if s2.1 < (y1.getD s2.2.toNat default).cost then(y1.getD s2.2.toNat default).cost else s2.1),(IntKind.wrap .i64 (s2.2+1)))))else none)else none)else none)else(some (.inr (.inl s2.1)))):Option ((Int×Int)⊕((Int)⊕(Int×(List Int)×(List Int)))))) ((0:Int),(0:Int))))) (onS fun(y3:Int)=>(Option.bind (Option.bind (some (.inl ())) (onS fun(_:Unit)=>(loopO (fun(s4:(List Int)×Int)=>((if(decide (s4.2 < (y1.length:Int)))=true then(if(0≤s4.2)then(if(s4.2 < (y1.length:Int))then(if(s4.2.toNat < y1.length)then(if(decide ((y1.getD s4.2.toNat default).cost < 0))=true then(Option.bind ((if(s4.1.length+1) * 8≤140737488355328 then some ()else none)) fun(x18:(Unit))=>(some (.inl ((s4.1++([y3]:List Int)),(IntKind.wrap .i64 (s4.2+1))))))else(Option.bind ((if(s4.1.length+1) * 8≤140737488355328 then some ()else none)) fun(x18:(Unit))=>(some (.inl ((s4.1++([(y1.getD s4.2.toNat default).cost]:List Int)),(IntKind.wrap .i64 (s4.2+1)))))))else none)else none)else none)else(some (.inr (.inl s4.1)))):Option (((List Int)×Int)⊕(((List Int))⊕(Int×(List Int)×(List Int)))))) (([]:List Int),(0:Int))))) (onS fun(y5:(List Int))=>(Option.bind (Option.bind (some (.inl ())) (onS fun(_:Unit)=>(loopO (fun(s6:(List Int)×Int)=>((if(0≤s6.2)then(if(s6.2 < (y1.length:Int))then(if(s6.2.toNat < y1.length)then(if(decide (0 < (y1.getD s6.2.toNat default).edges))=true then(Option.bind (Option.bind (m42o0 a1 y1 s6.2) fun r=>some r) fun x22=>(Option.bind ((if(s6.1.length+1) * 8≤140737488355328 then some ()else none)) fun(x23:(Unit))=>(if(0≤x22)then(if(x22 < (a1.length:Int))then(if(x22.toNat < a1.length)then(some (.inl ((s6.1++([x22]:List Int)),(a1.getD x22.toNat default).From)))else none)else none)else none)))else(some (.inr (.inl s6.1))))else none)else none)else none):Option (((List Int)×Int)⊕(((List Int))⊕(Int×(List Int)×(List Int)))))) (([]:List Int),a3)))) (onS fun(y7:(List Int))=>(Option.bind (Option.bind (m44o0 y7) fun r=>some r) fun x27=>(some ((0:Int),y5,(subL x27 0 y7.length)))))))))))):Option (Int×(List Int)×(List Int))):=by kernel_rfl
noncomputable abbrev lo14o0_1 (y1:(List T115)) (a1:List T72):((List Int)×Int)→Option (((List Int)×Int)⊕(((List Int))⊕(Int×(List Int)×(List Int)))):=(fun(s6:(List Int)×Int)=>((if(0≤s6.2)then(if(s6.2 < (y1.length:Int))then(if(s6.2.toNat < y1.length)then(if(decide (0 < (y1.getD s6.2.toNat default).edges))=true then(Option.bind (Option.bind (m42o0 a1 y1 s6.2) fun r=>some r) fun x22=>(Option.bind ((if(s6.1.length+1) * 8≤140737488355328 then some ()else none)) fun(x23:(Unit))=>(if(0≤x22)then(if(x22 < (a1.length:Int))then(if(x22.toNat < a1.length)then(some (.inl ((s6.1++([x22]:List Int)),(a1.getD x22.toNat default).From)))else none)else none)else none)))else(some (.inr (.inl s6.1))))else none)else none)else none):Option (((List Int)×Int)⊕(((List Int))⊕(Int×(List Int)×(List Int))))))
noncomputable abbrev lo14o0_2 (y1:(List T115)) (y3:Int):((List Int)×Int)→Option (((List Int)×Int)⊕(((List Int))⊕(Int×(List Int)×(List Int)))):=(fun(s4:(List Int)×Int)=>((if(decide (s4.2 < (y1.length:Int)))=true then(if(0≤s4.2)then(if(s4.2 < (y1.length:Int))then(if(s4.2.toNat < y1.length)then(if(decide ((y1.getD s4.2.toNat default).cost < 0))=true then(Option.bind ((if(s4.1.length+1) * 8≤140737488355328 then some ()else none)) fun(x18:(Unit))=>(some (.inl ((s4.1++([y3]:List Int)),(IntKind.wrap .i64 (s4.2+1))))))else(Option.bind ((if(s4.1.length+1) * 8≤140737488355328 then some ()else none)) fun(x18:(Unit))=>(some (.inl ((s4.1++([(y1.getD s4.2.toNat default).cost]:List Int)),(IntKind.wrap .i64 (s4.2+1)))))))else none)else none)else none)else(some (.inr (.inl s4.1)))):Option (((List Int)×Int)⊕(((List Int))⊕(Int×(List Int)×(List Int))))))
noncomputable abbrev lo14o0_3 (y1:(List T115)):(Int×Int)→Option ((Int×Int)⊕((Int)⊕(Int×(List Int)×(List Int)))):=(fun(s2:Int×Int)=>((if(decide (s2.2 < (y1.length:Int)))=true then(if(0≤s2.2)then(if(s2.2 < (y1.length:Int))then(if(s2.2.toNat < y1.length)then(some (.inl ((if s2.1 < (y1.getD s2.2.toNat default).cost then(y1.getD s2.2.toNat default).cost else s2.1),(IntKind.wrap .i64 (s2.2+1)))))else none)else none)else none)else(some (.inr (.inl s2.1)))):Option ((Int×Int)⊕((Int)⊕(Int×(List Int)×(List Int))))))
theorem A14o0  (a0:Int) (a1:List T72) (a2 a3:Int):m14o0 a0 a1 a2 a3=((Option.bind (Option.bind (Option.bind (m40 (⟨a0,a1⟩:T66) a2 a3) fun r=>some r) fun x1=>(if(x1 != 0)=true then(some (.inr ((x1,[],[]))))else(Option.bind (Option.bind (m41o0 a0 a1 a2) fun r=>some r) fun x4=>(if(0≤a3)then(if(a3 < (x4.length:Int))then(if(a3.toNat < x4.length)then(if(decide ((x4.getD a3.toNat default).cost < 0))=true then(some (.inr (((6:Int),[],[]))))else(some (.inl x4)))else none)else none)else none)))) (onS fun(y1:(List T115))=>(Option.bind (Option.bind (some (.inl ())) (onS fun(_:Unit)=>(loopO (lo14o0_3 y1) ((0:Int),(0:Int))))) (onS fun(y3:Int)=>(Option.bind (Option.bind (some (.inl ())) (onS fun(_:Unit)=>(loopO (lo14o0_2 y1 y3) (([]:List Int),(0:Int))))) (onS fun(y5:(List Int))=>(Option.bind (Option.bind (some (.inl ())) (onS fun(_:Unit)=>(loopO (lo14o0_1 y1 a1) (([]:List Int),a3)))) (onS fun(y7:(List Int))=>(Option.bind (Option.bind (m44o0 y7) fun r=>some r) fun x27=>(some ((0:Int),y5,(subL x27 0 y7.length)))))))))))):Option (Int×(List Int)×(List Int))):=M14o0 _ _ _ _
variable {N:Nat} {es:List T72} {fr:Nat} {s:CL}
theorem revI_eq (l:List Int) (hl:l.length≤1000000):m44o0 l=some l.reverse:=by
 rw[A44o0]
 refine on_l (y:=()) rfl ?_
 by_cases h0:l.length=0
 ·have:l=[]:=List.length_eq_zero_iff.1 h0
  subst this
  rfl
 have w0:IntKind.wrap .i64 ((l.length:Int) - 1)=(l.length:Int) - 1:=w64 (by omega) (by omega)
 rw[w0]
 rw[show ((l,(0:Int),(l.length:Int) - 1):List Int×Int×Int)=(xsR l 0,((0:Nat):Int),(l.length:Int) - 1 - ((0:Nat):Int)) from by rw[xsR_0];simp]
 refine loop_st (l.length / 2) (fun i=>(xsR l i,(i:Int),(l.length:Int) - 1 - (i:Int))) l.reverse (fun i hi=>?_) ?_
 ·have h1:2 * i+1 < l.length:=by omega
  have j0:((l.length:Int) - 1 - (i:Int))=((l.length - 1 - i:Nat):Int):=by omega
  have hs:subL (xsR l i) 0 l.length=xsR l i:=subL_all (xsR_len l i)
  have c1:decide ((i:Int) < ((l.length - 1 - i:Nat):Int))=true:=by simp;omega
  have c2:=inL (show i < l.length by omega)
  have c3:=inL (show l.length - 1 - i < l.length by omega)
  have c4:(i < l.length)=True:=eq_true (by omega)
  have c5:(l.length - 1 - i < l.length)=True:=eq_true (by omega)
  have w1:IntKind.wrap .i64 ((i:Int)+1)=((i+1:Nat):Int):=by rw[w64 (by omega) (by omega)];omega
  have w2:IntKind.wrap .i64 (((l.length - 1 - i:Nat):Int) - 1)=(l.length:Int) - 1 - ((i+1:Nat):Int):=by rw[w64 (by omega) (by omega)];omega
  simp only[lo44o0_1,j0,c1,c2,c3,c4,c5,if_true,Int.toNat_natCast,hs,w1,w2,xsR_step h1]
 ·have c1:decide (((l.length / 2:Nat):Int) < (l.length:Int) - 1 - ((l.length / 2:Nat):Int))=false:=by simp;omega
  simp only[lo44o0_1,c1,Bool.false_eq_true,if_false,xsR_end (l:=l) (i:=l.length / 2) (by omega) (by omega)]
def GWalk (es:List T72):Int→List Int→Int→Int→Prop
 | u,[],v,n=>u=v∧n=0
 | u,i :: r,v,n=>(0≤i∧i < (es.length:Int))∧(es.getD i.toNat default).From=u∧GWalk es (es.getD i.toNat default).To r v (n - (es.getD i.toNat default).Cost)
theorem gwalk_pot {p:Int→Int} (hp:∀ x∈es,p x.To≤p x.From+x.Cost):∀ {r:List Int} {u v n:Int},GWalk es u r v n→p v≤p u+n
 | [],u,v,n,W=>by obtain⟨rfl,rfl⟩:=W;omega
 | i :: r,u,v,n,W=>by
  obtain⟨⟨h1,h2⟩,h3,h4⟩:=W
  have:=gwalk_pot hp h4
  have:=hp _ (getD_mem (l:=es) (i:=i.toNat) (by omega))
  rw[h3]at this
  omega
theorem gwalk_reach {p:Int→Prop} (hp:∀ j:Nat,j < es.length→p (es.getD j default).From→p (es.getD j default).To):∀ {r:List Int} {u v n:Int},GWalk es u r v n→p u→p v
 | [],u,v,n,W,h=>by obtain⟨rfl,rfl⟩:=W;exact h
 | i :: r,u,v,n,W,h=>by
  obtain⟨⟨h1,h2⟩,h3,h4⟩:=W
  exact gwalk_reach hp h4 (hp i.toNat (by omega) (by rw[h3];exact h))
def tightE (es:List T72) (s:CL) (k j:Nat):Prop:=(es.getD j default).To=(k:Int)∧0≤(lb s (es.getD j default).From.toNat).cost∧(lb s k).cost=(lb s (es.getD j default).From.toNat).cost+(es.getD j default).Cost∧(lb s k).edges=(lb s (es.getD j default).From.toNat).edges+1
theorem ixe_eq (G:GOk N es) (S:Sv N es fr s) {k:Nat} (hk:k < N) (h0:0≤(lb s k).cost) (he:0 < (lb s k).edges):∃ j:Nat,j < es.length∧tightE es s k j∧m42o0 es s (k:Int)=some (j:Int):=by
 have h8:=G.few
 have hl:=S.len
 have hN:=G.n2
 obtain⟨b,hb⟩:∃ b,lb s k=b:=⟨_,rfl⟩
 have hb':s.getD k default=b:=hb
 have key:=loop_ex (k:=fun _=>some (-1:Int)) (b:=lo42o0_1 es s (k:Int)) es.length
  (fun j=>if(((((es.getD j default).To==(k:Int))&&(decide (0≤(lb s (es.getD j default).From.toNat).cost)))&&((lb s (es.getD j default).From.toNat).cost+(es.getD j default).Cost==b.cost))&&((lb s (es.getD j default).From.toNat).edges+1==b.edges))=true then some (j:Int)else none) (fun j hj=>by
   obtain⟨x,hx⟩:∃ x,es.getD j default=x:=⟨_,rfl⟩
   obtain⟨g1,g2,g3,g4,g5,g6⟩:=G.e x (by rw[← hx];exact getD_mem hj)
   obtain⟨u,hu⟩:∃ u:Nat,x.From=u:=⟨x.From.toNat,by omega⟩
   have uN:u < N:=by omega
   obtain⟨a,ha⟩:∃ a,lb s u=a:=⟨_,rfl⟩
   have ha':s.getD u default=a:=ha
   have un:=S.neg u uN
   have ug:=S.good u uN
   rw[ha]at un ug
   simp only[exB_ite,exB_some,exB_none]
   simp only[lo42o0_1,M43o0,inL hj,hj,decide_true,Int.toNat_natCast,if_true,hx,hu,hl,inL uN,inL hk,uN,hk,ha,ha',hb',implies_true,Option.bind_some,wr1 hj (by omega)]
   by_cases q:0≤a.cost
   ·obtain⟨q1,q2,q3⟩:=ug q
    rw[show IntKind.wrap .i64 (a.cost+x.Cost)=a.cost+x.Cost from w64 (by omega) (by omega),show IntKind.wrap .i64 (a.edges+1)=a.edges+1 from w64 (by omega) (by omega)]
   ·have d:decide (0≤a.cost)=false:=decide_eq_false q
    simp only[d,Bool.and_false,Bool.false_and]) (by simp only[lo42o0_1,lt_irr,decide_false,Bool.false_eq_true,if_false])
 have tt:∀ j,(((((es.getD j default).To==(k:Int))&&(decide (0≤(lb s (es.getD j default).From.toNat).cost)))&&((lb s (es.getD j default).From.toNat).cost+(es.getD j default).Cost==b.cost))&&((lb s (es.getD j default).From.toNat).edges+1==b.edges))=true↔tightE es s k j:=fun j=>by
  unfold tightE
  rw[hb]
  simp only[Bool.and_eq_true,decide_eq_true_eq,beq_iff_eq,and_assoc]
  refine and_congr_right fun _=>and_congr_right fun _=>?_
  constructor<;>rintro⟨h1,h2⟩<;>exact⟨h1.symm,h2.symm⟩
 rw[A42o0]
 cases hf:firstR (fun j=>if(((((es.getD j default).To==(k:Int))&&(decide (0≤(lb s (es.getD j default).From.toNat).cost)))&&((lb s (es.getD j default).From.toNat).cost+(es.getD j default).Cost==b.cost))&&((lb s (es.getD j default).From.toNat).edges+1==b.edges))=true then some (j:Int)else none) es.length with
 | none =>
  exfalso
  rcases S.tight k hk h0 with⟨_,_,h⟩ | ⟨x,hx,h1,h2,h3,h4⟩
  ·omega
  ·obtain⟨j,hj,rfl⟩:=mem_getD hx
   have:=firstR_none.1 hf j hj
   rw[if_pos ((tt j).2 ⟨h1,h2,h3,h4⟩)]at this
   cases this
 | some y =>
  obtain⟨j,hj,hy⟩:=firstR_some hf
  split at hy
  ·rename_i he
   have hy:=Option.some.inj hy
   subst hy
   rw[hf]at key
   exact⟨j,hj,(tt j).1 he,on_l (y:=()) rfl (bind_eq rfl key)⟩
  ·cases hy
theorem gwalk_back {k:Int} {acc:List Int} {v n:Int} (W:GWalk es k acc.reverse v n) {j:Nat} (hj:j < es.length) (hk:(es.getD j default).To=k):GWalk es (es.getD j default).From (acc++[(j:Int)]).reverse v (n+(es.getD j default).Cost):=by
 rw[List.reverse_append]
 refine⟨⟨by omega,by omega⟩,by rw[Int.toNat_natCast],?_⟩
 rw[Int.toNat_natCast]
 show GWalk es _ acc.reverse v _
 rw[hk]
 have:n+(es.getD j default).Cost - (es.getD j default).Cost=n:=by omega
 rw[this];exact W
theorem route_loop (G:GOk N es) (S:Sv N es fr s) {t:Nat} (ht:t < N) (h0:0≤(lb s t).cost):∃ x,loopO (lo14o0_1 s es) ([],(t:Int))=some x∧∃ r,x=.inl r∧r.length≤512∧GWalk es (fr:Int) r.reverse (t:Int) (lb s t).cost:=by
 have hl:=S.len
 obtain⟨t1,t2,t3⟩:=S.good t ht h0
 refine loop_meas (b:=lo14o0_1 s es) (fun q=>∃ (acc:List Int) (k:Nat),q=(acc,(k:Int))∧k < N∧0≤(lb s k).cost∧(acc.length:Int)+(lb s k).edges=(lb s t).edges∧GWalk es (k:Int) acc.reverse (t:Int) ((lb s t).cost - (lb s k).cost)) (fun q=>(lb s q.2.toNat).edges.toNat)
  (fun x=>∃ r,x=.inl r∧r.length≤512∧GWalk es (fr:Int) r.reverse (t:Int) (lb s t).cost) (fun q hq=>?_) _ ⟨[],t,rfl,ht,h0,by simp,⟨rfl,by omega⟩⟩
 obtain⟨acc,k,rfl,hk,hk0,ha,W⟩:=hq
 obtain⟨k1,k2,k3⟩:=S.good k hk hk0
 have hb':s.getD k default=lb s k:=rfl
 by_cases he:0 < (lb s k).edges
 ·obtain⟨j,hj,⟨j1,j2,j3,j4⟩,hix⟩:=ixe_eq G S hk hk0 he
  obtain⟨g1,g2,g3,g4,g5,g6⟩:=G.e _ (getD_mem hj)
  have eu:(es.getD j default).From=(((es.getD j default).From.toNat:Nat):Int):=by omega
  have p8:((acc.length+1) * 8≤140737488355328)=True:=eq_true (by omega)
  refine .inl ⟨(acc++[(j:Int)],(es.getD j default).From),?_,⟨acc++[(j:Int)],(es.getD j default).From.toNat,by rw[← eu],by omega,j2,?_,?_⟩,?_⟩
  ·have d:=decide_eq_true he
   simp only[lo14o0_1,inL hk,inL hj,hj,hl,hk,if_true,Int.toNat_natCast,hb',d,hix,Option.bind_some,p8]
  ·rw[List.length_append,List.length_singleton];omega
  ·have:=gwalk_back W hj j1
   rw[← eu]
   have e2:(lb s t).cost - (lb s k).cost+(es.getD j default).Cost=(lb s t).cost - (lb s (es.getD j default).From.toNat).cost:=by omega
   rw[e2]at this
   exact this
  ·simp only[Int.toNat_natCast]
   have:=(S.good (es.getD j default).From.toNat (by omega) j2).1
   omega
 ·refine .inr ⟨.inl acc,?_,acc,rfl,by omega,?_⟩
  ·have d:=decide_eq_false he
   simp only[lo14o0_1,inL hk,hl,hk,if_true,Int.toNat_natCast,hb',d,Bool.false_eq_true,if_false]
  ·rcases S.tight k hk hk0 with⟨rfl,h1,_⟩ | ⟨x,hx,_,h2,_,h4⟩
   ·rw[h1]at W;simpa using W
   ·obtain⟨g1,g2,_⟩:=G.e x hx
    have:=(S.good x.From.toNat (by omega) h2).1
    omega
theorem most_loop (hl:s.length≤512):∃ x,loopO (lo14o0_3 s) ((0:Int),(0:Int))=some x∧∃ y,x=.inl y:=by
 refine loop_meas (b:=lo14o0_3 s) (fun q=>∃ i:Nat,q.2=i∧i≤s.length) (fun q=>(s.length - q.2).toNat) (fun x=>∃ y,x=.inl y) (fun q hq=>?_) _ ⟨0,rfl,by omega⟩
 obtain⟨y,q2⟩:=q
 obtain⟨i,hqi,hi⟩:=hq
 simp only at hqi
 subst hqi
 by_cases hlt:i < s.length
 ·have w1:IntKind.wrap .i64 ((i:Int)+1)=((i+1:Nat):Int):=by rw[wr1 hlt (by omega)];omega
  refine .inl ⟨(if y < (s.getD i default).cost then(s.getD i default).cost else y,((i+1:Nat):Int)),?_,⟨i+1,rfl,hlt⟩,by simp only;omega⟩
  simp only[lo14o0_3,inL hlt,decide_true,if_true,Int.toNat_natCast,hlt,w1]
 ·obtain rfl:i=s.length:=by omega
  refine .inr ⟨.inl y,?_,y,rfl⟩
  simp only[lo14o0_3,lt_irr,decide_false,Bool.false_eq_true,if_false]
def potL (s:CL) (y:Int):List Int:=(List.range s.length).flatMap fun i=>[if(lb s i).cost < 0 then y else(lb s i).cost]
theorem potL_map (s:CL) (y:Int):potL s y=(List.range s.length).map fun i=>if(lb s i).cost < 0 then y else(lb s i).cost:=by
 unfold potL
 rw[show (fun i=>[if(lb s i).cost < 0 then y else(lb s i).cost])=(fun x=>[x]) ∘ (fun i=>if(lb s i).cost < 0 then y else(lb s i).cost) from rfl]
 generalize List.range s.length=l
 induction l with
 | nil=>rfl
 | cons a l ih=>rw[List.flatMap_cons,ih];rfl
theorem potL_len (s:CL) (y:Int):(potL s y).length=s.length:=by rw[potL_map];simp
theorem potL_at {y:Int} {i:Nat} (hi:i < s.length) (h:0≤(lb s i).cost):(potL s y).getD i default=(lb s i).cost:=by
 rw[potL_map]
 simp only[List.getD_eq_getElem?_getD,List.getElem?_map,List.getElem?_range hi,Option.map_some,Option.getD_some]
 rw[if_neg (by omega)]
theorem pot_loop (hl:s.length≤512) (y:Int):loopO (lo14o0_2 s y) ([],(0:Int))=some (.inl (potL s y)):=by
 refine loop_coll s.length (fun i acc=>(acc,(i:Int))) (fun i=>[if(lb s i).cost < 0 then y else(lb s i).cost]) (fun acc=>Sum.inl acc) (fun i hi=>?_) ?_
 ·have hlen:=flatMap_len (g:=fun i=>[if(lb s i).cost < 0 then y else(lb s i).cost]) (m:=1) (fun i=>Nat.le_refl _) i
  have w1:IntKind.wrap .i64 ((i:Int)+1)=((i+1:Nat):Int):=by rw[wr1 hi (by omega)];omega
  have p8:((((List.range i).flatMap fun i=>[if(lb s i).cost < 0 then y else(lb s i).cost]).length+1) * 8≤140737488355328)=True:=eq_true (by omega)
  have hb':s.getD i default=lb s i:=rfl
  by_cases h:(lb s i).cost < 0
  ·have d:=decide_eq_true h
   simp only[lo14o0_2,inL hi,decide_true,if_true,Int.toNat_natCast,hi,hb',d,p8,Option.bind_some,w1,h]
  ·have d:=decide_eq_false h
   simp only[lo14o0_2,inL hi,decide_true,if_true,Int.toNat_natCast,hi,hb',p8,Option.bind_some,w1,h,decide_false,Bool.false_eq_true,if_false]
 ·simp only[lo14o0_2,lt_irr,decide_false,Bool.false_eq_true,if_false]
theorem solve_eq (G:GOk N es) (hf:fr < N) {t:Nat} (ht:t < N):∃ s,Sv N es fr s∧(0≤(lb s t).cost→∃ y r,r.length≤512∧GWalk es (fr:Int) r (t:Int) (lb s t).cost∧m14o0 (N:Int) es (fr:Int) (t:Int)=some (0,potL s y,r)):=by
 obtain⟨s,e1,S⟩:=clabels_eq G hf
 have hl:=S.len
 have hN:=G.n2
 refine⟨s,S,fun h0=>?_⟩
 obtain⟨x,e2,y,rfl⟩:=most_loop (s:=s) (by omega)
 have e3:=pot_loop (s:=s) (by omega) y
 obtain⟨x,e4,r,rfl,r1,r2⟩:=route_loop G S ht h0
 have e5:=revI_eq r (by omega)
 refine⟨y,r.reverse,by rw[List.length_reverse];exact r1,r2,?_⟩
 rw[A14o0]
 have d:decide ((s.getD t default).cost < 0)=false:=decide_eq_false (show ¬ (lb s t).cost < 0 by omega)
 refine on_l (y:=s) ?_ (on_l (y:=y) (on_l (y:=()) rfl e2) (on_l (y:=potL s y) (on_l (y:=()) rfl e3) (on_l (y:=r) (on_l (y:=()) rfl e4) (bind_to (bind_to e5 rfl) ?_))))
 ·rw[ends_ok G hf ht,e1]
  simp only[Option.bind_some,bne_self_eq_false,Bool.false_eq_true,if_false,hl,inL ht,Int.toNat_natCast,ht,if_true,d]
 ·rw[subL_all (by rw[List.length_reverse])]
end Go.Av.Air
set_option maxRecDepth 100000
namespace Go.Av.Air
theorem M16 (a0:T66) (a1 a2:Int) (a3:List Int):m16 a0 a1 a2 a3=((Option.bind (Option.bind (Option.bind (m40 a0 a1 a2) fun r=>some r) fun x1=>(if(x1 != 0)=true then(some (.inr (((0:Int),x1))))else(if(decide (8192 < (a3.length:Int)))=true then(some (.inr (((0:Int),(3:Int)))))else(some (.inl ()))))) (onS fun(_:Unit)=>(Option.bind (Option.bind (some (.inl ())) (onS fun(_:Unit)=>(loopO (fun(s1:Int)=>((if(decide (s1 < (a3.length:Int)))=true then(if(0≤s1)then(if(s1 < (a3.length:Int))then(if((decide ((a3.getD s1.toNat default) < 0)) || (decide ((a0.Edges.length:Int)≤(a3.getD s1.toNat default))))=true then(some (.inr (.inr (((0:Int),(6:Int))))))else(some (.inl (IntKind.wrap .i64 (s1+1)))))else none)else none)else(some (.inr (.inl ())))):Option ((Int)⊕((Unit)⊕(Int×Int))))) (0:Int)))) (onS fun(_:Unit)=>(Option.bind (some (.inl ())) (onS fun(_:Unit)=>(Option.bind (Option.bind (some (.inl ())) (onS fun(_:Unit)=>(loopO (fun(s2:Int×Int×Int)=>((if(decide (s2.2.2 < (a3.length:Int)))=true then(if(0≤s2.2.2)then(if(s2.2.2 < (a3.length:Int))then(if(0≤(a3.getD s2.2.2.toNat default))then(if((a3.getD s2.2.2.toNat default) < (a0.Edges.length:Int))then(if((a0.Edges.getD (a3.getD s2.2.2.toNat default).toNat default).From != s2.1)=true then(some (.inr (.inr (((0:Int),(9:Int))))))else(some (.inl ((a0.Edges.getD (a3.getD s2.2.2.toNat default).toNat default).To,(IntKind.wrap .i64 (s2.2.1+(a0.Edges.getD (a3.getD s2.2.2.toNat default).toNat default).Cost)),(IntKind.wrap .i64 (s2.2.2+1))))))else none)else none)else none)else none)else(some (.inr (.inl (s2.1,s2.2.1))))):Option ((Int×Int×Int)⊕((Int×Int)⊕(Int×Int))))) (a1,(0:Int),(0:Int))))) (onS fun(y3:Int×Int)=>(if(y3.1 != a2)=true then(some ((0:Int),(9:Int)))else(some (y3.2,(0:Int)))))))))))):Option (Int×Int)):=by kernel_rfl
noncomputable abbrev lo16_1 (a3:List Int) (a0:T66):(Int×Int×Int)→Option ((Int×Int×Int)⊕((Int×Int)⊕(Int×Int))):=(fun(s2:Int×Int×Int)=>((if(decide (s2.2.2 < (a3.length:Int)))=true then(if(0≤s2.2.2)then(if(s2.2.2 < (a3.length:Int))then(if(0≤(a3.getD s2.2.2.toNat default))then(if((a3.getD s2.2.2.toNat default) < (a0.Edges.length:Int))then(if((a0.Edges.getD (a3.getD s2.2.2.toNat default).toNat default).From != s2.1)=true then(some (.inr (.inr (((0:Int),(9:Int))))))else(some (.inl ((a0.Edges.getD (a3.getD s2.2.2.toNat default).toNat default).To,(IntKind.wrap .i64 (s2.2.1+(a0.Edges.getD (a3.getD s2.2.2.toNat default).toNat default).Cost)),(IntKind.wrap .i64 (s2.2.2+1))))))else none)else none)else none)else none)else(some (.inr (.inl (s2.1,s2.2.1))))):Option ((Int×Int×Int)⊕((Int×Int)⊕(Int×Int)))))
noncomputable abbrev lo16_2 (a3:List Int) (a0:T66):(Int)→Option ((Int)⊕((Unit)⊕(Int×Int))):=(fun(s1:Int)=>((if(decide (s1 < (a3.length:Int)))=true then(if(0≤s1)then(if(s1 < (a3.length:Int))then(if((decide ((a3.getD s1.toNat default) < 0)) || (decide ((a0.Edges.length:Int)≤(a3.getD s1.toNat default))))=true then(some (.inr (.inr (((0:Int),(6:Int))))))else(some (.inl (IntKind.wrap .i64 (s1+1)))))else none)else none)else(some (.inr (.inl ())))):Option ((Int)⊕((Unit)⊕(Int×Int)))))
theorem A16  (a0:T66) (a1 a2:Int) (a3:List Int):m16 a0 a1 a2 a3=((Option.bind (Option.bind (Option.bind (m40 a0 a1 a2) fun r=>some r) fun x1=>(if(x1 != 0)=true then(some (.inr (((0:Int),x1))))else(if(decide (8192 < (a3.length:Int)))=true then(some (.inr (((0:Int),(3:Int)))))else(some (.inl ()))))) (onS fun(_:Unit)=>(Option.bind (Option.bind (some (.inl ())) (onS fun(_:Unit)=>(loopO (lo16_2 a3 a0) (0:Int)))) (onS fun(_:Unit)=>(Option.bind (some (.inl ())) (onS fun(_:Unit)=>(Option.bind (Option.bind (some (.inl ())) (onS fun(_:Unit)=>(loopO (lo16_1 a3 a0) (a1,(0:Int),(0:Int))))) (onS fun(y3:Int×Int)=>(if(y3.1 != a2)=true then(some ((0:Int),(9:Int)))else(some (y3.2,(0:Int)))))))))))):Option (Int×Int)):=M16 _ _ _ _
theorem M64o0 (a0:T72) (a1:List Int):m64o0 a0 a1=((if(0≤a0.To)then(if(a0.To < (a1.length:Int))then(if(0≤a0.From)then(if(a0.From < (a1.length:Int))then(some ())else none)else none)else none)else none):Option (Unit)):=by kernel_rfl
theorem M42o1 (a0:List T72) (a1:List Int):m42o1 a0 a1=((Option.bind (some (.inl ())) (onS fun(_:Unit)=>(Option.bind (Option.bind (some (.inl ())) (onS fun(_:Unit)=>(loopO (fun(s1:Int)=>((if(decide (s1 < (a0.length:Int)))=true then(Option.bind ((if 0≤s1 then(if s1 < (a0.length:Int)then((m64o0 (a0.getD s1.toNat default) a1).bind fun r4_0=>some r4_0)else none)else none)) fun(x4:(Unit))=>(if(decide ((a0.getD s1.toNat default).Cost < (IntKind.wrap .i64 ((a1.getD (a0.getD s1.toNat default).To.toNat default) - (a1.getD (a0.getD s1.toNat default).From.toNat default)))))=true then(some (.inr (.inr (s1))))else(some (.inl (IntKind.wrap .i64 (s1+1))))))else(some (.inr (.inl ())))):Option ((Int)⊕((Unit)⊕(Int))))) (0:Int)))) (onS fun(_:Unit)=>(some (-1:Int)))))):Option (Int)):=by kernel_rfl
noncomputable abbrev lo42o1_1 (a0:List T72) (a1:List Int):(Int)→Option ((Int)⊕((Unit)⊕(Int))):=(fun(s1:Int)=>((if(decide (s1 < (a0.length:Int)))=true then(Option.bind ((if 0≤s1 then(if s1 < (a0.length:Int)then((m64o0 (a0.getD s1.toNat default) a1).bind fun r4_0=>some r4_0)else none)else none)) fun(x4:(Unit))=>(if(decide ((a0.getD s1.toNat default).Cost < (IntKind.wrap .i64 ((a1.getD (a0.getD s1.toNat default).To.toNat default) - (a1.getD (a0.getD s1.toNat default).From.toNat default)))))=true then(some (.inr (.inr (s1))))else(some (.inl (IntKind.wrap .i64 (s1+1))))))else(some (.inr (.inl ())))):Option ((Int)⊕((Unit)⊕(Int)))))
theorem A42o1  (a0:List T72) (a1:List Int):m42o1 a0 a1=((Option.bind (some (.inl ())) (onS fun(_:Unit)=>(Option.bind (Option.bind (some (.inl ())) (onS fun(_:Unit)=>(loopO (lo42o1_1 a0 a1) (0:Int)))) (onS fun(_:Unit)=>(some (-1:Int)))))):Option (Int)):=M42o1 _ _
theorem M45 (a0:T66) (a1:List Int):m45 a0 a1=((Option.bind (Option.bind (Option.bind (m61 a0) fun r=>some r) fun x1=>(if(x1 != 0)=true then(some (.inr (((0:Int),x1))))else(if((a1.length:Int) != a0.N)=true then(some (.inr (((0:Int),(1:Int)))))else(some (.inl ()))))) (onS fun(_:Unit)=>(Option.bind (Option.bind (some (.inl ())) (onS fun(_:Unit)=>(loopO (fun(s1:Int)=>((if(decide (s1 < (a1.length:Int)))=true then(if(0≤s1)then(if(s1 < (a1.length:Int))then(if((decide ((a1.getD s1.toNat default) < (-1152921504606846976:Int))) || (decide (1152921504606846976 < (a1.getD s1.toNat default))))=true then(some (.inr (.inr (((0:Int),(2:Int))))))else(some (.inl (IntKind.wrap .i64 (s1+1)))))else none)else none)else(some (.inr (.inl ())))):Option ((Int)⊕((Unit)⊕(Int×Int))))) (0:Int)))) (onS fun(_:Unit)=>(Option.bind (Option.bind (m42o1 a0.Edges a1) fun r=>some r) fun x12=>(some (x12,(0:Int)))))))):Option (Int×Int)):=by kernel_rfl
noncomputable abbrev lo45_1 (a1:List Int):(Int)→Option ((Int)⊕((Unit)⊕(Int×Int))):=(fun(s1:Int)=>((if(decide (s1 < (a1.length:Int)))=true then(if(0≤s1)then(if(s1 < (a1.length:Int))then(if((decide ((a1.getD s1.toNat default) < (-1152921504606846976:Int))) || (decide (1152921504606846976 < (a1.getD s1.toNat default))))=true then(some (.inr (.inr (((0:Int),(2:Int))))))else(some (.inl (IntKind.wrap .i64 (s1+1)))))else none)else none)else(some (.inr (.inl ())))):Option ((Int)⊕((Unit)⊕(Int×Int)))))
theorem A45  (a0:T66) (a1:List Int):m45 a0 a1=((Option.bind (Option.bind (Option.bind (m61 a0) fun r=>some r) fun x1=>(if(x1 != 0)=true then(some (.inr (((0:Int),x1))))else(if((a1.length:Int) != a0.N)=true then(some (.inr (((0:Int),(1:Int)))))else(some (.inl ()))))) (onS fun(_:Unit)=>(Option.bind (Option.bind (some (.inl ())) (onS fun(_:Unit)=>(loopO (lo45_1 a1) (0:Int)))) (onS fun(_:Unit)=>(Option.bind (Option.bind (m42o1 a0.Edges a1) fun r=>some r) fun x12=>(some (x12,(0:Int)))))))):Option (Int×Int)):=M45 _ _
theorem M15 (a0:T66) (a1 a2:Int) (a3:List Int):m15 a0 a1 a2 a3=((Option.bind (Option.bind (m40 a0 a1 a2) fun r=>some r) fun x1=>(if(x1 != 0)=true then(some ((0:Int),x1))else(Option.bind (Option.bind (m45 a0 a3) fun r=>some r) fun x4=>(if(x4.2 != 0)=true then(some ((0:Int),x4.2))else(if(decide (0≤x4.1))=true then(some ((0:Int),(9:Int)))else(if(0≤a2)then(if(a2 < (a3.length:Int))then(if(0≤a1)then(if(a1 < (a3.length:Int))then(some ((IntKind.wrap .i64 ((a3.getD a2.toNat default) - (a3.getD a1.toNat default))),(0:Int)))else none)else none)else none)else none)))))):Option (Int×Int)):=by kernel_rfl
variable {N:Nat} {es:List T72} {fr:Nat}
theorem gwalk_in:∀ {r:List Int} {u v n:Int},GWalk es u r v n→∀ i,i < r.length→0≤r.getD i default∧r.getD i default < (es.length:Int)
 | [],_,_,_,_,i,hi=>absurd hi (Nat.not_lt_zero i)
 | j :: r,u,v,n,W,i,hi=>by
  obtain⟨h1,h2,h3⟩:=W
  cases i with
  | zero=>exact h1
  | succ i=>exact gwalk_in h3 i (by simpa using hi)
theorem drop_at' {α:Type} [Inhabited α] {hs:List α} {i:Nat} (hi:i < hs.length):hs.drop i=hs.getD i default :: hs.drop (i+1):=by
 rw[List.drop_eq_getElem_cons hi]
 congr 1
 simp[List.getD_eq_getElem?_getD,List.getElem?_eq_getElem hi]
theorem cost_eq (G:GOk N es) (hf:fr < N) {t:Nat} (ht:t < N) {r:List Int} {n:Int} (hr:r.length≤512) (W:GWalk es (fr:Int) r (t:Int) n):m16 ⟨(N:Int),es⟩ (fr:Int) (t:Int) r=some (n,0):=by
 have hin:=gwalk_in W
 rw[A16,ends_ok G hf ht]
 have d:decide ((8192:Int) < (r.length:Int))=false:=decide_eq_false (by omega)
 have e1:∃ x,loopO (lo16_1 r ⟨(N:Int),es⟩) ((fr:Int),0,0)=some x∧x=.inl ((t:Int),n):=by
  refine loop_meas (b:=lo16_1 r ⟨(N:Int),es⟩) (fun q=>∃ (i:Nat) (u c:Int),q=(u,c,(i:Int))∧i≤r.length∧GWalk es u (r.drop i) (t:Int) (n - c)∧0≤c∧c≤(i:Int) * 1099511627776) (fun q=>(r.length - q.2.2).toNat)
   (fun x=>x=.inl ((t:Int),n)) (fun q hq=>?_) _ ⟨0,(fr:Int),0,rfl,by omega,by simpa using W,by omega,by omega⟩
  obtain⟨i,u,c,rfl,hi,W,c1,c2⟩:=hq
  by_cases hlt:i < r.length
  ·rw[drop_at' hlt]at W
   obtain⟨⟨h1,h2⟩,h3,h4⟩:=W
   obtain⟨j,hj⟩:∃ j:Nat,r.getD i default=j:=⟨(r.getD i default).toNat,by omega⟩
   rw[hj]at h1 h2 h3 h4
   rw[Int.toNat_natCast]at h3 h4
   have hjl:j < es.length:=by omega
   obtain⟨x,hx⟩:∃ x,es.getD j default=x:=⟨_,rfl⟩
   obtain⟨g1,g2,g3,g4,g5,g6⟩:=G.e x (by rw[← hx];exact getD_mem hjl)
   rw[hx]at h3 h4
   have w1:IntKind.wrap .i64 ((i:Int)+1)=((i+1:Nat):Int):=by rw[wr1 hlt (by omega)];omega
   have w2:IntKind.wrap .i64 (c+x.Cost)=c+x.Cost:=w64 (by omega) (by omega)
   refine .inl ⟨(x.To,c+x.Cost,((i+1:Nat):Int)),?_,⟨i+1,x.To,c+x.Cost,rfl,hlt,?_,by omega,by omega⟩,by simp only;omega⟩
   ·simp only[lo16_1,inL hlt,decide_true,if_true,Int.toNat_natCast,hj,inL hjl,hx,h3,bne_self_eq_false,Bool.false_eq_true,if_false,w1,w2]
   ·have e:n - c - x.Cost=n - (c+x.Cost):=by omega
    rw[e]at h4;exact h4
  ·obtain rfl:i=r.length:=by omega
   rw[List.drop_length]at W
   obtain⟨rfl,h0⟩:=W
   refine .inr ⟨_,?_,rfl⟩
   have en:c=n:=by omega
   simp only[lo16_1,lt_irr,decide_false,Bool.false_eq_true,if_false,en]
 obtain⟨x,e1,rfl⟩:=e1
 refine on_l (y:=()) (by simp only[Option.bind_some,bne_self_eq_false,Bool.false_eq_true,if_false,d]) (loop_pass r.length (fun i hi=>?_) ?_ ?_)
 ·obtain⟨h1,h2⟩:=hin i hi
  have d1:decide (r.getD i default < 0)=false:=decide_eq_false (by omega)
  have d2:decide ((es.length:Int)≤r.getD i default)=false:=decide_eq_false (by omega)
  simp only[lo16_2,inL hi,decide_true,if_true,Int.toNat_natCast,d1,d2,Bool.or_self,Bool.false_eq_true,if_false,wr1 hi (by omega)]
 ·simp only[lo16_2,lt_irr,decide_false,Bool.false_eq_true,if_false]
 ·refine on_l (y:=()) rfl (on_l (y:=((t:Int),n)) (on_l (y:=()) rfl e1) ?_)
  simp only[bne_self_eq_false,Bool.false_eq_true,if_false]
theorem violated_eq (G:GOk N es) {p:List Int} (hp:p.length=N) (hr:∀ i,i < N→0≤p.getD i default∧p.getD i default < 562949953421312) (hv:∀ x∈es,p.getD x.To.toNat default - p.getD x.From.toNat default≤x.Cost):m45 ⟨(N:Int),es⟩ p=some (-1,0):=by
 have hN:=G.n2
 have h8:=G.few
 rw[A45,gcheck_ok G]
 have ix:m42o1 es p=some (-1):=by
  rw[A42o1]
  refine on_l (y:=()) rfl (loop_pass es.length (fun i hi=>?_) ?_ rfl)
  ·obtain⟨x,hx⟩:∃ x,es.getD i default=x:=⟨_,rfl⟩
   have hm:x∈es:=by rw[← hx];exact getD_mem hi
   obtain⟨g1,g2,g3,g4,g5,g6⟩:=G.e x hm
   obtain⟨u,hu⟩:∃ u:Nat,x.From=u:=⟨x.From.toNat,by omega⟩
   obtain⟨v,hv'⟩:∃ v:Nat,x.To=v:=⟨x.To.toNat,by omega⟩
   have uN:u < N:=by omega
   have vN:v < N:=by omega
   have k:=hv x hm
   rw[hu,hv',Int.toNat_natCast,Int.toNat_natCast]at k
   obtain⟨r1,r2⟩:=hr u uN
   obtain⟨r3,r4⟩:=hr v vN
   have w:IntKind.wrap .i64 (p.getD v default - p.getD u default)=p.getD v default - p.getD u default:=w64 (by omega) (by omega)
   have d:decide (x.Cost < p.getD v default - p.getD u default)=false:=decide_eq_false (by omega)
   simp only[lo42o1_1,M64o0,inL hi,decide_true,if_true,Int.toNat_natCast,hx,hu,hv',hp,inL uN,inL vN,Option.bind_some,w,d,Bool.false_eq_true,if_false,wr1 hi (by omega)]
  ·simp only[lo42o1_1,lt_irr,decide_false,Bool.false_eq_true,if_false]
 refine on_l (y:=()) (by simp only[Option.bind_some,bne_self_eq_false,Bool.false_eq_true,if_false,hp]) (loop_pass p.length (fun i hi=>?_) ?_ ?_)
 ·obtain⟨r1,r2⟩:=hr i (by omega)
  have d1:decide (p.getD i default < (-1152921504606846976:Int))=false:=decide_eq_false (by omega)
  have d2:decide ((1152921504606846976:Int) < p.getD i default)=false:=decide_eq_false (by omega)
  simp only[lo45_1,inL hi,decide_true,if_true,Int.toNat_natCast,d1,d2,Bool.or_self,Bool.false_eq_true,if_false,wr1 hi (by omega)]
 ·simp only[lo45_1,lt_irr,decide_false,Bool.false_eq_true,if_false]
 ·simp only[ix,Option.bind_some]
theorem bound_eq (G:GOk N es) (hf:fr < N) {t:Nat} (ht:t < N) {p:List Int} (hp:p.length=N) (hr:∀ i,i < N→0≤p.getD i default∧p.getD i default < 562949953421312) (hv:∀ x∈es,p.getD x.To.toNat default - p.getD x.From.toNat default≤x.Cost) :
  m15 ⟨(N:Int),es⟩ (fr:Int) (t:Int) p=some (p.getD t default - p.getD fr default,0):=by
 obtain⟨r1,r2⟩:=hr fr hf
 obtain⟨r3,r4⟩:=hr t ht
 have w:IntKind.wrap .i64 (p.getD t default - p.getD fr default)=p.getD t default - p.getD fr default:=w64 (by omega) (by omega)
 have d:decide ((0:Int)≤(-1:Int))=false:=by decide
 rw[M15,ends_ok G hf ht,violated_eq G hp hr hv]
 simp only[Option.bind_some,bne_self_eq_false,Bool.false_eq_true,if_false,d,hp,inL hf,inL ht,Int.toNat_natCast,if_true,w]
end Go.Av.Air
set_option maxRecDepth 100000
namespace Go.Av.Air
theorem M13 (a0:List T69) (a1:List UInt8):m13 a0 a1=((Option.bind (some (.inl ())) (onS fun(_:Unit)=>(Option.bind (Option.bind (some (.inl ())) (onS fun(_:Unit)=>(loopO (fun(s1:Int)=>((if(decide (s1 < (a0.length:Int)))=true then(if(0≤s1)then(if(s1 < (a0.length:Int))then(if((a0.getD s1.toNat default).Ref==a1)=true then(some (.inr (.inr (s1))))else(some (.inl (IntKind.wrap .i64 (s1+1)))))else none)else none)else(some (.inr (.inl ())))):Option ((Int)⊕((Unit)⊕(Int))))) (0:Int)))) (onS fun(_:Unit)=>(some (-1:Int)))))):Option (Int)):=by kernel_rfl
noncomputable abbrev lo13_1 (a0:List T69) (a1:List UInt8):(Int)→Option ((Int)⊕((Unit)⊕(Int))):=(fun(s1:Int)=>((if(decide (s1 < (a0.length:Int)))=true then(if(0≤s1)then(if(s1 < (a0.length:Int))then(if((a0.getD s1.toNat default).Ref==a1)=true then(some (.inr (.inr (s1))))else(some (.inl (IntKind.wrap .i64 (s1+1)))))else none)else none)else(some (.inr (.inl ())))):Option ((Int)⊕((Unit)⊕(Int)))))
theorem A13  (a0:List T69) (a1:List UInt8):m13 a0 a1=((Option.bind (some (.inl ())) (onS fun(_:Unit)=>(Option.bind (Option.bind (some (.inl ())) (onS fun(_:Unit)=>(loopO (lo13_1 a0 a1) (0:Int)))) (onS fun(_:Unit)=>(some (-1:Int)))))):Option (Int)):=M13 _ _
theorem M4 (a0:List T39) (a1:List T54) (a2:T63):m4 a0 a1 a2=((Option.bind (Option.bind (Option.bind (m12) fun r=>some r) fun x1=>(if(!x1)=true then(some (.inr (false)))else(Option.bind (Option.bind (m6 a0 a1 a2.From a2.To) fun r=>some r) fun x3=>(if(x3.2 != 0)=true then(some (.inr (((x3.1.Labels.length:Int)==(0:Int)))))else(if(0≤(x3.1.Labels.length:Int))then(if((x3.1.Labels.length:Int)=(x3.1.Labels.length:Int))then(if((x3.1.Labels.length:Int) * 8≤140737488355328)then(if((x3.1.Labels.length:Int)≤9223372036854775807)then(some (.inl ((List.replicate (x3.1.Labels.length:Int).toNat (0:Int)),(x3.1.Labels.length:Int).toNat,x3.1.Hops,x3.1.Length,x3.1.Labels,(x3.1.Labels.length:Int))))else none)else none)else none)else none))))) (onS fun(y1:(List Int)×Nat×(List T49)×Int×(List T69)×Int)=>(Option.bind (Option.bind (some (.inl ())) (onS fun(_:Unit)=>(loopO (fun(s2:(List Int)×Int×(List T72))=>((Option.bind (if(decide (s2.2.1 < (y1.2.2.2.2.1.length:Int)))=true then(some (.inl ()))else(some (.inr (.inr (.inl (s2.1,s2.2.2)))))) (onS fun(_:Unit)=>(Option.bind (Option.bind (if(0≤s2.2.1)then(if(s2.2.1 < (y1.2.2.2.2.1.length:Int))then(if(0≤s2.2.1)then(if(s2.2.1 < (y1.2.1:Int))then(if(s2.2.1.toNat < y1.2.1)then(Option.bind (Option.bind (m8 a0 (y1.2.2.2.2.1.getD s2.2.1.toNat default).Ref) fun r=>some r) fun x12=>(if(x12.2 != 0)=true then(some (.inr (.inr (.inr (.inr (false))))))else(some (.inl (x12.1,(x12.1.length:Int))))))else none)else none)else none)else none)else none) (onS fun(y3:(List T49)×Int)=>(loopO (fun(s4:Int×(List T72))=>((if(decide (s4.1 < y3.2))=true then(if(0≤s4.1)then(if(s4.1 < (y3.1.length:Int))then(Option.bind (Option.bind (m9 a1 (y1.2.2.2.2.1.getD s2.2.1.toNat default).Ref) fun r=>some r) fun x18=>(Option.bind (Option.bind (m9 a1 (y3.1.getD s4.1.toNat default).To) fun r=>some r) fun x19=>(Option.bind (Option.bind (m10 x18.1.Pos x19.1.Pos) fun r=>some r) fun x20=>(if(x20.2 != 0)=true then(some (.inr (.inr (.inr (.inr (false))))))else(Option.bind (((m13 y1.2.2.2.2.1 (y3.1.getD s4.1.toNat default).To).bind fun r23_0=>(if(s4.2.length+1) * 24≤140737488355328 then some r23_0 else none))) fun(x23:(Int))=>(some (.inl ((IntKind.wrap .i64 (s4.1+1)),(s4.2++([(⟨s2.2.1,x23,x20.1⟩:T72)]:List T72))))))))))else none)else none)else(some (.inr (.inl s4.2)))):Option ((Int×(List T72))⊕(((List T72))⊕(((List Int)×Int×(List T72))⊕(((List Int)×(List T72))⊕(Bool))))))) ((0:Int),s2.2.2)))) (onS fun(y5:(List T72))=>(some (.inl (((subL s2.1 0 y1.2.1).set s2.2.1.toNat (y1.2.2.2.2.1.getD s2.2.1.toNat default).Length),(IntKind.wrap .i64 (s2.2.1+1)),y5))))))):Option (((List Int)×Int×(List T72))⊕(((List Int)×(List T72))⊕(Bool))))) (y1.1,(0:Int),([]:List T72))))) (onS fun(y6:(List Int)×(List T72))=>(Option.bind (Option.bind (((m13 y1.2.2.2.2.1 a2.From).bind fun r26_0=>((m13 y1.2.2.2.2.1 a2.To).bind fun r26_1=>some (r26_0,r26_1)))) fun(x26:(Int×Int))=>(Option.bind (Option.bind (m14o0 y1.2.2.2.2.2 y6.2 x26.1 x26.2) fun r=>some r) fun x27=>(if((x27.1 != 0) || ((x27.2.1.length:Int) != y1.2.2.2.2.2))=true then(some (.inr (false)))else(some (.inl (x26.1,x26.2,x27.2.1)))))) (onS fun(y7:Int×Int×(List Int))=>(Option.bind (Option.bind (some (.inl ())) (onS fun(_:Unit)=>(loopO (fun(s8:Int)=>((if(decide (s8 < (y7.2.2.length:Int)))=true then(if(0≤s8)then(if(s8 < (y7.2.2.length:Int))then(if(0≤s8)then(if(s8 < (y1.2.1:Int))then(if(s8.toNat < y1.2.1)then(if((y7.2.2.getD s8.toNat default) != (y6.1.getD s8.toNat default))=true then(some (.inr (.inr (false))))else(some (.inl (IntKind.wrap .i64 (s8+1)))))else none)else none)else none)else none)else none)else(some (.inr (.inl ())))):Option ((Int)⊕((Unit)⊕(Bool))))) (0:Int)))) (onS fun(_:Unit)=>(Option.bind (Option.bind ((if y1.2.1=y1.2.1 then((m15 (⟨y1.2.2.2.2.2,y6.2⟩:T66) y7.1 y7.2.1 (subL y6.1 0 y1.2.1)).bind fun r36_0=>some r36_0)else none)) fun(x36:((Int×Int)))=>(if((x36.2 != 0) || (x36.1 != y1.2.2.2.1))=true then(some (.inr (false)))else(some (.inl ())))) (onS fun(_:Unit)=>(Option.bind (Option.bind (some (.inl ())) (onS fun(_:Unit)=>(loopO (fun(s9:Int×(List T72))=>((if(decide (s9.1 < (y6.2.length:Int)))=true then(if(decide (s9.1 < (a2.More.length:Int)))=true then(if(0≤s9.1)then(if(s9.1 < (s9.2.length:Int))then(if(s9.1.toNat < s9.2.length)then(if(0≤s9.1)then(if(s9.1 < (a2.More.length:Int))then(if(0≤s9.1)then(if(s9.1 < (s9.2.length:Int))then(if(s9.1.toNat < s9.2.length)then(some (.inl ((IntKind.wrap .i64 (s9.1+1)),(s9.2.set s9.1.toNat (⟨(s9.2.getD s9.1.toNat default).From,(s9.2.getD s9.1.toNat default).To,(IntKind.wrap .i64 ((s9.2.getD s9.1.toNat default).Cost+(IntKind.wrap .i64 ((a2.More.getD s9.1.toNat default)))))⟩:T72)))))else none)else none)else none)else none)else none)else none)else none)else none)else(some (.inl ((IntKind.wrap .i64 (s9.1+1)),s9.2))))else(some (.inr (.inl s9.2)))):Option ((Int×(List T72))⊕(((List T72))⊕(Bool))))) ((0:Int),y6.2)))) (onS fun(y10:(List T72))=>(Option.bind (Option.bind (m14o0 y1.2.2.2.2.2 y10 y7.1 y7.2.1) fun r=>some r) fun x45=>(Option.bind (Option.bind (m16 (⟨y1.2.2.2.2.2,y10⟩:T66) y7.1 y7.2.1 x45.2.2) fun r=>some r) fun x46=>(some (((x45.1==0)&&(x46.2==0))&&(decide (y1.2.2.2.1≤x46.1)))))))))))))))))):Option (Bool)):=by kernel_rfl
noncomputable abbrev lo4_1 (y6:(List Int)×(List T72)) (a2:T63):(Int×(List T72))→Option ((Int×(List T72))⊕(((List T72))⊕(Bool))):=(fun(s9:Int×(List T72))=>((if(decide (s9.1 < (y6.2.length:Int)))=true then(if(decide (s9.1 < (a2.More.length:Int)))=true then(if(0≤s9.1)then(if(s9.1 < (s9.2.length:Int))then(if(s9.1.toNat < s9.2.length)then(if(0≤s9.1)then(if(s9.1 < (a2.More.length:Int))then(if(0≤s9.1)then(if(s9.1 < (s9.2.length:Int))then(if(s9.1.toNat < s9.2.length)then(some (.inl ((IntKind.wrap .i64 (s9.1+1)),(s9.2.set s9.1.toNat (⟨(s9.2.getD s9.1.toNat default).From,(s9.2.getD s9.1.toNat default).To,(IntKind.wrap .i64 ((s9.2.getD s9.1.toNat default).Cost+(IntKind.wrap .i64 ((a2.More.getD s9.1.toNat default)))))⟩:T72)))))else none)else none)else none)else none)else none)else none)else none)else none)else(some (.inl ((IntKind.wrap .i64 (s9.1+1)),s9.2))))else(some (.inr (.inl s9.2)))):Option ((Int×(List T72))⊕(((List T72))⊕(Bool)))))
noncomputable abbrev lo4_2 (y7:Int×Int×(List Int)) (y1:(List Int)×Nat×(List T49)×Int×(List T69)×Int) (y6:(List Int)×(List T72)):(Int)→Option ((Int)⊕((Unit)⊕(Bool))):=(fun(s8:Int)=>((if(decide (s8 < (y7.2.2.length:Int)))=true then(if(0≤s8)then(if(s8 < (y7.2.2.length:Int))then(if(0≤s8)then(if(s8 < (y1.2.1:Int))then(if(s8.toNat < y1.2.1)then(if((y7.2.2.getD s8.toNat default) != (y6.1.getD s8.toNat default))=true then(some (.inr (.inr (false))))else(some (.inl (IntKind.wrap .i64 (s8+1)))))else none)else none)else none)else none)else none)else(some (.inr (.inl ())))):Option ((Int)⊕((Unit)⊕(Bool)))))
noncomputable abbrev lo4_3 (y3:(List T49)×Int) (a1:List T54) (y1:(List Int)×Nat×(List T49)×Int×(List T69)×Int) (s2:(List Int)×Int×(List T72)):(Int×(List T72))→Option ((Int×(List T72))⊕(((List T72))⊕(((List Int)×Int×(List T72))⊕(((List Int)×(List T72))⊕(Bool))))):=(fun(s4:Int×(List T72))=>((if(decide (s4.1 < y3.2))=true then(if(0≤s4.1)then(if(s4.1 < (y3.1.length:Int))then(Option.bind (Option.bind (m9 a1 (y1.2.2.2.2.1.getD s2.2.1.toNat default).Ref) fun r=>some r) fun x18=>(Option.bind (Option.bind (m9 a1 (y3.1.getD s4.1.toNat default).To) fun r=>some r) fun x19=>(Option.bind (Option.bind (m10 x18.1.Pos x19.1.Pos) fun r=>some r) fun x20=>(if(x20.2 != 0)=true then(some (.inr (.inr (.inr (.inr (false))))))else(Option.bind (((m13 y1.2.2.2.2.1 (y3.1.getD s4.1.toNat default).To).bind fun r23_0=>(if(s4.2.length+1) * 24≤140737488355328 then some r23_0 else none))) fun(x23:(Int))=>(some (.inl ((IntKind.wrap .i64 (s4.1+1)),(s4.2++([(⟨s2.2.1,x23,x20.1⟩:T72)]:List T72))))))))))else none)else none)else(some (.inr (.inl s4.2)))):Option ((Int×(List T72))⊕(((List T72))⊕(((List Int)×Int×(List T72))⊕(((List Int)×(List T72))⊕(Bool)))))))
noncomputable abbrev lo4_4 (y1:(List Int)×Nat×(List T49)×Int×(List T69)×Int) (a0:List T39) (a1:List T54):((List Int)×Int×(List T72))→Option (((List Int)×Int×(List T72))⊕(((List Int)×(List T72))⊕(Bool))):=(fun(s2:(List Int)×Int×(List T72))=>((Option.bind (if(decide (s2.2.1 < (y1.2.2.2.2.1.length:Int)))=true then(some (.inl ()))else(some (.inr (.inr (.inl (s2.1,s2.2.2)))))) (onS fun(_:Unit)=>(Option.bind (Option.bind (if(0≤s2.2.1)then(if(s2.2.1 < (y1.2.2.2.2.1.length:Int))then(if(0≤s2.2.1)then(if(s2.2.1 < (y1.2.1:Int))then(if(s2.2.1.toNat < y1.2.1)then(Option.bind (Option.bind (m8 a0 (y1.2.2.2.2.1.getD s2.2.1.toNat default).Ref) fun r=>some r) fun x12=>(if(x12.2 != 0)=true then(some (.inr (.inr (.inr (.inr (false))))))else(some (.inl (x12.1,(x12.1.length:Int))))))else none)else none)else none)else none)else none) (onS fun(y3:(List T49)×Int)=>(loopO (lo4_3 y3 a1 y1 s2) ((0:Int),s2.2.2)))) (onS fun(y5:(List T72))=>(some (.inl (((subL s2.1 0 y1.2.1).set s2.2.1.toNat (y1.2.2.2.2.1.getD s2.2.1.toNat default).Length),(IntKind.wrap .i64 (s2.2.1+1)),y5))))))):Option (((List Int)×Int×(List T72))⊕(((List Int)×(List T72))⊕(Bool)))))
theorem A4  (a0:List T39) (a1:List T54) (a2:T63):m4 a0 a1 a2=((Option.bind (Option.bind (Option.bind (m12) fun r=>some r) fun x1=>(if(!x1)=true then(some (.inr (false)))else(Option.bind (Option.bind (m6 a0 a1 a2.From a2.To) fun r=>some r) fun x3=>(if(x3.2 != 0)=true then(some (.inr (((x3.1.Labels.length:Int)==(0:Int)))))else(if(0≤(x3.1.Labels.length:Int))then(if((x3.1.Labels.length:Int)=(x3.1.Labels.length:Int))then(if((x3.1.Labels.length:Int) * 8≤140737488355328)then(if((x3.1.Labels.length:Int)≤9223372036854775807)then(some (.inl ((List.replicate (x3.1.Labels.length:Int).toNat (0:Int)),(x3.1.Labels.length:Int).toNat,x3.1.Hops,x3.1.Length,x3.1.Labels,(x3.1.Labels.length:Int))))else none)else none)else none)else none))))) (onS fun(y1:(List Int)×Nat×(List T49)×Int×(List T69)×Int)=>(Option.bind (Option.bind (some (.inl ())) (onS fun(_:Unit)=>(loopO (lo4_4 y1 a0 a1) (y1.1,(0:Int),([]:List T72))))) (onS fun(y6:(List Int)×(List T72))=>(Option.bind (Option.bind (((m13 y1.2.2.2.2.1 a2.From).bind fun r26_0=>((m13 y1.2.2.2.2.1 a2.To).bind fun r26_1=>some (r26_0,r26_1)))) fun(x26:(Int×Int))=>(Option.bind (Option.bind (m14o0 y1.2.2.2.2.2 y6.2 x26.1 x26.2) fun r=>some r) fun x27=>(if((x27.1 != 0) || ((x27.2.1.length:Int) != y1.2.2.2.2.2))=true then(some (.inr (false)))else(some (.inl (x26.1,x26.2,x27.2.1)))))) (onS fun(y7:Int×Int×(List Int))=>(Option.bind (Option.bind (some (.inl ())) (onS fun(_:Unit)=>(loopO (lo4_2 y7 y1 y6) (0:Int)))) (onS fun(_:Unit)=>(Option.bind (Option.bind ((if y1.2.1=y1.2.1 then((m15 (⟨y1.2.2.2.2.2,y6.2⟩:T66) y7.1 y7.2.1 (subL y6.1 0 y1.2.1)).bind fun r36_0=>some r36_0)else none)) fun(x36:((Int×Int)))=>(if((x36.2 != 0) || (x36.1 != y1.2.2.2.1))=true then(some (.inr (false)))else(some (.inl ())))) (onS fun(_:Unit)=>(Option.bind (Option.bind (some (.inl ())) (onS fun(_:Unit)=>(loopO (lo4_1 y6 a2) ((0:Int),y6.2)))) (onS fun(y10:(List T72))=>(Option.bind (Option.bind (m14o0 y1.2.2.2.2.2 y10 y7.1 y7.2.1) fun r=>some r) fun x45=>(Option.bind (Option.bind (m16 (⟨y1.2.2.2.2.2,y10⟩:T66) y7.1 y7.2.1 x45.2.2) fun r=>some r) fun x46=>(some (((x45.1==0)&&(x46.2==0))&&(decide (y1.2.2.2.1≤x46.1)))))))))))))))))):Option (Bool)):=M4 _ _ _
variable {l:List T39} {P:List UInt8→T52} {fr:List UInt8} {D R:List (List UInt8)} {F:List UInt8→T69}
def nat (R:List (List UInt8)) (i:Nat):List UInt8:=R.getD i default
def ixR (R:List (List UInt8)) (r:List UInt8):Int:=findR (fun i=>nat R i==r) R.length
theorem ixR_mem {r:List UInt8} (hr:r∈R):∃ i:Nat,ixR R r=i∧i < R.length∧nat R i=r:=by
 rcases findR_cases (F:=fun i=>nat R i==r) (n:=R.length) with⟨_,h⟩ | ⟨i,h1,h2,h3,_⟩
 ·obtain⟨i,hi,e⟩:=mem_getD hr
  have:=h i hi
  rw[show nat R i=r from e]at this
  simp at this
 ·exact⟨i,h2,h1,by simpa using h3⟩
theorem nat_inj (hn:R.Nodup) {i j:Nat} (hi:i < R.length) (hj:j < R.length) (h:nat R i=nat R j):i=j:=by
 unfold nat at h
 simp only[List.getD_eq_getElem?_getD,List.getElem?_eq_getElem hi,List.getElem?_eq_getElem hj,Option.getD_some]at h
 rcases Nat.lt_trichotomy i j with g | g | g
 ·exact absurd h (List.pairwise_iff_getElem.1 hn i j hi hj g)
 ·exact g
 ·exact absurd h.symm (List.pairwise_iff_getElem.1 hn j i hj hi g)
theorem ixR_at (hn:R.Nodup) {i:Nat} (hi:i < R.length):ixR R (nat R i)=i:=by
 obtain⟨j,h1,h2,h3⟩:=ixR_mem (R:=R) (r:=nat R i) (getD_mem hi)
 rw[h1,nat_inj hn h2 hi h3]
theorem bix_eq (hF:∀ k∈R,(F k).Ref=k) (hn:R.length≤2401) (r:List UInt8):m13 (R.map F) r=some (ixR R r):=by
 rw[A13]
 refine on_l (y:=()) rfl ?_
 have hl:(R.map F).length=R.length:=by simp
 have key:=loop_ex (k:=fun _=>some (-1:Int)) (b:=lo13_1 (R.map F) r) R.length (fun i=>if(nat R i==r)=true then some (i:Int)else none) (fun i hi=>by
  have e:((R.map F).getD i default).Ref=nat R i:=by rw[map_getD hi];exact hF _ (getD_mem hi)
  simp only[exB_ite,exB_some,exB_none]
  simp only[lo13_1,hl,inL hi,decide_true,Int.toNat_natCast,if_true,e,wr1 hi (by omega)]) (by simp only[lo13_1,hl,lt_irr,decide_false,Bool.false_eq_true,if_false])
 refine bind_eq rfl ?_
 simp only[Option.bind_some,onS]
 refine key.trans ?_
 unfold ixR findR
 cases firstR (fun i=>if(nat R i==r)=true then some (i:Int)else none) R.length<;>rfl
noncomputable def egs (l:List T39) (P:List UInt8→T52) (R:List (List UInt8)) (i:Nat):List T72:=(hopsL l (nat R i)).map fun h=>(⟨(i:Int),ixR R h.To,lenP P (nat R i) h.To⟩:T72)
noncomputable def egL (l:List T39) (P:List UInt8→T52) (R:List (List UInt8)):List T72:=(List.range R.length).flatMap (egs l P R)
theorem mem_egL {x:T72}:x∈egL l P R↔∃ i,i < R.length∧∃ h∈hopsL l (nat R i),x=⟨(i:Int),ixR R h.To,lenP P (nat R i) h.To⟩:=by
 unfold egL egs
 simp only[List.mem_flatMap,List.mem_range,List.mem_map]
 constructor
 ·rintro⟨i,hi,h,hh,e⟩;exact⟨i,hi,h,hh,e.symm⟩
 ·rintro⟨i,hi,h,hh,e⟩;exact⟨i,hi,h,hh,e.symm⟩
theorem range_map {β:Type} (R:List (List UInt8)) (f:List UInt8→β):(List.range R.length).map (fun i=>f (nat R i))=R.map f:=by
 apply List.ext_getElem?
 intro i
 simp only[List.getElem?_map]
 by_cases h:i < R.length
 ·simp[List.getElem?_range h,nat,List.getD_eq_getElem?_getD,h]
 ·rw[List.getElem?_eq_none (by simpa using h),List.getElem?_eq_none (by omega)];rfl
theorem hopsA_sum {a:T39} (hn:R.Nodup):(R.map fun r=>(hopsA a r).length).sum≤2 * a.Points.length:=by
 have h1:∀ R:List (List UInt8),(R.map fun r=>(hopsA a r).length).sum≤2 * (R.filter fun r=>decide (0≤ixA a r)).length:=by
  intro R
  induction R with
  | nil=>simp
  | cons r R ih =>
   simp only[List.map_cons,List.sum_cons,List.filter_cons]
   by_cases h:0≤ixA a r
   ·rw[if_pos (decide_eq_true h),List.length_cons]
    have:=hopsA_len a r
    omega
   ·rw[if_neg (by simpa using h)]
    have:hopsA a r=[]:=by unfold hopsA;rw[if_pos (by omega)]
    rw[this,List.length_nil];omega
 have h2:=nodup_le (l:=R.filter fun r=>decide (0≤ixA a r)) (m:=(List.range a.Points.length).map fun i=>rf a i) (hn.filter _) (fun x hx=>by
  have hx:=of_decide_eq_true (List.mem_filter.1 hx).2
  rcases ixA_cases a x with⟨h,_⟩ | ⟨i,_,hi⟩
  ·omega
  ·exact List.mem_map.2 ⟨i,List.mem_range.2 hi.lt,hi.ref⟩)
 have h3:=h1 R
 simp only[List.length_map,List.length_range]at h2
 omega
theorem sum_add {α:Type} (f g:α→Nat):∀ R:List α,(R.map fun r=>f r+g r).sum=(R.map f).sum+(R.map g).sum
 | []=>rfl
 | a :: R=>by
  have:=sum_add f g R
  simp only[List.map_cons,List.sum_cons];omega
theorem egL_len (W:WfL l) (hn:R.Nodup):(egL l P R).length≤4800:=by
 have h60:=W.few
 have e:(egL l P R).length=(R.map fun r=>(hopsL l r).length).sum:=by
  unfold egL
  rw[List.length_flatMap,← range_map R (fun r=>(hopsL l r).length)]
  congr 1
  apply List.map_congr_left
  intro i _
  simp[egs]
 rw[e]
 have key:∀ m,m≤l.length→(R.map fun r=>((List.range m).flatMap fun k=>hopsA (l.getD k default) r).length).sum≤m * 80:=by
  intro m
  induction m with
  | zero =>
   intro _
   have:∀ R:List (List UInt8),(R.map fun r=>((List.range 0).flatMap fun k=>hopsA (l.getD k default) r).length).sum=0:=fun R=>by
    induction R with
    | nil=>rfl
    | cons a R ih=>rw[List.map_cons,List.sum_cons,ih];rfl
   rw[this];omega
  | succ m ih =>
   intro hm
   have e2:(R.map fun r=>((List.range (m+1)).flatMap fun k=>hopsA (l.getD k default) r).length)=R.map fun r=>((List.range m).flatMap fun k=>hopsA (l.getD k default) r).length+(hopsA (l.getD m default) r).length:=by
    apply List.map_congr_left
    intro r _
    rw[flatMap_app,List.length_append]
   rw[e2,sum_add]
   have:=ih (by omega)
   have h1:=hopsA_sum (R:=R) (a:=l.getD m default) hn
   have h2:=(W.all m (by omega)).few
   omega
 have:=key l.length (Nat.le_refl _)
 unfold hopsL
 omega
theorem R_len {fs:List T54} {u v:List UInt8} (A:Atl l fs u v) (hn:R.Nodup) (hk:∀ k∈R,k=u∨k∈refsL l):R.length≤400:=by
 have h4:=A.few
 have:=nodup_le (l:=R) (m:=(List.range fs.length).map fun i=>refF (fx fs i)) hn (fun x hx=>by
  have:=at_here A (hk x hx)
  unfold atH at this
  obtain⟨i,hi,e⟩:=anyR_iff.1 this
  exact List.mem_map.2 ⟨i,List.mem_range.2 hi,by simpa using e⟩)
 simp only[List.length_map,List.length_range]at this
 omega
structure GrL (l:List T39) (P:List UInt8→T52) (fr:List UInt8) (D R:List (List UInt8)) (F:List UInt8→T69):Prop where
 W:WfL l
 L:Lab l P fr D F
 nd:R.Nodup
 mem:∀ x,x∈R↔x∈D
 few:R.length≤400
theorem GrL.ok (H:GrL l P fr D R F):GOk R.length (egL l P R):=by
 have h1:fr∈R:=(H.mem fr).2 H.L.st
 have h2:=List.length_pos_of_mem h1
 have h3:=H.few
 have h4:=egL_len (P:=P) H.W H.nd
 refine⟨by omega,by omega,by omega,fun x hx=>?_⟩
 obtain⟨i,hi,h,hh,rfl⟩:=mem_egL.1 hx
 have hD:=(H.L.fe _ ((H.mem _).1 (getD_mem hi)) h hh).1
 obtain⟨j,j1,j2,_⟩:=ixR_mem ((H.mem _).2 hD)
 have hr:=lenP_range P (nat R i) h.To
 simp only[j1]
 omega
theorem GrL.at_ (H:GrL l P fr D R F) {i:Nat} (hi:i < R.length):nat R i∈D:=(H.mem _).1 (getD_mem hi)
theorem GrL.pot (H:GrL l P fr D R F) {x:T72} (hx:x∈egL l P R):(F (nat R x.To.toNat)).Length≤(F (nat R x.From.toNat)).Length+x.Cost:=by
 obtain⟨i,hi,h,hh,rfl⟩:=mem_egL.1 hx
 obtain⟨hD,hl⟩:=H.L.fe _ (H.at_ hi) h hh
 obtain⟨j,j1,j2,j3⟩:=ixR_mem ((H.mem _).2 hD)
 simp only[j1,Int.toNat_natCast,j3]
 exact hl
theorem GrL.cost (H:GrL l P fr D R F) {f:Nat} (hf:f < R.length) (ef:nat R f=fr) {s:CL} (S:Sv R.length (egL l P R) f s) {k:Nat} (hk:k < R.length):0≤(lb s k).cost∧(lb s k).cost=(F (nat R k)).Length:=by
 have up:∀ n:Nat,∀ k,k < R.length→(F (nat R k)).Hops=n→0≤(lb s k).cost∧(lb s k).cost≤(F (nat R k)).Length:=by
  intro n
  induction n with
  | zero =>
   intro k hk h0
   rcases H.L.tight _ (H.at_ hk) with⟨h,h1,_⟩ | ⟨u,hu,_,_,h⟩
   ·have:k=f:=nat_inj H.nd hk hf (h.trans ef.symm)
    subst this
    have:=S.start.2.1
    omega
   ·have:=(H.L.good u hu).2.1;omega
  | succ n ih =>
   intro k hk h0
   rcases H.L.tight _ (H.at_ hk) with⟨_,_,h⟩ | ⟨u,hu,⟨g,hg,eg⟩,h1,h2⟩
   ·omega
   ·obtain⟨i,_,hi,rfl⟩:=ixR_mem ((H.mem u).2 hu)
    obtain⟨i1,i2⟩:=ih i hi (by omega)
    have hx:(⟨(i:Int),ixR R g.To,lenP P (nat R i) g.To⟩:T72)∈egL l P R:=mem_egL.2 ⟨i,hi,g,hg,rfl⟩
    have:=S.fe _ hx (by simpa using i1)
    rw[eg,ixR_at H.nd hk]at this
    simp only[Int.toNat_natCast]at this
    omega
 have down:∀ n:Nat,∀ k,k < R.length→0≤(lb s k).cost→(lb s k).edges=n→(F (nat R k)).Length≤(lb s k).cost:=by
  intro n
  induction n with
  | zero =>
   intro k hk h0 he
   rcases S.tight k hk h0 with⟨rfl,h1,_⟩ | ⟨x,hx,_,h2,_,h4⟩
   ·rw[ef,H.L.zero,h1];exact Int.le_refl _
   ·obtain⟨g1,g2,_⟩:=H.ok.e x hx
    have:=(S.good x.From.toNat (by omega) h2).1
    omega
  | succ n ih =>
   intro k hk h0 he
   rcases S.tight k hk h0 with⟨rfl,h1,_⟩ | ⟨x,hx,h1,h2,h3,h4⟩
   ·rw[ef,H.L.zero,h1];exact Int.le_refl _
   ·obtain⟨g1,g2,_⟩:=H.ok.e x hx
    have a:=ih x.From.toNat (by omega) h2 (by omega)
    have b:=H.pot hx
    rw[h1,Int.toNat_natCast]at b
    omega
 have hg:=(H.L.good _ (H.at_ hk)).2.1
 obtain⟨u1,u2⟩:=up (F (nat R k)).Hops.toNat k hk (by omega)
 have he:=(S.good k hk u1).1
 have:=down (lb s k).edges.toNat k hk u1 (by omega)
 exact⟨u1,by omega⟩
end Go.Av.Air
set_option maxRecDepth 100000
namespace Go.Av.Air
variable {l:List T39} {fr:List UInt8} {D R:List (List UInt8)} {F:List UInt8→T69}
abbrev YB:=(List Int)×Nat×(List T49)×Int×(List T69)×Int
noncomputable def bndL (R:List (List UInt8)) (F:List UInt8→T69) (i:Nat):List Int:=(List.range R.length).map fun k=>if k < i then(F (nat R k)).Length else 0
theorem bnd_len (i:Nat):(bndL R F i).length=R.length:=by simp[bndL]
theorem bnd_at {i k:Nat} (hk:k < R.length):(bndL R F i).getD k default=if k < i then(F (nat R k)).Length else 0:=by
 simp[bndL,List.getD_eq_getElem?_getD,hk]
theorem bnd_0:List.replicate R.length (0:Int)=bndL R F 0:=by
 apply List.ext_getElem
 ·simp[bndL]
 ·intro k h1 h2;simp[bndL]
theorem bnd_step {i:Nat} (hi:i < R.length):(bndL R F i).set i (F (nat R i)).Length=bndL R F (i+1):=by
 rw[list_eq_iff (by rw[List.length_set,bnd_len,bnd_len])]
 intro k hk
 rw[List.length_set,bnd_len]at hk
 rw[getD_setL (by rw[bnd_len];exact hi),bnd_at hk,bnd_at hk]
 by_cases e:k=i
 ·rw[if_pos e,if_pos (by omega),e]
 ·rw[if_neg e]
  by_cases h:k < i
  ·rw[if_pos h,if_pos (by omega)]
  ·rw[if_neg h,if_neg (by omega)]
theorem take_succ {α:Type} [Inhabited α] {l:List α} {j:Nat} (hj:j < l.length):l.take (j+1)=l.take j++[l.getD j default]:=by
 rw[List.take_add_one,List.getElem?_eq_getElem hj]
 simp[List.getD_eq_getElem?_getD,List.getElem?_eq_getElem hj]
section
variable {fs:List T54} {u v:List UInt8}
theorem eg_inner (H:OkD l fs) (A:Atl l fs u v) (N:Nm l u) (G:GrL l (atF fs fs.length) u D R F) {y1:YB} (q5:y1.2.2.2.2.1=R.map F) {i:Nat} (hi:i < R.length) {acc:List T72} (ha:acc.length≤100000) (b:List Int) :
  loopO (lo4_3 (hopsL l (nat R i),((hopsL l (nat R i)).length:Int)) fs y1 (b,(i:Int),acc)) (0,acc)=some (.inl (acc++egs l (atF fs fs.length) R i)):=by
 have hlen:=hopsL_len N.wf (nat R i)
 have h4:=A.few
 have h24:=G.few
 have eh:(hopsL l (nat R i)).length=(egs l (atF fs fs.length) R i).length:=by simp[egs]
 have iD:=G.at_ hi
 have eL:((R.map F).getD i default).Ref=nat R i:=by rw[map_getD hi];exact(G.L.good _ iD).1
 have hF:∀ k∈R,(F k).Ref=k:=fun k hk=>(G.L.good k ((G.mem k).1 hk)).1
 suffices key:loopO (lo4_3 (hopsL l (nat R i),((hopsL l (nat R i)).length:Int)) fs y1 (b,(i:Int),acc)) (((0:Nat):Int),acc++(egs l (atF fs fs.length) R i).take 0)=some (.inl (acc++egs l (atF fs fs.length) R i)) by
  rw[List.take_zero,List.append_nil]at key
  exact key
 refine loop_st (hopsL l (nat R i)).length (fun j=>(((j:Nat):Int),acc++(egs l (atF fs fs.length) R i).take j)) (Sum.inl (acc++egs l (atF fs fs.length) R i)) (fun j hj=>?_) ?_
 ·obtain⟨h,hh⟩:∃ h,(hopsL l (nat R i)).getD j default=h:=⟨_,rfl⟩
  have hm:h∈hopsL l (nat R i):=by rw[← hh];exact getD_mem hj
  have tD:=(G.L.fe _ iD h hm).1
  obtain⟨f,f1,f2⟩:=find_eq H.f h4 (at_here A (G.L.key _ iD))
  obtain⟨g,g1,g2⟩:=find_eq H.f h4 (at_here A (G.L.key _ tD))
  have d0:=hop_dist A hm
  have hd:m10 f.Pos g.Pos=some (lenP (atF fs fs.length) (nat R i) h.To,0):=by
   rw[f2,g2,dist_eq,d0];rfl
  have w1:IntKind.wrap .i64 ((j:Int)+1)=((j+1:Nat):Int):=by rw[wr1 hj (by omega)];omega
  have tl:((egs l (atF fs fs.length) R i).take j).length≤j:=List.length_take_le _ _
  have p24:((acc++(egs l (atF fs fs.length) R i).take j).length+1) * 24≤140737488355328:=by rw[List.length_append];omega
  have ee:(egs l (atF fs fs.length) R i).getD j default=⟨(i:Int),ixR R h.To,lenP (atF fs fs.length) (nat R i) h.To⟩:=by
   unfold egs
   rw[List.getD_eq_getElem?_getD,List.getElem?_map,List.getElem?_eq_getElem hj]
   have:(hopsL l (nat R i))[j]=h:=by rw[← hh];simp[List.getD_eq_getElem?_getD,List.getElem?_eq_getElem hj]
   rw[this];rfl
  simp only[lo4_3,inL hj,decide_true,if_true,Int.toNat_natCast,hh,q5,eL,f1,g1,hd,Option.bind_some,bne_self_eq_false,Bool.false_eq_true,if_false,bix_eq hF (show R.length≤2401 by omega),p24,w1,take_succ (show j < (egs l (atF fs fs.length) R i).length by omega),ee,List.append_assoc]
 ·simp only[lo4_3,lt_irr,decide_false,Bool.false_eq_true,if_false]
  rw[eh,List.take_length]
theorem eg_loop (H:OkD l fs) (A:Atl l fs u v) (hc:m24 l=some 0) (N:Nm l u) (G:GrL l (atF fs fs.length) u D R F) {y1:YB} (q1:y1.1=List.replicate R.length 0) (q2:y1.2.1=R.length) (q5:y1.2.2.2.2.1=R.map F) :
  loopO (lo4_4 y1 l fs) (y1.1,(0:Int),[])=some (.inl (bndL R F R.length,egL l (atF fs fs.length) R)):=by
 have h24:=G.few
 have hml:(R.map F).length=R.length:=by simp
 rw[q1,bnd_0 (F:=F)]
 refine loop_coll R.length (fun i acc=>(bndL R F i,(i:Int),acc)) (egs l (atF fs fs.length) R) (fun acc=>Sum.inl (bndL R F R.length,acc)) (fun i hi=>?_) ?_
 ·have eL:(R.map F).getD i default=F (nat R i):=map_getD hi
  have eR:(F (nat R i)).Ref=nat R i:=(G.L.good _ (G.at_ hi)).1
  have hl:=flatMap_len (g:=egs l (atF fs fs.length) R) (m:=120) (fun i=>by unfold egs;rw[List.length_map];exact hopsL_len N.wf _) i
  have e1:=eg_inner H A N G q5 hi (acc:=(List.range i).flatMap (egs l (atF fs fs.length) R)) (by omega) (bndL R F i)
  have hs:subL (bndL R F i) 0 R.length=bndL R F i:=subL_all (bnd_len i)
  have w1:IntKind.wrap .i64 ((i:Int)+1)=((i+1:Nat):Int):=by rw[wr1 hi (by omega)];omega
  refine on_l (y:=()) (by simp only[q5,hml,inL hi,decide_true,if_true]) (on_l (on_l (y:=(hopsL l (nat R i),((hopsL l (nat R i)).length:Int))) ?_ e1) ?_)
  ·simp only[q5,q2,hml,inL hi,hi,Int.toNat_natCast,if_true,eL,eR,next_eq N.wf hc,Option.bind_some,bne_self_eq_false,Bool.false_eq_true,if_false]
  ·simp only[q5,q2,Int.toNat_natCast,hs,eL,bnd_step hi,w1]
 ·simp only[lo4_4,q5,hml,lt_irr,decide_false,Bool.false_eq_true,if_false,Option.bind_some,onS]
structure Up (es es':List T72) (i:Nat):Prop where
 len:es'.length=es.length
 low:∀ j,j < es.length→(es'.getD j default).From=(es.getD j default).From∧(es'.getD j default).To=(es.getD j default).To∧(es.getD j default).Cost≤(es'.getD j default).Cost∧(es'.getD j default).Cost≤(es.getD j default).Cost+4294967295
 rest:∀ j,i≤j→j < es.length→es'.getD j default=es.getD j default
theorem up_loop {es:List T72} (h8:es.length≤8192) (hE:∀ x∈es,0≤x.Cost∧x.Cost≤64800000) (b:List Int) {x:T63} (hx:∀ c∈x.More,0≤c∧c≤4294967295) :
  ∃ z,loopO (lo4_1 (b,es) x) ((0:Int),es)=some z∧∃ es',z=.inl es'∧∃ i,Up es es' i:=by
 refine loop_meas (b:=lo4_1 (b,es) x) (fun q=>∃ i:Nat,q.1=i∧i≤es.length∧Up es q.2 i) (fun q=>(es.length - q.1).toNat) (fun z=>∃ es',z=.inl es'∧∃ i,Up es es' i) (fun q hq=>?_) _ ⟨0,rfl,by omega,rfl,fun j hj=>⟨rfl,rfl,Int.le_refl _,by dsimp only;omega⟩,fun _ _ _=>rfl⟩
 obtain⟨q1,es'⟩:=q
 obtain⟨i,hqi,hi,U⟩:=hq
 simp only at hqi U
 subst hqi
 have hl:=U.len
 by_cases hlt:i < es.length
 ·by_cases hm:i < x.More.length
  ·obtain⟨c,hc⟩:∃ c,x.More.getD i default=c:=⟨_,rfl⟩
   obtain⟨c1,c2⟩:=hx c (by rw[← hc];exact getD_mem hm)
   obtain⟨e,he⟩:∃ e,es.getD i default=e:=⟨_,rfl⟩
   obtain⟨e1,e2⟩:=hE e (by rw[← he];exact getD_mem hlt)
   have er:es'.getD i default=e:=by rw[U.rest i (Nat.le_refl _) hlt,he]
   have w1:IntKind.wrap .i64 ((i:Int)+1)=((i+1:Nat):Int):=by rw[wr1 hlt (by omega)];omega
   have w2:IntKind.wrap .i64 c=c:=w64 (by omega) (by omega)
   have w3:IntKind.wrap .i64 (e.Cost+c)=e.Cost+c:=w64 (by omega) (by omega)
   refine .inl ⟨(((i+1:Nat):Int),es'.set i ⟨e.From,e.To,e.Cost+c⟩),?_,⟨i+1,rfl,hlt,by rw[List.length_set];exact hl,fun j hj=>?_,fun j h1 h2=>?_⟩,by simp only;omega⟩
   ·simp only[lo4_1,hl,inL hlt,inL hm,hlt,decide_true,if_true,Int.toNat_natCast,er,hc,w1,w2,w3]
   ·rw[getD_setL (by omega)]
    by_cases e:j=i
    ·rw[if_pos e,e,he];exact⟨rfl,rfl,by dsimp only;omega,by dsimp only;omega⟩
    ·rw[if_neg e];exact U.low j hj
   ·rw[getD_setL (by omega),if_neg (by omega)];exact U.rest j (by omega) h2
  ·have w1:IntKind.wrap .i64 ((i:Int)+1)=((i+1:Nat):Int):=by rw[wr1 hlt (by omega)];omega
   refine .inl ⟨(((i+1:Nat):Int),es'),?_,⟨i+1,rfl,hlt,hl,U.low,fun j h1 h2=>U.rest j (by omega) h2⟩,by simp only;omega⟩
   have d:decide ((i:Int) < (x.More.length:Int))=false:=decide_eq_false (by omega)
   simp only[lo4_1,hl,inL hlt,decide_true,if_true,d,Bool.false_eq_true,if_false,w1]
 ·obtain rfl:i=es.length:=by omega
  refine .inr ⟨.inl es',?_,es',rfl,_,U⟩
  simp only[lo4_1,lt_irr,decide_false,Bool.false_eq_true,if_false]
theorem Up.ok {n:Nat} {es es':List T72} {i:Nat} (U:Up es es' i) (G:GOk n es) (hE:∀ x∈es,0≤x.Cost∧x.Cost≤64800000):GOk n es':=by
 have h3:=G.few
 have hl:=U.len
 refine⟨G.n1,G.n2,by omega,fun x hx=>?_⟩
 obtain⟨j,hj,rfl⟩:=mem_getD hx
 obtain⟨u1,u2,u3,u4⟩:=U.low j (by omega)
 obtain⟨g1,g2,g3,g4,_⟩:=G.e _ (getD_mem (l:=es) (show j < es.length by omega))
 obtain⟨e1,e2⟩:=hE _ (getD_mem (l:=es) (show j < es.length by omega))
 rw[u1,u2]
 exact⟨g1,g2,g3,g4,by omega,by omega⟩
theorem graph_true:m12=some true:=by kernel_rfl
theorem bd_true (H:OkD l fs) {x:T63} (hu:x.From.length≤maxLen) (hv:x.To.length≤maxLen) (hx:∀ c∈x.More,0≤c∧c≤4294967295):m4 l fs x=some true:=by
 rw[A4,graph_true]
 rcases shortest_cases H hu hv with⟨e,he,e0,_⟩ | ⟨ho,A,N,D,F,R,L,r1,r2,r3,r4,h⟩
 ·have:(e != 0)=true:=by simpa using e0
  rw[he]
  simp only[Option.bind_some,Bool.not_true,Bool.false_eq_true,if_false,this,if_true,onS]
  rfl
 rcases h with⟨_,he⟩ | ⟨vD,hs,W,hsl,he⟩
 ·rw[he]
  rfl
 have hc:=check_of_open H ho
 have fw:R.length≤400:=R_len A r1 (fun k hk=>L.key k ((r3 k).1 hk))
 have G:GrL l (atF fs fs.length) x.From D R F:=⟨A.wf,L,r1,r3,fw⟩
 have GO:=G.ok
 have hF:∀ k∈R,(F k).Ref=k:=fun k hk=>(L.good k ((r3 k).1 hk)).1
 obtain⟨f,f1,f2,f3⟩:=ixR_mem ((r3 _).2 L.st)
 obtain⟨t,t1,t2,t3⟩:=ixR_mem ((r3 _).2 vD)
 obtain⟨y1,hy1⟩:∃ y:YB,y=(List.replicate R.length (0:Int),R.length,hs,(F x.To).Length,R.map F,(R.length:Int)):=⟨_,rfl⟩
 have q1:y1.1=List.replicate R.length (0:Int):=by rw[hy1]
 have q2:y1.2.1=R.length:=by rw[hy1]
 have q4:y1.2.2.2.1=(F x.To).Length:=by rw[hy1]
 have q5:y1.2.2.2.2.1=R.map F:=by rw[hy1]
 have q6:y1.2.2.2.2.2=(R.length:Int):=by rw[hy1]
 have hE:∀ e∈egL l (atF fs fs.length) R,0≤e.Cost∧e.Cost≤64800000:=fun e he=>by
  obtain⟨i,_,h,_,rfl⟩:=mem_egL.1 he
  exact lenP_range _ _ _
 have lens:∀ i,i < R.length→0≤(F (nat R i)).Length∧(F (nat R i)).Length < 562949953421312:=fun i hi=>by
  obtain⟨_,g2,g3,g4,g5⟩:=L.good _ (G.at_ hi)
  omega
 have e1:=eg_loop H A hc N G q1 q2 q5
 obtain⟨s,S,hs1⟩:=solve_eq GO f2 t2
 have cs:=fun k hk=>G.cost f2 f3 S (k:=k) hk
 obtain⟨y,r,hr,Wr,e2⟩:=hs1 (cs t t2).1
 have hpl:(potL s y).length=R.length:=by rw[potL_len];exact S.len
 have bl:(bndL R F R.length).length=R.length:=bnd_len _
 have bat:∀ k,k < R.length→(bndL R F R.length).getD k default=(F (nat R k)).Length:=fun k hk=>by rw[bnd_at hk,if_pos hk]
 have pat:∀ k,k < R.length→(potL s y).getD k default=(bndL R F R.length).getD k default:=fun k hk=>by
  rw[potL_at (by rw[S.len];exact hk) (cs k hk).1,(cs k hk).2,bat k hk]
 have z0:(F x.From).Length=0:=by rw[L.zero]
 have e3:=bound_eq GO f2 t2 bl (fun i hi=>by rw[bat i hi];exact lens i hi) (fun e he=>by
  obtain⟨g1,g2,g3,g4,_⟩:=GO.e e he
  rw[bat _ (by omega),bat _ (by omega)]
  have:=G.pot he
  omega)
 rw[bat t t2,bat f f2,f3,t3,z0,Int.sub_zero]at e3
 obtain⟨z,e4,es',rfl,i,U⟩:=up_loop GO.few hE (bndL R F R.length) hx
 have GO':=U.ok GO hE
 obtain⟨s',S',hs2⟩:=solve_eq GO' f2 t2
 have ul:=U.len
 have reach:0≤(lb s' t).cost:=by
  have:=gwalk_reach (es:=egL l (atF fs fs.length) R) (p:=fun u=>0≤(lb s' u.toNat).cost) (fun j hj h=>by
   obtain⟨u1,u2,_⟩:=U.low j hj
   have k:=S'.fe _ (getD_mem (l:=es') (show j < es'.length by omega)) (by rw[u1];exact h)
   rw[u2]at k
   exact k.1) Wr (by simp only[Int.toNat_natCast];rw[S'.start.2.1];exact Int.le_refl _)
  simpa using this
 obtain⟨y',r',hr',Wr',e5⟩:=hs2 reach
 have e6:=cost_eq GO' f2 t2 hr' Wr'
 have low:=gwalk_pot (es:=es') (p:=fun u=>(F (nat R u.toNat)).Length) (fun e he=>by
  obtain⟨j,hj,rfl⟩:=mem_getD he
  obtain⟨u1,u2,u3,_⟩:=U.low j (by omega)
  have:=G.pot (getD_mem (l:=egL l (atF fs fs.length) R) (show j < (egL l (atF fs fs.length) R).length by omega))
  rw[u1,u2]
  omega) Wr'
 simp only[Int.toNat_natCast,f3,t3,z0]at low
 have n1:((R.length:Nat):Int) * 8≤140737488355328:=by omega
 have n2:((R.length:Nat):Int)≤9223372036854775807:=by omega
 have n0:((0:Int)≤((R.length:Nat):Int))=True:=eq_true (by omega)
 refine on_l (y:=y1) ?_ (on_l (y:=(bndL R F R.length,egL l (atF fs fs.length) R)) (on_l (y:=()) rfl e1) (on_l (y:=((f:Int),(t:Int),potL s y)) ?_ ?_))
 ·rw[he]
  simp only[Option.bind_some,Bool.not_true,Bool.false_eq_true,if_false,bne_self_eq_false,List.length_map,n0,n1,n2,if_true,Int.toNat_natCast,hy1]
 ·have ef:=bix_eq hF (by omega) x.From
  have et:=bix_eq hF (by omega) x.To
  rw[f1]at ef
  rw[t1]at et
  simp only[q5,q6,ef,et,Option.bind_some,e2,hpl,bne_self_eq_false,Bool.or_self,Bool.false_eq_true,if_false]
 refine loop_pass R.length (fun j hj=>?_) ?_ ?_
 ·have pj:=pat j hj
  simp only[lo4_2,hpl,q2,inL hj,hj,decide_true,if_true,Int.toNat_natCast,pj,bne_self_eq_false,Bool.false_eq_true,if_false,wr1 hj (by omega)]
 ·simp only[lo4_2,hpl,lt_irr,decide_false,Bool.false_eq_true,if_false]
 have hsub:subL (bndL R F R.length) 0 R.length=bndL R F R.length:=subL_all bl
 refine on_l (y:=()) ?_ (on_l (y:=es') (on_l (y:=()) rfl e4) ?_)
 ·simp only[q2,q4,q6,hsub,if_true,e3,Option.bind_some,bne_self_eq_false,Bool.or_self,Bool.false_eq_true,if_false]
 ·have d:decide ((F x.To).Length≤(lb s' t).cost)=true:=decide_eq_true (by omega)
  simp only[q4,q6,e5,e6,Option.bind_some,beq_self_eq_true,d,Bool.and_self]
theorem plainB {l:List T39} (h1:∀ a∈l,ok39 a) {fs:List T54} (h2:∀ f∈fs,okW f) {x:T63} (h3:ok63 x):m4 l fs x=some true :=
 bd_true (okD_of h1 h2) h3.1 h3.2.1 fun c hc=>by
  have:=h3.2.2.2 c hc
  simp only[Lit.wf,Bool.and_eq_true,decide_eq_true_eq]at this
  exact⟨this.1,this.2⟩
end
end Go.Av.Air
namespace Go.Av
open Go.Proofs
theorem plain4 {l:List T39} (b0:l.length≤maxLen∧∀ a∈l,ok39 a) {fs:List T54} (b1:fs.length≤maxLen∧fs.length * Try.prog.bytesOf 54≤reachBytes∧∀ f∈fs,Air.okW f) {x:T63} (b2:ok63 x):m4 l fs x=some true:=Air.plainB b0.2 b1.2.2 b2
end Go.Av
