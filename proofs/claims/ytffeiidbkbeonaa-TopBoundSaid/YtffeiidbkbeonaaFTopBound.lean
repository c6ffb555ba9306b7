/-
  TopBound: called with any input, the function answers true, and its arguments read as they did before; no condition.
-/
import Derived.Test.YtffeiidbkbeonaaPart6
import Derived.Test.YtffeiidbkbeonaaRows
import Derived.Test.YtffeiidbkbeonaaChecked
import Derived.WalkKit
import Derived.ProofKit
import Derived.OpenShut
import Derived.ShutString
import Derived.ChangeOld
import Derived.Below
set_option linter.unusedVariables false
set_option linter.unusedSimpArgs false
namespace Go.Proofs.Ytffeiidbkbeonaa.topBound
open Go.ChangeShapes Go.WideShapes Go.ChangeAt Go.RowKit Go.Base Go.Av
theorem own:ownKnob Try.prog.godebug=none:=by kernel_rfl
theorem laidOut:laidOutB Try.prog=true:=by kernel_rfl
set_option maxRecDepth 100000 in
theorem lifted (os:Os) (started:os.Started) (H:Type) (enc:TypeId×Value→H) :
  ReturnsInHanded {} Try.checked os 4 .any (Rows.topBoundSpec.pre6 enc Try.prog Try.f4 Rows.topBoundRow.domain false) (Rows.topBoundSpec.post enc Try.prog Try.f4 false true false false):=by
 refine handed_light (C:=Try.checked) own started (by kernel_rfl) Try.func4
  (ChangeSpec.witness6 (enc:=enc) (C:=Try.checked) false ⟨#[],#[.slice none 0 0,.slice none 0 0,.agg #[.string ⟨#[]⟩,.string ⟨#[]⟩,.slice none 0 0]],[]⟩ 8 (by kernel_rfl) (by kernel_rfl) (by kernel_rfl) (by kernel_rfl)) ?_
 intro W base args ds gs before hval0 hW hwt
 have hval:∀ (j:Nat) t v,Try.f4.params[j]?=some t→args[j]?=some v→Value.okWide Try.prog W .any base t v:=hval0
 have hW':=hW
 obtain⟨p,q,hA0,hV,rfl,hfz,hnd⟩:=hW
 have hA:DataW.TrodAll enc Try.prog W 0 (fun _=>true) true Try.f4.params.toList args.toList ds p:=hA0
 rw[Try.params4]at hA hval
 obtain⟨v0,vs0,d0,ds0,p0,q0,hargs,rfl,rfl,h0,r0⟩:=trodAll_cons hA
 obtain⟨v1,vs1,d1,ds1,p1,q1,rfl,rfl,rfl,h1,r1⟩:=trodAll_cons r0
 obtain⟨v2,vs2,d2,ds2,p2,q2,rfl,rfl,rfl,h2,r2⟩:=trodAll_cons r1
 obtain⟨rfl,rfl,rfl⟩:=trodAll_nil r2
 obtain rfl:args=#[v0,v1,v2]:=by cases args;simp_all
 obtain⟨rfl,rfl⟩:=trodVars_none hV
 have k0:=h0
 have lt0:∀ x∈p0,x.block < W.heap.size:=by obtain⟨m,hm⟩:=k0;exact DataW.trod_lt m _ _ _ hm
 have k1:=h1
 have lt1:∀ x∈p1,x.block < W.heap.size:=by obtain⟨m,hm⟩:=k1;exact DataW.trod_lt m _ _ _ hm
 have k2:=h2
 have lt2:∀ x∈p2,x.block < W.heap.size:=by obtain⟨m,hm⟩:=k2;exact DataW.trod_lt m _ _ _ hm
 clear hA0 hval0
 have lw1:Light Try.prog 23 d1:=light_each hwt 1 23 d1 (by kernel_rfl) rfl
 have c0:v0.cells=#[v0]:=okWide_slice Try.underlying22 (hval 0 22 v0 rfl rfl)
 obtain⟨fuel0,hf0⟩:=h0
 rw[c0]at hf0
 obtain⟨x0,e0,b0⟩:=(opens_slice (sz:=2) (e:=fun a=>[(.str a.Name),(eSl 4 e45 a.Points)]) (en:=e39) (ok:=fun a=>ok39 a) Try.underlying22 (by kernel_rfl) (by decide) op39 (fun _=>rfl) (fun _=>rfl) (fun _=>.inl rfl)) H enc fuel0 _ _ hf0
 have c1:v1.cells=#[v1]:=okWide_slice Try.underlying23 (hval 1 23 v1 rfl rfl)
 obtain⟨fuel1,hf1⟩:=h1
 rw[c1]at hf1
 obtain⟨x1,e1,b1⟩:=(opensW_slice (sz:=7) (e:=fun a=>[(.str a.Ident),(.str a.Region),(.int .u8 a.Kind),(dI a.Pos.Lat),(dI a.Pos.Lon),(dI a.Elev),(dI a.Range)]) (en:=e54) (ok:=fun a=>Air.okW a) Try.underlying23 (by kernel_rfl) (by decide) Air.opW (fun _=>rfl) (fun _=>rfl) (fun _=>.inl rfl)) H enc fuel1 _ _ hf1 lw1
 obtain⟨cs2,rfl,sz2⟩:=okWide_struct Try.underlying63 (hval 2 63 v2 rfl rfl)
 obtain⟨fuel2,hf2⟩:=h2
 obtain⟨x2,e2,b2⟩:=op63 H enc fuel2 _ _ hf2
 refine(law_call (p4 (plain4 b0 b1 b2)) (args:=#[_,_,_]) (repL_cons (rep_one e0) (repL_cons (rep_one e1) (repL_cons (rep_agg e2) repL_nil)))).mono fun e W' ⟨he,bel⟩=>?_
 subst he
 exact⟨_,rfl,_,_,_,[],_,[],hW',trodAll_mk1 (shut_bool Try.underlying4 _),(trodAll_cons_mk (Below.trod laidOut (by kernel_rfl) (of_decide_eq_true (by kernel_rfl)) k0 bel lt0) (trodAll_cons_mk (Below.trod laidOut (by kernel_rfl) (of_decide_eq_true (by kernel_rfl)) k1 bel lt1) (trodAll_cons_mk (Below.trod laidOut (by kernel_rfl) (of_decide_eq_true (by kernel_rfl)) k2 bel lt2) trodAll_mk0))),rfl,bel.frame _,fun h=>by cases h⟩
set_option maxRecDepth 100000 in
theorem j1:Try.prog.inPlace 4=Rows.topBoundRow.inPlace:=by kernel_rfl
set_option maxRecDepth 100000 in
theorem j2:Try.prog.unfollowed 4=Rows.topBoundRow.unfollowed:=by kernel_rfl
set_option maxRecDepth 100000 in
theorem j3:Try.prog.recurses 4=Rows.topBoundRow.recurses:=by kernel_rfl
set_option maxRecDepth 100000 in
theorem j4:Try.prog.varsNamed 4=Rows.topBoundRow.named:=by kernel_rfl
set_option maxRecDepth 100000 in
theorem j5:mapsRowed Try.prog=true:=by kernel_rfl
set_option maxRecDepth 100000 in
theorem closed:joinedFacts Try.prog 4 Try.f4 Rows.topBoundSpec Rows.topBoundRow=true:=by
 unfold joinedFacts
 rw[j1,j2,j3,j4,j5,laidOut]
 show _=_
 kernel_rfl
theorem over:Rows.topBoundRow.holds Try.pinned (OpenSpec.ofChange Rows.topBoundSpec) :=
 OpenClaim.holds_of_wide 4 Try.f4 rfl rfl rfl rfl rfl rfl rfl ⟨rfl,rfl,rfl,rfl,rfl⟩ rfl rfl rfl rfl rfl (by kernel_rfl) Try.func4 closed
  (of_decide_eq_true (by kernel_rfl)) (by unfold Func.isWrapper;first | (rw[if_pos (by decide +kernel)];kernel_rfl) | (rw[if_neg (by decide +kernel)];exact⟨rfl,rfl⟩))
  (fun os started H enc _=>lifted os started H enc)
theorem proved:Rows.TopBoundSaid:=over
end Go.Proofs.Ytffeiidbkbeonaa.topBound

