/-
  TopFlyable: called with any input, the function answers true, and its arguments read as they did before; no condition.
-/
import Derived.Test.YtiolffcanlflbaaGreatPart7
import Derived.Test.YtiolffcanlflbaaGreatRows
import Derived.Test.YtiolffcanlflbaaGreatChecked
import Derived.WalkKit
import Derived.ProofKit
import Derived.OpenShut
import Derived.ShutString
import Derived.ChangeOld
import Derived.Below
set_option linter.unusedVariables false
set_option linter.unusedSimpArgs false
namespace Go.Proofs.YtiolffcanlflbaaGreat.topFlyable
open Go.ChangeShapes Go.WideShapes Go.ChangeAt Go.RowKit Go.Base Go.Av
theorem own:ownKnob Tryz.prog.godebug=none:=by kernel_rfl
theorem kl:laidOutB Tryz.prog=true:=by kernel_rfl
set_option maxRecDepth 100000 in
theorem lifted (os:Os) (started:os.Started) (H:Type) (enc:TypeId×Value→H) :
  ReturnsInHanded {} Tryz.checked os 3 .any (Rows.topFlyableSpec.pre6 enc Tryz.prog Tryz.f3 Rows.topFlyableRow.domain false) (Rows.topFlyableSpec.post enc Tryz.prog Tryz.f3 false true false false):=by
 refine returnsInHanded_of_change (C:=Tryz.checked) own started (by kernel_rfl) Tryz.func3
  (ChangeSpec.witness6 (enc:=enc) (C:=Tryz.checked) false ⟨#[],#[.agg #[.slice none 0 0,.string ⟨#[]⟩,.int .i64 0,.int .i64 0,.slice none 0 0,.slice none 0 0,.slice none 0 0,.slice none 0 0,.slice none 0 0,.slice none 0 0,.slice none 0 0,.slice none 0 0,.slice none 0 0,.int .i64 0,.int .i64 0,.int .i64 0,.int .i64 0,.int .i64 0,.int .i64 0,.int .i64 0,.int .i64 0,.slice none 0 0,.slice none 0 0,.slice none 0 0,.int .i64 0,.int .i64 0,.int .i64 0,.int .i64 0,.int .i64 0,.int .i64 0,.int .i64 0,.int .i64 0,.int .i64 0,.int .i64 0,.int .i64 0,.int .i64 0]],[]⟩ 8 (by kernel_rfl) (by kernel_rfl) (by kernel_rfl) (by kernel_rfl)) ?_
 intro W base args ds gs before hval0 hW hcnd _
 have hval:∀ (j:Nat) t v,Tryz.f3.params[j]?=some t→args[j]?=some v→Value.okWide Tryz.prog W .any base t v:=hval0
 have hW':=hW
 obtain⟨p,q,hA0,hV,rfl,hfz,hnd⟩:=hW
 have hA:DataW.TrodAll enc Tryz.prog W 0 (fun _=>true) true Tryz.f3.params.toList args.toList ds p:=hA0
 rw[Tryz.params3]at hA hval
 obtain⟨v0,vs0,d0,ds0,p0,q0,hargs,rfl,rfl,h0,r0⟩:=trodAll_cons hA
 obtain⟨rfl,rfl,rfl⟩:=trodAll_nil r0
 obtain rfl:args=#[v0]:=by cases args;simp_all
 obtain⟨rfl,rfl⟩:=trodVars_none hV
 have k0:=h0
 have lt0:∀ x∈p0,x.block < W.heap.size:=by obtain⟨m,hm⟩:=k0;exact DataW.trod_lt m _ _ _ hm
 clear hA0 hval0
 obtain⟨cs0,rfl,sz0⟩:=okWide_struct Tryz.underlying35 (hval 0 35 v0 rfl rfl)
 obtain⟨fuel0,hf0⟩:=h0
 obtain⟨x0,e0,b0⟩:=op35 H enc fuel0 _ _ hf0
 refine(AAC (p3 (plain3 b0)) (args:=#[_]) (y8 (rep_agg e0) AAQ)).mono fun e W' ⟨he,bel⟩=>?_
 subst he
 exact⟨_,rfl,_,_,_,[],_,[],hW',trodAll_mk1 (shut_bool Tryz.underlying4 _),(trodAll_cons_mk (Below.trod kl (by kernel_rfl) (of_decide_eq_true (by kernel_rfl)) k0 bel lt0) trodAll_mk0),rfl,bel.frame _,fun h=>by cases h⟩
set_option maxRecDepth 100000 in
theorem j1:Tryz.prog.inPlace 3=Rows.topFlyableRow.inPlace:=by kernel_rfl
set_option maxRecDepth 100000 in
theorem j2:Tryz.prog.unfollowed 3=Rows.topFlyableRow.unfollowed:=by kernel_rfl
set_option maxRecDepth 100000 in
theorem j3:Tryz.prog.recurses 3=Rows.topFlyableRow.recurses:=by kernel_rfl
set_option maxRecDepth 100000 in
theorem j4:Tryz.prog.varsNamed 3=Rows.topFlyableRow.named:=by kernel_rfl
set_option maxRecDepth 100000 in
theorem j5:mapsRowed Tryz.prog=true:=by kernel_rfl
set_option maxRecDepth 100000 in
theorem closed:joinedFacts Tryz.prog 3 Tryz.f3 Rows.topFlyableSpec Rows.topFlyableRow=true:=by
 unfold joinedFacts
 rw[j1,j2,j3,j4,j5,kl]
 show _=_
 kernel_rfl
theorem over:Rows.topFlyableRow.holds Tryz.pinned (OpenSpec.ofChange Rows.topFlyableSpec) :=
 OpenClaim.holds_of_wide 3 Tryz.f3 rfl rfl rfl rfl rfl rfl rfl ⟨rfl,rfl,rfl,rfl,rfl⟩ rfl rfl rfl rfl rfl (by kernel_rfl) Tryz.func3 closed
  (of_decide_eq_true (by kernel_rfl)) (by unfold Func.isWrapper;first | (rw[if_pos (by decide +kernel)];kernel_rfl) | (rw[if_neg (by decide +kernel)];exact⟨rfl,rfl⟩))
  (fun os started H enc _=>lifted os started H enc)
theorem proved:Rows.TopFlyableSaid:=over
end Go.Proofs.YtiolffcanlflbaaGreat.topFlyable

