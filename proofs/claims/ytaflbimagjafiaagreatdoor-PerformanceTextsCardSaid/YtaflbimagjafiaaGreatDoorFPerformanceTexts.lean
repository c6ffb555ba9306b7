/-
  PerformanceTexts: called with any input, the function answers true, and its arguments read as they did before; no condition.
-/
import Derived.Test.YtaflbimagjafiaaGreatDoorPart8
import Derived.Test.YtaflbimagjafiaaGreatDoorRows
import Derived.Test.YtaflbimagjafiaaGreatDoorChecked
import Derived.WalkKit
import Derived.ProofKit
import Derived.OpenShut
import Derived.ShutString
import Derived.ChangeOld
import Derived.Below
import Derived.Test.YtaflbimagjafiaaGreatDoorCards
import Derived.Test.YtaflbimagjafiaaGreatDoorTie
import Derived.SevenTiedAt
import Derived.ChangeSame
import Derived.JoinedOf
import Derived.LaidLaws
import Derived.LaidHandle
import Derived.Deep.DeepLaidRun
import Derived.Handed
import Derived.WitnessAt
import Derived.RowKitTokens
import Derived.Lay
import Derived.MakeChecks
import Derived.Stop.LaidErr
import Derived.Lib.LaidTab
import Derived.Lib.LaidIn
set_option linter.unusedVariables false
set_option linter.unusedSimpArgs false
set_option linter.unusedSectionVars false
namespace Go.Proofs.YtaflbimagjafiaaGreatDoor.performanceTexts
open Go.ChangeShapes Go.WideShapes Go.ChangeAt Go.RowKit Go.Base Go.Av
theorem own:ownKnob Tryz.prog.godebug=none:=by kernel_rfl
theorem eg:laidOutB Tryz.prog=true:=by kernel_rfl
theorem Ym {P:Program} {W:World} {n:String} {g:Nat} {cs:Array Value} (h:W.var? P n=some cs) (hg:P.globalNamed n=some g):∃ t z,W.heap[g]?=some (.cells cs t z):=by
 unfold World.var? at h
 rw[hg]at h
 simp only[Option.bind_some]at h
 split at h
 ·rename_i cs' t z e
  cases h
  exact⟨t,z,e⟩
 ·cases h
theorem star : "*" ++ "errors.errorString" = "*errors.errorString" := by decide
theorem w9 (u:TypeId) (h:Tryz.prog.typeName? 3 u=some "*errors.errorString"):u=240 :=
 typeName_ptr_named (nm := "errors.errorString") (by rw[star];kernel_rfl) (by kernel_rfl) (by decide) u (by rw[star];exact h)
theorem pow_tab:Rows.laid_internal_strconv_uint64pow10=Lib.tabData (H:=Unit) .u64 Lib.pow10Tab:=by kernel_rfl
theorem tab_heap {W:World} {r:List (String×DataW Unit)} (h:laidMet Tryz.prog (("internal/strconv.uint64pow10", Lib.tabData .u64 Lib.pow10Tab) :: r) W):∃ t z,W.heap[0]?=some (.cells (Lib.pow10Tab.map fun z=>Value.int .u64 z).toArray t z):=by
 obtain⟨ps,⟨g',t',cs,fuel,p,q,hg',ht',hvar,hd,_,_⟩,_⟩:=h
 have hg:Tryz.prog.globalNamed "internal/strconv.uint64pow10" = some 0:=by kernel_rfl
 obtain rfl:=Option.some.inj (hg.symm.trans hg')
 have hT:(Tryz.prog.globals[0]?).map (·.type)=some 202:=by kernel_rfl
 obtain rfl:=Option.some.inj (hT.symm.trans ht')
 obtain⟨t,z,e⟩:=Ym hvar hg
 have hc:=Lib.cells_of_tab Tryz.underlying202 (by kernel_rfl) (by kernel_rfl) (by kernel_rfl) hd
 refine⟨t,z,?_⟩
 rw[e,← hc]
theorem glob_w {W:World} (hL:laidMetH Tryz.prog Rows.performanceTextsRow.laid W):GlobW W:=by
 rw[MakeChecks.laidMetH_plain _ _ _ (by kernel_rfl)]at hL
 have h0:laidMet Tryz.prog (("math/bits.deBruijn32tab", Rows.laid_math_bits_deBruijn32tab) :: ("math/bits.deBruijn64tab", Rows.laid_math_bits_deBruijn64tab) :: ("internal/strconv.uint64pow10", Rows.laid_internal_strconv_uint64pow10) :: ("unicode/utf8.acceptRanges", Rows.laid_unicode_utf8_acceptRanges) :: ("strconv.ErrRange", Rows.laid_strconv_ErrRange) :: ("strconv.ErrSyntax", Rows.laid_strconv_ErrSyntax) :: ("unicode/utf8.first", Rows.laid_unicode_utf8_first) :: []) W:=hL
 have h1:=h0.tail
 have h2:=h1.tail
 have h3:=h2.tail
 have h4:=h3.tail
 have h5:=h4.tail
 have h6:=h5.tail
 obtain⟨ads,_,qs,_⟩:=laid_sentinel h5 (g:=8) (ti:=91) (tp:=240) (te:=242) (ts:=9) (by kernel_rfl) (by kernel_rfl) Tryz.underlying91 w9 Tryz.underlying240 Tryz.underlying242 rfl rfl Tryz.underlying9 (by kernel_rfl) (by kernel_rfl)
 obtain⟨adr,_,qr,_⟩:=laid_sentinel h4 (g:=9) (ti:=91) (tp:=240) (te:=242) (ts:=9) (by kernel_rfl) (by kernel_rfl) Tryz.underlying91 w9 Tryz.underlying240 Tryz.underlying242 rfl rfl Tryz.underlying9 (by kernel_rfl) (by kernel_rfl)
 rw[pow_tab]at h2
 obtain⟨qt,zt,ht⟩:=tab_heap h2
 obtain⟨t1,z1,e1⟩:=Ym qs (g:=8) (by kernel_rfl)
 obtain⟨t2,z2,e2⟩:=Ym qr (g:=9) (by kernel_rfl)
 intro q hq
 unfold Zu at hq
 rcases List.mem_cons.1 hq with rfl | hq
 ·exact⟨_,_,_,e1,_,_,rfl⟩
 rcases List.mem_cons.1 hq with rfl | hq
 ·exact⟨_,_,_,e2,_,_,rfl⟩
 rcases List.mem_cons.1 hq with rfl | hq
 ·exact⟨_,_,_,ht,rfl⟩
 cases hq
set_option maxRecDepth 100000 in
theorem lifted (os:Os) (started:os.Started) (H:Type) (enc:TypeId×Value→H) :
  ReturnsInHanded {} Tryz.checked os 4 .any (fun w args=>(Rows.performanceTextsSpec.pre enc Tryz.prog Tryz.f4 Rows.performanceTextsRow.domain false w args∧laidMetH Tryz.prog Rows.performanceTextsRow.laid w)∧sizedMet enc Tryz.prog Tryz.f4 (OpenSpec.ofChange Rows.performanceTextsSpec) false w args)
   (Rows.performanceTextsSpec.post enc Tryz.prog Tryz.f4 false true false false):=by
 refine returnsInHanded_of_change_and (C:=Tryz.checked) (X:=fun w _=>laidMetH Tryz.prog Rows.performanceTextsRow.laid w) (fun _ _ _ hh h=>h.of_heap hh) own started (by kernel_rfl) Tryz.func4
  (ChangeSpec.witness_shaped (enc:=enc) (C:=Tryz.checked) (os:=os) (X:=fun w _=>laidMetH Tryz.prog Rows.performanceTextsRow.laid w) false (World.laidAll Tryz.prog os Rows.performanceTextsRow.laid) #[.agg #[.string ⟨#[]⟩,.int .i64 0,.int .i64 0,.slice none 0 0,.slice none 0 0,.slice none 0 0,.slice none 0 0,.slice none 0 0,.slice none 0 0,.slice none 0 0,.slice none 0 0,.slice none 0 0,.int .i64 0,.int .i64 0,.int .i64 0],.string ⟨#[]⟩] 8 (World.laidAll_os _ _ _)
   (World.shaped_of_ZipB (by kernel_rfl) (by kernel_rfl)) (by kernel_rfl) (by kernel_rfl) (by kernel_rfl)
   (by rw[MakeChecks.laidMetH_plain _ _ _ (by kernel_rfl)];exact laidMet_laidAll _ (by kernel_rfl) (by kernel_rfl))) ?_
 intro W base args ds gs before hval0 hW _ _ hLaid _
 have hval:∀ (j:Nat) t v,Tryz.f4.params[j]?=some t→args[j]?=some v→Value.okWide Tryz.prog W .any base t v:=hval0
 have hW':=hW
 obtain⟨p,q,hA0,hV,rfl,hfz,hnd⟩:=hW
 have hA:DataW.TrodAll enc Tryz.prog W 0 (fun _=>true) true Tryz.f4.params.toList args.toList ds p:=hA0
 rw[Tryz.params4]at hA hval
 obtain⟨v0,vs0,d0,ds0,p0,q0,hargs,rfl,rfl,h0,r0⟩:=trodAll_cons hA
 obtain⟨v1,vs1,d1,ds1,p1,q1,rfl,rfl,rfl,h1,r1⟩:=trodAll_cons r0
 obtain⟨rfl,rfl,rfl⟩:=trodAll_nil r1
 obtain rfl:args=#[v0,v1]:=by cases args;simp_all
 obtain⟨rfl,rfl⟩:=trodVars_none hV
 have k0:=h0
 have lt0:∀ x∈p0,x.block < W.heap.size:=by obtain⟨m,hm⟩:=k0;exact DataW.trod_lt m _ _ _ hm
 have k1:=h1
 have lt1:∀ x∈p1,x.block < W.heap.size:=by obtain⟨m,hm⟩:=k1;exact DataW.trod_lt m _ _ _ hm
 clear hA0 hval0
 obtain⟨cs0,rfl,sz0⟩:=okWide_struct Tryz.underlying41 (hval 0 41 v0 rfl rfl)
 obtain⟨fuel0,hf0⟩:=h0
 obtain⟨x0,e0,b0⟩:=op41 H enc fuel0 _ _ hf0
 have c1:v1.cells=#[v1]:=kg Tryz.underlying9 (hval 1 9 v1 rfl rfl)
 obtain⟨fuel1,hf1⟩:=h1
 rw[c1]at hf1
 obtain⟨x1,e1,b1⟩:=(V5 Tryz.underlying9) H enc fuel1 _ _ hf1
 refine(law_call (p4 (plain4 b0 b1)) (args:=#[_,_]) (jk (rep_agg e0) (jk (rep_one e1) repL_nil)) (glob_w hLaid)).mono fun e W' ⟨he,bel⟩=>?_
 subst he
 exact⟨_,rfl,_,_,_,[],_,[],hW',trodAll_mk1 (shut_bool Tryz.underlying4 _),(trodAll_cons_mk (Below.trod eg (by kernel_rfl) (of_decide_eq_true (by kernel_rfl)) k0 bel lt0) (trodAll_cons_mk (Below.trod eg (by kernel_rfl) (of_decide_eq_true (by kernel_rfl)) k1 bel lt1) trodAll_mk0)),rfl,bel.frame _,fun h=>by cases h⟩
set_option maxRecDepth 100000 in
theorem j1:Tryz.prog.inPlace 4=Rows.performanceTextsRow.inPlace:=by kernel_rfl
set_option maxRecDepth 100000 in
theorem j2:Tryz.prog.unfollowed 4=Rows.performanceTextsRow.unfollowed:=by kernel_rfl
set_option maxRecDepth 100000 in
theorem j3:Tryz.prog.recurses 4=Rows.performanceTextsRow.recurses:=by kernel_rfl
set_option maxRecDepth 100000 in
theorem j4:Tryz.prog.varsNamed 4=Rows.performanceTextsRow.named:=by kernel_rfl
set_option maxRecDepth 100000 in
theorem j5:mapsRowed Tryz.prog=true:=by kernel_rfl
set_option maxRecDepth 100000 in
theorem closed:joinedFacts Tryz.prog 4 Tryz.f4 Rows.performanceTextsSpec Rows.performanceTextsRow=true:=by
 unfold joinedFacts
 rw[j1,j2,j3,j4,j5,eg]
 show _=_
 kernel_rfl
theorem over:Rows.performanceTextsRow.holds Tryz.pinned (OpenSpec.ofChange Rows.performanceTextsSpec) :=
 OpenClaim.holds_of_wide 4 Tryz.f4 rfl rfl rfl rfl rfl rfl rfl ⟨rfl,rfl,rfl,rfl,rfl⟩ rfl rfl rfl rfl rfl (by kernel_rfl) Tryz.func4 closed
  (of_decide_eq_true (by kernel_rfl)) (by unfold Func.isWrapper;first | (rw[if_pos (by decide +kernel)];kernel_rfl) | (rw[if_neg (by decide +kernel)];exact⟨rfl,rfl⟩))
  (fun os started H enc _=>lifted os started H enc)
theorem proved:Rows.PerformanceTextsCardSaid :=
 Claim7.holds_tied_plain_at .later [] [.data,.data,.data,.data,.sentinel,.sentinel,.pinned] true (true, "0cc06446656780a6f8613f8dda52c17d068dc56bf798c59050e30a871a07771c") true
  over (fun _ h=>by cases h) (by kernel_rfl) (fun _ h=>by cases h) performanceTexts_row_tie rfl ⟨rfl,rfl⟩ (by kernel_rfl) rfl
  (fun f fn hf hfn=>by
   obtain rfl:f=4:=Option.some.inj ((show Tryz.prog.funcNamed "flightdeck/flightdecklaw31.PerformanceTexts" = some 4 by kernel_rfl).symm.trans hf) |>.symm
   obtain rfl:fn=Tryz.f4:=(Option.some.inj (Tryz.func4.symm.trans hfn)).symm
   exact⟨by kernel_rfl,fun j t ht=>by
    rw[Tryz.params4]at ht
    have hm:t∈[41,9]:=by
     have:=List.mem_of_getElem? (by simpa using ht:([41,9]:List Nat)[j]?=some t)
     exact this
    simp only[List.mem_cons,List.not_mem_nil,or_false]at hm
    rcases hm with rfl | rfl
    ·exact(show Tryz.prog.wantsStandIn 41=false by kernel_rfl)
    ·exact(show Tryz.prog.wantsStandIn 9=false by kernel_rfl)⟩)
  (by kernel_rfl)
end Go.Proofs.YtaflbimagjafiaaGreatDoor.performanceTexts

