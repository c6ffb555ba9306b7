/- A part of the proof. -/
import Derived.Test.YtlpdcjbkbcmahaaGreatDoorPart5
import Derived.Lib.IndexLaws
set_option linter.unusedVariables false
set_option linter.unusedSimpArgs false
set_option maxRecDepth 100000
namespace Go.Av
open Go.RowKit Go.Base Go.Proofs Go.ChangeShapes Go.WideShapes
noncomputable def d107 (a0 : T48) : JF Tryz.prog Tryz.f107 [(e48 a0)] (fun (r : Int) => (dI r)) :=
 (.sq 4 [(1, tm1 17 D.bool)] [(1, [2], []), (0, [1], [16])] (fun (_ : Unit) => ⟨[(1, (.ptr 16 0))], [(16, (.cells (g48 a0)))], [], 528⟩) (c3 (@p160 a0.Name (8 : Int)) fun x1 => (.ite (!x1) (.ret .ret ⟨[(2, (aI 5))], [], [], 128⟩ (.inr ((5 : Int))) ⟨rfl, rfl, _, Weak.refl _, dr⟩) (.ite ((a0.States.length : Int) == (0 : Int)) (.ret .ret ⟨[(2, (aI 6))], [], [], 192⟩ (.inr ((6 : Int))) ⟨rfl, rfl, _, Weak.refl _, dr⟩) (.ite ((((decide (12 < (a0.Conds.length : Int))) || (decide (16 < (a0.Never.length : Int)))) || (decide (40 < (a0.States.length : Int)))) || (decide (120 < (a0.Transitions.length : Int)))) (.ret .ret ⟨[(2, (aI 3))], [], [], 544⟩ (.inr ((3 : Int))) ⟨rfl, rfl, _, Weak.refl _, dr⟩) (.nx ()))))) (fun _ => (.sc (fun (_ : Unit) => ⟨[(1, (.ptr 16 0))], [(16, (.cells (g48 a0)))], [], 1040⟩) (.sq 1 [] [(0, [1, 46, 47, 48], [16])] (fun (_ : Unit) => ⟨[(1, (.ptr 16 0)), (46, (.d (eSl 1 D.str a0.Conds))), (47, (z107_2 a0)), (48, (aI 0))], [(16, (.cells (g48 a0)))], [], 592⟩) (.nx ()) (fun _ => (.bk (.lp (fun (s1 : Int) => ⟨(z107_0 a0 s1), [(16, (.cells (g48 a0)))], [], 1024⟩) (0 : Int) (wk [(16, 16)] []) fun s1 => (.sq 2 [] [(0, [1, 46, 47, 48], [16]), (2, [1], [16])] (fun (_ : Unit) => ⟨(z107_0 a0 s1), [(16, (.cells (g48 a0)))], [], 1040⟩) (.ite (decide (s1 < (a0.Conds.length : Int))) (.nx ()) (.ret (.exit 0) _ (.inr (.inr (.inl ()))) ⟨rfl, rfl, rfl, Weak.refl _⟩)) (fun _ => (.sc (fun (_ : Unit) => ⟨(z107_0 a0 s1), [(16, (.cells (g48 a0)))], [], 1424⟩) (.bk (.sq 3 [(10, tm1 54 D.bool)] [(1, [2], []), (0, [1, 4, 46, 47, 48, 59, 60, 61], [16])] (fun (_ : Unit) => ⟨[(1, (.ptr 16 0)), (4, (aS (a0.Conds.getD s1.toNat default))), (46, (.d (eSl 1 D.str a0.Conds))), (47, (z107_2 a0)), (48, (aI s1)), (59, (.d (eSl 1 D.str (subL a0.Conds 0 s1.toNat)))), (60, (aI (s1.toNat : Int))), (61, (aI 0))], [(16, (.cells (g48 a0)))], [], 1264⟩) (nd (0 ≤ s1) (nd (s1 < (a0.Conds.length : Int)) (c3 (@p160 (a0.Conds.getD s1.toNat default) (8 : Int)) fun x10 => (.ite (!x10) (.ret .ret ⟨[(2, (aI 5))], [], [], 1184⟩ (.inr (.inr (.inr (.inr ((5 : Int)))))) ⟨rfl, rfl, rfl, rfl, rfl, _, Weak.refl _, dr⟩) (nd (0 ≤ s1) (nd (s1 ≤ (a0.Conds.length : Int)) (.ret .normal ⟨[(1, (.ptr 16 0)), (4, (aS (a0.Conds.getD s1.toNat default))), (46, (.d (eSl 1 D.str a0.Conds))), (47, (z107_2 a0)), (48, (aI s1)), (59, (.d (.sl 1 s1.toNat (cF D.str a0.Conds)))), (60, (aI (s1.toNat : Int))), (61, (aI 0))], [(16, (.cells (g48 a0)))], [], 1264⟩ (.inl ()) ⟨rfl, (wh [(16, 16)] [] ⟨⟨rfl, rfl⟩, dr, dr, dr, dr, de_sub0, dr, dr⟩)⟩))))))) (fun _ => (.bk (.lp (fun (s2 : Int) => ⟨[(1, (.ptr 16 0)), (4, (aS (a0.Conds.getD s1.toNat default))), (46, (.d (eSl 1 D.str a0.Conds))), (47, (z107_2 a0)), (48, (aI s1)), (59, (.d (eSl 1 D.str (subL a0.Conds 0 s1.toNat)))), (60, (aI (s1.toNat : Int))), (61, (aI s2))], [(16, (.cells (g48 a0)))], [], 1408⟩) (0 : Int) (wk [(16, 16)] []) fun s2 => (.sg [] [(1, [2], []), (0, [1, 4, 46, 47, 48, 59, 60, 61], [16]), (4, [1, 46, 47, 48], [16])] (.ite (decide (s2 < (s1.toNat : Int))) (nd (0 ≤ s2) (nd (s2 < ((subL a0.Conds 0 s1.toNat).length : Int)) (.ite ((a0.Conds.getD s1.toNat default) == ((subL a0.Conds 0 s1.toNat).getD s2.toNat default)) (.ret .ret ⟨[(2, (aI 7))], [], [], 1536⟩ (.inr (.inr (.inr (.inr ((7 : Int)))))) ⟨rfl, rfl, rfl, rfl, rfl, _, Weak.refl _, dr⟩) (.ret .normal ⟨[(1, (.ptr 16 0)), (4, (aS (a0.Conds.getD s1.toNat default))), (46, (.d (eSl 1 D.str a0.Conds))), (47, (z107_2 a0)), (48, (aI s1)), (59, (.d (eSl 1 D.str (subL a0.Conds 0 s1.toNat)))), (60, (aI (s1.toNat : Int))), (61, (aI (IntKind.wrap .i64 (s2 + 1))))], [(16, (.cells (g48 a0)))], [], 1552⟩ (.inl (IntKind.wrap .i64 (s2 + 1))) ⟨rfl, (wk [(16, 16)] [])⟩)))) (.ret (.exit 2) _ (.inr (.inl ())) ⟨rfl, rfl, Weak.refl _⟩)))))))) fun _ => (.sg [] [(0, [1, 46, 47, 48], [16])] (.ret .normal ⟨[(1, (.ptr 16 0)), (46, (.d (eSl 1 D.str a0.Conds))), (47, (z107_2 a0)), (48, (aI (IntKind.wrap .i64 (s1 + 1))))], [(16, (.cells (g48 a0)))], [], 1456⟩ (.inl (IntKind.wrap .i64 (s1 + 1))) ⟨rfl, (wk [(16, 16)] [])⟩))))))))) fun _ => (.sc (fun (_ : Unit) => ⟨[(1, (.ptr 16 0))], [(16, (.cells (g48 a0)))], [], 1360⟩) (.sq 1 [] [(0, [1, 71, 72, 73], [16])] (fun (_ : Unit) => ⟨[(1, (.ptr 16 0)), (71, (.d (eSl 1 (eSl 2 e176) a0.Never))), (72, (aI (a0.Never.length : Int))), (73, (aI 0))], [(16, (.cells (g48 a0)))], [], 1104⟩) (.nx ()) (fun _ => (.bk (.lp (fun (s3 : Int) => ⟨[(1, (.ptr 16 0)), (71, (.d (eSl 1 (eSl 2 e176) a0.Never))), (72, (aI (a0.Never.length : Int))), (73, (aI s3))], [(16, (.cells (g48 a0)))], [], 1344⟩) (0 : Int) (wk [(16, 16)] []) fun s3 => (.sg [(24, tm1 82 dI)] [(1, [2], []), (0, [1, 71, 72, 73], [16]), (6, [1], [16])] (.ite (decide (s3 < (a0.Never.length : Int))) (nd (0 ≤ s3) (nd (s3 < (a0.Never.length : Int)) (.ite (((a0.Never.getD s3.toNat default).length : Int) == (0 : Int)) (.ret .ret ⟨[(2, (aI 1))], [], [], 1472⟩ (.inr (.inr ((1 : Int)))) ⟨rfl, rfl, rfl, _, Weak.refl _, dr⟩) (c3 (@p161 a0 (a0.Never.getD s3.toNat default)) fun x24 => (.ite (x24 != 0) (.ret .ret ⟨[(2, (aI x24))], [], [], 1584⟩ (.inr (.inr (x24))) ⟨rfl, rfl, rfl, _, Weak.refl _, dr⟩) (.ret .normal ⟨[(1, (.ptr 16 0)), (71, (.d (eSl 1 (eSl 2 e176) a0.Never))), (72, (aI (a0.Never.length : Int))), (73, (aI (IntKind.wrap .i64 (s3 + 1))))], [(16, (.cells (g48 a0)))], [], 1584⟩ (.inl (IntKind.wrap .i64 (s3 + 1))) ⟨rfl, (wk [(16, 16)] [])⟩)))))) (.ret (.exit 4) _ (.inr (.inl ())) ⟨rfl, rfl, Weak.refl _⟩))))))) fun _ => (.sc (fun (_ : Unit) => ⟨[(1, (.ptr 16 0))], [(16, (.cells (g48 a0)))], [], 1616⟩) (.sq 1 [] [(0, [1, 89, 90], [16])] (fun (_ : Unit) => ⟨[(1, (.ptr 16 0)), (89, (aI (a0.States.length : Int))), (90, (aI 0))], [(16, (.cells (g48 a0)))], [], 1424⟩) (.nx ()) (fun _ => (.bk (.lp (fun (s4 : Int) => ⟨[(1, (.ptr 16 0)), (89, (aI (a0.States.length : Int))), (90, (aI s4))], [(16, (.cells (g48 a0)))], [], 1600⟩) (0 : Int) (wk [(16, 16)] []) fun s4 => (.sg [(31, tm1 95 dI)] [(1, [2], []), (0, [1, 89, 90], [16]), (8, [1], [16])] (.ite (decide (s4 < (a0.States.length : Int))) (c3 (@p162 a0 s4) fun x31 => (.ite (x31 != 0) (.ret .ret ⟨[(2, (aI x31))], [], [], 1776⟩ (.inr (.inr (x31))) ⟨rfl, rfl, rfl, _, Weak.refl _, dr⟩) (.ret .normal ⟨[(1, (.ptr 16 0)), (89, (aI (a0.States.length : Int))), (90, (aI (IntKind.wrap .i64 (s4 + 1))))], [(16, (.cells (g48 a0)))], [], 1776⟩ (.inl (IntKind.wrap .i64 (s4 + 1))) ⟨rfl, (wk [(16, 16)] [])⟩))) (.ret (.exit 6) _ (.inr (.inl ())) ⟨rfl, rfl, Weak.refl _⟩))))))) fun _ => (.sq 1 [] [(1, [2], []), (0, [1], [16])] (fun (_ : Unit) => ⟨[(1, (.ptr 16 0))], [(16, (.cells (g48 a0)))], [], 1792⟩) (.ite ((decide (a0.Start < 0)) || (decide ((a0.States.length : Int) ≤ a0.Start))) (.ret .ret ⟨[(2, (aI 2))], [], [], 1808⟩ (.inr ((2 : Int))) ⟨rfl, rfl, _, Weak.refl _, dr⟩) (.nx ())) (fun _ => (.sc (fun (_ : Unit) => ⟨[], [], [], 2576⟩) (.sq 1 [] [(0, [1, 112, 113, 114], [16])] (fun (_ : Unit) => ⟨[(1, (.ptr 16 0)), (112, (.d (eSl 4 e119 a0.Transitions))), (113, (aI (a0.Transitions.length : Int))), (114, (aI 0))], [(16, (.cells (g48 a0)))], [], 1856⟩) (.nx ()) (fun _ => (.bk (.lp (fun (s5 : Int) => ⟨[(1, (.ptr 16 0)), (112, (.d (eSl 4 e119 a0.Transitions))), (113, (aI (a0.Transitions.length : Int))), (114, (aI s5))], [(16, (.cells (g48 a0)))], [], 2560⟩) (0 : Int) (wk [(16, 16)] []) fun s5 => (.sg [(42, tm1 145 dI), (44, tm1 150 dI)] [(1, [2], []), (0, [1, 112, 113, 114], [16]), (10, [], [])] (.ite (decide (s5 < (a0.Transitions.length : Int))) (nd (0 ≤ s5) (nd (s5 < (a0.Transitions.length : Int)) (.ite ((((decide ((a0.Transitions.getD s5.toNat default).From < 0)) || (decide ((a0.States.length : Int) ≤ (a0.Transitions.getD s5.toNat default).From))) || (decide ((a0.Transitions.getD s5.toNat default).To < 0))) || (decide ((a0.States.length : Int) ≤ (a0.Transitions.getD s5.toNat default).To))) (.ret .ret ⟨[(2, (aI 2))], [], [], 3040⟩ (.inr (.inr ((2 : Int)))) ⟨rfl, rfl, rfl, _, Weak.refl _, dr⟩) (c3 (@p161 a0 (a0.Transitions.getD s5.toNat default).When) fun x42 => (.ite (x42 == 0) (c3 (@p163 (a0.Transitions.getD s5.toNat default).Actions) fun x44 => (.ite (x44 != 0) (.ret .ret ⟨[(2, (aI x44))], [], [], 3264⟩ (.inr (.inr (x44))) ⟨rfl, rfl, rfl, _, Weak.refl _, dr⟩) (.ret .normal ⟨(z107_1 a0 s5), [(16, (.cells (g48 a0)))], [], 3264⟩ (.inl (IntKind.wrap .i64 (s5 + 1))) ⟨rfl, (wk [(16, 16)] [])⟩))) (.ite (x42 != 0) (.ret .ret ⟨[(2, (aI x42))], [], [], 3200⟩ (.inr (.inr (x42))) ⟨rfl, rfl, rfl, _, Weak.refl _, dr⟩) (.ret .normal ⟨(z107_1 a0 s5), [(16, (.cells (g48 a0)))], [], 3200⟩ (.inl (IntKind.wrap .i64 (s5 + 1))) ⟨rfl, (wk [(16, 16)] [])⟩))))))) (.ret (.exit 8) _ (.inr (.inl ())) ⟨rfl, rfl, Weak.refl _⟩))))))) fun _ => (.sg [] [(1, [2], [])] (.ret .ret ⟨[(2, (aI 0))], [], [], 2592⟩ (0 : Int) ⟨rfl, _, Weak.refl _, dr⟩))))))))))
noncomputable def m107 (a0 : T48) : Option (Int) := (d107 a0).m
theorem p107 {a0 : T48} {r : Int} (h : m107 a0 = some r) : PureAt Tryz.prog 107 [(e48 a0)] (dI r) := pure_jd (d107 a0) Tryz.func107 h
noncomputable abbrev z63_0 : List (Nat × Ob) := [(16, (.cells [(aS ([] : List UInt8)), aN, aN, aN, (aI 0), aN]))]
noncomputable abbrev z63_1 (y1 : (List T139) × (List T136)) : AV := (.ap 2 y1.1.length (cF e139 y1.1) (.tok 65 139))
noncomputable abbrev z63_2 (s2 : (List T136) × Int) (y1 : (List T139) × (List T136)) : List (Nat × AV) := [(2, (.ptr 16 0)), (4, (z63_1 y1)), (5, (.ap 3 s2.1.length (cF e136 s2.1) (.tok 304 136))), (36, (z63_1 y1)), (37, (aI (y1.1.length : Int))), (38, (aI (IntKind.wrap .i64 (s2.2 + 1))))]
noncomputable abbrev z63_3 (y3 : (List T136)) : AV := (.ap 3 y3.length (cF e136 y3) (.tok 304 136))
noncomputable def o63_0 (x : ((List T136) × (List T139))) : OT := ⟨(.tup [(.ap 2 x.2.length (cF e139 x.2) (.tok 65 139)), (.ap 3 x.1.length (cF e136 x.1) (.tok 64 136))]), [], [], [], [64, 65]⟩
noncomputable def d63 (a0 : List UInt8) : JF Tryz.prog Tryz.f63 [(.str a0)] (fun (r : T48 × (List T136)) => (.tup [(e48 r.1), (eSl 3 e136 r.2)])) :=
 (.sq 4 [(1, ⟨((List T136) × (List T139)), fun x => [], fun x => [(64, (o63_0 x))], []⟩)] [(1, [2, 3], [16]), (0, [2, 4, 5], [16])] (fun (y1 : (List T139) × (List T136)) => ⟨[(2, (.ptr 16 0)), (4, (z63_1 y1)), (5, (.ap 3 y1.2.length (cF e136 y1.2) (.tok 304 136)))], z63_0, [65, 304], 384⟩) (c3 (p := fun x1 => ObjL Tryz.prog 101 [(aS a0)] [] 64 (o63_0 x1)) (fun x1 (h1 : m101o0 a0 = some _) => ok [] [] [] [(64, 112), (65, 608)] (po101o0 h1)) fun x1 => (.ite (((x1.1.length : Int) == (0 : Int)) && ((x1.2.length : Int) == (0 : Int))) (.ite (decide ((0 : Int) < (1 : Int))) (.ret .ret ⟨[(2, (.ptr 16 0)), (3, (.ap 3 1 (litF [(.agg [(dI 1), (dI 1), (dI 9)])]) (.tok 304 136)))], z63_0, [304, 64, 65], 448⟩ (.inr (((⟨([] : List UInt8), [], [], [], (0 : Int), []⟩ : T48), ([(⟨(1 : Int), (1 : Int), (9 : Int)⟩ : T136)] : List T136)))) ⟨rfl, rfl, _, Weak.refl _, ⟨⟨dr, de_nil, de_nil, de_nil, dr, de_nil, trivial⟩, (de_lit rfl rfl), trivial⟩⟩) (.ret .normal ⟨[(2, (.ptr 16 0)), (4, (.ap 2 x1.2.length (cF e139 x1.2) (.tok 65 139))), (5, (.ap 3 1 (litF [(.agg [(dI 1), (dI 1), (dI 9)])]) (.tok 304 136)))], z63_0, [304, 64, 65], 384⟩ (.inl (x1.2, ([(⟨(1 : Int), (1 : Int), (9 : Int)⟩ : T136)] : List T136))) ⟨rfl, (wh [(16, 16)] (idn [65, 304]) ⟨⟨rfl, rfl⟩, ⟨rfl, rfl, rfl, dr⟩, ⟨rfl, rfl, rfl, (de_lit rfl rfl)⟩⟩)⟩)) (.ite (decide (0 < (x1.1.length : Int))) (.ret .ret ⟨[(2, (.ptr 16 0)), (3, (.ap 3 x1.1.length (cF e136 x1.1) (.tok 64 136)))], z63_0, [64, 65], 400⟩ (.inr (((⟨([] : List UInt8), [], [], [], (0 : Int), []⟩ : T48), x1.1))) ⟨rfl, rfl, _, Weak.refl _, ⟨⟨dr, de_nil, de_nil, de_nil, dr, de_nil, trivial⟩, dr, trivial⟩⟩) (.ret .normal ⟨[(2, (.ptr 16 0)), (4, (.ap 2 x1.2.length (cF e139 x1.2) (.tok 65 139))), (5, (.ap 3 x1.1.length (cF e136 x1.1) (.tok 64 136)))], z63_0, [64, 65], 336⟩ (.inl (x1.2, x1.1)) ⟨rfl, (wk [(16, 16)] [(65, 65), (304, 64)])⟩)))) (fun y1 => (.sc (fun (y3 : (List T136)) => ⟨[(2, (.ptr 16 0)), (4, (z63_1 y1)), (5, (z63_3 y3))], z63_0, [65, 304], 1536⟩) (.sq 1 [] [(0, [2, 4, 5, 36, 37, 38], [16])] (fun (_ : Unit) => ⟨[(2, (.ptr 16 0)), (4, (z63_1 y1)), (5, (.ap 3 y1.2.length (cF e136 y1.2) (.tok 304 136))), (36, (z63_1 y1)), (37, (aI (y1.1.length : Int))), (38, (aI 0))], z63_0, [65, 304], 432⟩) (.nx ()) (fun _ => (.bk (.lp (fun (s2 : (List T136) × Int) => ⟨[(2, (.ptr 16 0)), (4, (z63_1 y1)), (5, (.ap 3 s2.1.length (cF e136 s2.1) (.tok 304 136))), (36, (z63_1 y1)), (37, (aI (y1.1.length : Int))), (38, (aI s2.2))], z63_0, [65, 304], 1520⟩) (y1.2, (0 : Int)) (wk [(16, 16)] (idn [65, 304])) fun s2 => (.sg [(10, tm1 52 dI), (14, ⟨Int × Bool, fun x => [(75, (dI x.1)), (76, (.bool x.2))], fun x => [], []⟩), (16, tm1 84 (fun (x : (T136 × Bool)) => (.tup [(e136 x.1), (.bool x.2)])))] [(0, [2, 4, 5, 36, 37, 38], [16]), (2, [2, 4, 5], [16])] (.ite (decide (s2.2 < (y1.1.length : Int))) (nd (0 ≤ s2.2) (nd (s2.2 < (y1.1.length : Int)) (nd ((0 : Int) ≤ (0 : Int)) (nd (0 < ((y1.1.getD s2.2.toNat default).Fields.length : Int)) (c3 (@p102 (y1.1.getD s2.2.toNat default)) fun x10 => (.ite (decide (x10 < 0)) (.ite (true && (decide ((s2.1.length : Int) < (50 : Int)))) (nd ((s2.1.length + 1) * 24 ≤ 140737488355328) (.ret .normal ⟨[(2, (.ptr 16 0)), (4, (z63_1 y1)), (5, (.ap 3 (s2.1.length + 1) (appF s2.1.length (cF e136 s2.1) (litF [(.agg [(dI (y1.1.getD s2.2.toNat default).Number), (dI ((y1.1.getD s2.2.toNat default).Fields.getD (0 : Int).toNat default).Column), (dI 4)])])) (.tok 2064 136))), (36, (z63_1 y1)), (37, (aI (y1.1.length : Int))), (38, (aI (IntKind.wrap .i64 (s2.2 + 1))))], z63_0, [2064, 2048, 65], 2128⟩ (.inl ((s2.1 ++ ([(⟨(y1.1.getD s2.2.toNat default).Number, ((y1.1.getD s2.2.toNat default).Fields.getD (0 : Int).toNat default).Column, (4 : Int)⟩ : T136)] : List T136)), (IntKind.wrap .i64 (s2.2 + 1)))) ⟨rfl, (wh [(16, 16)] [(65, 65), (304, 2064)] ⟨⟨rfl, rfl⟩, ⟨rfl, rfl, rfl, dr⟩, ⟨rfl, rfl, rfl, (de_app dr (de_lit rfl rfl))⟩, ⟨rfl, rfl, rfl, dr⟩, dr, dr⟩)⟩)) (.ret .normal ⟨(z63_2 s2 y1), z63_0, [65, 304], 2048⟩ (.inl (s2.1, (IntKind.wrap .i64 (s2.2 + 1)))) ⟨rfl, (wk [(16, 16)] (idn [65, 304]))⟩)) (.exi (Int × Bool) (if (((!((s2.2 == 0) && (x10 != 0))) && (decide (0 < s2.2))) && (!(x10 == 0))) = true → 0 ≤ (IntKind.wrap .i64 (s2.2 - 1)) then (if (((!((s2.2 == 0) && (x10 != 0))) && (decide (0 < s2.2))) && (!(x10 == 0))) = true → (IntKind.wrap .i64 (s2.2 - 1)) < (y1.1.length : Int) then ((if (((!((s2.2 == 0) && (x10 != 0))) && (decide (0 < s2.2))) && (!(x10 == 0))) = true then m102 (y1.1.getD (IntKind.wrap .i64 (s2.2 - 1)).toNat default) else some default).bind fun r14_0 => ((if (((!((s2.2 == 0) && (x10 != 0))) && (decide (0 < s2.2))) && (!(x10 == 0))) = true then m103 x10 r14_0 else some default).bind fun r14_1 => some (r14_0, r14_1))) else none) else none) (fun x14 => (.g (((!((s2.2 == 0) && (x10 != 0))) && (decide (0 < s2.2))) && (!(x10 == 0))) (0 ≤ (IntKind.wrap .i64 (s2.2 - 1))) (.g (((!((s2.2 == 0) && (x10 != 0))) && (decide (0 < s2.2))) && (!(x10 == 0))) ((IntKind.wrap .i64 (s2.2 - 1)) < (y1.1.length : Int)) (.g (((!((s2.2 == 0) && (x10 != 0))) && (decide (0 < s2.2))) && (!(x10 == 0))) (PureAt Tryz.prog 102 [(.agg [(dI (y1.1.getD (IntKind.wrap .i64 (s2.2 - 1)).toNat default).Number), (eSl 2 e141 (y1.1.getD (IntKind.wrap .i64 (s2.2 - 1)).toNat default).Fields)])] (dI x14.1)) (.g (((!((s2.2 == 0) && (x10 != 0))) && (decide (0 < s2.2))) && (!(x10 == 0))) (PureAt Tryz.prog 103 [(dI x10), (dI x14.1)] (.bool x14.2)) (.fin 0)))))) (by intro x14 h; obtain ⟨h1, h⟩ := if_some h; obtain ⟨h2, h⟩ := if_some h; obtain ⟨r14_0, h3, h⟩ := Option.bind_eq_some_iff.1 h; obtain ⟨r14_1, h4, h⟩ := Option.bind_eq_some_iff.1 h; cases h; exact ⟨h1, h2, fun g => p102 (by rw [if_pos g] at h3; exact h3), fun g => p103 (by rw [if_pos g] at h4; exact h4), trivial⟩) (fun x14 _ => (.ite (((s2.2 == 0) && (x10 != 0)) || ((decide (0 < s2.2)) && ((x10 == 0) || (!x14.2)))) (.ite (true && (decide ((s2.1.length : Int) < (50 : Int)))) (nd ((s2.1.length + 1) * 24 ≤ 140737488355328) (.ret .normal ⟨[(2, (.ptr 16 0)), (4, (z63_1 y1)), (5, (.ap 3 (s2.1.length + 1) (appF s2.1.length (cF e136 s2.1) (litF [(.agg [(dI (y1.1.getD s2.2.toNat default).Number), (dI ((y1.1.getD s2.2.toNat default).Fields.getD (0 : Int).toNat default).Column), (dI 9)])])) (.tok 2464 136))), (36, (z63_1 y1)), (37, (aI (y1.1.length : Int))), (38, (aI (IntKind.wrap .i64 (s2.2 + 1))))], z63_0, [2464, 2448, 65], 2528⟩ (.inl ((s2.1 ++ ([(⟨(y1.1.getD s2.2.toNat default).Number, ((y1.1.getD s2.2.toNat default).Fields.getD (0 : Int).toNat default).Column, (9 : Int)⟩ : T136)] : List T136)), (IntKind.wrap .i64 (s2.2 + 1)))) ⟨rfl, (wh [(16, 16)] [(65, 65), (304, 2464)] ⟨⟨rfl, rfl⟩, ⟨rfl, rfl, rfl, dr⟩, ⟨rfl, rfl, rfl, (de_app dr (de_lit rfl rfl))⟩, ⟨rfl, rfl, rfl, dr⟩, dr, dr⟩)⟩)) (.ret .normal ⟨(z63_2 s2 y1), z63_0, [65, 304], 2448⟩ (.inl (s2.1, (IntKind.wrap .i64 (s2.2 + 1)))) ⟨rfl, (wk [(16, 16)] (idn [65, 304]))⟩)) (c3 (@p104 (y1.1.getD s2.2.toNat default)) fun x16 => (.ite (x16.2 && (decide ((s2.1.length : Int) < (50 : Int)))) (nd ((s2.1.length + 1) * 24 ≤ 140737488355328) (.ret .normal ⟨[(2, (.ptr 16 0)), (4, (z63_1 y1)), (5, (.ap 3 (s2.1.length + 1) (appF s2.1.length (cF e136 s2.1) (litF [(e136 x16.1)])) (.tok 2544 136))), (36, (z63_1 y1)), (37, (aI (y1.1.length : Int))), (38, (aI (IntKind.wrap .i64 (s2.2 + 1))))], z63_0, [2544, 2528, 65], 2608⟩ (.inl ((s2.1 ++ ([x16.1] : List T136)), (IntKind.wrap .i64 (s2.2 + 1)))) ⟨rfl, (wh [(16, 16)] [(65, 65), (304, 2544)] ⟨⟨rfl, rfl⟩, ⟨rfl, rfl, rfl, dr⟩, ⟨rfl, rfl, rfl, (de_app dr (de_lit rfl rfl))⟩, ⟨rfl, rfl, rfl, dr⟩, dr, dr⟩)⟩)) (.ret .normal ⟨(z63_2 s2 y1), z63_0, [65, 304], 2528⟩ (.inl (s2.1, (IntKind.wrap .i64 (s2.2 + 1)))) ⟨rfl, (wk [(16, 16)] (idn [65, 304]))⟩)))))))))))) (.ret (.exit 0) _ (.inr (.inl s2.1)) ⟨rfl, rfl, Weak.refl _⟩))))))) fun y3 => (.sq 1 [] [(1, [2, 3], [16]), (0, [2, 4, 5], [16])] (fun (_ : Unit) => ⟨[(2, (.ptr 16 0)), (4, (z63_1 y1)), (5, (z63_3 y3))], z63_0, [65, 304], 1584⟩) (.ite (decide (0 < (y3.length : Int))) (.ret .ret ⟨[(2, (.ptr 16 0)), (3, (z63_3 y3))], z63_0, [65, 304], 1648⟩ (.inr (((⟨([] : List UInt8), [], [], [], (0 : Int), []⟩ : T48), y3))) ⟨rfl, rfl, _, Weak.refl _, ⟨⟨dr, de_nil, de_nil, de_nil, dr, de_nil, trivial⟩, dr, trivial⟩⟩) (.nx ())) (fun _ => (.sc (fun (y5 : (List T136)) => ⟨[(2, (.ptr 16 0)), (4, (z63_1 y1)), (5, (.ap 3 y5.length (cF e136 y5) (.tok 304 136)))], z63_0, [65, 304], 2064⟩) (.sq 1 [] [(0, [2, 4, 5, 103, 104, 105], [16])] (fun (_ : Unit) => ⟨[(2, (.ptr 16 0)), (4, (z63_1 y1)), (5, (z63_3 y3)), (103, (z63_1 y1)), (104, (aI (y1.1.length : Int))), (105, (aI 0))], z63_0, [65, 304], 1632⟩) (.nx ()) (fun _ => (.bk (.lp (fun (s4 : (List T136) × Int) => ⟨[(2, (.ptr 16 0)), (4, (z63_1 y1)), (5, (.ap 3 s4.1.length (cF e136 s4.1) (.tok 304 136))), (103, (z63_1 y1)), (104, (aI (y1.1.length : Int))), (105, (aI s4.2))], z63_0, [65, 304], 2048⟩) (y3, (0 : Int)) (wk [(16, 16)] (idn [65, 304])) fun s4 => (.sg [(25, tm1 111 dI)] [(0, [2, 4, 5, 103, 104, 105], [16]), (4, [2, 4, 5], [16])] (.ite (decide (s4.2 < (y1.1.length : Int))) (nd (0 ≤ s4.2) (nd (s4.2 < (y1.1.length : Int)) (c3 (@p105 y1.1 (y1.1.getD s4.2.toNat default)) fun x25 => (.ite ((decide (0 < x25)) && (decide ((s4.1.length : Int) < (50 : Int)))) (nd ((s4.1.length + 1) * 24 ≤ 140737488355328) (.ret .normal ⟨[(2, (.ptr 16 0)), (4, (z63_1 y1)), (5, (.ap 3 (s4.1.length + 1) (appF s4.1.length (cF e136 s4.1) (litF [(.agg [(dI (y1.1.getD s4.2.toNat default).Number), (dI x25), (dI 6)])])) (.tok 2400 136))), (103, (z63_1 y1)), (104, (aI (y1.1.length : Int))), (105, (aI (IntKind.wrap .i64 (s4.2 + 1))))], z63_0, [2400, 2384, 65], 2464⟩ (.inl ((s4.1 ++ ([(⟨(y1.1.getD s4.2.toNat default).Number, x25, (6 : Int)⟩ : T136)] : List T136)), (IntKind.wrap .i64 (s4.2 + 1)))) ⟨rfl, (wh [(16, 16)] [(65, 65), (304, 2400)] ⟨⟨rfl, rfl⟩, ⟨rfl, rfl, rfl, dr⟩, ⟨rfl, rfl, rfl, (de_app dr (de_lit rfl rfl))⟩, ⟨rfl, rfl, rfl, dr⟩, dr, dr⟩)⟩)) (.ret .normal ⟨[(2, (.ptr 16 0)), (4, (z63_1 y1)), (5, (.ap 3 s4.1.length (cF e136 s4.1) (.tok 304 136))), (103, (z63_1 y1)), (104, (aI (y1.1.length : Int))), (105, (aI (IntKind.wrap .i64 (s4.2 + 1))))], z63_0, [65, 304], 2336⟩ (.inl (s4.1, (IntKind.wrap .i64 (s4.2 + 1)))) ⟨rfl, (wk [(16, 16)] (idn [65, 304]))⟩))))) (.ret (.exit 2) _ (.inr (.inl s4.1)) ⟨rfl, rfl, Weak.refl _⟩))))))) fun y5 => (.sg [(31, tm1 133 e48), (32, tm1 135 dI)] [(1, [2, 3], [16])] (.ite (decide (0 < (y5.length : Int))) (.ret .ret ⟨[(2, (.ptr 16 0)), (3, (.ap 3 y5.length (cF e136 y5) (.tok 304 136)))], z63_0, [65, 304], 2176⟩ ((⟨([] : List UInt8), [], [], [], (0 : Int), []⟩ : T48), y5) ⟨rfl, _, Weak.refl _, ⟨⟨dr, de_nil, de_nil, de_nil, dr, de_nil, trivial⟩, dr, trivial⟩⟩) (c3 (@p106 y1.1) fun x31 => (c3 (@p107 x31) fun x32 => (.ite (x32 != 0) (.ret .ret ⟨[(2, (.ptr 16 0)), (3, (.ap 3 1 (litF [(.agg [(dI 1), (dI 1), (dI x32)])]) (.tok 2304 136)))], z63_0, [2304, 65, 304], 2352⟩ ((⟨([] : List UInt8), [], [], [], (0 : Int), []⟩ : T48), ([(⟨(1 : Int), (1 : Int), x32⟩ : T136)] : List T136)) ⟨rfl, _, Weak.refl _, ⟨⟨dr, de_nil, de_nil, de_nil, dr, de_nil, trivial⟩, (de_lit rfl rfl), trivial⟩⟩) (.ret .ret ⟨[(2, (.ptr 16 0)), (3, aN)], [(16, (.cells (g48 x31)))], [65, 304], 2304⟩ (x31, []) ⟨rfl, _, Weak.refl _, ⟨dr, de_nil, trivial⟩⟩))))))))))))
noncomputable def m63 (a0 : List UInt8) : Option (T48 × (List T136)) := (d63 a0).m
theorem p63 {a0 : List UInt8} {r : T48 × (List T136)} (h : m63 a0 = some r) : PureAt Tryz.prog 63 [(.str a0)] (.tup [(e48 r.1), (eSl 3 e136 r.2)]) := pure_jd (d63 a0) Tryz.func63 h
noncomputable def d37 (a0 : Int) : JF Tryz.prog Tryz.f37 [(dI a0)] (fun (r : T48 × Int) => (.tup [(e48 r.1), (dI r.2)])) :=
 (.sg [(3, ⟨(List UInt8) × (T48 × (List T136)), fun x => [(15, (.str x.1)), (16, (.tup [(e48 x.2.1), (eSl 3 e136 x.2.2)]))], fun x => [], []⟩)] [(1, [2, 3], [16])] (.ite ((decide (a0 < 1)) || (decide (3 < a0))) (.ret .ret ⟨[(2, (.ptr 16 0)), (3, (aI 1))], [(16, (.cells [(aS ([] : List UInt8)), aN, aN, aN, (aI 0), aN]))], [], 192⟩ ((⟨([] : List UInt8), [], [], [], (0 : Int), []⟩ : T48), (1 : Int)) ⟨rfl, _, Weak.refl _, ⟨⟨dr, de_nil, de_nil, de_nil, dr, de_nil, trivial⟩, dr, trivial⟩⟩) (.exi ((List UInt8) × (T48 × (List T136))) ((m36 a0).bind fun r3_0 => ((m63 r3_0).bind fun r3_1 => some (r3_0, r3_1))) (fun x3 => (.p (PureAt Tryz.prog 36 [(dI a0)] (.str x3.1)) (.p (PureAt Tryz.prog 63 [(.str x3.1)] (.tup [(e48 x3.2.1), (eSl 3 e136 x3.2.2)])) (.fin 0)))) (by intro x3 h; obtain ⟨r3_0, h1, h⟩ := Option.bind_eq_some_iff.1 h; obtain ⟨r3_1, h2, h⟩ := Option.bind_eq_some_iff.1 h; cases h; exact ⟨p36 h1, p63 h2, trivial⟩) (fun x3 _ => (.ret .ret ⟨[(2, (.ptr 16 0)), (3, (aI 0))], [(16, (.cells (g48 x3.2.1)))], [], 336⟩ (x3.2.1, (0 : Int)) ⟨rfl, _, Weak.refl _, ⟨dr, dr, trivial⟩⟩)))))
noncomputable def m37 (a0 : Int) : Option (T48 × Int) := (d37 a0).m
theorem p37 {a0 : Int} {r : T48 × Int} (h : m37 a0 = some r) : PureAt Tryz.prog 37 [(dI a0)] (.tup [(e48 r.1), (dI r.2)]) := pure_jd (d37 a0) Tryz.func37 h
noncomputable def d48 (a0 : T48) : JF Tryz.prog Tryz.f48 [(e48 a0)] (fun (r : (List Int)) => (eSl 1 dI r)) :=
 (.sq 2 [] [(0, [1, 3], [16])] (fun (_ : Unit) => ⟨[(1, (.ptr 16 0)), (3, aN)], [(16, (.cells (g48 a0)))], [], 64⟩) (.nx ()) (fun _ => (.sc (fun (y2 : (List Int)) => ⟨[(3, (.ap 1 y2.length (cF dI y2) (.tok 288 3)))], [], [288], 368⟩) (.sq 1 [] [(0, [1, 3, 7, 8], [16])] (fun (_ : Unit) => ⟨[(1, (.ptr 16 0)), (3, aN), (7, (aI (a0.States.length : Int))), (8, (aI 0))], [(16, (.cells (g48 a0)))], [], 128⟩) (.nx ()) (fun _ => (.bk (.lp (fun (s1 : (List Int) × Int) => ⟨[(1, (.ptr 16 0)), (3, (.ap 1 s1.1.length (cF dI s1.1) (.tok 288 3))), (7, (aI (a0.States.length : Int))), (8, (aI s1.2))], [(16, (.cells (g48 a0)))], [288], 352⟩) ([], (0 : Int)) (wk [(16, 16)] []) fun s1 => (.sg [(5, tm1 13 D.bool)] [(0, [1, 3, 7, 8], [16]), (2, [3], [])] (.ite (decide (s1.2 < (a0.States.length : Int))) (c3 (@p83 a0 s1.2) fun x5 => (.ite (!x5) (nd ((s1.1.length + 1) * 8 ≤ 140737488355328) (.ret .normal ⟨[(1, (.ptr 16 0)), (3, (.ap 1 (s1.1.length + 1) (appF s1.1.length (cF dI s1.1) (litF [(dI s1.2)])) (.tok 512 3))), (7, (aI (a0.States.length : Int))), (8, (aI (IntKind.wrap .i64 (s1.2 + 1))))], [(16, (.cells (g48 a0)))], [512, 496], 576⟩ (.inl ((s1.1 ++ ([s1.2] : List Int)), (IntKind.wrap .i64 (s1.2 + 1)))) ⟨rfl, (wh [(16, 16)] [(288, 512)] ⟨⟨rfl, rfl⟩, ⟨rfl, rfl, rfl, (de_app dr (de_lit rfl rfl))⟩, dr, dr⟩)⟩)) (.ret .normal ⟨[(1, (.ptr 16 0)), (3, (.ap 1 s1.1.length (cF dI s1.1) (.tok 288 3))), (7, (aI (a0.States.length : Int))), (8, (aI (IntKind.wrap .i64 (s1.2 + 1))))], [(16, (.cells (g48 a0)))], [288], 496⟩ (.inl (s1.1, (IntKind.wrap .i64 (s1.2 + 1)))) ⟨rfl, (wk [(16, 16)] [(288, 288)])⟩))) (.ret (.exit 0) _ (.inr (.inl s1.1)) ⟨rfl, rfl, Weak.refl _⟩))))))) fun y2 => (.sg [] [(1, [2], [])] (.ret .ret ⟨[(2, (.ap 1 y2.length (cF dI y2) (.tok 288 3)))], [], [288], 400⟩ y2 ⟨rfl, _, Weak.refl _, dr⟩)))))
noncomputable def m48 (a0 : T48) : Option ((List Int)) := (d48 a0).m
theorem p48 {a0 : T48} {r : (List Int)} (h : m48 a0 = some r) : PureAt Tryz.prog 48 [(e48 a0)] (eSl 1 dI r) := pure_jd (d48 a0) Tryz.func48 h
noncomputable abbrev z27_0 (y1 : (List UInt8) × (List (List UInt8)) × (List (List T176)) × (List T57) × Int × (List T119)) : List (Nat × Ob) := [(112, (.cells [(aS y1.1), (.d (eSl 1 D.str y1.2.1)), (.d (eSl 1 (eSl 2 e176) y1.2.2.1)), (.d (eSl 6 e57 y1.2.2.2.1)), (aI y1.2.2.2.2.1), (.d (eSl 4 e119 y1.2.2.2.2.2))]))]
noncomputable def d27 (a0 a1 : Int) : JF Tryz.prog Tryz.f27 [(dI a0), (.int .u8 a1)] (fun (r : (List UInt8)) => (.str r)) :=
 (.sq 3 [(1, tm1 11 (fun (x : (T48 × Int)) => (.tup [(e48 x.1), (dI x.2)])))] [(1, [4], []), (0, [1, 5], [112])] (fun (y1 : (List UInt8) × (List (List UInt8)) × (List (List T176)) × (List T57) × Int × (List T119)) => ⟨[(1, (.d (.int .u8 a1))), (5, (.ptr 112 0))], (z27_0 y1), [], 192⟩) (c3 (@p37 a0) fun x1 => (.ite (x1.2 != 0) (.ret .ret ⟨[(4, (aS ([] : List UInt8)))], [], [], 208⟩ (.inr (([] : List UInt8))) ⟨rfl, rfl, _, Weak.refl _, dr⟩) (.nx (x1.1.Name, x1.1.Conds, x1.1.Never, x1.1.States, x1.1.Start, x1.1.Transitions)))) (fun y1 => (.sc (fun (_ : Unit) => ⟨[], [], [], 432⟩) (.sq 1 [(4, tm1 17 (eSl 1 dI))] [(0, [1, 5, 17, 18, 19], [112])] (fun (y2 : (List Int) × Int) => ⟨[(1, (.d (.int .u8 a1))), (5, (.ptr 112 0)), (17, (.d (eSl 1 dI y2.1))), (18, (aI y2.2)), (19, (aI 0))], (z27_0 y1), [], 256⟩) (c3 (@p48 (⟨y1.1, y1.2.1, y1.2.2.1, y1.2.2.2.1, y1.2.2.2.2.1, y1.2.2.2.2.2⟩ : T48)) fun x4 => (.nx (x4, (x4.length : Int)))) (fun y2 => (.bk (.lp (fun (s3 : Int) => ⟨[(1, (.d (.int .u8 a1))), (5, (.ptr 112 0)), (17, (.d (eSl 1 dI y2.1))), (18, (aI y2.2)), (19, (aI s3))], (z27_0 y1), [], 416⟩) (0 : Int) (wk [(112, 112)] []) fun s3 => (.sg [] [(1, [4], []), (0, [1, 5, 17, 18, 19], [112]), (2, [], [])] (.ite (decide (s3 < y2.2)) (nd (0 ≤ s3) (nd (s3 < (y2.1.length : Int)) (.ite ((y2.1.getD s3.toNat default) == (IntKind.wrap .i64 (a1))) (nd (0 ≤ (y2.1.getD s3.toNat default)) (nd ((y2.1.getD s3.toNat default) < (y1.2.2.2.1.length : Int)) (.ret .ret ⟨[(4, (aS (y1.2.2.2.1.getD (y2.1.getD s3.toNat default).toNat default).Name))], [], [], 656⟩ (.inr (.inr ((y1.2.2.2.1.getD (y2.1.getD s3.toNat default).toNat default).Name))) ⟨rfl, rfl, rfl, _, Weak.refl _, dr⟩))) (.ret .normal ⟨[(1, (.d (.int .u8 a1))), (5, (.ptr 112 0)), (17, (.d (eSl 1 dI y2.1))), (18, (aI y2.2)), (19, (aI (IntKind.wrap .i64 (s3 + 1))))], (z27_0 y1), [], 576⟩ (.inl (IntKind.wrap .i64 (s3 + 1))) ⟨rfl, (wk [(112, 112)] [])⟩)))) (.ret (.exit 0) _ (.inr (.inl ())) ⟨rfl, rfl, Weak.refl _⟩))))))) fun _ => (.sg [] [(1, [4], [])] (.ret .ret ⟨[(4, (aS ([] : List UInt8)))], [], [], 448⟩ ([] : List UInt8) ⟨rfl, _, Weak.refl _, dr⟩)))))
noncomputable def m27 (a0 a1 : Int) : Option ((List UInt8)) := (d27 a0 a1).m
theorem p27 {a0 : Int} {a1 : Int} {r : (List UInt8)} (h : m27 a0 a1 = some r) : PureAt Tryz.prog 27 [(dI a0), (.int .u8 a1)] (.str r) := pure_jd (d27 a0 a1) Tryz.func27 h
noncomputable def d24 (a0 : T30) : JF Tryz.prog Tryz.f24 [(e30 a0)] (fun (r : Bool) => (.bool r)) :=
 (.sg [(1, ⟨(List UInt8) × (List UInt8) × (List UInt8), fun x => [(5, (.str x.1)), (10, (.str x.2.1)), (16, (.str x.2.2))], fun x => [], []⟩)] [(1, [2], [])] (.exi ((List UInt8) × (List UInt8) × (List UInt8)) ((m27 (1 : Int) a0.Lateral).bind fun r1_0 => ((if (r1_0 != ([] : List UInt8)) = true then m27 (2 : Int) a0.Vertical else some default).bind fun r1_1 => ((if ((r1_0 != ([] : List UInt8)) && (r1_1 != ([] : List UInt8))) = true then m27 (3 : Int) a0.Phase else some default).bind fun r1_2 => some (r1_0, r1_1, r1_2)))) (fun x1 => (.p (PureAt Tryz.prog 27 [(dI 1), (.int .u8 a0.Lateral)] (.str x1.1)) (.g (x1.1 != ([] : List UInt8)) (PureAt Tryz.prog 27 [(dI 2), (.int .u8 a0.Vertical)] (.str x1.2.1)) (.g ((x1.1 != ([] : List UInt8)) && (x1.2.1 != ([] : List UInt8))) (PureAt Tryz.prog 27 [(dI 3), (.int .u8 a0.Phase)] (.str x1.2.2)) (.fin 0))))) (by intro x1 h; obtain ⟨r1_0, h1, h⟩ := Option.bind_eq_some_iff.1 h; obtain ⟨r1_1, h2, h⟩ := Option.bind_eq_some_iff.1 h; obtain ⟨r1_2, h3, h⟩ := Option.bind_eq_some_iff.1 h; cases h; exact ⟨p27 h1, fun g => p27 (by rw [if_pos g] at h2; exact h2), fun g => p27 (by rw [if_pos g] at h3; exact h3), trivial⟩) (fun x1 _ => (.ret .ret ⟨[(2, (aB (((x1.1 != ([] : List UInt8)) && (x1.2.1 != ([] : List UInt8))) && (x1.2.2 != ([] : List UInt8)))))], [], [], 320⟩ (((x1.1 != ([] : List UInt8)) && (x1.2.1 != ([] : List UInt8))) && (x1.2.2 != ([] : List UInt8))) ⟨rfl, _, Weak.refl _, dr⟩))))
noncomputable def m24 (a0 : T30) : Option (Bool) := (d24 a0).m
theorem p24 {a0 : T30} {r : Bool} (h : m24 a0 = some r) : PureAt Tryz.prog 24 [(e30 a0)] (.bool r) := pure_jd (d24 a0) Tryz.func24 h
noncomputable def d26 (a0 : T30) : JF Tryz.prog Tryz.f26 [(e30 a0)] (fun (r : (List UInt8)) => (.str r)) :=
 (.sg [(1, tm1 4 D.bool), (3, ⟨(List UInt8) × (List UInt8) × (List UInt8), fun x => [(8, (.str x.1)), (12, (.str x.2.1)), (17, (.str x.2.2))], fun x => [], []⟩)] [(1, [2], [])] (c3 (@p24 a0) fun x1 => (.ite (!x1) (.ret .ret ⟨[(2, (aS ([] : List UInt8)))], [], [], 112⟩ ([] : List UInt8) ⟨rfl, _, Weak.refl _, dr⟩) (.exi ((List UInt8) × (List UInt8) × (List UInt8)) ((m27 (1 : Int) a0.Lateral).bind fun r3_0 => (if r3_0.length + ([32] : List UInt8).length ≤ 9223372036854775807 then ((m27 (2 : Int) a0.Vertical).bind fun r3_1 => (if (r3_0 ++ ([32] : List UInt8)).length + r3_1.length ≤ 9223372036854775807 then (if ((r3_0 ++ ([32] : List UInt8)) ++ r3_1).length + ([32] : List UInt8).length ≤ 9223372036854775807 then ((m27 (3 : Int) a0.Phase).bind fun r3_2 => (if (((r3_0 ++ ([32] : List UInt8)) ++ r3_1) ++ ([32] : List UInt8)).length + r3_2.length ≤ 9223372036854775807 then some (r3_0, r3_1, r3_2) else none)) else none) else none)) else none)) (fun x3 => (.p (PureAt Tryz.prog 27 [(dI 1), (.int .u8 a0.Lateral)] (.str x3.1)) (.p (x3.1.length + ([32] : List UInt8).length ≤ 9223372036854775807) (.p (PureAt Tryz.prog 27 [(dI 2), (.int .u8 a0.Vertical)] (.str x3.2.1)) (.p ((x3.1 ++ ([32] : List UInt8)).length + x3.2.1.length ≤ 9223372036854775807) (.p (((x3.1 ++ ([32] : List UInt8)) ++ x3.2.1).length + ([32] : List UInt8).length ≤ 9223372036854775807) (.p (PureAt Tryz.prog 27 [(dI 3), (.int .u8 a0.Phase)] (.str x3.2.2)) (.p ((((x3.1 ++ ([32] : List UInt8)) ++ x3.2.1) ++ ([32] : List UInt8)).length + x3.2.2.length ≤ 9223372036854775807) (.fin 0))))))))) (by intro x3 h; obtain ⟨r3_0, h1, h⟩ := Option.bind_eq_some_iff.1 h; obtain ⟨h2, h⟩ := if_some h; obtain ⟨r3_1, h3, h⟩ := Option.bind_eq_some_iff.1 h; obtain ⟨h4, h⟩ := if_some h; obtain ⟨h5, h⟩ := if_some h; obtain ⟨r3_2, h6, h⟩ := Option.bind_eq_some_iff.1 h; obtain ⟨h7, h⟩ := if_some h; cases h; exact ⟨p27 h1, h2, p27 h3, h4, h5, p27 h6, h7, trivial⟩) (fun x3 _ => (.ret .ret ⟨[(2, (aS ((((x3.1 ++ ([32] : List UInt8)) ++ x3.2.1) ++ ([32] : List UInt8)) ++ x3.2.2)))], [], [], 320⟩ ((((x3.1 ++ ([32] : List UInt8)) ++ x3.2.1) ++ ([32] : List UInt8)) ++ x3.2.2) ⟨rfl, _, Weak.refl _, dr⟩))))))
noncomputable def m26 (a0 : T30) : Option ((List UInt8)) := (d26 a0).m
theorem p26 {a0 : T30} {r : (List UInt8)} (h : m26 a0 = some r) : PureAt Tryz.prog 26 [(e30 a0)] (.str r) := pure_jd (d26 a0) Tryz.func26 h
noncomputable def d28 : JF Tryz.prog Tryz.f28 [] (fun (r : T30) => (e30 r)) :=
 (.sg [] [(1, [0], [16])] (.ret .ret ⟨[(0, (.ptr 16 0))], [(16, (.cells [(.d (.int .u8 1)), (.d (.int .u8 1)), (.d (.int .u8 1))]))], [], 64⟩ (⟨(1 : Int), (1 : Int), (1 : Int)⟩ : T30) ⟨rfl, _, Weak.refl _, dr⟩))
noncomputable def m28 : Option (T30) := (d28 ).m
theorem p28 {r : T30} (h : m28  = some r) : PureAt Tryz.prog 28 [] (e30 r) := pure_jd (d28 ) Tryz.func28 h
noncomputable def d14 (a0 : T30) : JF Tryz.prog Tryz.f14 [(e30 a0)] (fun (r : T23) => (e23 r)) :=
 (.sg [] [(1, [2], [32])] (.ret .ret ⟨[(2, (.ptr 32 0))], [(32, (.cells [(.d (.int .u8 a0.Lateral)), (.d (.int .u8 a0.Vertical)), (.d (.int .u8 a0.Phase))]))], [], 176⟩ (⟨a0.Lateral, a0.Vertical, a0.Phase⟩ : T23) ⟨rfl, _, Weak.refl _, dr⟩))
noncomputable def m14 (a0 : T30) : Option (T23) := (d14 a0).m
theorem p14 {a0 : T30} {r : T23} (h : m14 a0 = some r) : PureAt Tryz.prog 14 [(e30 a0)] (e23 r) := pure_jd (d14 a0) Tryz.func14 h
noncomputable abbrev z29_0 : Ob := (.cells [(.d (.int .u8 0)), (.d (.int .u8 0)), (.d (.int .u8 0))])
noncomputable abbrev z29_1 (y4 : Int) : Ob := (.cells [(.d (.int .u8 y4)), (.d (.int .u8 0)), (.d (.int .u8 0))])
noncomputable abbrev z29_2 (y4 : Int) (y7 : Int) : Ob := (.cells [(.d (.int .u8 y4)), (.d (.int .u8 y7)), (.d (.int .u8 0))])
noncomputable abbrev z29_3 (y10 : Int) (y4 : Int) (y7 : Int) : Ob := (.cells [(.d (.int .u8 y4)), (.d (.int .u8 y7)), (.d (.int .u8 y10))])
noncomputable abbrev z29_4 (y1 : (List (List UInt8))) : List (Nat × AV) := [(2, (.ptr 16 0)), (5, (.ptr 144 0)), (15, (.d (eSl 1 D.str y1))), (16, (aI (y1.length : Int))), (17, (aI 0))]
noncomputable abbrev z29_5 (y1 : (List (List UInt8))) : List (Nat × AV) := [(2, (.ptr 16 0)), (5, (.ptr 144 0)), (15, (.d (eSl 1 D.str y1))), (16, (aI (y1.length : Int))), (17, (aI 1))]
noncomputable abbrev z29_6 (y1 : (List (List UInt8))) : List (Nat × AV) := [(2, (.ptr 16 0)), (5, (.ptr 144 0)), (15, (.d (eSl 1 D.str y1))), (16, (aI (y1.length : Int))), (17, (aI 2))]
noncomputable abbrev z29_7 : List (Nat × AV) := [(2, (.ptr 16 0)), (3, (aI 4))]
noncomputable abbrev z29_8 : List (Nat × AV) := [(2, (.ptr 16 0)), (5, (.ptr 144 0))]
noncomputable abbrev z29_9 (y1 : (List (List UInt8))) (y2 : Int) : List (Nat × AV) := [(2, (.ptr 16 0)), (5, (.ptr 144 0)), (6, (aI 0)), (8, (aI y2)), (15, (.d (eSl 1 D.str y1))), (16, (aI (y1.length : Int))), (17, (aI 0))]
noncomputable abbrev z29_a (y1 : (List (List UInt8))) (y5 : Int) : List (Nat × AV) := [(2, (.ptr 16 0)), (5, (.ptr 144 0)), (6, (aI 1)), (8, (aI y5)), (15, (.d (eSl 1 D.str y1))), (16, (aI (y1.length : Int))), (17, (aI 1))]
noncomputable abbrev z29_b (y1 : (List (List UInt8))) (y8 : Int) : List (Nat × AV) := [(2, (.ptr 16 0)), (5, (.ptr 144 0)), (6, (aI 2)), (8, (aI y8)), (15, (.d (eSl 1 D.str y1))), (16, (aI (y1.length : Int))), (17, (aI 2))]
noncomputable abbrev z29_c (y1 : (List (List UInt8))) (y11 : Int) : List (Nat × AV) := [(2, (.ptr 16 0)), (5, (.ptr 144 0)), (6, (aI 3)), (8, (aI y11)), (15, (.d (eSl 1 D.str y1))), (16, (aI (y1.length : Int))), (17, (aI 3))]
noncomputable abbrev z29_d (y1 : (List (List UInt8))) : List (Nat × AV) := [(2, (.ptr 16 0)), (5, (.ptr 144 0)), (15, (.d (eSl 1 D.str y1))), (16, (aI (y1.length : Int))), (17, (aI 3))]
noncomputable def d29 (a0 : List UInt8) : JF Tryz.prog Tryz.f29 [(.str a0)] (fun (r : T23 × Int) => (.tup [(e23 r.1), (dI r.2)])) :=
 (.sq 4 [(1, tm1 10 (eSl 1 D.str))] [(1, [2, 3], [16]), (0, [2, 4, 5], [16, 144])] (fun (y1 : (List (List UInt8))) => ⟨[(2, (.ptr 16 0)), (4, (.d (eSl 1 D.str y1))), (5, (.ptr 144 0))], [(16, z29_0), (144, z29_0)], [], 160⟩) (c3 (@p49 a0 ([32] : List UInt8)) fun x1 => (.ite ((x1.length : Int) != (3 : Int)) (.ret .ret ⟨z29_7, [(16, z29_0)], [], 192⟩ (.inr (((⟨(0 : Int), (0 : Int), (0 : Int)⟩ : T23), (4 : Int)))) ⟨rfl, rfl, _, Weak.refl _, ⟨dr, dr, trivial⟩⟩) (.nx x1))) (fun y1 => (.sc (fun (y12 : Int × Int × Int) => ⟨z29_8, [(16, z29_0), (144, (.cells [(.d (.int .u8 y12.1)), (.d (.int .u8 y12.2.1)), (.d (.int .u8 y12.2.2))]))], [], 1232⟩) (.sq 1 [] [(0, [2, 5, 15, 16, 17], [16, 144])] (fun (_ : Unit) => ⟨(z29_4 y1), [(16, z29_0), (144, z29_0)], [], 208⟩) (.nx ()) (fun _ => (.bk (.lu 4 (.r (fun (y4 : Int) => ⟨(z29_5 y1), [(16, z29_0), (144, (z29_1 y4))], [], 544⟩) (.sq 1 [] [(0, [2, 5, 15, 16, 17, 18], [16, 144])] (fun (_ : Unit) => ⟨[(2, (.ptr 16 0)), (5, (.ptr 144 0)), (15, (.d (eSl 1 D.str y1))), (16, (aI (y1.length : Int))), (17, (aI 0)), (18, (aB (decide (0 < (y1.length : Int)))))], [(16, z29_0), (144, z29_0)], [], 224⟩) (.nx ()) (fun _ => (.sc (fun (_ : Unit) => ⟨(z29_4 y1), [(16, z29_0), (144, z29_0)], [], 224⟩) (.cd (decide (0 < (y1.length : Int))) (.sg [] [(0, [2, 5, 15, 16, 17], [16, 144])] (.nx ())) (.sg [] [(2, [2, 5], [16, 144])] (.ret (.exit 0) ⟨z29_8, [(16, z29_0), (144, z29_0)], [], 224⟩ (.inr (.inr (.inl ((0 : Int), (0 : Int), (0 : Int))))) ⟨rfl, rfl, rfl, (wk (idn [16, 144]) [])⟩))) fun _ => (.sc (fun (y3 : Int) => ⟨(z29_4 y1), [(16, z29_0), (144, (.cells [(.d (.int .u8 y3)), (.d (.int .u8 0)), (.d (.int .u8 0))]))], [], 512⟩) (.bk (.sq 2 [(8, ⟨(List (List UInt8)) × Int, fun x => [(24, (eSl 1 D.str x.1)), (26, (dI x.2))], fun x => [], []⟩)] [(0, [2, 5, 6, 8, 15, 16, 17], [16, 144])] (fun (y2 : Int) => ⟨(z29_9 y1 y2), [(16, z29_0), (144, z29_0)], [], 400⟩) (nd ((0 : Int) ≤ (0 : Int)) (nd (0 < (y1.length : Int)) (.exi ((List (List UInt8)) × Int) ((m46 (1 : Int)).bind fun r8_0 => ((m50 r8_0 (y1.getD (0 : Int).toNat default)).bind fun r8_1 => some (r8_0, r8_1))) (fun x8 => (.p (PureAt Tryz.prog 46 [(dI 1)] (eSl 1 D.str x8.1)) (.p (PureAt Tryz.prog 50 [(eSl 1 D.str x8.1), (.str (y1.getD (0 : Int).toNat default))] (dI x8.2)) (.fin 0)))) (by intro x8 h; obtain ⟨r8_0, h1, h⟩ := Option.bind_eq_some_iff.1 h; obtain ⟨r8_1, h2, h⟩ := Option.bind_eq_some_iff.1 h; cases h; exact ⟨p46 h1, p50 h2, trivial⟩) (fun x8 _ => (.nx x8.2))))) (fun y2 => (.sc (fun (_ : Unit) => ⟨(z29_9 y1 y2), [(16, z29_0), (144, z29_0)], [], 432⟩) (.sq 1 [] [(0, [2, 5, 6, 8, 15, 16, 17, 28], [16, 144])] (fun (_ : Unit) => ⟨[(2, (.ptr 16 0)), (5, (.ptr 144 0)), (6, (aI 0)), (8, (aI y2)), (15, (.d (eSl 1 D.str y1))), (16, (aI (y1.length : Int))), (17, (aI 0)), (28, (aB (decide (y2 < 1))))], [(16, z29_0), (144, z29_0)], [], 432⟩) (.nx ()) (fun _ => (.cd (decide (y2 < 1)) (.sg [] [(1, [2, 3], [16])] (.ret .ret ⟨z29_7, [(16, z29_0)], [], 480⟩ (.inr (.inr (.inr (.inr (((⟨(0 : Int), (0 : Int), (0 : Int)⟩ : T23), (4 : Int))))))) ⟨rfl, rfl, rfl, rfl, rfl, _, Weak.refl _, ⟨dr, dr, trivial⟩⟩)) (.sg [] [(0, [2, 5, 6, 8, 15, 16, 17], [16, 144])] (.nx ()))))) fun _ => (.sg [] [(0, [2, 5, 15, 16, 17], [16, 144])] (.ret .normal _ (.inl (IntKind.wrap .u8 (y2))) ⟨rfl, Weak.refl _⟩)))))) fun y3 => (.sg [] [(0, [2, 5, 15, 16, 17], [16, 144])] (.nx y3)))))) fun y4 => (.r (fun (y7 : Int) => ⟨(z29_6 y1), [(16, z29_0), (144, (z29_2 y4 y7))], [], 880⟩) (.sq 1 [] [(0, [2, 5, 15, 16, 17, 18], [16, 144])] (fun (_ : Unit) => ⟨[(2, (.ptr 16 0)), (5, (.ptr 144 0)), (15, (.d (eSl 1 D.str y1))), (16, (aI (y1.length : Int))), (17, (aI 1)), (18, (aB (decide (1 < (y1.length : Int)))))], [(16, z29_0), (144, (z29_1 y4))], [], 560⟩) (.nx ()) (fun _ => (.sc (fun (_ : Unit) => ⟨(z29_5 y1), [(16, z29_0), (144, (z29_1 y4))], [], 560⟩) (.cd (decide (1 < (y1.length : Int))) (.sg [] [(0, [2, 5, 15, 16, 17], [16, 144])] (.nx ())) (.sg [] [(2, [2, 5], [16, 144])] (.ret (.exit 0) ⟨z29_8, [(16, z29_0), (144, (z29_1 y4))], [], 560⟩ (.inr (.inr (.inl (y4, (0 : Int), (0 : Int))))) ⟨rfl, rfl, rfl, (wk (idn [16, 144]) [])⟩))) fun _ => (.sc (fun (y6 : Int) => ⟨(z29_5 y1), [(16, z29_0), (144, (.cells [(.d (.int .u8 y4)), (.d (.int .u8 y6)), (.d (.int .u8 0))]))], [], 848⟩) (.bk (.sq 2 [(8, ⟨(List (List UInt8)) × Int, fun x => [(24, (eSl 1 D.str x.1)), (26, (dI x.2))], fun x => [], []⟩)] [(0, [2, 5, 6, 8, 15, 16, 17], [16, 144])] (fun (y5 : Int) => ⟨(z29_a y1 y5), [(16, z29_0), (144, (z29_1 y4))], [], 736⟩) (nd ((0 : Int) ≤ (1 : Int)) (nd (1 < (y1.length : Int)) (.exi ((List (List UInt8)) × Int) ((m46 (2 : Int)).bind fun r8_0 => ((m50 r8_0 (y1.getD (1 : Int).toNat default)).bind fun r8_1 => some (r8_0, r8_1))) (fun x8 => (.p (PureAt Tryz.prog 46 [(dI 2)] (eSl 1 D.str x8.1)) (.p (PureAt Tryz.prog 50 [(eSl 1 D.str x8.1), (.str (y1.getD (1 : Int).toNat default))] (dI x8.2)) (.fin 0)))) (by intro x8 h; obtain ⟨r8_0, h1, h⟩ := Option.bind_eq_some_iff.1 h; obtain ⟨r8_1, h2, h⟩ := Option.bind_eq_some_iff.1 h; cases h; exact ⟨p46 h1, p50 h2, trivial⟩) (fun x8 _ => (.nx x8.2))))) (fun y5 => (.sc (fun (_ : Unit) => ⟨(z29_a y1 y5), [(16, z29_0), (144, (z29_1 y4))], [], 768⟩) (.sq 1 [] [(0, [2, 5, 6, 8, 15, 16, 17, 28], [16, 144])] (fun (_ : Unit) => ⟨[(2, (.ptr 16 0)), (5, (.ptr 144 0)), (6, (aI 1)), (8, (aI y5)), (15, (.d (eSl 1 D.str y1))), (16, (aI (y1.length : Int))), (17, (aI 1)), (28, (aB (decide (y5 < 1))))], [(16, z29_0), (144, (z29_1 y4))], [], 768⟩) (.nx ()) (fun _ => (.cd (decide (y5 < 1)) (.sg [] [(1, [2, 3], [16])] (.ret .ret ⟨z29_7, [(16, z29_0)], [], 816⟩ (.inr (.inr (.inr (.inr (((⟨(0 : Int), (0 : Int), (0 : Int)⟩ : T23), (4 : Int))))))) ⟨rfl, rfl, rfl, rfl, rfl, _, Weak.refl _, ⟨dr, dr, trivial⟩⟩)) (.sg [] [(0, [2, 5, 6, 8, 15, 16, 17], [16, 144])] (.nx ()))))) fun _ => (.sg [] [(0, [2, 5, 15, 16, 17], [16, 144])] (.ret .normal _ (.inl (IntKind.wrap .u8 (y5))) ⟨rfl, Weak.refl _⟩)))))) fun y6 => (.sg [] [(0, [2, 5, 15, 16, 17], [16, 144])] (.nx y6)))))) fun y7 => (.r (fun (y10 : Int) => ⟨(z29_d y1), [(16, z29_0), (144, (z29_3 y10 y4 y7))], [], 1216⟩) (.sq 1 [] [(0, [2, 5, 15, 16, 17, 18], [16, 144])] (fun (_ : Unit) => ⟨[(2, (.ptr 16 0)), (5, (.ptr 144 0)), (15, (.d (eSl 1 D.str y1))), (16, (aI (y1.length : Int))), (17, (aI 2)), (18, (aB (decide (2 < (y1.length : Int)))))], [(16, z29_0), (144, (z29_2 y4 y7))], [], 896⟩) (.nx ()) (fun _ => (.sc (fun (_ : Unit) => ⟨(z29_6 y1), [(16, z29_0), (144, (z29_2 y4 y7))], [], 896⟩) (.cd (decide (2 < (y1.length : Int))) (.sg [] [(0, [2, 5, 15, 16, 17], [16, 144])] (.nx ())) (.sg [] [(2, [2, 5], [16, 144])] (.ret (.exit 0) ⟨z29_8, [(16, z29_0), (144, (z29_2 y4 y7))], [], 896⟩ (.inr (.inr (.inl (y4, y7, (0 : Int))))) ⟨rfl, rfl, rfl, (wk (idn [16, 144]) [])⟩))) fun _ => (.sc (fun (y9 : Int) => ⟨(z29_6 y1), [(16, z29_0), (144, (.cells [(.d (.int .u8 y4)), (.d (.int .u8 y7)), (.d (.int .u8 y9))]))], [], 1184⟩) (.bk (.sq 2 [(8, ⟨(List (List UInt8)) × Int, fun x => [(24, (eSl 1 D.str x.1)), (26, (dI x.2))], fun x => [], []⟩)] [(0, [2, 5, 6, 8, 15, 16, 17], [16, 144])] (fun (y8 : Int) => ⟨(z29_b y1 y8), [(16, z29_0), (144, (z29_2 y4 y7))], [], 1072⟩) (nd ((0 : Int) ≤ (2 : Int)) (nd (2 < (y1.length : Int)) (.exi ((List (List UInt8)) × Int) ((m46 (3 : Int)).bind fun r8_0 => ((m50 r8_0 (y1.getD (2 : Int).toNat default)).bind fun r8_1 => some (r8_0, r8_1))) (fun x8 => (.p (PureAt Tryz.prog 46 [(dI 3)] (eSl 1 D.str x8.1)) (.p (PureAt Tryz.prog 50 [(eSl 1 D.str x8.1), (.str (y1.getD (2 : Int).toNat default))] (dI x8.2)) (.fin 0)))) (by intro x8 h; obtain ⟨r8_0, h1, h⟩ := Option.bind_eq_some_iff.1 h; obtain ⟨r8_1, h2, h⟩ := Option.bind_eq_some_iff.1 h; cases h; exact ⟨p46 h1, p50 h2, trivial⟩) (fun x8 _ => (.nx x8.2))))) (fun y8 => (.sc (fun (_ : Unit) => ⟨(z29_b y1 y8), [(16, z29_0), (144, (z29_2 y4 y7))], [], 1104⟩) (.sq 1 [] [(0, [2, 5, 6, 8, 15, 16, 17, 28], [16, 144])] (fun (_ : Unit) => ⟨[(2, (.ptr 16 0)), (5, (.ptr 144 0)), (6, (aI 2)), (8, (aI y8)), (15, (.d (eSl 1 D.str y1))), (16, (aI (y1.length : Int))), (17, (aI 2)), (28, (aB (decide (y8 < 1))))], [(16, z29_0), (144, (z29_2 y4 y7))], [], 1104⟩) (.nx ()) (fun _ => (.cd (decide (y8 < 1)) (.sg [] [(1, [2, 3], [16])] (.ret .ret ⟨z29_7, [(16, z29_0)], [], 1152⟩ (.inr (.inr (.inr (.inr (((⟨(0 : Int), (0 : Int), (0 : Int)⟩ : T23), (4 : Int))))))) ⟨rfl, rfl, rfl, rfl, rfl, _, Weak.refl _, ⟨dr, dr, trivial⟩⟩)) (.sg [] [(0, [2, 5, 6, 8, 15, 16, 17], [16, 144])] (.nx ()))))) fun _ => (.sg [] [(0, [2, 5, 15, 16, 17], [16, 144])] (.ret .normal _ (.inl (IntKind.wrap .u8 (y8))) ⟨rfl, Weak.refl _⟩)))))) fun y9 => (.sg [] [(0, [2, 5, 15, 16, 17], [16, 144])] (.nx y9)))))) fun y10 => (.z (.sq 1 [] [(0, [2, 5, 15, 16, 17, 18], [16, 144])] (fun (_ : Unit) => ⟨[(2, (.ptr 16 0)), (5, (.ptr 144 0)), (15, (.d (eSl 1 D.str y1))), (16, (aI (y1.length : Int))), (17, (aI 3)), (18, (aB (decide (3 < (y1.length : Int)))))], [(16, z29_0), (144, (z29_3 y10 y4 y7))], [], 1232⟩) (.nx ()) (fun _ => (.sc (fun (_ : Unit) => ⟨(z29_d y1), [(16, z29_0), (144, (z29_3 y10 y4 y7))], [], 1232⟩) (.cd (decide (3 < (y1.length : Int))) (.sg [] [(0, [2, 5, 15, 16, 17], [16, 144])] (.nx ())) (.sg [] [(2, [2, 5], [16, 144])] (.ret (.exit 0) _ (.inr (.inr (.inl (y4, y7, y10)))) ⟨rfl, rfl, rfl, Weak.refl _⟩))) fun _ => (.se (.bk (.sq 2 [(8, ⟨(List (List UInt8)) × Int, fun x => [(24, (eSl 1 D.str x.1)), (26, (dI x.2))], fun x => [], []⟩)] [(0, [2, 5, 6, 8, 15, 16, 17], [16, 144])] (fun (y11 : Int) => ⟨(z29_c y1 y11), [(16, z29_0), (144, (z29_3 y10 y4 y7))], [], 1408⟩) (nd ((0 : Int) ≤ (3 : Int)) (nd (3 < (y1.length : Int)) (.exi ((List (List UInt8)) × Int) ((m46 (4 : Int)).bind fun r8_0 => ((m50 r8_0 (y1.getD (3 : Int).toNat default)).bind fun r8_1 => some (r8_0, r8_1))) (fun x8 => (.p (PureAt Tryz.prog 46 [(dI 4)] (eSl 1 D.str x8.1)) (.p (PureAt Tryz.prog 50 [(eSl 1 D.str x8.1), (.str (y1.getD (3 : Int).toNat default))] (dI x8.2)) (.fin 0)))) (by intro x8 h; obtain ⟨r8_0, h1, h⟩ := Option.bind_eq_some_iff.1 h; obtain ⟨r8_1, h2, h⟩ := Option.bind_eq_some_iff.1 h; cases h; exact ⟨p46 h1, p50 h2, trivial⟩) (fun x8 _ => (.nx x8.2))))) (fun y11 => (.sc (fun (_ : Unit) => ⟨(z29_c y1 y11), [(16, z29_0), (144, (z29_3 y10 y4 y7))], [], 1440⟩) (.sq 1 [] [(0, [2, 5, 6, 8, 15, 16, 17, 28], [16, 144])] (fun (_ : Unit) => ⟨[(2, (.ptr 16 0)), (5, (.ptr 144 0)), (6, (aI 3)), (8, (aI y11)), (15, (.d (eSl 1 D.str y1))), (16, (aI (y1.length : Int))), (17, (aI 3)), (28, (aB (decide (y11 < 1))))], [(16, z29_0), (144, (z29_3 y10 y4 y7))], [], 1440⟩) (.nx ()) (fun _ => (.cd (decide (y11 < 1)) (.sg [] [(1, [2, 3], [16])] (.ret .ret ⟨z29_7, [(16, z29_0)], [], 1488⟩ (.inr (.inr (.inr (.inr (((⟨(0 : Int), (0 : Int), (0 : Int)⟩ : T23), (4 : Int))))))) ⟨rfl, rfl, rfl, rfl, rfl, _, Weak.refl _, ⟨dr, dr, trivial⟩⟩)) (.sg [] [(0, [2, 5, 6, 8, 15, 16, 17], [16, 144])] (.nx ()))))) fun _ => (.sg [] [] .bad))))))))))))))))) fun y12 => (.sg [] [(1, [2, 3], [16])] (.ret .ret ⟨[(2, (.ptr 16 0)), (3, (aI 0))], [(16, (.cells [(.d (.int .u8 y12.1)), (.d (.int .u8 y12.2.1)), (.d (.int .u8 y12.2.2))]))], [], 1376⟩ ((⟨y12.1, y12.2.1, y12.2.2⟩ : T23), (0 : Int)) ⟨rfl, _, Weak.refl _, ⟨dr, dr, trivial⟩⟩)))))
noncomputable def m29 (a0 : List UInt8) : Option (T23 × Int) := (d29 a0).m
theorem p29 {a0 : List UInt8} {r : T23 × Int} (h : m29 a0 = some r) : PureAt Tryz.prog 29 [(.str a0)] (.tup [(e23 r.1), (dI r.2)]) := pure_jd (d29 a0) Tryz.func29 h
noncomputable abbrev z51_0 (y1 : (List UInt8) × (List (List UInt8)) × (List (List T176)) × (List T57) × Int × (List T119)) : List (Nat × Ob) := [(112, (.cells [(aS y1.1), (.d (eSl 1 D.str y1.2.1)), (.d (eSl 1 (eSl 2 e176) y1.2.2.1)), (.d (eSl 6 e57 y1.2.2.2.1)), (aI y1.2.2.2.2.1), (.d (eSl 4 e119 y1.2.2.2.2.2))]))]
noncomputable def d51 (a0 : Int) : JF Tryz.prog Tryz.f51 [(dI a0)] (fun (r : (List (List UInt8))) => (eSl 1 D.str r)) :=
 (.sq 3 [(1, tm1 10 (fun (x : (T48 × Int)) => (.tup [(e48 x.1), (dI x.2)])))] [(0, [3, 5], [112])] (fun (y1 : (List UInt8) × (List (List UInt8)) × (List (List T176)) × (List T57) × Int × (List T119)) => ⟨[(3, (.ptr 112 0)), (5, aN)], (z51_0 y1), [], 176⟩) (c3 (@p37 a0) fun x1 => (.nx (x1.1.Name, x1.1.Conds, x1.1.Never, x1.1.States, x1.1.Start, x1.1.Transitions))) (fun y1 => (.sc (fun (y4 : (List (List UInt8))) => ⟨[(5, (.ap 1 y4.length (cF D.str y4) (.tok 432 9)))], [], [432], 512⟩) (.sq 1 [(3, tm1 14 (eSl 1 dI))] [(0, [3, 5, 14, 15, 16], [112])] (fun (y2 : (List Int) × Int) => ⟨[(3, (.ptr 112 0)), (5, aN), (14, (.d (eSl 1 dI y2.1))), (15, (aI y2.2)), (16, (aI 0))], (z51_0 y1), [], 240⟩) (c3 (@p48 (⟨y1.1, y1.2.1, y1.2.2.1, y1.2.2.2.1, y1.2.2.2.2.1, y1.2.2.2.2.2⟩ : T48)) fun x3 => (.nx (x3, (x3.length : Int)))) (fun y2 => (.bk (.lp (fun (s3 : (List (List UInt8)) × Int) => ⟨[(3, (.ptr 112 0)), (5, (.ap 1 s3.1.length (cF D.str s3.1) (.tok 432 9))), (14, (.d (eSl 1 dI y2.1))), (15, (aI y2.2)), (16, (aI s3.2))], (z51_0 y1), [432], 496⟩) ([], (0 : Int)) (wk [(112, 112)] []) fun s3 => (.sg [] [(0, [3, 5, 14, 15, 16], [112]), (2, [5], [])] (.ite (decide (s3.2 < y2.2)) (nd (0 ≤ s3.2) (nd (s3.2 < (y2.1.length : Int)) (nd (0 ≤ (y2.1.getD s3.2.toNat default)) (nd ((y2.1.getD s3.2.toNat default) < (y1.2.2.2.1.length : Int)) (nd ((s3.1.length + 1) * 16 ≤ 140737488355328) (.ret .normal ⟨[(3, (.ptr 112 0)), (5, (.ap 1 (s3.1.length + 1) (appF s3.1.length (cF D.str s3.1) (litF [(.str (y1.2.2.2.1.getD (y2.1.getD s3.2.toNat default).toNat default).Name)])) (.tok 688 9))), (14, (.d (eSl 1 dI y2.1))), (15, (aI y2.2)), (16, (aI (IntKind.wrap .i64 (s3.2 + 1))))], (z51_0 y1), [688, 672], 752⟩ (.inl ((s3.1 ++ ([(y1.2.2.2.1.getD (y2.1.getD s3.2.toNat default).toNat default).Name] : List (List UInt8))), (IntKind.wrap .i64 (s3.2 + 1)))) ⟨rfl, (wh [(112, 112)] [(432, 688)] ⟨⟨rfl, rfl⟩, ⟨rfl, rfl, rfl, (de_app dr (de_lit rfl rfl))⟩, dr, dr, dr⟩)⟩)))))) (.ret (.exit 0) _ (.inr (.inl s3.1)) ⟨rfl, rfl, Weak.refl _⟩))))))) fun y4 => (.sg [] [(1, [2], [])] (.ret .ret ⟨[(2, (.ap 1 y4.length (cF D.str y4) (.tok 432 9)))], [], [432], 544⟩ y4 ⟨rfl, _, Weak.refl _, dr⟩)))))
noncomputable def m51 (a0 : Int) : Option ((List (List UInt8))) := (d51 a0).m
theorem p51 {a0 : Int} {r : (List (List UInt8))} (h : m51 a0 = some r) : PureAt Tryz.prog 51 [(dI a0)] (eSl 1 D.str r) := pure_jd (d51 a0) Tryz.func51 h
noncomputable abbrev z30_0 : List (Nat × Ob) := [(16, (.cells [(.d (.int .u8 0)), (.d (.int .u8 0)), (.d (.int .u8 0))]))]
noncomputable abbrev z30_1 (a0 : List UInt8) (s2 : Int) (s4 : Int) (y1 : (List (List UInt8)) × Int) (y3 : (List (List UInt8)) × Int) : List (Nat × AV) := [(0, (aS a0)), (2, (.ptr 16 0)), (4, (aI s2)), (5, (aS (y1.1.getD s2.toNat default))), (10, (.d (eSl 1 D.str y1.1))), (11, (aI y1.2)), (12, (aI s2)), (17, (.d (eSl 1 D.str y3.1))), (18, (aI y3.2)), (19, (aI s4))]
noncomputable abbrev z30_2 (a0 : List UInt8) (s2 : Int) (y1 : (List (List UInt8)) × Int) : List (Nat × AV) := [(0, (aS a0)), (2, (.ptr 16 0)), (10, (.d (eSl 1 D.str y1.1))), (11, (aI y1.2)), (12, (aI s2))]
noncomputable def d30 (a0 : List UInt8) : JF Tryz.prog Tryz.f30 [(.str a0)] (fun (r : T30 × Int) => (.tup [(e30 r.1), (dI r.2)])) :=
 (.sq 1 [] [(0, [0, 2], [16])] (fun (_ : Unit) => ⟨[(0, (aS a0)), (2, (.ptr 16 0))], z30_0, [], 48⟩) (.nx ()) (fun _ => (.sc (fun (_ : Unit) => ⟨[(2, (.ptr 16 0))], z30_0, [], 768⟩) (.sq 1 [(1, tm1 10 (eSl 1 D.str))] [(0, [0, 2, 10, 11, 12], [16])] (fun (y1 : (List (List UInt8)) × Int) => ⟨[(0, (aS a0)), (2, (.ptr 16 0)), (10, (.d (eSl 1 D.str y1.1))), (11, (aI y1.2)), (12, (aI 0))], z30_0, [], 96⟩) (c3 (@p51 (1 : Int)) fun x1 => (.nx (x1, (x1.length : Int)))) (fun y1 => (.bk (.lp (fun (s2 : Int) => ⟨(z30_2 a0 s2 y1), z30_0, [], 752⟩) (0 : Int) (wk [(16, 16)] []) fun s2 => (.sq 2 [] [(0, [0, 2, 10, 11, 12], [16]), (2, [2], [16])] (fun (_ : Unit) => ⟨(z30_2 a0 s2 y1), z30_0, [], 768⟩) (.ite (decide (s2 < y1.2)) (.nx ()) (.ret (.exit 0) _ (.inr (.inr (.inl ()))) ⟨rfl, rfl, rfl, Weak.refl _⟩)) (fun _ => (.sc (fun (_ : Unit) => ⟨(z30_2 a0 s2 y1), z30_0, [], 1376⟩) (.bk (.sq 2 [(4, tm1 17 (eSl 1 D.str))] [(0, [0, 2, 4, 5, 10, 11, 12, 17, 18, 19], [16])] (fun (y3 : (List (List UInt8)) × Int) => ⟨[(0, (aS a0)), (2, (.ptr 16 0)), (4, (aI s2)), (5, (aS (y1.1.getD s2.toNat default))), (10, (.d (eSl 1 D.str y1.1))), (11, (aI y1.2)), (12, (aI s2)), (17, (.d (eSl 1 D.str y3.1))), (18, (aI y3.2)), (19, (aI 0))], z30_0, [], 896⟩) (nd (0 ≤ s2) (nd (s2 < (y1.1.length : Int)) (c3 (@p51 (2 : Int)) fun x4 => (.nx (x4, (x4.length : Int)))))) (fun y3 => (.bk (.lp (fun (s4 : Int) => ⟨(z30_1 a0 s2 s4 y1 y3), z30_0, [], 1360⟩) (0 : Int) (wk [(16, 16)] []) fun s4 => (.sq 2 [] [(0, [0, 2, 4, 5, 10, 11, 12, 17, 18, 19], [16]), (4, [0, 2, 10, 11, 12], [16])] (fun (_ : Unit) => ⟨(z30_1 a0 s2 s4 y1 y3), z30_0, [], 1376⟩) (.ite (decide (s4 < y3.2)) (.nx ()) (.ret (.exit 2) _ (.inr (.inr (.inl ()))) ⟨rfl, rfl, rfl, Weak.refl _⟩)) (fun _ => (.sc (fun (_ : Unit) => ⟨(z30_1 a0 s2 s4 y1 y3), z30_0, [], 1792⟩) (.bk (.sq 2 [(7, tm1 24 (eSl 1 D.str))] [(0, [0, 2, 4, 5, 6, 7, 10, 11, 12, 17, 18, 19, 24, 25, 26], [16])] (fun (y5 : (List (List UInt8)) × Int) => ⟨[(0, (aS a0)), (2, (.ptr 16 0)), (4, (aI s2)), (5, (aS (y1.1.getD s2.toNat default))), (6, (aI s4)), (7, (aS (y3.1.getD s4.toNat default))), (10, (.d (eSl 1 D.str y1.1))), (11, (aI y1.2)), (12, (aI s2)), (17, (.d (eSl 1 D.str y3.1))), (18, (aI y3.2)), (19, (aI s4)), (24, (.d (eSl 1 D.str y5.1))), (25, (aI y5.2)), (26, (aI 0))], z30_0, [], 1504⟩) (nd (0 ≤ s4) (nd (s4 < (y3.1.length : Int)) (c3 (@p51 (3 : Int)) fun x7 => (.nx (x7, (x7.length : Int)))))) (fun y5 => (.bk (.lp (fun (s6 : Int) => ⟨[(0, (aS a0)), (2, (.ptr 16 0)), (4, (aI s2)), (5, (aS (y1.1.getD s2.toNat default))), (6, (aI s4)), (7, (aS (y3.1.getD s4.toNat default))), (10, (.d (eSl 1 D.str y1.1))), (11, (aI y1.2)), (12, (aI s2)), (17, (.d (eSl 1 D.str y3.1))), (18, (aI y3.2)), (19, (aI s4)), (24, (.d (eSl 1 D.str y5.1))), (25, (aI y5.2)), (26, (aI s6))], z30_0, [], 1776⟩) (0 : Int) (wk [(16, 16)] []) fun s6 => (.sg [] [(1, [2, 3], [16]), (0, [0, 2, 4, 5, 6, 7, 10, 11, 12, 17, 18, 19, 24, 25, 26], [16]), (6, [0, 2, 4, 5, 10, 11, 12, 17, 18, 19], [16])] (.ite (decide (s6 < y5.2)) (nd (0 ≤ s6) (nd (s6 < (y5.1.length : Int)) (nd ((y1.1.getD s2.toNat default).length + ([32] : List UInt8).length ≤ 9223372036854775807) (nd (((y1.1.getD s2.toNat default) ++ ([32] : List UInt8)).length + (y3.1.getD s4.toNat default).length ≤ 9223372036854775807) (nd ((((y1.1.getD s2.toNat default) ++ ([32] : List UInt8)) ++ (y3.1.getD s4.toNat default)).length + ([32] : List UInt8).length ≤ 9223372036854775807) (nd (((((y1.1.getD s2.toNat default) ++ ([32] : List UInt8)) ++ (y3.1.getD s4.toNat default)) ++ ([32] : List UInt8)).length + (y5.1.getD s6.toNat default).length ≤ 9223372036854775807) (.ite ((((((y1.1.getD s2.toNat default) ++ ([32] : List UInt8)) ++ (y3.1.getD s4.toNat default)) ++ ([32] : List UInt8)) ++ (y5.1.getD s6.toNat default)) == a0) (.ret .ret ⟨[(2, (.ptr 16 0)), (3, (aI 0))], [(16, (.cells [(.d (.int .u8 (IntKind.wrap .u8 ((IntKind.wrap .i64 (s2 + 1)))))), (.d (.int .u8 (IntKind.wrap .u8 ((IntKind.wrap .i64 (s4 + 1)))))), (.d (.int .u8 (IntKind.wrap .u8 ((IntKind.wrap .i64 (s6 + 1))))))]))], [], 2208⟩ (.inr (.inr (.inr (.inr (.inr (.inr (((⟨(IntKind.wrap .u8 ((IntKind.wrap .i64 (s2 + 1)))), (IntKind.wrap .u8 ((IntKind.wrap .i64 (s4 + 1)))), (IntKind.wrap .u8 ((IntKind.wrap .i64 (s6 + 1))))⟩ : T30), (0 : Int))))))))) ⟨rfl, rfl, rfl, rfl, rfl, rfl, rfl, _, Weak.refl _, ⟨dr, dr, trivial⟩⟩) (.ret .normal ⟨[(0, (aS a0)), (2, (.ptr 16 0)), (4, (aI s2)), (5, (aS (y1.1.getD s2.toNat default))), (6, (aI s4)), (7, (aS (y3.1.getD s4.toNat default))), (10, (.d (eSl 1 D.str y1.1))), (11, (aI y1.2)), (12, (aI s2)), (17, (.d (eSl 1 D.str y3.1))), (18, (aI y3.2)), (19, (aI s4)), (24, (.d (eSl 1 D.str y5.1))), (25, (aI y5.2)), (26, (aI (IntKind.wrap .i64 (s6 + 1))))], z30_0, [], 2048⟩ (.inl (IntKind.wrap .i64 (s6 + 1))) ⟨rfl, (wk [(16, 16)] [])⟩)))))))) (.ret (.exit 4) _ (.inr (.inl ())) ⟨rfl, rfl, Weak.refl _⟩)))))))) fun _ => (.sg [] [(0, [0, 2, 4, 5, 10, 11, 12, 17, 18, 19], [16])] (.ret .normal ⟨[(0, (aS a0)), (2, (.ptr 16 0)), (4, (aI s2)), (5, (aS (y1.1.getD s2.toNat default))), (10, (.d (eSl 1 D.str y1.1))), (11, (aI y1.2)), (12, (aI s2)), (17, (.d (eSl 1 D.str y3.1))), (18, (aI y3.2)), (19, (aI (IntKind.wrap .i64 (s4 + 1))))], z30_0, [], 1824⟩ (.inl (IntKind.wrap .i64 (s4 + 1))) ⟨rfl, (wk [(16, 16)] [])⟩)))))))))) fun _ => (.sg [] [(0, [0, 2, 10, 11, 12], [16])] (.ret .normal ⟨[(0, (aS a0)), (2, (.ptr 16 0)), (10, (.d (eSl 1 D.str y1.1))), (11, (aI y1.2)), (12, (aI (IntKind.wrap .i64 (s2 + 1))))], z30_0, [], 1408⟩ (.inl (IntKind.wrap .i64 (s2 + 1))) ⟨rfl, (wk [(16, 16)] [])⟩))))))))) fun _ => (.sg [] [(1, [2, 3], [16])] (.ret .ret ⟨[(2, (.ptr 16 0)), (3, (aI 4))], z30_0, [], 816⟩ ((⟨(0 : Int), (0 : Int), (0 : Int)⟩ : T30), (4 : Int)) ⟨rfl, _, Weak.refl _, ⟨dr, dr, trivial⟩⟩)))))
noncomputable def m30 (a0 : List UInt8) : Option (T30 × Int) := (d30 a0).m
theorem p30 {a0 : List UInt8} {r : T30 × Int} (h : m30 a0 = some r) : PureAt Tryz.prog 30 [(.str a0)] (.tup [(e30 r.1), (dI r.2)]) := pure_jd (d30 a0) Tryz.func30 h
noncomputable def d6 (a0 : T23) (a1 : Int) (a2 : List UInt8) : JF Tryz.prog Tryz.f6 [(e23 a0), (dI a1), (.str a2)] (fun (r : Bool) => (.bool r)) :=
 (.sg [(1, tm1 13 D.bool), (4, ⟨Bool × T30 × Bool × (List UInt8) × T30 × (List UInt8) × (List UInt8) × (List UInt8) × T23 × T30 × T23, fun x => [(21, (.bool x.1)), (23, (e30 x.2.1)), (24, (.bool x.2.2.1)), (28, (.str x.2.2.2.1)), (30, (e30 x.2.2.2.2.1)), (31, (.str x.2.2.2.2.2.1)), (38, (.str x.2.2.2.2.2.2.1)), (42, (.str x.2.2.2.2.2.2.2.1)), (46, (e23 x.2.2.2.2.2.2.2.2.1)), (47, (e30 x.2.2.2.2.2.2.2.2.2.1)), (48, (e23 x.2.2.2.2.2.2.2.2.2.2))], fun x => [], []⟩), (6, tm1 52 D.bool), (7, ⟨(List UInt8) × (T23 × Int), fun x => [(55, (.str x.1)), (56, (.tup [(e23 x.2.1), (dI x.2.2)]))], fun x => [], []⟩), (10, tm1 68 (fun (x : (T23 × Int)) => (.tup [(e23 x.1), (dI x.2)]))), (11, tm1 73 (fun (x : (T30 × Int)) => (.tup [(e30 x.1), (dI x.2)]))), (12, tm1 78 e23)] [(1, [6], [])] (c3 (@p10) fun x1 => (.ite (!x1) (.ret .ret ⟨[(6, (aB false))], [], [], 96⟩ false ⟨rfl, _, Weak.refl _, dr⟩) (nd (0 ≤ (if 60 < (a2.length : Int) then (60 : Int) else (a2.length : Int))) (nd ((if 60 < (a2.length : Int) then (60 : Int) else (a2.length : Int)) ≤ (a2.length : Int)) (.exi (Bool × T30 × Bool × (List UInt8) × T30 × (List UInt8) × (List UInt8) × (List UInt8) × T23 × T30 × T23) ((m22 a0).bind fun r4_0 => ((m13 a0).bind fun r4_1 => ((m24 r4_1).bind fun r4_2 => ((if (!(r4_0 != r4_2)) = true then m25 a0 else some default).bind fun r4_3 => ((if (!(r4_0 != r4_2)) = true then m13 a0 else some default).bind fun r4_4 => ((if (!(r4_0 != r4_2)) = true then m26 r4_4 else some default).bind fun r4_5 => ((if (!((r4_0 != r4_2) || (r4_3 != r4_5))) = true then m21 a1 a0.Lateral else some default).bind fun r4_6 => ((if (!((r4_0 != r4_2) || (r4_3 != r4_5))) = true then m27 a1 a0.Lateral else some default).bind fun r4_7 => ((if (!(((r4_0 != r4_2) || (r4_3 != r4_5)) || (r4_6 != r4_7))) = true then m17  else some default).bind fun r4_8 => ((if (!(((r4_0 != r4_2) || (r4_3 != r4_5)) || (r4_6 != r4_7))) = true then m28  else some default).bind fun r4_9 => ((if (!(((r4_0 != r4_2) || (r4_3 != r4_5)) || (r4_6 != r4_7))) = true then m14 r4_9 else some default).bind fun r4_10 => some (r4_0, r4_1, r4_2, r4_3, r4_4, r4_5, r4_6, r4_7, r4_8, r4_9, r4_10)))))))))))) (fun x4 => (.p (PureAt Tryz.prog 22 [(.agg [(.int .u8 a0.Lateral), (.int .u8 a0.Vertical), (.int .u8 a0.Phase)])] (.bool x4.1)) (.p (PureAt Tryz.prog 13 [(.agg [(.int .u8 a0.Lateral), (.int .u8 a0.Vertical), (.int .u8 a0.Phase)])] (e30 x4.2.1)) (.p (PureAt Tryz.prog 24 [(.agg [(.int .u8 x4.2.1.Lateral), (.int .u8 x4.2.1.Vertical), (.int .u8 x4.2.1.Phase)])] (.bool x4.2.2.1)) (.g (!(x4.1 != x4.2.2.1)) (PureAt Tryz.prog 25 [(.agg [(.int .u8 a0.Lateral), (.int .u8 a0.Vertical), (.int .u8 a0.Phase)])] (.str x4.2.2.2.1)) (.g (!(x4.1 != x4.2.2.1)) (PureAt Tryz.prog 13 [(.agg [(.int .u8 a0.Lateral), (.int .u8 a0.Vertical), (.int .u8 a0.Phase)])] (e30 x4.2.2.2.2.1)) (.g (!(x4.1 != x4.2.2.1)) (PureAt Tryz.prog 26 [(.agg [(.int .u8 x4.2.2.2.2.1.Lateral), (.int .u8 x4.2.2.2.2.1.Vertical), (.int .u8 x4.2.2.2.2.1.Phase)])] (.str x4.2.2.2.2.2.1)) (.g (!((x4.1 != x4.2.2.1) || (x4.2.2.2.1 != x4.2.2.2.2.2.1))) (PureAt Tryz.prog 21 [(dI a1), (.int .u8 a0.Lateral)] (.str x4.2.2.2.2.2.2.1)) (.g (!((x4.1 != x4.2.2.1) || (x4.2.2.2.1 != x4.2.2.2.2.2.1))) (PureAt Tryz.prog 27 [(dI a1), (.int .u8 a0.Lateral)] (.str x4.2.2.2.2.2.2.2.1)) (.g (!(((x4.1 != x4.2.2.1) || (x4.2.2.2.1 != x4.2.2.2.2.2.1)) || (x4.2.2.2.2.2.2.1 != x4.2.2.2.2.2.2.2.1))) (PureAt Tryz.prog 17 [] (e23 x4.2.2.2.2.2.2.2.2.1)) (.g (!(((x4.1 != x4.2.2.1) || (x4.2.2.2.1 != x4.2.2.2.2.2.1)) || (x4.2.2.2.2.2.2.1 != x4.2.2.2.2.2.2.2.1))) (PureAt Tryz.prog 28 [] (e30 x4.2.2.2.2.2.2.2.2.2.1)) (.g (!(((x4.1 != x4.2.2.1) || (x4.2.2.2.1 != x4.2.2.2.2.2.1)) || (x4.2.2.2.2.2.2.1 != x4.2.2.2.2.2.2.2.1))) (PureAt Tryz.prog 14 [(.agg [(.int .u8 x4.2.2.2.2.2.2.2.2.2.1.Lateral), (.int .u8 x4.2.2.2.2.2.2.2.2.2.1.Vertical), (.int .u8 x4.2.2.2.2.2.2.2.2.2.1.Phase)])] (e23 x4.2.2.2.2.2.2.2.2.2.2)) (.fin 0))))))))))))) (by intro x4 h; obtain ⟨r4_0, h1, h⟩ := Option.bind_eq_some_iff.1 h; obtain ⟨r4_1, h2, h⟩ := Option.bind_eq_some_iff.1 h; obtain ⟨r4_2, h3, h⟩ := Option.bind_eq_some_iff.1 h; obtain ⟨r4_3, h4, h⟩ := Option.bind_eq_some_iff.1 h; obtain ⟨r4_4, h5, h⟩ := Option.bind_eq_some_iff.1 h; obtain ⟨r4_5, h6, h⟩ := Option.bind_eq_some_iff.1 h; obtain ⟨r4_6, h7, h⟩ := Option.bind_eq_some_iff.1 h; obtain ⟨r4_7, h8, h⟩ := Option.bind_eq_some_iff.1 h; obtain ⟨r4_8, h9, h⟩ := Option.bind_eq_some_iff.1 h; obtain ⟨r4_9, h10, h⟩ := Option.bind_eq_some_iff.1 h; obtain ⟨r4_10, h11, h⟩ := Option.bind_eq_some_iff.1 h; cases h; exact ⟨p22 h1, p13 h2, p24 h3, fun g => p25 (by rw [if_pos g] at h4; exact h4), fun g => p13 (by rw [if_pos g] at h5; exact h5), fun g => p26 (by rw [if_pos g] at h6; exact h6), fun g => p21 (by rw [if_pos g] at h7; exact h7), fun g => p27 (by rw [if_pos g] at h8; exact h8), fun g => p17 (by rw [if_pos g] at h9; exact h9), fun g => p28 (by rw [if_pos g] at h10; exact h10), fun g => p14 (by rw [if_pos g] at h11; exact h11), trivial⟩) (fun x4 _ => (.ite ((((x4.1 != x4.2.2.1) || (x4.2.2.2.1 != x4.2.2.2.2.2.1)) || (x4.2.2.2.2.2.2.1 != x4.2.2.2.2.2.2.2.1)) || (!((x4.2.2.2.2.2.2.2.2.1.Lateral == x4.2.2.2.2.2.2.2.2.2.2.Lateral) && ((x4.2.2.2.2.2.2.2.2.1.Vertical == x4.2.2.2.2.2.2.2.2.2.2.Vertical) && ((x4.2.2.2.2.2.2.2.2.1.Phase == x4.2.2.2.2.2.2.2.2.2.2.Phase) && true))))) (.ret .ret ⟨[(6, (aB false))], [], [], 688⟩ false ⟨rfl, _, Weak.refl _, dr⟩) (c3 (@p22 a0) fun x6 => (.ite x6 (.exi ((List UInt8) × (T23 × Int)) ((m25 a0).bind fun r7_0 => ((m29 r7_0).bind fun r7_1 => some (r7_0, r7_1))) (fun x7 => (.p (PureAt Tryz.prog 25 [(.agg [(.int .u8 a0.Lateral), (.int .u8 a0.Vertical), (.int .u8 a0.Phase)])] (.str x7.1)) (.p (PureAt Tryz.prog 29 [(.str x7.1)] (.tup [(e23 x7.2.1), (dI x7.2.2)])) (.fin 0)))) (by intro x7 h; obtain ⟨r7_0, h1, h⟩ := Option.bind_eq_some_iff.1 h; obtain ⟨r7_1, h2, h⟩ := Option.bind_eq_some_iff.1 h; cases h; exact ⟨p25 h1, p29 h2, trivial⟩) (fun x7 _ => (.ite ((!((x7.2.1.Lateral == a0.Lateral) && ((x7.2.1.Vertical == a0.Vertical) && ((x7.2.1.Phase == a0.Phase) && true)))) || (x7.2.2 != 0)) (.ret .ret ⟨[(6, (aB false))], [], [], 976⟩ false ⟨rfl, _, Weak.refl _, dr⟩) (c3 (@p29 (a2.take (if 60 < (a2.length : Int) then (60 : Int) else (a2.length : Int)).toNat)) fun x10 => (c3 (@p30 (a2.take (if 60 < (a2.length : Int) then (60 : Int) else (a2.length : Int)).toNat)) fun x11 => (c3 (@p14 x11.1) fun x12 => (.ret .ret ⟨[(6, (aB (((x10.1.Lateral == x12.Lateral) && ((x10.1.Vertical == x12.Vertical) && ((x10.1.Phase == x12.Phase) && true))) && (x10.2 == x11.2))))], [], [], 1376⟩ (((x10.1.Lateral == x12.Lateral) && ((x10.1.Vertical == x12.Vertical) && ((x10.1.Phase == x12.Phase) && true))) && (x10.2 == x11.2)) ⟨rfl, _, Weak.refl _, dr⟩))))))) (c3 (@p29 (a2.take (if 60 < (a2.length : Int) then (60 : Int) else (a2.length : Int)).toNat)) fun x10 => (c3 (@p30 (a2.take (if 60 < (a2.length : Int) then (60 : Int) else (a2.length : Int)).toNat)) fun x11 => (c3 (@p14 x11.1) fun x12 => (.ret .ret ⟨[(6, (aB (((x10.1.Lateral == x12.Lateral) && ((x10.1.Vertical == x12.Vertical) && ((x10.1.Phase == x12.Phase) && true))) && (x10.2 == x11.2))))], [], [], 1120⟩ (((x10.1.Lateral == x12.Lateral) && ((x10.1.Vertical == x12.Vertical) && ((x10.1.Phase == x12.Phase) && true))) && (x10.2 == x11.2)) ⟨rfl, _, Weak.refl _, dr⟩))))))))))))))
noncomputable def m6 (a0 : T23) (a1 : Int) (a2 : List UInt8) : Option (Bool) := (d6 a0 a1 a2).m
theorem p6 {a0 : T23} {a1 : Int} {a2 : List UInt8} {r : Bool} (h : m6 a0 a1 a2 = some r) : PureAt Tryz.prog 6 [(e23 a0), (dI a1), (.str a2)] (.bool r) := pure_jd (d6 a0 a1 a2) Tryz.func6 h
def firstR {Y : Type} (f : Nat → Option Y) (n : Nat) : Option Y := (List.range n).findSome? f
theorem firstR_succ {Y : Type} {f : Nat → Option Y} {n : Nat} : firstR f (n + 1) = match firstR f n with | some y => some y | none => f n := by
 unfold firstR
 rw [List.range_succ, List.findSome?_append]
 cases (List.range n).findSome? f with
 | some y => rfl
 | none => simp
theorem firstR_none {Y : Type} {f : Nat → Option Y} {n : Nat} : firstR f n = none ↔ ∀ i, i < n → f i = none := by
 unfold firstR
 rw [List.findSome?_eq_none_iff]
 exact ⟨fun h i hi => h i (List.mem_range.2 hi), fun h i hi => h i (List.mem_range.1 hi)⟩
theorem firstR_some {Y : Type} {f : Nat → Option Y} {n : Nat} {y : Y} (h : firstR f n = some y) : ∃ i, i < n ∧ f i = some y := by
 unfold firstR at h
 obtain ⟨i, hi, h⟩ := List.exists_of_findSome?_eq_some h
 exact ⟨i, List.mem_range.1 hi, h⟩
theorem firstR_at {Y : Type} {f : Nat → Option Y} {n i : Nat} {y : Y} (hi : i < n) (h0 : ∀ j, j < i → f j = none) (h : f i = some y) : firstR f n = some y := by
 induction n with
 | zero => omega
 | succ n ih =>
  rw [firstR_succ]
  by_cases hn : i < n
  ·rw [ih hn]
  ·obtain rfl : i = n := by omega
   rw [firstR_none.2 h0, h]
def anyR (F : Nat → Bool) (n : Nat) : Bool := (List.range n).any F
theorem anyR_iff {F : Nat → Bool} {n : Nat} : anyR F n = true ↔ ∃ i, i < n ∧ F i = true := by
 simp only [anyR, List.any_eq_true, List.mem_range]
theorem anyR_false {F : Nat → Bool} {n : Nat} : anyR F n = false ↔ ∀ i, i < n → F i = false := by
 rw [← Bool.not_eq_true, anyR_iff]
 exact ⟨fun h i hi => by cases hf : F i with | false => rfl | true => exact absurd ⟨i, hi, hf⟩ h, fun h ⟨i, hi, hf⟩ => by rw [h i hi] at hf; cases hf⟩
theorem anyR_congr {F G : Nat → Bool} {n : Nat} (h : ∀ i, i < n → F i = G i) : anyR F n = anyR G n := by
 rw [Bool.eq_iff_iff, anyR_iff, anyR_iff]
 exact ⟨fun ⟨i, hi, hf⟩ => ⟨i, hi, by rw [← h i hi]; exact hf⟩, fun ⟨i, hi, hf⟩ => ⟨i, hi, by rw [h i hi]; exact hf⟩⟩
theorem firstR_any {Y : Type} {F : Nat → Bool} {g : Nat → Y} {n : Nat} : (firstR (fun i => if F i = true then some (g i) else none) n).isSome = anyR F n := by
 rw [Bool.eq_iff_iff, anyR_iff, Option.isSome_iff_ne_none, ne_eq, firstR_none]
 constructor
 ·intro h
  apply Classical.byContradiction
  intro hn
  exact h fun i hi => by
   rw [if_neg]
   exact fun hf => hn ⟨i, hi, hf⟩
 ·rintro ⟨i, hi, hf⟩ h
  have := h i hi
  rw [if_pos hf] at this; cases this
theorem firstR_const {Y : Type} {F : Nat → Bool} {y : Y} {n : Nat} : firstR (fun i => if F i = true then some y else none) n = if anyR F n = true then some y else none := by
 rw [← firstR_any (g := fun _ => y)]
 cases h : firstR (fun i => if F i = true then some y else none) n with
 | none => rfl
 | some z =>
  obtain ⟨i, _, h⟩ := firstR_some h
  split at h
  ·injection h with h; subst h; rfl
  ·cases h
def findR (F : Nat → Bool) (n : Nat) : Int := (firstR (fun i => if F i = true then some (i : Int) else none) n).getD (-1)
theorem findR_any {F : Nat → Bool} {n : Nat} : decide (0 ≤ findR F n) = anyR F n := by
 rw [← firstR_any (g := fun i => (i : Int))]
 unfold findR
 cases h : firstR (fun i => if F i = true then some (i : Int) else none) n with
 | none => rfl
 | some y =>
  obtain ⟨i, _, h⟩ := firstR_some h
  split at h
  ·injection h with h; subst h; simp
  ·cases h
def orK {R : Type} (o k : Option R) : Option R := match o with
 | some y => some y
 | none => k
theorem orK_some {R : Type} {y : R} {k : Option R} : orK (some y) k = some y := rfl
theorem orK_none {R : Type} {k : Option R} : orK none k = k := rfl
theorem orK_getD {R : Type} {a : Option R} {d : R} : orK a (some d) = some (a.getD d) := by cases a <;> rfl
theorem orK_total {R : Type} {o k : Option R} (h : ∃ y, k = some y) : ∃ y, orK o k = some y := by
 cases o with
 | some y => exact ⟨y, rfl⟩
 | none => exact h
theorem ite_total {R : Type} {p : Prop} [Decidable p] {y : R} {k : Option R} (h : ∃ y, k = some y) : ∃ z, (if p then some y else k) = some z := by
 split
 ·exact ⟨y, rfl⟩
 ·exact h
def exB {S R : Type} (o : Option R) (s : S) : Option (S ⊕ (Unit ⊕ R)) := match o with
 | some y => some (.inr (.inr y))
 | none => some (.inl s)
theorem exB_some {S R : Type} {y : R} {s : S} : exB (some y) s = some (.inr (.inr y)) := rfl
theorem exB_none {S R : Type} {s : S} : exB (none : Option R) s = some (.inl s) := rfl
theorem exB_ite {S R : Type} {p : Prop} [Decidable p] {a b : Option R} {s : S} : exB (if p then a else b) s = if p then exB a s else exB b s := by split <;> rfl
theorem some_ite {α : Type} {p : Prop} [Decidable p] {a b : α} : some (if p then a else b) = if p then some a else some b := by split <;> rfl
theorem loop_ex_from {R : Type} {b : Int → Option (Int ⊕ (Unit ⊕ R))} (n : Nat) (f : Nat → Option R) (hb : ∀ i : Nat, i < n → b i = exB (f i) ((i : Int) + 1)) (hd : b n = some (.inr (.inl ()))) :
  ∀ (k i0 : Nat), i0 + k = n → (∀ i, i < i0 → f i = none) → loopO b i0 = match firstR f n with | some y => some (.inr y) | none => some (.inl ())
 | 0, i0, hk, h0 => by
  obtain rfl : i0 = n := by omega
  rw [loopO_eq, hd, firstR_none.2 h0]; rfl
 | k + 1, i0, hk, h0 => by
  rw [loopO_eq, hb i0 (by omega)]
  cases hf : f i0 with
  | some y => rw [firstR_at (by omega) h0 hf]; rfl
  | none =>
   have := loop_ex_from n f hb hd k (i0 + 1) (by omega) (fun i hi => by
    by_cases h : i < i0
    ·exact h0 i h
    ·obtain rfl : i = i0 := by omega
     exact hf)
   rw [exB_none]
   simpa using this
theorem loop_ex {R : Type} {b : Int → Option (Int ⊕ (Unit ⊕ R))} {k : Unit → Option R} (n : Nat) (f : Nat → Option R) (hb : ∀ i : Nat, i < n → b i = exB (f i) ((i : Int) + 1)) (hd : b n = some (.inr (.inl ()))) :
  (loopO b 0).bind (onS k) = orK (firstR f n) (k ()) := by
 have := loop_ex_from n f hb hd n 0 (by omega) (fun i hi => by omega)
 rw [show ((0 : Nat) : Int) = 0 from rfl] at this
 rw [this]
 cases firstR f n <;> rfl
theorem loop_ex0 {R : Type} {b : Int → Option (Int ⊕ (Unit ⊕ R))} (n : Nat) (f : Nat → Option R) (hb : ∀ i : Nat, i < n → b i = exB (f i) ((i : Int) + 1)) (hd : b n = some (.inr (.inl ()))) :
  loopO b 0 = match firstR f n with | some y => some (.inr y) | none => some (.inl ()) := loop_ex_from n f hb hd n 0 (by omega) (fun i hi => by omega)
theorem loop_or {R : Type} {b : Int → Option (Int ⊕ (Unit ⊕ R))} {k : Unit → Option R} (n : Nat) (f : Nat → Option R) (hb : ∀ i : Nat, i < n → b i = exB (f i) ((i : Int) + 1)) (hd : b n = some (.inr (.inl ()))) {z : Option R} (hk : k () = z) :
  (loopO b 0).bind (onS k) = orK (firstR f n) z := by rw [loop_ex n f hb hd, hk]
theorem ite_else {α : Type} {p : Prop} [Decidable p] {a b b' : α} (h : b = b') : (if p then a else b) = if p then a else b' := by rw [h]
theorem on_l {Y R : Type} {m : Option (Y ⊕ R)} {y : Y} {f : Y → Option R} {z : Option R} (h : m = some (.inl y)) (hf : f y = z) : m.bind (onS f) = z := by rw [h]; exact hf
theorem flatMap_app {A : Type} (g : Nat → List A) (n : Nat) : (List.range (n + 1)).flatMap g = (List.range n).flatMap g ++ g n := by rw [List.range_succ, List.flatMap_append]; simp
theorem loop_coll {A St X : Type} {b : St → Option (St ⊕ X)} (n : Nat) (mk : Nat → List A → St) (g : Nat → List A) (out : List A → X)
  (hs : ∀ i, i < n → b (mk i ((List.range i).flatMap g)) = some (.inl (mk (i + 1) ((List.range i).flatMap g ++ g i)))) (he : b (mk n ((List.range n).flatMap g)) = some (.inr (out ((List.range n).flatMap g)))) :
  loopO b (mk 0 []) = some (out ((List.range n).flatMap g)) := by
 have key : ∀ k i, i + k = n → loopO b (mk i ((List.range i).flatMap g)) = some (out ((List.range n).flatMap g)) := by
  intro k
  induction k with
  | zero =>
   intro i hk
   obtain rfl : i = n := by omega
   rw [loopO_eq, he]; rfl
  | succ k ih =>
   intro i hk
   rw [loopO_eq, hs i (by omega), ← flatMap_app]
   exact ih (i + 1) (by omega)
 exact key n 0 (by omega)
theorem flatMap_len {A : Type} {g : Nat → List A} {m : Nat} (h : ∀ i, (g i).length ≤ m) : ∀ n, ((List.range n).flatMap g).length ≤ n * m
 | 0 => by simp
 | n + 1 => by
  have := flatMap_len h n
  have := h n
  rw [flatMap_app, List.length_append, Nat.succ_mul]; omega
theorem wr1 {i n : Nat} (h : i < n) (hn : n ≤ 4611686018427387904) : IntKind.wrap .i64 ((i : Int) + 1) = (i : Int) + 1 := w64 (by omega) (by omega)
theorem lt_irr {n : Nat} : ¬ ((n : Int) < (n : Int)) := Int.lt_irrefl _
theorem subL_getD {α : Type} [Inhabited α] {l : List α} {k j : Nat} (h : j < k) : (subL l 0 k).getD j default = l.getD j default := by
 simp [subL, List.getD_eq_getElem?_getD, List.getElem?_range h]
theorem inL {i : Nat} {n : Nat} (h : i < n) : ((0 : Int) ≤ (i : Int)) = True ∧ ((i : Int) < (n : Int)) = True ∧ (decide ((i : Int) < (n : Int)) = true) = True := by
 refine ⟨eq_true (by omega), eq_true (by omega), eq_true (by simpa using h)⟩
end Go.Av
set_option maxRecDepth 100000
namespace Go.Av.Ch
def odd1 (c : Int) : Bool := (decide (c < 65) || decide (90 < c)) && (decide (c < 48) || decide (57 < c))
def nm0 (s : List UInt8) : Bool := decide (s.length = 0) || decide (8 < s.length) || decide (byteAt s 0 < 65) || decide (90 < byteAt s 0)
def nm (s : List UInt8) : Bool := !nm0 s && !anyR (fun i => odd1 (byteAt s i)) s.length
theorem nm_loop {s : List UInt8} (hl : s.length ≤ 8) {b : Int → Option (Int ⊕ (Unit ⊕ Bool))} (hb : ∀ i : Nat, i < s.length → b i = exB (if odd1 (byteAt s i) = true then some false else none) ((i : Int) + 1)) (hd : b s.length = some (.inr (.inl ()))) :
  (loopO b 0).bind (onS fun _ => some true) = some (!anyR (fun i => odd1 (byteAt s i)) s.length) := by
 rw [loop_ex s.length _ hb hd, firstR_const]
 cases anyR (fun i => odd1 (byteAt s i)) s.length <;> rfl
theorem nm_rname (s : List UInt8) : m137 s 8 = some (nm s) := by
 have e0 : (((s.length : Int) == (0 : Int)) || (decide ((8 : Int) < (s.length : Int)))) = (decide (s.length = 0) || decide (8 < s.length)) := by
  rw [Bool.eq_iff_iff]; simp only [Bool.or_eq_true, decide_eq_true_eq, beq_iff_eq]; omega
 delta m137 d137
 simp only [↓JD.sg_m, ↓JD.sq_m, ↓JD.sc_m, ↓JD.bk_m, ↓JD.lp_m, ↓JD.cd_m, ↓JD.lu_m, ↓JD.ct_m, ↓JD.ce_m, ↓JL.r_m, ↓JL.z_m, ↓JD.se_m, onE_r, ↓Tr.run, ↓Tr.run_nd, ↓Tr.run_c3, ↓Tr.run_c2, ↓Tr.run_nx, ↓onS, bind_ite, Option.bind_some, Option.bind_none, obR, e0, Int.toNat_zero, Int.le_refl, implies_true, if_true]
 cases h1 : (decide (s.length = 0) || decide (8 < s.length)) with
 | true => simp only [Bool.true_or, Bool.not_true, Bool.false_eq_true, false_implies, if_true, nm, nm0, h1, Bool.false_and]
 | false =>
  have hl : s.length ≤ 8 ∧ 0 < s.length := by simp only [Bool.or_eq_false_iff, decide_eq_false_iff_not] at h1; omega
  have z2 : (0 : Int) < s.length := by omega
  simp only [Bool.false_or, z2, implies_true, if_true, nm, nm0, h1]
  cases h2 : (decide (byteAt s 0 < 65) || decide (90 < byteAt s 0)) with
  | true => rfl
  | false =>
   simp only [Bool.false_eq_true, if_false, Bool.not_false, Bool.true_and]
   refine nm_loop hl.1 (fun i hi => ?_) ?_
   ·(simp only [exB_ite, exB_some, exB_none]; simp only [inL hi, decide_true, Int.toNat_natCast, if_true, implies_true, wr1 hi (by omega)]; try rfl)
   ·(simp only [lt_irr, decide_false, Bool.false_eq_true, if_false]; try rfl)
theorem nm_name (s : List UInt8) : m85 s = some (nm s) := by
 delta m85 d85
 simp only [↓JD.sg_m, ↓JD.sq_m, ↓JD.sc_m, ↓JD.bk_m, ↓JD.lp_m, ↓JD.cd_m, ↓JD.lu_m, ↓JD.ct_m, ↓JD.ce_m, ↓JL.r_m, ↓JL.z_m, ↓JD.se_m, onE_r, ↓Tr.run, ↓Tr.run_nd, ↓Tr.run_c3, ↓Tr.run_c2, ↓Tr.run_nx, ↓onS, bind_ite, Option.bind_some, Option.bind_none, obR, nm_rname]
def hasK {α : Type} [BEq α] [Inhabited α] (l : List α) (k : Nat) (x : α) : Bool := anyR (fun i => x == l.getD i default) k
theorem hasK_sub {α : Type} [BEq α] [Inhabited α] {l : List α} {k : Nat} {x : α} : hasK (subL l 0 k) k x = hasK l k x := anyR_congr fun i hi => by rw [subL_getD hi]
theorem idx_loop {n : Nat} {F : Nat → Bool} {b : Int → Option (Int ⊕ (Unit ⊕ Int))} (hb : ∀ i : Nat, i < n → b i = exB (if F i = true then some (i : Int) else none) ((i : Int) + 1)) (hd : b n = some (.inr (.inl ()))) :
  (loopO b 0).bind (onS fun _ => some (-1)) = some (findR F n) := by
 rw [loop_ex n _ hb hd, orK_getD]; rfl
theorem containsS_eq (l : List (List UInt8)) (x : List UInt8) (hl : l.length ≤ 100000) : m118 l x = some (hasK l l.length x) := by
 have e : m50 l x = some (findR (fun i => x == l.getD i default) l.length) := by
  delta m50 d50
  simp only [↓JD.sg_m, ↓JD.sq_m, ↓JD.sc_m, ↓JD.bk_m, ↓JD.lp_m, ↓JD.cd_m, ↓JD.lu_m, ↓JD.ct_m, ↓JD.ce_m, ↓JL.r_m, ↓JL.z_m, ↓JD.se_m, onE_r, ↓Tr.run, ↓Tr.run_nd, ↓Tr.run_c3, ↓Tr.run_c2, ↓Tr.run_nx, ↓onS, bind_ite, Option.bind_some, Option.bind_none, obR]
  refine idx_loop (fun i hi => ?_) ?_
  ·(simp only [exB_ite, exB_some, exB_none]; simp only [inL hi, decide_true, Int.toNat_natCast, if_true, implies_true, wr1 hi (by omega)]; try rfl)
  ·(simp only [lt_irr, decide_false, Bool.false_eq_true, if_false]; try rfl)
 delta m118 d118
 simp only [↓JD.sg_m, ↓JD.sq_m, ↓JD.sc_m, ↓JD.bk_m, ↓JD.lp_m, ↓JD.cd_m, ↓JD.lu_m, ↓JD.ct_m, ↓JD.ce_m, ↓JL.r_m, ↓JL.z_m, ↓JD.se_m, onE_r, ↓Tr.run, ↓Tr.run_nd, ↓Tr.run_c3, ↓Tr.run_c2, ↓Tr.run_nx, ↓onS, bind_ite, Option.bind_some, Option.bind_none, obR, e, findR_any, hasK]
theorem indexI_eq (l : List Int) (x : Int) (hl : l.length ≤ 100000) : m130 l x = some (findR (fun i => x == l.getD i default) l.length) := by
 delta m130 d130
 simp only [↓JD.sg_m, ↓JD.sq_m, ↓JD.sc_m, ↓JD.bk_m, ↓JD.lp_m, ↓JD.cd_m, ↓JD.lu_m, ↓JD.ct_m, ↓JD.ce_m, ↓JL.r_m, ↓JL.z_m, ↓JD.se_m, onE_r, ↓Tr.run, ↓Tr.run_nd, ↓Tr.run_c3, ↓Tr.run_c2, ↓Tr.run_nx, ↓onS, bind_ite, Option.bind_some, Option.bind_none, obR]
 refine idx_loop (fun i hi => ?_) ?_
 ·(simp only [exB_ite, exB_some, exB_none]; simp only [inL hi, decide_true, Int.toNat_natCast, if_true, implies_true, wr1 hi (by omega)]; try rfl)
 ·(simp only [lt_irr, decide_false, Bool.false_eq_true, if_false]; try rfl)
theorem containsI_eq (l : List Int) (x : Int) (hl : l.length ≤ 100000) : m96 l x = some (hasK l l.length x) := by
 delta m96 d96
 simp only [↓JD.sg_m, ↓JD.sq_m, ↓JD.sc_m, ↓JD.bk_m, ↓JD.lp_m, ↓JD.cd_m, ↓JD.lu_m, ↓JD.ct_m, ↓JD.ce_m, ↓JL.r_m, ↓JL.z_m, ↓JD.se_m, onE_r, ↓Tr.run, ↓Tr.run_nd, ↓Tr.run_c3, ↓Tr.run_c2, ↓Tr.run_nx, ↓onS, bind_ite, Option.bind_some, Option.bind_none, obR, indexI_eq l x hl, findR_any, hasK]
def listedS (l : List (List UInt8)) (i : Nat) : Int := if (!nm (l.getD i default)) = true then 5 else if hasK l i (l.getD i default) = true then 7 else 0
theorem listed_eq (l : List (List UInt8)) (i : Nat) (hi : i < l.length) (hl : l.length ≤ 100000) : m86 l i = some (listedS l i) := by
 have e := containsS_eq (subL l 0 i) (l.getD i default) (by rw [subL_len]; omega)
 rw [subL_len, hasK_sub] at e
 delta m86 d86
 simp only [↓JD.sg_m, ↓JD.sq_m, ↓JD.sc_m, ↓JD.bk_m, ↓JD.lp_m, ↓JD.cd_m, ↓JD.lu_m, ↓JD.ct_m, ↓JD.ce_m, ↓JL.r_m, ↓JL.z_m, ↓JD.se_m, onE_r, ↓Tr.run, ↓Tr.run_nd, ↓Tr.run_c3, ↓Tr.run_c2, ↓Tr.run_nx, ↓onS, bind_ite, Option.bind_some, Option.bind_none, obR, inL hi, Int.toNat_natCast, if_true, nm_name, e, listedS, some_ite, show (i : Int) ≤ l.length by omega]
def litF (c : T48) (l : List T176) (i : Nat) : Option Int :=
 if (decide ((l.getD i default).Cond < 0) || decide ((c.Conds.length : Int) ≤ (l.getD i default).Cond)) = true then some 2
 else if (decide ((0 : Int) < (i : Int)) && decide ((l.getD i default).Cond ≤ (l.getD ((i : Int) - 1).toNat default).Cond)) = true then some 9 else none
def litS (c : T48) (l : List T176) : Int := (firstR (litF c l) l.length).getD 0
theorem literals_eq (c : T48) (l : List T176) (hl : l.length ≤ 100000) : m87 c l = some (litS c l) := by
 delta m87 d87
 simp only [↓JD.sg_m, ↓JD.sq_m, ↓JD.sc_m, ↓JD.bk_m, ↓JD.lp_m, ↓JD.cd_m, ↓JD.lu_m, ↓JD.ct_m, ↓JD.ce_m, ↓JL.r_m, ↓JL.z_m, ↓JD.se_m, onE_r, ↓Tr.run, ↓Tr.run_nd, ↓Tr.run_c3, ↓Tr.run_c2, ↓Tr.run_nx, ↓onS, bind_ite, Option.bind_some, Option.bind_none, obR]
 rw [loop_ex l.length (litF c l) ?_ ?_, orK_getD]; rfl
 ·intro i hi
  have w1 : IntKind.wrap .i64 ((i : Int) - 1) = (i : Int) - 1 := w64 (by omega) (by omega)
  have h3 := eq_true (show decide ((0 : Int) < i) = true → (0 : Int) ≤ (i : Int) - 1 from fun h => by simp only [decide_eq_true_eq] at h; omega)
  have h4 := eq_true (show decide ((0 : Int) < i) = true → (i : Int) - 1 < l.length from fun h => by omega)
  unfold litF
  (simp only [exB_ite, exB_some, exB_none]; simp only [w1, h3, h4, inL hi, decide_true, Int.toNat_natCast, if_true, implies_true, wr1 hi (by omega)]; try rfl)
 ·(simp only [lt_irr, decide_false, Bool.false_eq_true, if_false]; try rfl)
def actS (l : List (List UInt8)) : Int := if decide ((8 : Int) < (l.length : Int)) = true then 3 else if anyR (fun i => !nm (l.getD i default)) l.length = true then 5 else 0
theorem actS_len {l : List (List UInt8)} (h : actS l = 0) : l.length ≤ 8 := by
 unfold actS at h
 split at h
 ·cases h
 ·rename_i h1; simp only [decide_eq_true_eq] at h1; omega
theorem actions_eq (l : List (List UInt8)) (hl : l.length ≤ 100000) : m90 l = some (actS l) := by
 have e : m186o0 l = some (findR (fun i => !nm (l.getD i default)) l.length) := by
  delta m186o0 d186o0
  simp only [↓JD.sg_m, ↓JD.sq_m, ↓JD.sc_m, ↓JD.bk_m, ↓JD.lp_m, ↓JD.cd_m, ↓JD.lu_m, ↓JD.ct_m, ↓JD.ce_m, ↓JL.r_m, ↓JL.z_m, ↓JD.se_m, onE_r, ↓Tr.run, ↓Tr.run_nd, ↓Tr.run_c3, ↓Tr.run_c2, ↓Tr.run_nx, ↓onS, bind_ite, Option.bind_some, Option.bind_none, obR, m139o0, d139o0, nm_name]
  refine idx_loop (fun i hi => ?_) ?_
  ·(simp only [exB_ite, exB_some, exB_none]; simp only [inL hi, decide_true, Int.toNat_natCast, if_true, implies_true, wr1 hi (by omega)]; try rfl)
  ·(simp only [lt_irr, decide_false, Bool.false_eq_true, if_false]; try rfl)
 delta m90 d90
 simp only [↓JD.sg_m, ↓JD.sq_m, ↓JD.sc_m, ↓JD.bk_m, ↓JD.lp_m, ↓JD.cd_m, ↓JD.lu_m, ↓JD.ct_m, ↓JD.ce_m, ↓JL.r_m, ↓JL.z_m, ↓JD.se_m, onE_r, ↓Tr.run, ↓Tr.run_nd, ↓Tr.run_c3, ↓Tr.run_c2, ↓Tr.run_nx, ↓onS, bind_ite, Option.bind_some, Option.bind_none, obR, m138o0, d138o0, e, findR_any, actS, some_ite]
def comp (c : T48) (x : Int) : Bool := anyR (fun i => (c.States.getD i default).Parent == x) c.States.length
theorem composite_eq (c : T48) (x : Int) (hl : c.States.length ≤ 100000) : m91 c x = some (comp c x) := by
 have e : m187o0 c.States x = some (findR (fun i => (c.States.getD i default).Parent == x) c.States.length) := by
  delta m187o0 d187o0
  simp only [↓JD.sg_m, ↓JD.sq_m, ↓JD.sc_m, ↓JD.bk_m, ↓JD.lp_m, ↓JD.cd_m, ↓JD.lu_m, ↓JD.ct_m, ↓JD.ce_m, ↓JL.r_m, ↓JL.z_m, ↓JD.se_m, onE_r, ↓Tr.run, ↓Tr.run_nd, ↓Tr.run_c3, ↓Tr.run_c2, ↓Tr.run_nx, ↓onS, bind_ite, Option.bind_some, Option.bind_none, obR, m141o0, d141o0]
  refine idx_loop (fun i hi => ?_) ?_
  ·(simp only [exB_ite, exB_some, exB_none]; simp only [inL hi, decide_true, Int.toNat_natCast, if_true, implies_true, wr1 hi (by omega)]; try rfl)
  ·(simp only [lt_irr, decide_false, Bool.false_eq_true, if_false]; try rfl)
 delta m91 d91
 simp only [↓JD.sg_m, ↓JD.sq_m, ↓JD.sc_m, ↓JD.bk_m, ↓JD.lp_m, ↓JD.cd_m, ↓JD.lu_m, ↓JD.ct_m, ↓JD.ce_m, ↓JL.r_m, ↓JL.z_m, ↓JD.se_m, onE_r, ↓Tr.run, ↓Tr.run_nd, ↓Tr.run_c3, ↓Tr.run_c2, ↓Tr.run_nx, ↓onS, bind_ite, Option.bind_some, Option.bind_none, obR, m140o0, d140o0, e, findR_any, comp]
theorem rcomposite_eq (c : T48) (x : Int) (hl : c.States.length ≤ 100000) : m83 c x = some (comp c x) := by
 delta m83 d83
 simp only [↓JD.sg_m, ↓JD.sq_m, ↓JD.sc_m, ↓JD.bk_m, ↓JD.lp_m, ↓JD.cd_m, ↓JD.lu_m, ↓JD.ct_m, ↓JD.ce_m, ↓JL.r_m, ↓JL.z_m, ↓JD.se_m, onE_r, ↓Tr.run, ↓Tr.run_nd, ↓Tr.run_c3, ↓Tr.run_c2, ↓Tr.run_nx, ↓onS, bind_ite, Option.bind_some, Option.bind_none, obR]
 rw [loop_ex c.States.length (fun i => if ((c.States.getD i default).Parent == x) = true then some true else none) ?_ ?_, firstR_const, comp]
 ·cases anyR (fun i => (c.States.getD i default).Parent == x) c.States.length <;> rfl
 ·intro i hi
  (simp only [exB_ite, exB_some, exB_none]; simp only [inL hi, decide_true, Int.toNat_natCast, if_true, implies_true, wr1 hi (by omega)]; try rfl)
 ·(simp only [lt_irr, decide_false, Bool.false_eq_true, if_false]; try rfl)
def isS (c : T48) (x : Int) : Bool := decide ((0 : Int) ≤ x) && decide (x < (c.States.length : Int))
theorem is_eq (c : T48) (x : Int) : m89 c x = some (isS c x) := rfl
theorem isS_iff {c : T48} {x : Int} : isS c x = true ↔ 0 ≤ x ∧ x < c.States.length := by simp [isS]
def childS (c : T48) (x y : Int) : Bool := isS c x && ((c.States.getD x.toNat default).Parent == y)
set_option maxRecDepth 100000
structure Fit (c : T48) : Prop where
 conds : c.Conds.length ≤ 1000
 never : c.Never.length ≤ 1000
 lits : ∀ l ∈ c.Never, l.length ≤ 1000
 states : c.States.length ≤ 1000
 entry : ∀ s ∈ c.States, s.Entry.length ≤ 1000
 exit_ : ∀ s ∈ c.States, s.Exit.length ≤ 1000
 trans : c.Transitions.length ≤ 1000
 when_ : ∀ t ∈ c.Transitions, t.When.length ≤ 1000
 acts : ∀ t ∈ c.Transitions, t.Actions.length ≤ 1000
def namesS (c : T48) : List (List UInt8) := (List.range c.States.length).flatMap fun i => [(c.States.getD i default).Name]
theorem namesS_map (c : T48) : namesS c = (List.range c.States.length).map fun i => (c.States.getD i default).Name := (List.map_eq_flatMap ..).symm
theorem namesS_len (c : T48) : (namesS c).length = c.States.length := by rw [namesS_map]; simp
def stateT (c : T48) (i : Nat) : Int :=
 if (decide ((c.States.getD i default).Parent < (-1 : Int)) || decide ((i : Int) ≤ (c.States.getD i default).Parent)) = true then 9
 else if ((comp c i && !childS c (c.States.getD i default).Initial i) || (!comp c i && ((c.States.getD i default).Initial != (-1 : Int)))) = true then 2
 else if (!comp c i && (c.States.getD i default).History) = true then 17
 else if (actS (c.States.getD i default).Entry != 0) = true then actS (c.States.getD i default).Entry
 else actS (c.States.getD i default).Exit
def stateS (c : T48) (i : Nat) : Int := if (listedS (namesS c) i != 0) = true then listedS (namesS c) i else stateT c i
theorem state_eq (c : T48) (H : Fit c) (i : Nat) (hi : i < c.States.length) : m88 c (namesS c) i = some (stateS c i) := by
 have hs := H.states
 have he := H.entry _ (getD_mem hi)
 have hx := H.exit_ _ (getD_mem hi)
 have e1 := listed_eq (namesS c) i (by rw [namesS_len]; exact hi) (by rw [namesS_len]; omega)
 delta m88 d88
 simp only [↓JD.sg_m, ↓JD.sq_m, ↓JD.sc_m, ↓JD.bk_m, ↓JD.lp_m, ↓JD.cd_m, ↓JD.lu_m, ↓JD.ct_m, ↓JD.ce_m, ↓JL.r_m, ↓JL.z_m, ↓JD.se_m, onE_r, ↓Tr.run, ↓Tr.run_nd, ↓Tr.run_c3, ↓Tr.run_c2, ↓Tr.run_nx, ↓onS, bind_ite, Option.bind_some, Option.bind_none, obR, inL hi, e1, Int.toNat_natCast, if_true, composite_eq c _ (Nat.le_trans hs (by omega)), is_eq, actions_eq _ (Nat.le_trans he (by omega)), actions_eq _ (Nat.le_trans hx (by omega)), stateS, stateT, some_ite]
 refine ite_else (ite_else ?_)
 cases hc : comp c i with
 | false => simp only [Bool.false_and, Bool.not_false, Bool.true_and, Bool.false_or, Bool.false_eq_true, if_false, false_implies, if_true]
 | true =>
  have g1 := eq_true (show (!!isS c (c.States.getD i default).Initial) = true → (0 : Int) ≤ (c.States.getD i default).Initial from fun h => by simp only [Bool.not_not] at h; exact (isS_iff.1 h).1)
  have g2 := eq_true (show (!!isS c (c.States.getD i default).Initial) = true → (c.States.getD i default).Initial < (c.States.length : Int) from fun h => by simp only [Bool.not_not] at h; exact (isS_iff.1 h).2)
  simp only [if_true, Option.bind_some, g1, g2, childS, bne, Bool.not_and, Bool.true_and, Bool.not_true, Bool.false_and, Bool.or_false, Bool.false_eq_true, if_false]
def condF (c : T48) (i : Nat) : Option Int := if (listedS c.Conds i != 0) = true then some (listedS c.Conds i) else none
def nevF (c : T48) (i : Nat) : Option Int := if (((c.Never.getD i default).length : Int) == 0) = true then some 1 else if (litS c (c.Never.getD i default) != 0) = true then some (litS c (c.Never.getD i default)) else none
def stF (c : T48) (i : Nat) : Option Int := if (stateS c i != 0) = true then some (stateS c i) else none
def trF (c : T48) (i : Nat) : Option Int :=
 if ((!isS c (c.Transitions.getD i default).From) || (!isS c (c.Transitions.getD i default).To)) = true then some 2
 else if (litS c (c.Transitions.getD i default).When != 0) = true then some (litS c (c.Transitions.getD i default).When)
 else if (actS (c.Transitions.getD i default).Actions != 0) = true then some (actS (c.Transitions.getD i default).Actions) else none
def checkM (c : T48) : Option Int :=
 if (!nm c.Name) = true then some 5
 else if ((c.States.length : Int) == 0) = true then some 6
 else if ((((decide ((12 : Int) < (c.Conds.length : Int))) || (decide ((16 : Int) < (c.Never.length : Int)))) || (decide ((40 : Int) < (c.States.length : Int)))) || (decide ((120 : Int) < (c.Transitions.length : Int)))) = true then some 3
 else orK (firstR (condF c) c.Conds.length) (orK (firstR (nevF c) c.Never.length) (orK (firstR (stF c) c.States.length) (if (!isS c c.Start) = true then some 2 else orK (firstR (trF c) c.Transitions.length) (some 0))))
theorem checkM_some (c : T48) : ∃ e, checkM c = some e := ite_total (ite_total (ite_total (orK_total (orK_total (orK_total (ite_total (orK_total ⟨0, rfl⟩)))))))
theorem Check_eq (c : T48) (H : Fit c) : m52 c = checkM c := by
 have hcl := H.conds
 have hnl := H.never
 have hsl := H.states
 have htl := H.trans
 delta m52 d52
 simp only [↓JD.sg_m, ↓JD.sq_m, ↓JD.sc_m, ↓JD.bk_m, ↓JD.lp_m, ↓JD.cd_m, ↓JD.lu_m, ↓JD.ct_m, ↓JD.ce_m, ↓JL.r_m, ↓JL.z_m, ↓JD.se_m, onE_r, ↓Tr.run, ↓Tr.run_nd, ↓Tr.run_c3, ↓Tr.run_c2, ↓Tr.run_nx, ↓onS, bind_ite, Option.bind_some, Option.bind_none, obR, nm_name, is_eq, checkM]
 refine ite_else (ite_else (ite_else (loop_or _ (condF c) (fun i hi => ?_) (by (simp only [lt_irr, decide_false, Bool.false_eq_true, if_false]; try rfl)) (loop_or _ (nevF c) (fun i hi => ?_) (by (simp only [lt_irr, decide_false, Bool.false_eq_true, if_false]; try rfl)) (on_l (loop_coll c.States.length (fun i l => (l, (i : Int))) (fun i => [(c.States.getD i default).Name]) Sum.inl (fun i hi => ?_) (by (simp only [lt_irr, decide_false, Bool.false_eq_true, if_false]; try rfl))) (loop_or _ (stF c) (fun i hi => ?_) (by (simp only [lt_irr, decide_false, Bool.false_eq_true, if_false]; try rfl)) (ite_else (loop_or _ (trF c) (fun i hi => ?_) (by (simp only [lt_irr, decide_false, Bool.false_eq_true, if_false]; try rfl)) rfl))))))))
 ·unfold condF
  (simp only [exB_ite, exB_some, exB_none]; simp only [listed_eq c.Conds i hi (by omega), Option.bind_some, inL hi, decide_true, Int.toNat_natCast, if_true, implies_true, wr1 hi (by omega)]; try rfl)
 ·have hl := H.lits _ (getD_mem hi)
  unfold nevF
  (simp only [exB_ite, exB_some, exB_none]; simp only [literals_eq c _ (Nat.le_trans hl (by omega)), Option.bind_some, inL hi, decide_true, Int.toNat_natCast, if_true, implies_true, wr1 hi (by omega)]; try rfl)
 ·have hl := flatMap_len (g := fun i => [(c.States.getD i default).Name]) (m := 1) (fun i => by simp) i
  have h3 : (((List.range i).flatMap fun i => [(c.States.getD i default).Name]).length + 1) * 16 ≤ 140737488355328 := by omega
  simp only [inL hi, h3, Int.toNat_natCast, if_true, wr1 hi (by omega)]; rfl
 ·unfold stF
  have e := state_eq c H i hi
  unfold namesS at e
  (simp only [exB_ite, exB_some, exB_none]; simp only [e, Option.bind_some, inL hi, decide_true, Int.toNat_natCast, if_true, implies_true, wr1 hi (by omega)]; try rfl)
 ·have hw := H.when_ _ (getD_mem hi)
  have ha := H.acts _ (getD_mem hi)
  unfold trF
  simp only [exB_ite, exB_some, exB_none]
  simp only [inL hi, is_eq, literals_eq c _ (Nat.le_trans hw (by omega)), actions_eq _ (Nat.le_trans ha (by omega)), Option.bind_some, decide_true, Int.toNat_natCast, if_true, wr1 hi (by omega)]
  cases isS c (c.Transitions.getD i default).From <;> simp only [Bool.not_true, Bool.not_false, Bool.false_eq_true, Bool.true_or, Bool.false_or, if_true, if_false, Option.bind_some]
end Go.Av.Ch
namespace Go.Av.Mo
def C1 : T48 := ⟨[76, 65, 84, 69, 82, 65, 76], [[71, 82, 79, 85, 78, 68], [72, 69, 65, 68, 73, 78, 71], [78, 65, 86], [82, 69, 65, 68, 89], [90, 79, 78, 69], [70, 73, 78, 65, 76], [71, 79]], [], [⟨[79, 78], (-1), 1, false, [], []⟩, ⟨[82, 79, 76, 76], 0, (-1), false, [], []⟩, ⟨[72, 69, 65, 68, 73, 78, 71], 0, (-1), false, [], []⟩, ⟨[65, 82, 77, 69, 68], 0, (-1), false, [], []⟩, ⟨[78, 65, 86], 0, (-1), false, [], []⟩, ⟨[65, 80, 80, 82, 79, 65, 67, 72], 0, (-1), false, [], []⟩, ⟨[71, 79, 65, 82, 79, 85, 78, 68], 0, (-1), false, [], []⟩], 1, [⟨0, 1, [⟨0, false⟩], []⟩, ⟨0, 6, [⟨0, true⟩, ⟨6, false⟩], []⟩, ⟨0, 2, [⟨0, true⟩, ⟨1, false⟩, ⟨6, true⟩], []⟩, ⟨1, 1, [⟨0, true⟩, ⟨1, true⟩, ⟨2, true⟩, ⟨6, true⟩], []⟩, ⟨1, 1, [⟨0, true⟩, ⟨1, true⟩, ⟨2, false⟩, ⟨3, true⟩, ⟨6, true⟩], []⟩, ⟨1, 3, [⟨0, true⟩, ⟨1, true⟩, ⟨2, false⟩, ⟨3, false⟩, ⟨4, true⟩, ⟨6, true⟩], []⟩, ⟨1, 4, [⟨0, true⟩, ⟨1, true⟩, ⟨2, false⟩, ⟨3, false⟩, ⟨4, false⟩, ⟨5, true⟩, ⟨6, true⟩], [[67, 65, 80, 84, 85, 82, 69, 68]]⟩, ⟨1, 5, [⟨0, true⟩, ⟨1, true⟩, ⟨2, false⟩, ⟨3, false⟩, ⟨4, false⟩, ⟨5, false⟩, ⟨6, true⟩], [[67, 65, 80, 84, 85, 82, 69, 68]]⟩, ⟨2, 2, [⟨0, true⟩, ⟨1, true⟩, ⟨2, true⟩, ⟨6, true⟩], []⟩, ⟨2, 2, [⟨0, true⟩, ⟨1, true⟩, ⟨2, false⟩, ⟨3, true⟩, ⟨6, true⟩], []⟩, ⟨2, 3, [⟨0, true⟩, ⟨1, true⟩, ⟨2, false⟩, ⟨3, false⟩, ⟨4, true⟩, ⟨6, true⟩], []⟩, ⟨2, 4, [⟨0, true⟩, ⟨1, true⟩, ⟨2, false⟩, ⟨3, false⟩, ⟨4, false⟩, ⟨5, true⟩, ⟨6, true⟩], [[67, 65, 80, 84, 85, 82, 69, 68]]⟩, ⟨2, 5, [⟨0, true⟩, ⟨1, true⟩, ⟨2, false⟩, ⟨3, false⟩, ⟨4, false⟩, ⟨5, false⟩, ⟨6, true⟩], [[67, 65, 80, 84, 85, 82, 69, 68]]⟩, ⟨3, 2, [⟨0, true⟩, ⟨1, true⟩, ⟨3, true⟩, ⟨6, true⟩], [[76, 65, 84, 82, 69, 86]]⟩, ⟨3, 3, [⟨0, true⟩, ⟨1, true⟩, ⟨3, false⟩, ⟨4, true⟩, ⟨6, true⟩], []⟩, ⟨3, 4, [⟨0, true⟩, ⟨1, true⟩, ⟨3, false⟩, ⟨4, false⟩, ⟨5, true⟩, ⟨6, true⟩], [[67, 65, 80, 84, 85, 82, 69, 68]]⟩, ⟨3, 5, [⟨0, true⟩, ⟨1, true⟩, ⟨3, false⟩, ⟨4, false⟩, ⟨5, false⟩, ⟨6, true⟩], [[67, 65, 80, 84, 85, 82, 69, 68]]⟩, ⟨4, 2, [⟨0, true⟩, ⟨1, true⟩, ⟨3, true⟩, ⟨6, true⟩], [[76, 65, 84, 82, 69, 86]]⟩, ⟨4, 4, [⟨0, true⟩, ⟨1, true⟩, ⟨3, false⟩, ⟨5, true⟩, ⟨6, true⟩], []⟩, ⟨4, 5, [⟨0, true⟩, ⟨1, true⟩, ⟨3, false⟩, ⟨5, false⟩, ⟨6, true⟩], []⟩, ⟨5, 2, [⟨0, true⟩, ⟨1, true⟩, ⟨3, true⟩, ⟨6, true⟩], [[76, 65, 84, 82, 69, 86]]⟩, ⟨5, 4, [⟨0, true⟩, ⟨1, true⟩, ⟨3, false⟩, ⟨5, true⟩, ⟨6, true⟩], []⟩, ⟨5, 5, [⟨0, true⟩, ⟨1, true⟩, ⟨3, false⟩, ⟨5, false⟩, ⟨6, true⟩], []⟩, ⟨6, 6, [⟨0, true⟩, ⟨1, true⟩, ⟨2, true⟩, ⟨6, true⟩], []⟩, ⟨6, 6, [⟨0, true⟩, ⟨1, true⟩, ⟨2, false⟩, ⟨3, true⟩, ⟨6, true⟩], []⟩, ⟨6, 3, [⟨0, true⟩, ⟨1, true⟩, ⟨2, false⟩, ⟨3, false⟩, ⟨4, true⟩, ⟨6, true⟩], []⟩, ⟨6, 4, [⟨0, true⟩, ⟨1, true⟩, ⟨2, false⟩, ⟨3, false⟩, ⟨4, false⟩, ⟨5, true⟩, ⟨6, true⟩], [[67, 65, 80, 84, 85, 82, 69, 68]]⟩, ⟨6, 5, [⟨0, true⟩, ⟨1, true⟩, ⟨2, false⟩, ⟨3, false⟩, ⟨4, false⟩, ⟨5, false⟩, ⟨6, true⟩], [[67, 65, 80, 84, 85, 82, 69, 68]]⟩]⟩
def C2 : T48 := ⟨[86, 69, 82, 84, 73, 67, 65, 76], [[71, 82, 79, 85, 78, 68], [82, 69, 65, 68, 89], [70, 73, 78, 65, 76], [71, 79], [72, 79, 76, 68], [83, 80, 69, 69, 68], [67, 72, 65, 78, 71, 69], [65, 66, 79, 86, 69], [84, 65, 75, 69], [78, 69, 65, 82], [65, 84]], [[⟨1, true⟩, ⟨8, false⟩], [⟨9, true⟩, ⟨10, false⟩]], [⟨[79, 78], (-1), 1, false, [], []⟩, ⟨[72, 79, 76, 68], 0, (-1), false, [], []⟩, ⟨[67, 76, 73, 77, 66], 0, (-1), false, [], []⟩, ⟨[68, 69, 83, 67, 69, 78, 68], 0, (-1), false, [], []⟩, ⟨[83, 80, 69, 69, 68], 0, (-1), false, [], []⟩, ⟨[67, 65, 80, 84, 85, 82, 69], 0, (-1), false, [], []⟩, ⟨[80, 65, 84, 72], 0, (-1), false, [], []⟩, ⟨[71, 76, 73, 68, 69], 0, (-1), false, [], []⟩, ⟨[71, 79, 65, 82, 79, 85, 78, 68], 0, (-1), false, [], []⟩], 1, [⟨0, 1, [⟨0, false⟩], []⟩, ⟨0, 8, [⟨0, true⟩, ⟨3, false⟩], []⟩, ⟨0, 1, [⟨0, true⟩, ⟨3, true⟩, ⟨4, false⟩], []⟩, ⟨0, 4, [⟨0, true⟩, ⟨3, true⟩, ⟨4, true⟩, ⟨5, false⟩], []⟩, ⟨0, 2, [⟨0, true⟩, ⟨3, true⟩, ⟨4, true⟩, ⟨5, true⟩, ⟨6, false⟩, ⟨7, false⟩], []⟩, ⟨0, 3, [⟨0, true⟩, ⟨3, true⟩, ⟨4, true⟩, ⟨5, true⟩, ⟨6, false⟩, ⟨7, true⟩], []⟩, ⟨0, 6, [⟨0, true⟩, ⟨2, true⟩, ⟨3, true⟩, ⟨4, true⟩, ⟨5, true⟩, ⟨6, true⟩, ⟨8, false⟩], [[67, 65, 80, 84, 85, 82, 69, 68]]⟩, ⟨0, 7, [⟨0, true⟩, ⟨2, false⟩, ⟨3, true⟩, ⟨4, true⟩, ⟨5, true⟩, ⟨6, true⟩, ⟨8, false⟩], [[67, 65, 80, 84, 85, 82, 69, 68]]⟩, ⟨1, 1, [⟨0, true⟩, ⟨3, true⟩, ⟨4, true⟩, ⟨5, true⟩, ⟨6, true⟩, ⟨8, true⟩], []⟩, ⟨2, 5, [⟨0, true⟩, ⟨3, true⟩, ⟨4, true⟩, ⟨5, true⟩, ⟨6, true⟩, ⟨8, true⟩, ⟨9, false⟩], []⟩, ⟨2, 2, [⟨0, true⟩, ⟨3, true⟩, ⟨4, true⟩, ⟨5, true⟩, ⟨6, true⟩, ⟨8, true⟩, ⟨9, true⟩], []⟩, ⟨3, 5, [⟨0, true⟩, ⟨3, true⟩, ⟨4, true⟩, ⟨5, true⟩, ⟨6, true⟩, ⟨8, true⟩, ⟨9, false⟩], []⟩, ⟨3, 3, [⟨0, true⟩, ⟨3, true⟩, ⟨4, true⟩, ⟨5, true⟩, ⟨6, true⟩, ⟨8, true⟩, ⟨9, true⟩], []⟩, ⟨4, 5, [⟨0, true⟩, ⟨3, true⟩, ⟨4, true⟩, ⟨5, true⟩, ⟨6, true⟩, ⟨8, true⟩, ⟨9, false⟩], []⟩, ⟨4, 4, [⟨0, true⟩, ⟨3, true⟩, ⟨4, true⟩, ⟨5, true⟩, ⟨6, true⟩, ⟨8, true⟩, ⟨9, true⟩], []⟩, ⟨5, 1, [⟨0, true⟩, ⟨3, true⟩, ⟨4, true⟩, ⟨5, true⟩, ⟨6, true⟩, ⟨8, true⟩, ⟨10, false⟩], []⟩, ⟨5, 5, [⟨0, true⟩, ⟨3, true⟩, ⟨4, true⟩, ⟨5, true⟩, ⟨6, true⟩, ⟨8, true⟩, ⟨9, false⟩, ⟨10, true⟩], []⟩, ⟨5, 2, [⟨0, true⟩, ⟨3, true⟩, ⟨4, true⟩, ⟨5, true⟩, ⟨6, true⟩, ⟨7, false⟩, ⟨8, true⟩, ⟨9, true⟩, ⟨10, true⟩], [[79, 86, 69, 82, 83, 72, 79, 84]]⟩, ⟨5, 3, [⟨0, true⟩, ⟨3, true⟩, ⟨4, true⟩, ⟨5, true⟩, ⟨6, true⟩, ⟨7, true⟩, ⟨8, true⟩, ⟨9, true⟩, ⟨10, true⟩], [[79, 86, 69, 82, 83, 72, 79, 84]]⟩, ⟨6, 1, [⟨0, true⟩, ⟨1, true⟩, ⟨3, true⟩, ⟨4, true⟩, ⟨5, true⟩, ⟨6, true⟩, ⟨8, true⟩], [[86, 69, 82, 84, 82, 69, 86]]⟩, ⟨6, 6, [⟨0, true⟩, ⟨1, false⟩, ⟨2, true⟩, ⟨3, true⟩, ⟨4, true⟩, ⟨5, true⟩, ⟨6, true⟩, ⟨8, true⟩], []⟩, ⟨6, 7, [⟨0, true⟩, ⟨1, false⟩, ⟨2, false⟩, ⟨3, true⟩, ⟨4, true⟩, ⟨5, true⟩, ⟨6, true⟩, ⟨8, true⟩], []⟩, ⟨7, 1, [⟨0, true⟩, ⟨1, true⟩, ⟨3, true⟩, ⟨4, true⟩, ⟨5, true⟩, ⟨6, true⟩, ⟨8, true⟩], [[86, 69, 82, 84, 82, 69, 86]]⟩, ⟨7, 6, [⟨0, true⟩, ⟨1, false⟩, ⟨2, true⟩, ⟨3, true⟩, ⟨4, true⟩, ⟨5, true⟩, ⟨6, true⟩, ⟨8, true⟩], []⟩, ⟨7, 7, [⟨0, true⟩, ⟨1, false⟩, ⟨2, false⟩, ⟨3, true⟩, ⟨4, true⟩, ⟨5, true⟩, ⟨6, true⟩, ⟨8, true⟩], []⟩, ⟨8, 5, [⟨0, true⟩, ⟨3, true⟩, ⟨4, true⟩, ⟨5, true⟩, ⟨6, true⟩, ⟨8, true⟩, ⟨9, false⟩], []⟩, ⟨8, 8, [⟨0, true⟩, ⟨3, true⟩, ⟨4, true⟩, ⟨5, true⟩, ⟨6, true⟩, ⟨8, true⟩, ⟨9, true⟩], []⟩]⟩
def C3 : T48 := ⟨[80, 72, 65, 83, 69], [[71, 82, 79, 85, 78, 68], [70, 73, 78, 65, 76], [71, 79], [84, 72, 82, 85, 83, 84], [65, 67, 67, 69, 76], [76, 69, 86, 69, 76], [68, 79, 87, 78], [83, 84, 79, 80, 80, 69, 68]], [[⟨0, false⟩, ⟨4, false⟩], [⟨0, true⟩, ⟨7, false⟩]], [⟨[65, 73, 82], (-1), 3, false, [], []⟩, ⟨[80, 82, 69, 70, 76, 84], (-1), (-1), false, [], []⟩, ⟨[84, 65, 75, 69, 79, 70, 70], (-1), (-1), false, [], []⟩, ⟨[67, 76, 73, 77, 66], 0, (-1), false, [], []⟩, ⟨[67, 82, 85, 73, 83, 69], 0, (-1), false, [], []⟩, ⟨[68, 69, 83, 67, 69, 78, 84], 0, (-1), false, [], []⟩, ⟨[65, 80, 80, 82, 79, 65, 67, 72], 0, (-1), false, [], []⟩, ⟨[71, 79, 65, 82, 79, 85, 78, 68], 0, (-1), false, [], []⟩, ⟨[76, 65, 78, 68, 69, 68], (-1), (-1), false, [], []⟩], 1, [⟨0, 8, [⟨0, false⟩], [[76, 65, 78, 68, 73, 78, 71]]⟩, ⟨0, 7, [⟨0, true⟩, ⟨2, false⟩], []⟩, ⟨1, 3, [⟨0, true⟩], []⟩, ⟨1, 2, [⟨0, false⟩, ⟨3, false⟩], []⟩, ⟨1, 1, [⟨0, false⟩, ⟨3, true⟩], []⟩, ⟨2, 2, [⟨0, false⟩, ⟨3, false⟩], []⟩, ⟨2, 1, [⟨0, false⟩, ⟨3, true⟩], [[82, 69, 74, 69, 67, 84, 69, 68]]⟩, ⟨2, 2, [⟨0, true⟩, ⟨4, true⟩], []⟩, ⟨2, 0, [⟨0, true⟩, ⟨4, false⟩], []⟩, ⟨3, 6, [⟨0, true⟩, ⟨1, false⟩, ⟨2, true⟩], []⟩, ⟨3, 4, [⟨0, true⟩, ⟨1, true⟩, ⟨2, true⟩, ⟨5, false⟩], []⟩, ⟨3, 5, [⟨0, true⟩, ⟨1, true⟩, ⟨2, true⟩, ⟨5, true⟩, ⟨6, false⟩], []⟩, ⟨3, 3, [⟨0, true⟩, ⟨1, true⟩, ⟨2, true⟩, ⟨5, true⟩, ⟨6, true⟩], []⟩, ⟨4, 6, [⟨0, true⟩, ⟨1, false⟩, ⟨2, true⟩], []⟩, ⟨4, 5, [⟨0, true⟩, ⟨1, true⟩, ⟨2, true⟩, ⟨6, false⟩], []⟩, ⟨4, 4, [⟨0, true⟩, ⟨1, true⟩, ⟨2, true⟩, ⟨5, false⟩, ⟨6, true⟩], []⟩, ⟨4, 3, [⟨0, true⟩, ⟨1, true⟩, ⟨2, true⟩, ⟨5, true⟩, ⟨6, true⟩], []⟩, ⟨5, 6, [⟨0, true⟩, ⟨1, false⟩, ⟨2, true⟩], []⟩, ⟨5, 5, [⟨0, true⟩, ⟨1, true⟩, ⟨2, true⟩, ⟨6, false⟩], []⟩, ⟨5, 4, [⟨0, true⟩, ⟨1, true⟩, ⟨2, true⟩, ⟨5, false⟩, ⟨6, true⟩], []⟩, ⟨5, 3, [⟨0, true⟩, ⟨1, true⟩, ⟨2, true⟩, ⟨5, true⟩, ⟨6, true⟩], []⟩, ⟨6, 6, [⟨0, true⟩, ⟨1, false⟩, ⟨2, true⟩], []⟩, ⟨6, 5, [⟨0, true⟩, ⟨1, true⟩, ⟨2, true⟩, ⟨6, false⟩], []⟩, ⟨6, 3, [⟨0, true⟩, ⟨1, true⟩, ⟨2, true⟩, ⟨6, true⟩], []⟩, ⟨7, 7, [⟨0, true⟩, ⟨2, true⟩, ⟨4, true⟩], []⟩, ⟨7, 3, [⟨0, true⟩, ⟨1, true⟩, ⟨2, true⟩, ⟨4, false⟩], []⟩, ⟨7, 6, [⟨0, true⟩, ⟨1, false⟩, ⟨2, true⟩, ⟨4, false⟩], []⟩, ⟨8, 3, [⟨0, true⟩], [[84, 79, 85, 67, 72, 71, 79]]⟩, ⟨8, 2, [⟨0, false⟩, ⟨3, false⟩], []⟩, ⟨8, 1, [⟨0, false⟩, ⟨3, true⟩, ⟨7, false⟩], []⟩, ⟨8, 8, [⟨0, false⟩, ⟨3, true⟩, ⟨7, true⟩], []⟩]⟩
end Go.Av.Mo
set_option maxRecDepth 100000
namespace Go.Av.Ch
def topB (c : T48) (s : Int) : Bool := decide ((c.States.getD s.toNat default).Parent < 0) || decide (s ≤ (c.States.getD s.toNat default).Parent)
def pathT (c : T48) : Nat → Int → List Int
 | 0, _ => []
 | n + 1, s => if topB c s = true then [] else (c.States.getD s.toNat default).Parent :: pathT c n (c.States.getD s.toNat default).Parent
def pathS (c : T48) (s : Int) : List Int := if isS c s = true then s :: pathT c s.toNat s else []
theorem pathT_len (c : T48) : ∀ n s, (pathT c n s).length ≤ n
 | 0, _ => by simp [pathT]
 | n + 1, s => by
  unfold pathT
  split
  ·simp
  ·have := pathT_len c n (c.States.getD s.toNat default).Parent
   simp only [List.length_cons]; omega
theorem pathS_len (c : T48) (s : Int) : (pathS c s).length ≤ c.States.length := by
 unfold pathS
 split
 ·rename_i h
  have := isS_iff.1 h
  have := pathT_len c s.toNat s
  simp only [List.length_cons]; omega
 ·simp
theorem topB_false {c : T48} {s : Int} (h : topB c s = false) : 0 ≤ (c.States.getD s.toNat default).Parent ∧ (c.States.getD s.toNat default).Parent < s := by
 simp only [topB, Bool.or_eq_false_iff, decide_eq_false_iff_not] at h; omega
theorem pathT_fuel (c : T48) : ∀ n m s, 0 ≤ s → s.toNat ≤ n → s.toNat ≤ m → pathT c n s = pathT c m s := by
 intro n
 induction n with
 | zero =>
  intro m s h0 hn hm
  cases m with
  | zero => rfl
  | succ m =>
   unfold pathT
   cases ht : topB c s with
   | true => simp
   | false => have := topB_false ht; omega
 | succ n ih =>
  intro m s h0 hn hm
  cases ht : topB c s with
  | true =>
   cases m with
   | zero => unfold pathT; simp [ht]
   | succ m => unfold pathT; simp [ht]
  | false =>
   have := topB_false ht
   cases m with
   | zero => omega
   | succ m =>
    unfold pathT
    simp only [ht, Bool.false_eq_true, if_false]
    rw [ih m _ this.1 (by omega) (by omega)]
theorem pathS_step {c : T48} {s : Int} (h : isS c s = true) : pathS c s = s :: if topB c s = true then [] else pathS c (c.States.getD s.toNat default).Parent := by
 have hs := isS_iff.1 h
 unfold pathS
 rw [if_pos h, pathT_fuel c s.toNat (s.toNat + 1) s hs.1 (Nat.le_refl _) (by omega)]
 congr 1
 show (if topB c s = true then [] else (c.States.getD s.toNat default).Parent :: pathT c s.toNat (c.States.getD s.toNat default).Parent) = _
 cases ht : topB c s with
 | true => rfl
 | false =>
  have hp := topB_false ht
  simp only [Bool.false_eq_true, if_false]
  rw [if_pos (isS_iff.2 ⟨hp.1, by omega⟩), pathT_fuel c s.toNat (c.States.getD s.toNat default).Parent.toNat _ hp.1 (by omega) (Nat.le_refl _)]
theorem pathS_is {c : T48} : ∀ (n : Nat) (s : Int), s.toNat ≤ n → ∀ x ∈ pathS c s, isS c x = true ∧ x ≤ s := by
 intro n
 induction n with
 | zero =>
  intro s hn x hx
  cases h : isS c s with
  | false => unfold pathS at hx; rw [if_neg (by rw [h]; decide)] at hx; cases hx
  | true =>
   have hs := isS_iff.1 h
   rw [pathS_step h] at hx
   cases ht : topB c s with
   | true => rw [ht] at hx; simp at hx; subst hx; exact ⟨h, Int.le_refl _⟩
   | false => have := topB_false ht; omega
 | succ n ih =>
  intro s hn x hx
  cases h : isS c s with
  | false => unfold pathS at hx; rw [if_neg (by rw [h]; decide)] at hx; cases hx
  | true =>
   rw [pathS_step h] at hx
   rcases List.mem_cons.1 hx with rfl | hx
   ·exact ⟨h, Int.le_refl _⟩
   ·cases ht : topB c s with
    | true => rw [ht] at hx; simp at hx
    | false =>
     have := topB_false ht
     rw [ht] at hx
     have := ih _ (by omega) x hx
     exact ⟨this.1, by omega⟩
theorem path_loop {c : T48} {b : Int × List Int → Option ((Int × List Int) ⊕ List Int)}
  (hb : ∀ (s : Int) (acc : List Int), 0 ≤ s → s < c.States.length → b (s, acc) = if topB c s = true then some (.inr acc) else if (acc.length + 1) * 8 ≤ 140737488355328 then some (.inl ((c.States.getD s.toNat default).Parent, acc ++ [(c.States.getD s.toNat default).Parent])) else none) :
  ∀ (n : Nat) (s : Int) (acc : List Int), 0 ≤ s → s < c.States.length → s.toNat ≤ n → acc.length + n ≤ 100000 → loopO b (s, acc) = some (acc ++ pathT c n s) := by
 intro n
 induction n with
 | zero =>
  intro s acc h0 h1 hn hl
  rw [loopO_eq, hb s acc h0 h1]
  cases ht : topB c s with
  | true => simp [pathT]
  | false => have := topB_false ht; omega
 | succ n ih =>
  intro s acc h0 h1 hn hl
  rw [loopO_eq, hb s acc h0 h1]
  unfold pathT
  cases ht : topB c s with
  | true => simp
  | false =>
   have hp := topB_false ht
   have h8 : (acc.length + 1) * 8 ≤ 140737488355328 := by omega
   simp only [Bool.false_eq_true, if_false, if_pos h8, Option.bind_some]
   rw [ih _ _ hp.1 (by omega) (by omega) (by simp only [List.length_append, List.length_cons, List.length_nil]; omega)]
   simp
theorem Path_eq (c : T48) (H : Fit c) (s : Int) : m95 c s = some (pathS c s) := by
 have hs := H.states
 delta m95 d95
 simp only [↓JD.sg_m, ↓JD.sq_m, ↓JD.sc_m, ↓JD.bk_m, ↓JD.lp_m, ↓JD.cd_m, ↓JD.lu_m, ↓JD.ct_m, ↓JD.ce_m, ↓JL.r_m, ↓JL.z_m, ↓JD.se_m, onE_r, ↓Tr.run, ↓Tr.run_nd, ↓Tr.run_c3, ↓Tr.run_c2, ↓Tr.run_nx, ↓onS, bind_ite, Option.bind_some, Option.bind_none, obR, is_eq]
 unfold pathS
 cases h : isS c s with
 | false => rfl
 | true =>
  have hi := isS_iff.1 h
  simp only [Bool.not_true, Bool.false_eq_true, if_false, if_true]
  rw [path_loop (c := c) (fun s acc h0 h1 => ?_) s.toNat s [s] hi.1 hi.2 (Nat.le_refl _) (by simp; omega)]
  ·simp
  ·simp only [h0, h1, if_true]; rfl
def leafG (c : T48) (i : Nat) : List Int := if comp c i = true then [] else [(i : Int)]
def leavesS (c : T48) : List Int := (List.range c.States.length).flatMap (leafG c)
theorem leafG_len (c : T48) (i : Nat) : (leafG c i).length ≤ 1 := by unfold leafG; split <;> simp
theorem leavesS_iff {c : T48} {x : Int} : x ∈ leavesS c ↔ isS c x = true ∧ comp c x = false := by
 unfold leavesS leafG
 rw [List.mem_flatMap, isS_iff]
 constructor
 ·rintro ⟨i, hi, hx⟩
  rw [List.mem_range] at hi
  split at hx
  ·cases hx
  ·rename_i h; simp only [List.mem_singleton] at hx; subst hx; exact ⟨by omega, by simpa using h⟩
 ·rintro ⟨h1, h2⟩
  refine ⟨x.toNat, List.mem_range.2 (by omega), ?_⟩
  rw [Int.toNat_of_nonneg h1.1, if_neg (by rw [h2]; decide)]; simp
theorem rLeaves_eq (c : T48) (H : Fit c) : m48 c = some (leavesS c) := by
 have hs := H.states
 delta m48 d48
 simp only [↓JD.sg_m, ↓JD.sq_m, ↓JD.sc_m, ↓JD.bk_m, ↓JD.lp_m, ↓JD.cd_m, ↓JD.lu_m, ↓JD.ct_m, ↓JD.ce_m, ↓JL.r_m, ↓JL.z_m, ↓JD.se_m, onE_r, ↓Tr.run, ↓Tr.run_nd, ↓Tr.run_c3, ↓Tr.run_c2, ↓Tr.run_nx, ↓onS, bind_ite, Option.bind_some, Option.bind_none, obR, rcomposite_eq c _ (Nat.le_trans hs (by omega))]
 refine on_l (loop_coll c.States.length (fun i l => (l, (i : Int))) (leafG c) Sum.inl (fun i hi => ?_) (by (simp only [lt_irr, decide_false, Bool.false_eq_true, if_false]; try rfl))) rfl
 have hl := flatMap_len (leafG_len c) i
 have h3 : (((List.range i).flatMap (leafG c)).length + 1) * 8 ≤ 140737488355328 := by omega
 simp only [inL hi, decide_true, h3, if_true, wr1 hi (by omega), leafG]
 cases comp c i <;> simp
def bitV (v : Int) (k : Nat) : Bool := IntKind.u16.wrap ((BitVec.ofInt IntKind.u16.bits (v.fdiv (2 ^ min k IntKind.u16.bits)) &&& BitVec.ofInt IntKind.u16.bits 1).toNat : Int) == 1
theorem bitV_eq {v : Int} {k : Nat} (h0 : 0 ≤ v) (hk : k ≤ 16) : bitV v k = v.toNat.testBit k := by
 obtain ⟨n, rfl⟩ := Int.eq_ofNat_of_zero_le h0
 unfold bitV
 have e1 : min k IntKind.u16.bits = k := by show min k 16 = k; omega
 have e2 : (n : Int).fdiv (2 ^ k) = ((n / 2 ^ k : Nat) : Int) := by
  rw [Int.fdiv_eq_ediv_of_nonneg _ (Int.le_of_lt (Int.pow_pos (by omega)))]
  push_cast
  rfl
 rw [e1, e2]
 have e3 : (BitVec.ofInt IntKind.u16.bits ((n / 2 ^ k : Nat) : Int) &&& BitVec.ofInt IntKind.u16.bits 1).toNat = n / 2 ^ k % 2 := by
  show (BitVec.ofInt 16 ((n / 2 ^ k : Nat) : Int) &&& 1#16).toNat = _
  rw [BitVec.ofInt_natCast, BitVec.toNat_and, BitVec.toNat_ofNat]
  show n / 2 ^ k % 65536 &&& 1 = _
  rw [Nat.and_one_is_mod]
  omega
 rw [e3]
 have e4 : IntKind.u16.wrap ((n / 2 ^ k % 2 : Nat) : Int) = ((n / 2 ^ k % 2 : Nat) : Int) := by
  have : n / 2 ^ k % 2 < 2 := Nat.mod_lt _ (by omega)
  generalize n / 2 ^ k % 2 = m at *
  match m, this with
  | 0, _ => rfl
  | 1, _ => rfl
 rw [e4, Int.toNat_natCast, Nat.testBit_eq_decide_div_mod_eq, Bool.eq_iff_iff, beq_iff_eq, decide_eq_true_eq]
 omega
def litN (v : Int) (x : T176) : Bool := decide (x.Cond < 0) || decide (15 < x.Cond) || bitV v x.Cond.toNat == x.Neg
def holdsS (l : List T176) (v : Int) : Bool := !anyR (fun i => litN v (l.getD i default)) l.length
theorem holds_loop {l : List T176} {v : Int} (hl : l.length ≤ 100000) {b : Int → Option (Int ⊕ (Unit ⊕ Bool))} (hb : ∀ i : Nat, i < l.length → b i = exB (if litN v (l.getD i default) = true then some false else none) ((i : Int) + 1)) (hd : b l.length = some (.inr (.inl ()))) :
  (loopO b 0).bind (onS fun _ => some true) = some (holdsS l v) := by
 rw [loop_ex l.length _ hb hd, firstR_const, holdsS]
 cases anyR (fun i => litN v (l.getD i default)) l.length <;> rfl
theorem Holds_eq (l : List T176) (v : Int) (hl : l.length ≤ 100000) : m94 l v = some (holdsS l v) := by
 delta m94 d94
 simp only [↓JD.sg_m, ↓JD.sq_m, ↓JD.sc_m, ↓JD.bk_m, ↓JD.lp_m, ↓JD.cd_m, ↓JD.lu_m, ↓JD.ct_m, ↓JD.ce_m, ↓JL.r_m, ↓JL.z_m, ↓JD.se_m, onE_r, ↓Tr.run, ↓Tr.run_nd, ↓Tr.run_c3, ↓Tr.run_c2, ↓Tr.run_nx, ↓onS, bind_ite, Option.bind_some, Option.bind_none, obR]
 refine holds_loop hl (fun i hi => ?_) (by (simp only [lt_irr, decide_false, Bool.false_eq_true, if_false]; try rfl))
 have h1 := eq_true (show (!(decide ((l.getD i default).Cond < 0) || decide (15 < (l.getD i default).Cond))) = true → 0 ≤ (l.getD i default).Cond from fun h => by simp only [Bool.not_eq_true', Bool.or_eq_false_iff, decide_eq_false_iff_not] at h; omega)
 (simp only [exB_ite, exB_some, exB_none]; simp only [h1, inL hi, decide_true, Int.toNat_natCast, if_true, implies_true, wr1 hi (by omega)]; try rfl)
def wideB (c : T48) (v : Int) : Bool := decide ((c.Conds.length : Int) < 16) && (v.fdiv (2 ^ min (c.Conds.length : Int).toNat IntKind.u16.bits) != 0)
def allowedS (c : T48) (v : Int) : Bool := !wideB c v && !anyR (fun i => holdsS (c.Never.getD i default) v) c.Never.length
theorem Allowed_eq (c : T48) (H : Fit c) (v : Int) : m54 c v = some (allowedS c v) := by
 have hn := H.never
 have e : m142o0 c.Never v = some (findR (fun i => holdsS (c.Never.getD i default) v) c.Never.length) := by
  delta m142o0 d142o0
  simp only [↓JD.sg_m, ↓JD.sq_m, ↓JD.sc_m, ↓JD.bk_m, ↓JD.lp_m, ↓JD.cd_m, ↓JD.lu_m, ↓JD.ct_m, ↓JD.ce_m, ↓JL.r_m, ↓JL.z_m, ↓JD.se_m, onE_r, ↓Tr.run, ↓Tr.run_nd, ↓Tr.run_c3, ↓Tr.run_c2, ↓Tr.run_nx, ↓onS, bind_ite, Option.bind_some, Option.bind_none, obR, m93o0, d93o0]
  refine idx_loop (fun i hi => ?_) (by (simp only [lt_irr, decide_false, Bool.false_eq_true, if_false]; try rfl))
  have hl := H.lits _ (getD_mem hi)
  (simp only [exB_ite, exB_some, exB_none]; simp only [Holds_eq _ _ (Nat.le_trans hl (by omega)), Option.bind_some, inL hi, decide_true, Int.toNat_natCast, if_true, implies_true, wr1 hi (by omega)]; try rfl)
 have h1 := eq_true (show decide ((c.Conds.length : Int) < 16) = true → (0 : Int) ≤ (c.Conds.length : Int) from fun _ => by omega)
 delta m54 d54
 simp only [↓JD.sg_m, ↓JD.sq_m, ↓JD.sc_m, ↓JD.bk_m, ↓JD.lp_m, ↓JD.cd_m, ↓JD.lu_m, ↓JD.ct_m, ↓JD.ce_m, ↓JL.r_m, ↓JL.z_m, ↓JD.se_m, onE_r, ↓Tr.run, ↓Tr.run_nd, ↓Tr.run_c3, ↓Tr.run_c2, ↓Tr.run_nx, ↓onS, bind_ite, Option.bind_some, Option.bind_none, obR, m92o0, d92o0, e, findR_any, h1, if_true]
 unfold allowedS
 cases hw : wideB c v with
 | true => unfold wideB at hw; simp only [hw, if_true]; rfl
 | false => unfold wideB at hw; simp only [hw, if_false, Bool.false_eq_true]; rfl
def enabG (c : T48) (p : List Int) (v : Int) (i : Nat) : List Int := if (hasK p p.length (c.Transitions.getD i default).From && holdsS (c.Transitions.getD i default).When v) = true then [(i : Int)] else []
def enabledS (c : T48) (leaf v : Int) : List Int := (List.range c.Transitions.length).flatMap (enabG c (pathS c leaf) v)
theorem enabG_len (c : T48) (p : List Int) (v : Int) (i : Nat) : (enabG c p v i).length ≤ 1 := by unfold enabG; split <;> simp
theorem Enabled_eq (c : T48) (H : Fit c) (leaf v : Int) : m55 c leaf v = some (enabledS c leaf v) := by
 have hs := H.states
 have ht := H.trans
 have hp := pathS_len c leaf
 delta m55 d55
 simp only [↓JD.sg_m, ↓JD.sq_m, ↓JD.sc_m, ↓JD.bk_m, ↓JD.lp_m, ↓JD.cd_m, ↓JD.lu_m, ↓JD.ct_m, ↓JD.ce_m, ↓JL.r_m, ↓JL.z_m, ↓JD.se_m, onE_r, ↓Tr.run, ↓Tr.run_nd, ↓Tr.run_c3, ↓Tr.run_c2, ↓Tr.run_nx, ↓onS, bind_ite, Option.bind_some, Option.bind_none, obR, Path_eq c H, onS_l]
 refine on_l (loop_coll c.Transitions.length (fun i l => (l, (i : Int))) (enabG c (pathS c leaf) v) Sum.inl (fun i hi => ?_) (by (simp only [lt_irr, decide_false, Bool.false_eq_true, if_false]; try rfl))) rfl
 have hl := flatMap_len (enabG_len c (pathS c leaf) v) i
 have h3 : (((List.range i).flatMap (enabG c (pathS c leaf) v)).length + 1) * 8 ≤ 140737488355328 := by omega
 have hw := H.when_ _ (getD_mem hi)
 simp only [inL hi, decide_true, h3, Int.toNat_natCast, if_true, wr1 hi (by omega), containsI_eq _ _ (show (pathS c leaf).length ≤ 100000 by omega), Holds_eq _ _ (Nat.le_trans hw (by omega)), Option.bind_some, enabG]
 cases hasK (pathS c leaf) (pathS c leaf).length (c.Transitions.getD i default).From with
 | false => simp
 | true => cases holdsS (c.Transitions.getD i default).When v <;> simp
end Go.Av.Ch
set_option maxRecDepth 1000000
namespace Go.Av.Mo
open Go.Av.Ch
def fitB (c : T48) : Bool := decide (c.Conds.length ≤ 1000) && decide (c.Never.length ≤ 1000) && c.Never.all (fun l => decide (l.length ≤ 1000)) && decide (c.States.length ≤ 1000) && c.States.all (fun s => decide (s.Entry.length ≤ 1000) && decide (s.Exit.length ≤ 1000)) &&
 decide (c.Transitions.length ≤ 1000) && c.Transitions.all (fun t => decide (t.When.length ≤ 1000) && decide (t.Actions.length ≤ 1000))
theorem fit_of {c : T48} (h : fitB c = true) : Fit c := by
 simp only [fitB, Bool.and_eq_true, decide_eq_true_eq, List.all_eq_true] at h
 obtain ⟨⟨⟨⟨⟨⟨h1, h2⟩, h3⟩, h4⟩, h5⟩, h6⟩, h7⟩ := h
 exact ⟨h1, h2, h3, h4, fun s hs => (h5 s hs).1, fun s hs => (h5 s hs).2, h6, fun t ht => (h7 t ht).1, fun t ht => (h7 t ht).2⟩
theorem fit1 : Fit C1 := fit_of (by kernel_rfl)
theorem fit2 : Fit C2 := fit_of (by kernel_rfl)
theorem fit3 : Fit C3 := fit_of (by kernel_rfl)
theorem chk1 : checkM C1 = some 0 := by kernel_rfl
theorem chk2 : checkM C2 = some 0 := by kernel_rfl
theorem chk3 : checkM C3 = some 0 := by kernel_rfl
theorem lea1 : leavesS C1 = [1, 2, 3, 4, 5, 6] := by kernel_rfl
theorem lea2 : leavesS C2 = [1, 2, 3, 4, 5, 6, 7, 8] := by kernel_rfl
theorem lea3 : leavesS C3 = [1, 2, 3, 4, 5, 6, 7, 8] := by kernel_rfl
end Go.Av.Mo
namespace Go.Av
theorem n16 {n : Nat} (h : n < 65536) : IntKind.wrap .u16 (n : Int) = (n : Int) := IntWalk.u16_in _ (by omega)
theorem n32 {n : Nat} (h : n < 4294967296) : IntKind.wrap .u32 (n : Int) = (n : Int) := IntWalk.u32_in _ (by omega)
theorem bv16 {n : Nat} (h : n < 65536) : (BitVec.ofInt (IntKind.bits .u16) (n : Int)) = BitVec.ofNat 16 n := by show BitVec.ofInt 16 (n : Int) = _; rw [BitVec.ofInt_natCast]
theorem bv32 {n : Nat} (h : n < 4294967296) : (BitVec.ofInt (IntKind.bits .u32) (n : Int)) = BitVec.ofNat 32 n := by show BitVec.ofInt 32 (n : Int) = _; rw [BitVec.ofInt_natCast]
theorem or16 {n m : Nat} (hn : n < 65536) (hm : m < 65536) : IntKind.wrap .u16 (((BitVec.ofInt (IntKind.bits .u16) (n : Int)) ||| (BitVec.ofInt (IntKind.bits .u16) (m : Int))).toNat : Int) = ((n ||| m : Nat) : Int) := by
 have e : ((BitVec.ofInt (IntKind.bits .u16) (n : Int)) ||| (BitVec.ofInt (IntKind.bits .u16) (m : Int))).toNat = n ||| m := by
  rw [BitVec.toNat_or, bv16 hn, bv16 hm]
  show (BitVec.ofNat 16 n).toNat ||| (BitVec.ofNat 16 m).toNat = _
  rw [BitVec.toNat_ofNat, BitVec.toNat_ofNat, Nat.mod_eq_of_lt hn, Nat.mod_eq_of_lt hm]
 rw [e]
 exact n16 (Nat.or_lt_two_pow (n := 16) hn hm)
theorem and32 {n m : Nat} (hn : n < 4294967296) (hm : m < 4294967296) : IntKind.wrap .u32 (((BitVec.ofInt (IntKind.bits .u32) (n : Int)) &&& (BitVec.ofInt (IntKind.bits .u32) (m : Int))).toNat : Int) = ((n &&& m : Nat) : Int) := by
 have e : ((BitVec.ofInt (IntKind.bits .u32) (n : Int)) &&& (BitVec.ofInt (IntKind.bits .u32) (m : Int))).toNat = n &&& m := by
  rw [BitVec.toNat_and, bv32 hn, bv32 hm]
  show (BitVec.ofNat 32 n).toNat &&& (BitVec.ofNat 32 m).toNat = _
  rw [BitVec.toNat_ofNat, BitVec.toNat_ofNat, Nat.mod_eq_of_lt hn, Nat.mod_eq_of_lt hm]
 rw [e]
 exact n32 (Nat.lt_of_le_of_lt Nat.and_le_left hn)
theorem fdiv_pow {n k B : Nat} (hk : k ≤ B) : (n : Int).fdiv (2 ^ (min k B)) = ((n / 2 ^ k : Nat) : Int) := by
 have e1 : min k B = k := by omega
 rw [e1, Int.fdiv_eq_ediv_of_nonneg _ (Int.le_of_lt (Int.pow_pos (by omega)))]
 push_cast
 rfl
def bitW (v : Int) (k : Nat) : Bool := IntKind.wrap .u32 (((BitVec.ofInt (IntKind.bits .u32) (Int.fdiv v (2 ^ (min k (IntKind.bits .u32))))) &&& (BitVec.ofInt (IntKind.bits .u32) 1)).toNat : Int) == 1
theorem bitW_eq {n k : Nat} (hn : n < 4294967296) (hk : k ≤ 32) : bitW (n : Int) k = n.testBit k := by
 unfold bitW
 rw [show IntKind.bits .u32 = 32 from rfl, fdiv_pow hk]
 have h2 : n / 2 ^ k < 4294967296 := Nat.lt_of_le_of_lt (Nat.div_le_self _ _) hn
 have := and32 h2 (show 1 < 4294967296 by omega)
 rw [show ((1 : Nat) : Int) = 1 from rfl, show IntKind.bits .u32 = 32 from rfl] at this
 rw [this, Nat.and_one_is_mod, Nat.testBit_eq_decide_div_mod_eq, Bool.eq_iff_iff, beq_iff_eq, decide_eq_true_eq]
 omega
theorem shl16 {i : Nat} (hi : i < 16) : IntKind.wrap .u16 ((1 : Int) * 2 ^ (min i (IntKind.bits .u16))) = ((2 ^ i : Nat) : Int) := by
 have e1 : min i (IntKind.bits .u16) = i := by show min i 16 = i; omega
 rw [e1, Int.one_mul]
 have h : 2 ^ i < 65536 := Nat.pow_lt_pow_right (a := 2) (m := i) (n := 16) (by omega) hi
 have e2 : ((2 : Int) ^ i) = ((2 ^ i : Nat) : Int) := by push_cast; rfl
 rw [e2]
 exact n16 h
def valF (p : Nat → Nat) (b : Nat) : Nat → Nat
 | 0 => 0
 | n + 1 => if b.testBit (p n) = true then valF p b n ||| 2 ^ n else valF p b n
theorem valF_bit (p : Nat → Nat) (b : Nat) : ∀ n j, (valF p b n).testBit j = (decide (j < n) && b.testBit (p j))
 | 0, j => by simp [valF]
 | n + 1, j => by
  unfold valF
  have ih := valF_bit p b n j
  by_cases h : b.testBit (p n) = true
  ·rw [if_pos h, Nat.testBit_or, ih, Nat.testBit_two_pow]
   by_cases e : j = n
   ·subst e; simp [h]
   ·have e1 : decide (n = j) = false := by simp; omega
    have e2 : decide (j < n + 1) = decide (j < n) := by rw [decide_eq_decide]; omega
    rw [e1, e2, Bool.or_false]
  ·rw [if_neg h, ih]
   by_cases e : j = n
   ·subst e; simp [h]
   ·have e2 : decide (j < n + 1) = decide (j < n) := by rw [decide_eq_decide]; omega
    rw [e2]
theorem valF_lt (p : Nat → Nat) (b n : Nat) : valF p b n < 2 ^ n := by
 apply Nat.lt_pow_two_of_testBit
 intro i hi
 rw [valF_bit]
 have : ¬ i < n := by omega
 simp [this]
theorem u8_nat {v : Int} (h : (Lit.int .u8 v).wf = true) : ∃ n : Nat, v = n ∧ n < 256 := by
 simp [Lit.wf, IntKind.min, IntKind.max, IntKind.signed, IntKind.bits] at h
 exact ⟨v.toNat, by omega, by omega⟩
theorem bs {α β : Type} {a : α} {f : α → Option β} : Option.bind (some a) f = f a := Eq.mpr rfl rfl
theorem ol {Y R : Type} {f : Y → Option R} {y : Y} : onS f (.inl y) = f y := Eq.mpr rfl rfl
theorem or_ {Y R : Type} {f : Y → Option R} {r : R} : onS f (.inr r) = some r := Eq.mpr rfl rfl
theorem oe {R : Type} {r : R} : onE (.inr r) = some r := Eq.mpr rfl rfl
theorem bind_id {α : Type} {m : Option α} : (Option.bind m fun r => some r) = m := by cases m <;> rfl
theorem loop_st {S X : Type} {b : S → Option (S ⊕ X)} (n : Nat) (st : Nat → S) (out : X) (hs : ∀ i, i < n → b (st i) = some (.inl (st (i + 1)))) (he : b (st n) = some (.inr out)) : loopO b (st 0) = some out := by
  have key : ∀ k i, i + k = n → loopO b (st i) = some out := by
    intro k
    induction k with
    | zero => intro i h; obtain rfl : i = n := by omega
              rw [loopO_eq, he]; rfl
    | succ k ih => intro i h; rw [loopO_eq, hs i (by omega)]; exact ih (i + 1) (by omega)
  exact key n 0 (by omega)
theorem loop_end {S Y R : Type} {b : S → Option (S ⊕ (Y ⊕ R))} {k : Y → Option R} {z : Option R} {s0 : S} (I : Nat → S → Prop) (Q : Y → Prop) (m0 : Nat) (h0 : I m0 s0) (step : ∀ m s, I m s → (∃ s', b s = some (.inl s') ∧ ∃ m', m' < m ∧ I m' s') ∨ ∃ y, b s = some (.inr (.inl y)) ∧ Q y) (hk : ∀ y, Q y → k y = z) : (loopO b s0).bind (onS k) = z := by
 obtain ⟨x, h1, y, h2, h3⟩ := loop_inv I (fun (x : Y ⊕ R) => ∃ y, x = .inl y ∧ Q y) (fun m s hs => by
  rcases step m s hs with h | ⟨y, h, hq⟩
  ·exact .inl h
  ·exact .inr ⟨_, h, y, rfl, hq⟩) m0 s0 h0
 subst h2
 rw [h1]; exact hk y h3
end Go.Av
set_option maxRecDepth 1000000
namespace Go.Av.Mo
open Go.Av.Ch
def namesL : List (List UInt8) := [[71, 82, 79, 85, 78, 68], [72, 69, 65, 68, 73, 78, 71], [78, 65, 86], [82, 69, 65, 68, 89], [90, 79, 78, 69], [70, 73, 78, 65, 76], [71, 79], [72, 79, 76, 68], [83, 80, 69, 69, 68], [67, 72, 65, 78, 71, 69], [65, 66, 79, 86, 69], [84, 65, 75, 69], [78, 69, 65, 82], [65, 84], [84, 72, 82, 85, 83, 84], [65, 67, 67, 69, 76], [76, 69, 86, 69, 76], [68, 79, 87, 78], [83, 84, 79, 80, 80, 69, 68]]
theorem Names_eq : m33 = some namesL := by kernel_rfl
theorem indexS_eq (l : List (List UInt8)) (x : List UInt8) (hl : l.length ≤ 100000) : m50 l x = some (findR (fun i => x == l.getD i default) l.length) := by
 delta m50 d50
 simp only [↓JD.sg_m, ↓JD.sq_m, ↓JD.sc_m, ↓JD.bk_m, ↓JD.lp_m, ↓JD.cd_m, ↓JD.lu_m, ↓JD.ct_m, ↓JD.ce_m, ↓JL.r_m, ↓JL.z_m, ↓JD.se_m, onE_r, ↓Tr.run, ↓Tr.run_nd, ↓Tr.run_c3, ↓Tr.run_c2, ↓Tr.run_nx, ↓onS, bind_ite, Option.bind_some, Option.bind_none, obR]
 refine idx_loop (fun i hi => ?_) ?_
 ·(simp only [exB_ite, exB_some, exB_none]; simp only [inL hi, decide_true, Int.toNat_natCast, if_true, implies_true, wr1 hi (by omega)]; try rfl)
 ·(simp only [lt_irr, decide_false, Bool.false_eq_true, if_false]; try rfl)
def posS (c : T48) (i : Nat) : Int := findR (fun j => c.Conds.getD i default == namesL.getD j default) 19
def posOk (c : T48) : Bool := (List.range c.Conds.length).all fun i => decide (0 ≤ posS c i) && decide (posS c i < 19)
def valS (c : T48) (b : Nat) : Nat := valF (fun i => (posS c i).toNat) b c.Conds.length
theorem pos1 : posOk C1 = true := by kernel_rfl
theorem pos2 : posOk C2 = true := by kernel_rfl
theorem pos3 : posOk C3 = true := by kernel_rfl
theorem pos_of {c : T48} (h : posOk c = true) {i : Nat} (hi : i < c.Conds.length) : 0 ≤ posS c i ∧ posS c i < 19 := by
 simp only [posOk, List.all_eq_true] at h
 simpa using h i (List.mem_range.2 hi)
theorem valS_lt {c : T48} {b : Nat} : valS c b < 2 ^ c.Conds.length := valF_lt _ _ _
theorem valuation_eq {c : T48} (H : Fit c) (hp : posOk c = true) (hc : c.Conds.length ≤ 16) {b : Nat} (hb : b < 4294967296) : m41 c (b : Int) = some ((valS c b : Int), allowedS c (valS c b)) := by
 delta m41 d41
 simp only [↓JD.sg_m, ↓JD.sq_m, ↓JD.sc_m, ↓JD.bk_m, ↓JD.lp_m, ↓JD.cd_m, ↓JD.lu_m, ↓JD.ct_m, ↓JD.ce_m, ↓JL.r_m, ↓JL.z_m, ↓JD.se_m, onE_r, ↓Tr.run, ↓Tr.run_nd, ↓Tr.run_c3, ↓Tr.run_c2, ↓Tr.run_nx, ↓onS, bind_ite, Option.bind_some, Option.bind_none, obR, Names_eq]
 refine on_l (loop_st c.Conds.length (fun i => (((valF (fun i => (posS c i).toNat) b i : Nat) : Int), (i : Int))) (Sum.inl (valS c b : Int)) (fun i hi => ?_) (by (simp only [lt_irr, decide_false, Bool.false_eq_true, if_false]; try rfl))) ?_
 ·obtain ⟨p0, p1⟩ := pos_of hp hi
  have hl : valF (fun i => (posS c i).toNat) b i < 65536 := Nat.lt_of_lt_of_le (valF_lt _ _ _) (show 2 ^ i ≤ 2 ^ 16 from Nat.pow_le_pow_right (by omega) (by omega))
  have h2 : 2 ^ i < 65536 := Nat.pow_lt_pow_right (a := 2) (m := i) (n := 16) (by omega) (by omega)
  have e := indexS_eq namesL (c.Conds.getD i default) (by decide)
  rw [show namesL.length = 19 from rfl] at e
  have hbit := bitW_eq hb (k := (posS c i).toNat) (by omega)
  unfold bitW at hbit
  simp only [inL hi, decide_true, Int.toNat_natCast, if_true, e, Option.bind_some, show findR (fun j => c.Conds.getD i default == namesL.getD j default) 19 = posS c i from rfl, p0, hbit, shl16 (show i < 16 by omega), or16 hl h2, wr1 hi (by omega), valF]
  split <;> rfl
 ·simp only [Allowed_eq c H, Option.bind_some]
end Go.Av.Mo
set_option maxRecDepth 100000
namespace Go.Av.Ch
abbrev stA (c : T48) (x : Int) : T57 := c.States.getD x.toNat default
structure Good (c : T48) : Prop where
 ne : 0 < c.States.length
 cap : c.States.length ≤ 40
 parent : ∀ x, isS c x = true → -1 ≤ (stA c x).Parent ∧ (stA c x).Parent < x
 init : ∀ x, isS c x = true → comp c x = true → childS c (stA c x).Initial x = true
 leafI : ∀ x, isS c x = true → comp c x = false → (stA c x).Initial = -1 ∧ (stA c x).History = false
 start : isS c c.Start = true
 tr : ∀ i, i < c.Transitions.length → isS c (c.Transitions.getD i default).From = true ∧ isS c (c.Transitions.getD i default).To = true
 entry : ∀ x, isS c x = true → (stA c x).Entry.length ≤ 8
 exit_ : ∀ x, isS c x = true → (stA c x).Exit.length ≤ 8
 acts : ∀ i, i < c.Transitions.length → (c.Transitions.getD i default).Actions.length ≤ 8
theorem orK_ok {R : Type} {a b : Option R} {z : R} (h : orK a b = some z) (hn : a ≠ some z) : a = none ∧ b = some z := by
 cases a with
 | none => exact ⟨rfl, h⟩
 | some y => exact absurd h hn
theorem ite_err {p : Prop} [Decidable p] {e z : Int} {k : Option Int} (h : (if p then some e else k) = some z) (he : e ≠ z) : ¬ p ∧ k = some z := by
 split at h
 ·injection h with h; exact absurd h he
 ·rename_i hp; exact ⟨hp, h⟩
theorem good_of {c : T48} (h : checkM c = some 0) : Good c := by
 unfold checkM at h
 obtain ⟨-, h⟩ := ite_err h (by decide)
 obtain ⟨h1, h⟩ := ite_err h (by decide)
 obtain ⟨hcap, h⟩ := ite_err h (by decide)
 have n1 : firstR (condF c) c.Conds.length ≠ some 0 := fun e => by
  obtain ⟨i, _, e⟩ := firstR_some e
  unfold condF at e
  split at e
  ·rename_i hh; injection e with e; rw [e] at hh; simp at hh
  ·cases e
 obtain ⟨-, h⟩ := orK_ok h n1
 have n2 : firstR (nevF c) c.Never.length ≠ some 0 := fun e => by
  obtain ⟨i, _, e⟩ := firstR_some e
  unfold nevF at e
  split at e
  ·cases e
  ·split at e
   ·rename_i hh; injection e with e; rw [e] at hh; simp at hh
   ·cases e
 obtain ⟨-, h⟩ := orK_ok h n2
 have n3 : firstR (stF c) c.States.length ≠ some 0 := fun e => by
  obtain ⟨i, _, e⟩ := firstR_some e
  unfold stF at e
  split at e
  ·rename_i hh; injection e with e; rw [e] at hh; simp at hh
  ·cases e
 obtain ⟨hst, h⟩ := orK_ok h n3
 obtain ⟨hs, h⟩ := ite_err h (by decide)
 have n4 : firstR (trF c) c.Transitions.length ≠ some 0 := fun e => by
  obtain ⟨i, _, e⟩ := firstR_some e
  unfold trF at e
  split at e
  ·cases e
  ·split at e
   ·rename_i hh; injection e with e; rw [e] at hh; simp at hh
   ·split at e
    ·rename_i hh; injection e with e; rw [e] at hh; simp at hh
    ·cases e
 obtain ⟨htr, -⟩ := orK_ok h n4
 have st : ∀ i, i < c.States.length → stateT c i = 0 := fun i hi => by
  have := firstR_none.1 hst i hi
  unfold stF at this
  split at this
  ·cases this
  ·rename_i hh
   have hh : stateS c i = 0 := by simpa using hh
   unfold stateS at hh
   split at hh
   ·rename_i h2; rw [hh] at h2; simp at h2
   ·exact hh
 have key : ∀ x, isS c x = true → x = (x.toNat : Int) ∧ x.toNat < c.States.length := fun x hx => by have := isS_iff.1 hx; omega
 have rows : ∀ x, isS c x = true → (-1 ≤ (stA c x).Parent ∧ (stA c x).Parent < x) ∧ (comp c x = true → childS c (stA c x).Initial x = true) ∧ (comp c x = false → (stA c x).Initial = -1 ∧ (stA c x).History = false) ∧ (stA c x).Entry.length ≤ 8 ∧ (stA c x).Exit.length ≤ 8 := fun x hx => by
  obtain ⟨e, hlt⟩ := key x hx
  have h := st _ hlt
  unfold stateT at h
  rw [← e] at h
  split at h
  ·cases h
  rename_i a1
  split at h
  ·cases h
  rename_i a2
  split at h
  ·cases h
  rename_i a3
  split at h
  ·rename_i a4; rw [h] at a4; simp at a4
  rename_i a4
  simp only [Bool.or_eq_true, decide_eq_true_eq, not_or, Int.not_lt, Int.not_le] at a1
  refine ⟨⟨a1.1, a1.2⟩, fun hc => ?_, fun hc => ?_, actS_len (by simpa using a4), actS_len h⟩
  ·rw [hc] at a2
   simpa using a2
  ·rw [hc] at a2 a3
   exact ⟨by simpa using a2, by simpa using a3⟩
 have trs : ∀ i, i < c.Transitions.length → (isS c (c.Transitions.getD i default).From = true ∧ isS c (c.Transitions.getD i default).To = true) ∧ (c.Transitions.getD i default).Actions.length ≤ 8 := fun i hi => by
  have := firstR_none.1 htr i hi
  unfold trF at this
  split at this
  ·cases this
  rename_i a1
  split at this
  ·cases this
  split at this
  ·cases this
  rename_i a3
  exact ⟨by simpa using a1, actS_len (by simpa using a3)⟩
 refine ⟨?_, by simp only [Bool.or_eq_true, decide_eq_true_eq, not_or, Int.not_lt] at hcap; omega, fun x hx => (rows x hx).1, fun x hx => (rows x hx).2.1, fun x hx => (rows x hx).2.2.1, by simpa using hs, fun i hi => (trs i hi).1, fun x hx => (rows x hx).2.2.2.1, fun x hx => (rows x hx).2.2.2.2, fun i hi => (trs i hi).2⟩
 have : ¬ ((c.States.length : Int) = 0) := by simpa using h1
 omega
def memBad (c : T48) (i m : Int) : Bool := (m != (-1 : Int)) && (!isS c m || !(stA c i).History || ((stA c m).Parent != i))
def validS (c : T48) (g : T71) : Bool := !(!isS c g.Leaf || comp c g.Leaf || ((g.Memory.length : Int) != (c.States.length : Int))) && !anyR (fun i => memBad c i (g.Memory.getD i default)) g.Memory.length
structure MemOk (c : T48) (m : List Int) : Prop where
 len : m.length = c.States.length
 ok : ∀ i : Nat, i < m.length → memBad c i (m.getD i default) = false
theorem validS_iff {c : T48} {g : T71} : validS c g = true ↔ isS c g.Leaf = true ∧ comp c g.Leaf = false ∧ MemOk c g.Memory := by
 unfold validS
 simp only [Bool.and_eq_true, Bool.not_eq_true', Bool.or_eq_false_iff, Bool.not_eq_false', bne_eq_false_iff_eq, anyR_false]
 constructor
 ·rintro ⟨⟨⟨h1, h2⟩, h3⟩, h4⟩; exact ⟨h1, h2, ⟨by omega, h4⟩⟩
 ·rintro ⟨h1, h2, h3⟩; exact ⟨⟨⟨h1, h2⟩, by have := h3.len; omega⟩, h3.ok⟩
theorem MemOk.none {c : T48} {m : List Int} (h : MemOk c m) {x : Int} (hx : isS c x = true) (hh : (stA c x).History = false) : m.getD x.toNat default = -1 := by
 have hi := isS_iff.1 hx
 have := h.ok x.toNat (by rw [h.len]; omega)
 unfold memBad at this
 rw [Int.toNat_of_nonneg hi.1, hh] at this
 simpa using this
theorem MemOk.child {c : T48} {m : List Int} (h : MemOk c m) {x : Int} (hx : isS c x = true) (hm : m.getD x.toNat default ≠ -1) : childS c (m.getD x.toNat default) x = true := by
 have hi := isS_iff.1 hx
 have := h.ok x.toNat (by rw [h.len]; omega)
 unfold memBad at this
 rw [Int.toNat_of_nonneg hi.1] at this
 simp only [Bool.and_eq_false_iff, bne_eq_false_iff_eq, Bool.or_eq_false_iff, Bool.not_eq_false'] at this
 rcases this with h1 | ⟨⟨h1, h2⟩, h3⟩
 ·exact absurd h1 hm
 ·unfold childS; rw [h1, h3]; simp
theorem MemOk.set {c : T48} {m : List Int} (h : MemOk c m) {x v : Int} (hv : v = -1 ∨ ((stA c x).History = true ∧ childS c v x = true)) (hx : isS c x = true) : MemOk c (m.set x.toNat v) := by
 have hi := isS_iff.1 hx
 refine ⟨by rw [List.length_set]; exact h.len, fun i hl => ?_⟩
 rw [List.length_set] at hl
 by_cases he : x.toNat = i
 ·subst he
  rw [List.getD_eq_getElem?_getD, List.getElem?_set_self hl, Option.getD_some, Int.toNat_of_nonneg hi.1]
  unfold memBad
  rcases hv with rfl | ⟨h1, h2⟩
  ·rfl
  ·unfold childS at h2
   simp only [Bool.and_eq_true, beq_iff_eq] at h2
   rw [h1, h2.1, h2.2]; simp
 ·rw [List.getD_eq_getElem?_getD, List.getElem?_set_ne he, ← List.getD_eq_getElem?_getD]
  exact h.ok i hl
theorem set_same {m : List Int} {i : Nat} {v : Int} (hi : i < m.length) (h : m.getD i default = v) : m.set i v = m := by
 apply List.ext_getElem?
 intro j
 rw [List.getElem?_set]
 split
 ·rename_i e; subst e
  rw [← h, List.getD_eq_getElem?_getD, List.getElem?_eq_getElem hi, Option.getD_some]
 ·rfl
theorem Valid_eq (c : T48) (H : Fit c) (g : T71) : m53 c g = some (validS c g) := by
 have hs := H.states
 delta m53 d53
 simp only [↓JD.sg_m, ↓JD.sq_m, ↓JD.sc_m, ↓JD.bk_m, ↓JD.lp_m, ↓JD.cd_m, ↓JD.lu_m, ↓JD.ct_m, ↓JD.ce_m, ↓JL.r_m, ↓JL.z_m, ↓JD.se_m, onE_r, ↓Tr.run, ↓Tr.run_nd, ↓Tr.run_c3, ↓Tr.run_c2, ↓Tr.run_nx, ↓onS, bind_ite, Option.bind_some, Option.bind_none, obR, is_eq, composite_eq c _ (Nat.le_trans hs (by omega))]
 unfold validS
 have e0 : (if (!!isS c g.Leaf) = true then some (isS c g.Leaf, comp c g.Leaf) else some (isS c g.Leaf, default)) = some (isS c g.Leaf, if isS c g.Leaf = true then comp c g.Leaf else default) := by
  cases isS c g.Leaf <;> rfl
 cases h1 : (!isS c g.Leaf || comp c g.Leaf || ((g.Memory.length : Int) != (c.States.length : Int))) with
 | true =>
  cases h2 : isS c g.Leaf with
  | false => simp
  | true =>
   rw [h2] at h1
   simp only [Bool.not_true, Bool.false_or] at h1
   simp only [Bool.not_true, Bool.not_false, Bool.false_or, if_true, h1, onS_r, Bool.false_and]
 | false =>
  simp only [Bool.or_eq_false_iff, Bool.not_eq_false', bne_eq_false_iff_eq] at h1
  obtain ⟨⟨h2, h3⟩, h4⟩ := h1
  have h5 : g.Memory.length = c.States.length := by omega
  simp only [h2, h3, h5, bne_self_eq_false, Bool.not_true, Bool.not_false, Bool.or_false, Bool.false_eq_true, if_false, if_true, onS_l, Bool.true_and]
  rw [loop_ex c.States.length (fun i => if memBad c i (g.Memory.getD i default) = true then some false else none) ?_ ?_, firstR_const]
  ·cases anyR (fun i => memBad c i (g.Memory.getD i default)) c.States.length <;> rfl
  ·intro i hi
   simp only [exB_ite, exB_some, exB_none]
   simp only [inL hi, decide_true, Int.toNat_natCast, if_true, implies_true, wr1 hi (by omega)]
   unfold memBad stA
   simp only [Int.toNat_natCast]
   by_cases hm : g.Memory.getD i default = -1
   ·simp only [hm, bne_self_eq_false, Bool.false_and, Bool.false_eq_true, false_implies, if_false, if_true]
   ·have hm' : (g.Memory.getD i default != (-1 : Int)) = true := by simpa using hm
    have a3 := eq_true (show (true && !(!isS c (g.Memory.getD i default) || !(c.States.getD i default).History)) = true → (0 : Int) ≤ g.Memory.getD i default from fun h => by
     simp only [Bool.true_and, Bool.not_eq_true', Bool.or_eq_false_iff, Bool.not_eq_false'] at h; exact (isS_iff.1 h.1).1)
    have a4 := eq_true (show (true && !(!isS c (g.Memory.getD i default) || !(c.States.getD i default).History)) = true → g.Memory.getD i default < (c.States.length : Int) from fun h => by
     simp only [Bool.true_and, Bool.not_eq_true', Bool.or_eq_false_iff, Bool.not_eq_false'] at h; exact (isS_iff.1 h.1).2)
    simp only [hm', a3, a4, if_true, Option.bind_some]
  ·(simp only [lt_irr, decide_false, Bool.false_eq_true, if_false]; try rfl)
set_option maxRecDepth 100000
theorem isS_lt {c : T48} {x : Int} (h : isS c x = true) : ((0 : Int) ≤ x) = True ∧ (x < (c.States.length : Int)) = True ∧ x.toNat < c.States.length := by
 have := isS_iff.1 h
 exact ⟨eq_true this.1, eq_true this.2, by omega⟩
theorem child_is {c : T48} (G : Good c) {x y : Int} (h : childS c y x = true) : isS c y = true ∧ x < y := by
 unfold childS at h
 simp only [Bool.and_eq_true, beq_iff_eq] at h
 have := (G.parent y h.1).2
 exact ⟨h.1, by unfold stA at this; omega⟩
def nextS (c : T48) (m : List Int) (x : Int) : Int := if ((stA c x).History && (m.getD x.toNat default != (-1 : Int))) = true then m.getD x.toNat default else (stA c x).Initial
theorem nextS_child {c : T48} (G : Good c) {m : List Int} (M : MemOk c m) {x : Int} (hx : isS c x = true) (hc : comp c x = true) : childS c (nextS c m x) x = true := by
 unfold nextS
 split
 ·rename_i h
  simp only [Bool.and_eq_true, bne_iff_ne, ne_eq] at h
  exact M.child hx h.2
 ·exact G.init x hx hc
def enterF (c : T48) : Nat → Int → List Int → List (List UInt8) → Int × List Int × List (List UInt8)
 | 0, x, m, a => (x, m, a)
 | n + 1, x, m, a => if comp c x = true then enterF c n (nextS c m x) (m.set x.toNat (-1)) (a ++ (stA c x).Entry) else (x, m, a ++ (stA c x).Entry)
theorem enterF_ok {c : T48} (G : Good c) : ∀ (n : Nat) (x : Int) (m : List Int) (a : List (List UInt8)), isS c x = true → MemOk c m → c.States.length ≤ n + x.toNat →
  isS c (enterF c n x m a).1 = true ∧ comp c (enterF c n x m a).1 = false ∧ MemOk c (enterF c n x m a).2.1 ∧ (enterF c n x m a).2.2.length ≤ a.length + 8 * n
 | 0, x, m, a, hx, M, hn => by have := (isS_lt hx).2.2; omega
 | n + 1, x, m, a, hx, M, hn => by
  have he := G.entry x hx
  unfold enterF
  cases hc : comp c x with
  | false => simp only [Bool.false_eq_true, if_false, List.length_append]; exact ⟨hx, hc, M, by omega⟩
  | true =>
   simp only [if_true]
   obtain ⟨h1, h2⟩ := child_is G (nextS_child G M hx hc)
   have h3 := isS_iff.1 hx
   obtain ⟨k1, k2, k3, k4⟩ := enterF_ok G n _ _ (a ++ (stA c x).Entry) h1 (M.set (.inl rfl) hx) (by omega)
   exact ⟨k1, k2, k3, by rw [List.length_append] at k4; omega⟩
theorem enter_loop {c : T48} (G : Good c) {b : Int × List Int × List (List UInt8) → Option ((Int × List Int × List (List UInt8)) ⊕ (Int × List Int × List (List UInt8)))}
  (hb : ∀ (x : Int) (m : List Int) (a : List (List UInt8)), isS c x = true → MemOk c m → a.length ≤ 100000 → b (x, m, a) = if comp c x = true then some (.inl (nextS c m x, m.set x.toNat (-1), a ++ (stA c x).Entry)) else some (.inr (x, m, a ++ (stA c x).Entry))) :
  ∀ (n : Nat) (x : Int) (m : List Int) (a : List (List UInt8)), isS c x = true → MemOk c m → c.States.length ≤ n + x.toNat → a.length + 8 * n ≤ 100000 → loopO b (x, m, a) = some (enterF c n x m a)
 | 0, x, m, a, hx, M, hn, hl => by have := (isS_lt hx).2.2; omega
 | n + 1, x, m, a, hx, M, hn, hl => by
  have he := G.entry x hx
  rw [loopO_eq, hb x m a hx M (by omega)]
  unfold enterF
  cases hc : comp c x with
  | false => rfl
  | true =>
   simp only [if_true, Option.bind_some]
   obtain ⟨h1, h2⟩ := child_is G (nextS_child G M hx hc)
   have h3 := isS_iff.1 hx
   exact enter_loop G hb n _ _ _ h1 (M.set (.inl rfl) hx) (by omega) (by rw [List.length_append]; omega)
def enterS (c : T48) (x : Int) (m : List Int) (a : List (List UInt8)) : Int × List Int × List (List UInt8) := enterF c c.States.length x m a
def aroundS (c : T48) (l : List Int) (m : List Int) (a : List (List UInt8)) : List Int × List (List UInt8) := l.foldr (fun x s => (s.1.set x.toNat (-1), s.2 ++ (stA c x).Entry)) (m, a)
theorem aroundS_ok {c : T48} (G : Good c) {m : List Int} {a : List (List UInt8)} (M : MemOk c m) : ∀ (l : List Int), (∀ x ∈ l, isS c x = true) → MemOk c (aroundS c l m a).1 ∧ (aroundS c l m a).2.length ≤ a.length + 8 * l.length
 | [], _ => ⟨M, Nat.le_refl _⟩
 | x :: l, h => by
  obtain ⟨h1, h2⟩ := aroundS_ok G (a := a) M l fun y hy => h y (List.mem_cons_of_mem _ hy)
  have hx := h x (by simp)
  have he := G.entry x hx
  refine ⟨h1.set (.inl rfl) hx, ?_⟩
  show ((aroundS c l m a).2 ++ (stA c x).Entry).length ≤ _
  rw [List.length_append, List.length_cons]; omega
def leaveS (c : T48) (s : Int) : List Int → Int → List Int → List (List UInt8) → List Int × List (List UInt8)
 | [], _, m, a => (m, a)
 | x :: l, last, m, a => if (x == s) = true then (m, a) else leaveS c s l x (if ((stA c x).History && (last != (-1 : Int))) = true then m.set x.toNat last else m) (a ++ (stA c x).Exit)
theorem mem_leave {c : T48} {m : List Int} (M : MemOk c m) {x last : Int} (hx : isS c x = true) (hl : last = -1 ∨ childS c last x = true) : MemOk c (if ((stA c x).History && (last != (-1 : Int))) = true then m.set x.toNat last else m) := by
 split
 ·rename_i h
  simp only [Bool.and_eq_true, bne_iff_ne, ne_eq] at h
  exact M.set (hl.imp (fun e => absurd e h.2) fun e => ⟨h.1, e⟩) hx
 ·exact M
theorem parent_is {c : T48} (G : Good c) {x : Int} (hx : isS c x = true) (ht : topB c x = false) : isS c (stA c x).Parent = true ∧ (stA c x).Parent.toNat < x.toNat ∧ childS c x (stA c x).Parent = true := by
 have h1 := topB_false ht
 have h2 := isS_iff.1 hx
 refine ⟨isS_iff.2 ⟨h1.1, by show (c.States.getD x.toNat default).Parent < _; omega⟩, by show (c.States.getD x.toNat default).Parent.toNat < _; omega, ?_⟩
 unfold childS; rw [hx]; simp [stA]
theorem leaveS_ok {c : T48} (G : Good c) {s : Int} : ∀ (n : Nat) (x last : Int) (m : List Int) (a : List (List UInt8)), x.toNat ≤ n → isS c x = true → MemOk c m → (last = -1 ∨ childS c last x = true) →
  MemOk c (leaveS c s (pathS c x) last m a).1 ∧ (leaveS c s (pathS c x) last m a).2.length ≤ a.length + 8 * (n + 1) := by
 intro n
 induction n with
 | zero =>
  intro x last m a hn hx M hl
  have he := G.exit_ x hx
  rw [pathS_step hx]
  unfold leaveS
  split
  ·exact ⟨M, by show a.length ≤ _; omega⟩
  ·cases ht : topB c x with
   | false => have := (parent_is G hx ht).2.1; omega
   | true => exact ⟨mem_leave M hx hl, by simp only [if_true, leaveS, List.length_append]; omega⟩
 | succ n ih =>
  intro x last m a hn hx M hl
  have he := G.exit_ x hx
  rw [pathS_step hx]
  unfold leaveS
  split
  ·exact ⟨M, by show a.length ≤ _; omega⟩
  ·cases ht : topB c x with
   | true => exact ⟨mem_leave M hx hl, by simp only [if_true, leaveS, List.length_append]; omega⟩
   | false =>
    obtain ⟨p1, p2, p3⟩ := parent_is G hx ht
    simp only [Bool.false_eq_true, if_false]
    obtain ⟨k1, k2⟩ := ih (stA c x).Parent x _ (a ++ (stA c x).Exit) (by omega) p1 (mem_leave M hx hl) (.inr p3)
    exact ⟨k1, Nat.le_trans k2 (by rw [List.length_append]; omega)⟩
def scopeS (c : T48) (a b : Int) : Int := ((pathS c a).tail.find? fun x => hasK (pathS c b).tail (pathS c b).tail.length x).getD (-1)
def untilS (s : Int) (l : List Int) : List Int := l.takeWhile fun x => !(s == x)
def fireS (c : T48) (g : T71) (t : T119) : Int × List Int × List (List UInt8) :=
 let s := scopeS c t.From t.To
 let l := leaveS c s (pathS c g.Leaf) (-1) g.Memory []
 let r := aroundS c (untilS s (pathS c t.To).tail) l.1 (l.2 ++ t.Actions)
 enterS c t.To r.1 r.2
theorem tail_is {c : T48} {x : Int} : ∀ y ∈ (pathS c x).tail, isS c y = true := fun y hy => (pathS_is x.toNat x (Nat.le_refl _) y (List.mem_of_mem_tail hy)).1
theorem mem_begin {c : T48} : MemOk c (List.replicate c.States.length (-1)) := ⟨by simp, fun i hi => by
 have : (List.replicate c.States.length (-1 : Int)).getD i default = -1 := by simp at hi; simp [List.getD_eq_getElem?_getD, List.getElem?_replicate, hi]
 unfold memBad; rw [this]; rfl⟩
theorem untilS_sub {s : Int} {l : List Int} : ∀ x ∈ untilS s l, x ∈ l := fun x hx => (List.takeWhile_prefix _).sublist.mem hx
theorem untilS_len {s : Int} {l : List Int} : (untilS s l).length ≤ l.length := (List.takeWhile_prefix _).length_le
theorem fireS_ok {c : T48} (G : Good c) (H : Fit c) {g : T71} (hg : validS c g = true) {i : Nat} (hi : i < c.Transitions.length) : validS c ⟨(fireS c g (c.Transitions.getD i default)).1, (fireS c g (c.Transitions.getD i default)).2.1⟩ = true ∧ (fireS c g (c.Transitions.getD i default)).2.2.length ≤ 32000 := by
 have hs := H.states
 obtain ⟨v1, v2, v3⟩ := validS_iff.1 hg
 have ha := G.acts i hi
 have ht := (G.tr i hi).2
 generalize c.Transitions.getD i default = t at *
 have hp := pathS_len c t.To
 have hl := (isS_lt v1).2.2
 obtain ⟨a1, a2⟩ := leaveS_ok G (s := scopeS c t.From t.To) g.Leaf.toNat g.Leaf (-1) g.Memory [] (Nat.le_refl _) v1 v3 (.inl rfl)
 obtain ⟨h1, h2⟩ := aroundS_ok G (a := (leaveS c (scopeS c t.From t.To) (pathS c g.Leaf) (-1) g.Memory []).2 ++ t.Actions) a1 (untilS (scopeS c t.From t.To) (pathS c t.To).tail) fun x hx => tail_is x (untilS_sub x hx)
 have hu := untilS_len (s := scopeS c t.From t.To) (l := (pathS c t.To).tail)
 obtain ⟨k1, k2, k3, k4⟩ := enterF_ok G c.States.length t.To _ (aroundS c (untilS (scopeS c t.From t.To) (pathS c t.To).tail) (leaveS c (scopeS c t.From t.To) (pathS c g.Leaf) (-1) g.Memory []).1 ((leaveS c (scopeS c t.From t.To) (pathS c g.Leaf) (-1) g.Memory []).2 ++ t.Actions)).2 ht h1 (by omega)
 refine ⟨validS_iff.2 ⟨k1, k2, k3⟩, ?_⟩
 have : (fireS c g t).2.2.length ≤ _ := k4
 simp only [List.length_nil, List.length_tail, List.length_append] at h2 hu a2
 omega
theorem firstR_cons {Y : Type} {f : Nat → Option Y} {n : Nat} : firstR f (n + 1) = orK (f 0) (firstR (fun i => f (i + 1)) n) := by
 unfold firstR
 rw [List.range_succ_eq_map, List.findSome?_cons, List.findSome?_map]
 cases f 0 <;> rfl
theorem firstR_find {F : Int → Bool} : ∀ {l : List Int}, firstR (fun i => if F (l.getD i default) = true then some (l.getD i default) else none) l.length = l.find? F
 | [] => rfl
 | x :: l => by
  rw [List.length_cons, firstR_cons]
  simp only [List.getD_cons_zero, List.getD_cons_succ]
  rw [firstR_find, List.find?_cons]
  by_cases hf : F x = true
  ·simp only [hf, if_true, orK_some]
  ·have hf := Bool.eq_false_iff.2 hf
   simp only [hf, Bool.false_eq_true, if_false, orK_none]
theorem until_eq {s : Int} : ∀ (l : List Int), (if decide (0 ≤ findR (fun i => s == l.getD i default) l.length) = true then subL l 0 (findR (fun i => s == l.getD i default) l.length).toNat else l) = untilS s l ∧ findR (fun i => s == l.getD i default) l.length ≤ l.length
 | [] => by simp [untilS, findR, firstR]
 | x :: l => by
  obtain ⟨h1, h2⟩ := until_eq l (s := s)
  have e : findR (fun i => s == (x :: l).getD i default) (x :: l).length = if (s == x) = true then 0 else if decide (0 ≤ findR (fun i => s == l.getD i default) l.length) = true then findR (fun i => s == l.getD i default) l.length + 1 else -1 := by
   unfold findR
   rw [List.length_cons, firstR_cons]
   simp only [List.getD_cons_zero, List.getD_cons_succ]
   by_cases hx : (s == x) = true
   ·simp only [hx, if_true, orK_some]; rfl
   ·simp only [hx, if_false, Bool.false_eq_true, orK_none]
    have key : firstR (fun i => if (s == l.getD i default) = true then some (((i + 1 : Nat) : Int)) else none) l.length = (firstR (fun i => if (s == l.getD i default) = true then some (i : Int) else none) l.length).map (· + 1) := by
     unfold firstR
     induction List.range l.length with
     | nil => rfl
     | cons i r ih =>
      simp only [List.findSome?_cons]
      by_cases hf : (s == l.getD i default) = true
      ·simp only [hf, if_true]; simp
      ·simp only [hf, if_false, Bool.false_eq_true]; exact ih
    rw [key]
    cases hf : firstR (fun i => if (s == l.getD i default) = true then some (i : Int) else none) l.length with
    | none => rfl
    | some y =>
     obtain ⟨i, _, h⟩ := firstR_some hf
     split at h
     ·injection h with h; subst h; simp
     ·cases h
  rw [e]
  by_cases hx : (s == x) = true
  ·simp only [hx, if_true]
   exact ⟨by simp [untilS, hx, subL], by rw [List.length_cons]; omega⟩
  ·have hx' := Bool.eq_false_iff.2 hx
   simp only [hx', if_false, Bool.false_eq_true]
   unfold untilS at h1 ⊢
   rw [List.takeWhile_cons, hx']
   simp only [Bool.not_false, if_true]
   rw [← h1]
   by_cases hf : decide (0 ≤ findR (fun i => s == l.getD i default) l.length) = true
   ·have h0 : 0 ≤ findR (fun i => s == l.getD i default) l.length := by simpa using hf
    simp only [hf, if_true]
    have h3 : decide (0 ≤ findR (fun i => s == l.getD i default) l.length + 1) = true := by rw [decide_eq_true_eq]; omega
    refine ⟨?_, by rw [List.length_cons]; omega⟩
    rw [if_pos h3, subL_eq (by rw [List.length_cons]; omega), subL_eq (by omega)]
    rw [show (findR (fun i => s == l.getD i default) l.length + 1).toNat = (findR (fun i => s == l.getD i default) l.length).toNat + 1 by omega]
    simp
   ·simp only [hf, if_false, Bool.false_eq_true]
    exact ⟨by simp, by rw [List.length_cons]; omega⟩
theorem tail_sub (l : List Int) : subL l 1 (l.length - 1) = l.tail := by
 cases l with
 | nil => rfl
 | cons x l => rw [subL_eq (by rw [List.length_cons]; omega)]; simp
theorem pathS_pos {c : T48} {x : Int} (hx : isS c x = true) : (1 : Int) ≤ ((pathS c x).length : Int) := by rw [pathS_step hx, List.length_cons]; omega
set_option maxRecDepth 100000
theorem pass_eq {c : T48} (G : Good c) {x : Int} (hx : isS c x = true) {m : List Int} (M : MemOk c m) (leaf : Int) {a : List (List UInt8)} (ha : a.length ≤ 100000) : m132o0 x c leaf m a = some (m.set x.toNat (-1)) := by
 have he := G.entry x hx
 have hl := (isS_lt hx).2.2
 have h1 : (a.length + (c.States.getD x.toNat default).Entry.length) * 16 ≤ 140737488355328 := by unfold stA at he; omega
 have h2 : x < (m.length : Int) := by have := M.len; have := isS_iff.1 hx; omega
 have h3 : x.toNat < m.length := by have := M.len; omega
 delta m132o0 d132o0
 simp only [↓JD.sg_m, ↓JD.sq_m, ↓JD.sc_m, ↓JD.bk_m, ↓JD.lp_m, ↓JD.cd_m, ↓JD.lu_m, ↓JD.ct_m, ↓JD.ce_m, ↓JL.r_m, ↓JL.z_m, ↓JD.se_m, onE_r, ↓Tr.run, ↓Tr.run_nd, ↓Tr.run_c3, ↓Tr.run_c2, ↓Tr.run_nx, ↓onS, bind_ite, Option.bind_some, Option.bind_none, obR, isS_lt hx, h1, h2, h3, if_true]
 by_cases hh : (c.States.getD x.toNat default).History = true
 ·simp only [hh, if_true]
 ·have hh := Bool.eq_false_iff.2 hh
  simp only [hh, Bool.false_eq_true, if_false]
  rw [set_same h3 (M.none hx hh)]
theorem enter_eq {c : T48} (G : Good c) (H : Fit c) {x : Int} (hx : isS c x = true) {m : List Int} (M : MemOk c m) (leaf : Int) {a : List (List UInt8)} (ha : a.length ≤ 80000) : m133o0 x c leaf m a = some (enterS c x m a) := by
 have hs := H.states
 have hm := M.len
 delta m133o0 d133o0
 simp only [↓JD.sg_m, ↓JD.sq_m, ↓JD.sc_m, ↓JD.bk_m, ↓JD.lp_m, ↓JD.cd_m, ↓JD.lu_m, ↓JD.ct_m, ↓JD.ce_m, ↓JL.r_m, ↓JL.z_m, ↓JD.se_m, onE_r, ↓Tr.run, ↓Tr.run_nd, ↓Tr.run_c3, ↓Tr.run_c2, ↓Tr.run_nx, ↓onS, bind_ite, Option.bind_some, Option.bind_none, obR]
 refine enter_loop G (fun x m' a hx M' ha => ?_) _ _ _ _ hx M (by omega) (by omega)
 have hl := (isS_lt hx).2.2
 have h2 : x < (m.length : Int) := by have := isS_iff.1 hx; omega
 have h3 : x.toNat < m.length := by omega
 have h4 : subL m' 0 m.length = m' := subL_all (by rw [M'.len, hm])
 simp only [isS_lt hx, h2, h3, h4, implies_true, if_true, pass_eq G hx M' leaf ha, Option.bind_some]
 cases hc : comp c x with
 | true =>
  obtain ⟨q1, q2⟩ := child_is G (nextS_child G M' hx hc)
  have q3 := isS_iff.1 q1
  unfold nextS stA at *
  simp only [if_true]
  by_cases hh : ((c.States.getD x.toNat default).History && (m'.getD x.toNat default != (-1 : Int))) = true
  ·rw [if_pos hh] at q3
   have : (m'.getD x.toNat default == (-1 : Int)) = false := by simp only [beq_eq_false_iff_ne, ne_eq]; omega
   simp only [hh, this, if_true, Bool.false_eq_true, if_false]
  ·rw [if_neg hh] at q3
   have hh := Bool.eq_false_iff.2 hh
   have : ((c.States.getD x.toNat default).Initial == (-1 : Int)) = false := by simp only [beq_eq_false_iff_ne, ne_eq]; omega
   simp only [hh, this, if_true, Bool.false_eq_true, if_false]
 | false =>
  obtain ⟨q1, q2⟩ := G.leafI x hx hc
  unfold stA at *
  simp only [q1, q2, Bool.false_and, Bool.false_eq_true, if_false, beq_self_eq_true, if_true]
  rw [set_same (by rw [M'.len]; omega) (M'.none hx q2)]
theorem scope_eq {c : T48} (H : Fit c) {a b : Int} (ha : isS c a = true) (hb : isS c b = true) : m97 c a b = some (scopeS c a b) := by
 have hs := H.states
 have hla := pathS_len c a
 have hlb := pathS_len c b
 have hl : (pathS c b).tail.length ≤ 100000 := by rw [List.length_tail]; omega
 delta m97 d97
 simp only [↓JD.sg_m, ↓JD.sq_m, ↓JD.sc_m, ↓JD.bk_m, ↓JD.lp_m, ↓JD.cd_m, ↓JD.lu_m, ↓JD.ct_m, ↓JD.ce_m, ↓JL.r_m, ↓JL.z_m, ↓JD.se_m, onE_r, ↓Tr.run, ↓Tr.run_nd, ↓Tr.run_c3, ↓Tr.run_c2, ↓Tr.run_nx, ↓onS, bind_ite, Option.bind_some, Option.bind_none, obR, Path_eq c H, Option.bind_some, Int.reduceLE, pathS_pos ha, pathS_pos hb, if_true, onS_l, Int.toNat_one, tail_sub, containsI_eq _ _ hl]
 rw [show ((pathS c a).length - 1) = (pathS c a).tail.length by rw [List.length_tail]]
 rw [loop_ex (pathS c a).tail.length (fun i => if hasK (pathS c b).tail (pathS c b).tail.length ((pathS c a).tail.getD i default) = true then some ((pathS c a).tail.getD i default) else none) ?_ ?_, firstR_find, orK_getD]; rfl
 ·intro i hi
  rw [List.length_tail] at hi
  have hi' : i < (pathS c a).tail.length := by rw [List.length_tail]; exact hi
  have hta : (pathS c a).tail.length ≤ 1000 := by rw [List.length_tail]; omega
  simp only [exB_ite, exB_some, exB_none]
  simp only [inL hi', decide_true, Int.toNat_natCast, if_true, wr1 hi' (by omega)]
 ·(simp only [lt_irr, decide_false, Bool.false_eq_true, if_false]; try rfl)
theorem leave_key {c : T48} (G : Good c) (s : Int) {p : List Int} {S X : Type} {b : S → Option (S ⊕ X)} (mk : Int → Int → List Int → List (List UInt8) → S) (out : List Int × List (List UInt8) → X)
  (hb : ∀ (pre l : List Int) (x last : Int) (m : List Int) (a : List (List UInt8)), p = pre ++ x :: l → isS c x = true → MemOk c m → ((last = -1 ∧ (stA c x).History = false) ∨ childS c last x = true) → a.length ≤ 90000 →
   b (mk last (pre.length : Int) m a) = if (x == s) = true then some (.inr (out (m, a))) else some (.inl (mk x ((pre.length + 1 : Nat) : Int) (if ((stA c x).History && (last != (-1 : Int))) = true then m.set x.toNat last else m) (a ++ (stA c x).Exit))))
  (he : ∀ last m a, b (mk last (p.length : Int) m a) = some (.inr (out (m, a)))) :
  ∀ (n : Nat) (pre : List Int) (x last : Int) (m : List Int) (a : List (List UInt8)), p = pre ++ pathS c x → x.toNat ≤ n → isS c x = true → MemOk c m → ((last = -1 ∧ (stA c x).History = false) ∨ childS c last x = true) → a.length + 8 * (n + 1) ≤ 90000 →
   loopO b (mk last (pre.length : Int) m a) = some (out (leaveS c s (pathS c x) last m a)) := by
 intro n
 induction n with
 | zero =>
  intro pre x last m' a hpre hn hx M' hl ha
  have he8 := G.exit_ x hx
  rw [pathS_step hx] at hpre ⊢
  rw [loopO_eq, hb pre _ x last m' a hpre hx M' hl (by omega)]
  unfold leaveS
  by_cases hxs : (x == s) = true
  ·simp only [hxs, if_true, Option.bind_some]
  ·simp only [hxs, if_false, Bool.false_eq_true, Option.bind_some]
   cases ht : topB c x with
   | false => have := (parent_is G hx ht).2.1; omega
   | true =>
    rw [ht] at hpre
    simp only [if_true] at hpre ⊢
    rw [loopO_eq, show pre.length + 1 = p.length by rw [hpre]; simp, he]; rfl
 | succ n ih =>
  intro pre x last m' a hpre hn hx M' hl ha
  have he8 := G.exit_ x hx
  rw [pathS_step hx] at hpre ⊢
  rw [loopO_eq, hb pre _ x last m' a hpre hx M' hl (by omega)]
  unfold leaveS
  by_cases hxs : (x == s) = true
  ·simp only [hxs, if_true, Option.bind_some]
  ·simp only [hxs, if_false, Bool.false_eq_true, Option.bind_some]
   cases ht : topB c x with
   | true =>
    rw [ht] at hpre
    simp only [if_true] at hpre ⊢
    rw [loopO_eq, show pre.length + 1 = p.length by rw [hpre]; simp, he]; rfl
   | false =>
    obtain ⟨p1, p2, p3⟩ := parent_is G hx ht
    rw [ht] at hpre
    simp only [Bool.false_eq_true, if_false] at hpre ⊢
    have := ih (pre ++ [x]) (stA c x).Parent x _ (a ++ (stA c x).Exit) (by rw [hpre]; simp [stA]) (by omega) p1 (mem_leave M' hx (hl.imp (·.1) id)) (.inr p3) (by rw [List.length_append]; omega)
    rw [List.length_append] at this
    exact this
theorem leave_eq {c : T48} (G : Good c) (H : Fit c) (s : Int) {leaf : Int} (hx : isS c leaf = true) (hc : comp c leaf = false) {m : List Int} (M : MemOk c m) : m98o0 s c leaf m [] = some (leaveS c s (pathS c leaf) (-1) m []) := by
 have hs := H.states
 have hm := M.len
 have hp := pathS_len c leaf
 have hlf := (isS_lt hx).2.2
 have hh := (G.leafI leaf hx hc).2
 delta m98o0 d98o0
 simp only [↓JD.sg_m, ↓JD.sq_m, ↓JD.sc_m, ↓JD.bk_m, ↓JD.lp_m, ↓JD.cd_m, ↓JD.lu_m, ↓JD.ct_m, ↓JD.ce_m, ↓JL.r_m, ↓JL.z_m, ↓JD.se_m, onE_r, ↓Tr.run, ↓Tr.run_nd, ↓Tr.run_c3, ↓Tr.run_c2, ↓Tr.run_nx, ↓onS, bind_ite, Option.bind_some, Option.bind_none, obR, Path_eq c H, onS_l]
 generalize hP : pathS c leaf = p at *
 rw [show leaveS c s p (-1) m [] = leaveS c s (pathS c leaf) (-1) m [] by rw [hP]]
 refine leave_key G s (p := p) (fun last i m a => (last, i, m, a)) id (fun pre l x last m' a hpre hx M' hl ha => ?_) (fun last m' a => ?_) leaf.toNat [] leaf (-1) m [] (by rw [hP]; rfl) (Nat.le_refl _) hx M (.inl ⟨rfl, hh⟩) (by simp; omega)
 ·have hi : pre.length < p.length := by rw [hpre]; simp
  have hg : p.getD pre.length default = x := by rw [hpre]; simp [List.getD_eq_getElem?_getD]
  have he8 := G.exit_ x hx
  have h1 : (a.length + (c.States.getD x.toNat default).Exit.length) * 16 ≤ 140737488355328 := by unfold stA at he8; omega
  have h2 : x < (m.length : Int) := by have := isS_iff.1 hx; omega
  have h3 : x.toNat < m.length := by have := (isS_lt hx).2.2; omega
  have h4 : subL m' 0 m.length = m' := subL_all (by rw [M'.len, hm])
  simp only [inL hi, decide_true, Int.toNat_natCast, if_true, hg, isS_lt hx, h1, h2, h3, h4, wr1 hi (by omega)]
  refine ite_else ?_
  unfold stA
  by_cases hh : ((c.States.getD x.toNat default).History && (last != (-1 : Int))) = true
  ·simp only [hh, if_true]; rfl
  ·simp only [hh, if_false, Bool.false_eq_true]; rfl
 ·simp only [lt_irr, decide_false, Bool.false_eq_true, if_false]; rfl
theorem around_fold {c : T48} (G : Good c) {l : List Int} (hl : ∀ x ∈ l, isS c x = true) (h1 : l.length ≤ 2000) {m : List Int} (M : MemOk c m) {a : List (List UInt8)} (ha : a.length ≤ 60000) {f : List Int × List (List UInt8) → Nat → Option (List Int × List (List UInt8))}
  (hf : ∀ (x : Int) (i : Nat) (m' : List Int) (a' : List (List UInt8)), i < l.length → l.getD i 0 = x → isS c x = true → MemOk c m' → a'.length ≤ 100000 → f (m', a') i = some (m'.set x.toNat (-1), a' ++ (stA c x).Entry)) :
  (dn l.length l.length).foldlM f (m, a) = some (aroundS c l m a) := by
 have key : ∀ k, k ≤ l.length → (dn l.length k).foldlM f (m, a) = some (aroundS c (l.drop (l.length - k)) m a) := by
  intro k
  induction k with
  | zero => intro _; simp [dn, aroundS]
  | succ k ih =>
   intro hk
   have e : dn l.length (k + 1) = dn l.length k ++ [l.length - 1 - k] := by unfold dn; rw [List.range_succ, List.map_append]; rfl
   have hi : l.length - 1 - k < l.length := by omega
   have hd : l.drop (l.length - (k + 1)) = l.getD (l.length - 1 - k) 0 :: l.drop (l.length - k) := by
    rw [show l.length - (k + 1) = l.length - 1 - k by omega, List.drop_eq_getElem_cons hi, show l.length - 1 - k + 1 = l.length - k by omega]
    simp [List.getD_eq_getElem?_getD, List.getElem?_eq_getElem hi]
   have hx : isS c (l.getD (l.length - 1 - k) 0) = true := hl _ (by rw [List.getD_eq_getElem?_getD, List.getElem?_eq_getElem hi]; exact List.getElem_mem hi)
   obtain ⟨k1, k2⟩ := aroundS_ok G (a := a) M (l.drop (l.length - k)) fun x hx => hl x (List.mem_of_mem_drop hx)
   rw [e, List.foldlM_append, ih (by omega), hd]
   show (f _ _).bind _ = _
   rw [hf _ _ _ _ hi rfl hx k1 (by rw [List.length_drop] at k2; omega)]
   rfl
 have := key l.length (Nat.le_refl _)
 rwa [Nat.sub_self, List.drop_zero] at this
theorem into_eq {c : T48} (G : Good c) (H : Fit c) {to : Int} (ht : isS c to = true) (s : Int) (leaf : Int) {m : List Int} (M : MemOk c m) {a : List (List UInt8)} (ha : a.length ≤ 60000) :
  m81o0 to s c leaf m a = some (enterS c to (aroundS c (untilS s (pathS c to).tail) m a).1 (aroundS c (untilS s (pathS c to).tail) m a).2) := by
 have hs := H.states
 have hm := M.len
 have hp := pathS_len c to
 have hl : (pathS c to).tail.length ≤ 100000 := by rw [List.length_tail]; omega
 obtain ⟨u1, u2⟩ := until_eq (s := s) (pathS c to).tail
 have hu := untilS_len (s := s) (l := (pathS c to).tail)
 have e1 : (d81o0_1 to s c leaf m a).m = some (pathS c to).tail := by
  delta d81o0_1
  simp only [↓JD.sg_m, ↓JD.sq_m, ↓JD.sc_m, ↓JD.bk_m, ↓JD.lp_m, ↓JD.cd_m, ↓JD.lu_m, ↓JD.ct_m, ↓JD.ce_m, ↓JL.r_m, ↓JL.z_m, ↓JD.se_m, onE_r, ↓Tr.run, ↓Tr.run_nd, ↓Tr.run_c3, ↓Tr.run_c2, ↓Tr.run_nx, ↓onS, bind_ite, Option.bind_some, Option.bind_none, obR, Path_eq c H, Option.bind_some, Int.reduceLE, pathS_pos ht, if_true, Int.toNat_one, tail_sub]
 have e2 : (d81o0_2 to s c leaf m a (pathS c to).tail).m = some (untilS s (pathS c to).tail) := by
  delta d81o0_2
  simp only [↓JD.sg_m, ↓JD.sq_m, ↓JD.sc_m, ↓JD.bk_m, ↓JD.lp_m, ↓JD.cd_m, ↓JD.lu_m, ↓JD.ct_m, ↓JD.ce_m, ↓JL.r_m, ↓JL.z_m, ↓JD.se_m, onE_r, ↓Tr.run, ↓Tr.run_nd, ↓Tr.run_c3, ↓Tr.run_c2, ↓Tr.run_nx, ↓onS, bind_ite, Option.bind_some, Option.bind_none, obR, indexI_eq _ _ hl]
  rw [← u1]
  by_cases h0 : decide (0 ≤ findR (fun i => s == (pathS c to).tail.getD i default) (pathS c to).tail.length) = true
  ·have h1 : 0 ≤ findR (fun i => s == (pathS c to).tail.getD i default) (pathS c to).tail.length := by simpa using h0
   simp only [h1, u2, decide_true, if_true]
  ·simp only [h0, if_false, Bool.false_eq_true]
 have e3 : (d81o0_3 to s c leaf m a (pathS c to).tail (untilS s (pathS c to).tail)).m = some () := by
  delta d81o0_3
  simp only [↓JD.sg_m, ↓JD.sq_m, ↓JD.sc_m, ↓JD.bk_m, ↓JD.lp_m, ↓JD.cd_m, ↓JD.lu_m, ↓JD.ct_m, ↓JD.ce_m, ↓JL.r_m, ↓JL.z_m, ↓JD.se_m, onE_r, ↓Tr.run, ↓Tr.run_nd, ↓Tr.run_c3, ↓Tr.run_c2, ↓Tr.run_nx, ↓onS, bind_ite, Option.bind_some, Option.bind_none, obR, m131o0, d131o0]
 obtain ⟨r1, r2⟩ := aroundS_ok G (a := a) M (untilS s (pathS c to).tail) fun x hx => tail_is x (untilS_sub x hx)
 rw [List.length_tail] at hu
 delta m81o0
 rw [show (d81o0_0 to s c leaf m a).m = some () from rfl, Option.bind_some, e1, Option.bind_some, e2, Option.bind_some, e3, Option.bind_some, if_pos (by omega)]
 rw [around_fold G (fun x hx => tail_is x (untilS_sub x hx)) (by omega) M ha ?_, Option.bind_some]
 ·delta d81o0_p
  have h4 : subL (aroundS c (untilS s (pathS c to).tail) m a).1 0 m.length = (aroundS c (untilS s (pathS c to).tail) m a).1 := subL_all (by rw [r1.len, hm])
  simp only [↓JD.sg_m, ↓JD.sq_m, ↓JD.sc_m, ↓JD.bk_m, ↓JD.lp_m, ↓JD.cd_m, ↓JD.lu_m, ↓JD.ct_m, ↓JD.ce_m, ↓JL.r_m, ↓JL.z_m, ↓JD.se_m, onE_r, ↓Tr.run, ↓Tr.run_nd, ↓Tr.run_c3, ↓Tr.run_c2, ↓Tr.run_nx, ↓onS, bind_ite, Option.bind_some, Option.bind_none, obR, h4, enter_eq G H ht r1 leaf (a := (aroundS c (untilS s (pathS c to).tail) m a).2) (by omega)]
 ·intro x i m' a' hi hg hx M' ha'
  have h4 : subL m' 0 m.length = m' := subL_all (by rw [M'.len, hm])
  delta mr81o0
  simp only [hg, h4, pass_eq G hx M' leaf ha', Option.map_some]
theorem begun_eq {c : T48} (H : Fit c) {g : T71} (hl : g.Memory.length = c.States.length) : m80o0 c g = some () := by
 have hs := H.states
 have h1 : ((0 : Int) ≤ (g.Memory.length : Int)) := by omega
 have h2 : (g.Memory.length : Int) * 8 ≤ 140737488355328 := by omega
 have h3 : (g.Memory.length : Int) ≤ 9223372036854775807 := by omega
 delta m80o0 d80o0
 simp only [↓JD.sg_m, ↓JD.sq_m, ↓JD.sc_m, ↓JD.bk_m, ↓JD.lp_m, ↓JD.cd_m, ↓JD.lu_m, ↓JD.ct_m, ↓JD.ce_m, ↓JL.r_m, ↓JL.z_m, ↓JD.se_m, onE_r, ↓Tr.run, ↓Tr.run_nd, ↓Tr.run_c3, ↓Tr.run_c2, ↓Tr.run_nx, ↓onS, bind_ite, Option.bind_some, Option.bind_none, obR, h1, h2, h3, if_true]
theorem copyL_full {l : List Int} {n : Nat} (h : l.length = n) : copyL (List.replicate n (0 : Int)) l = l := by
 subst h
 rw [copyL, List.length_replicate, List.take_length, List.drop_eq_nil_of_le (by simp), List.append_nil]
theorem fire_of {c : T48} (G : Good c) (H : Fit c) {g : T71} (hg : validS c g = true) {i : Nat} (hi : i < c.Transitions.length) (he : checkM c = some 0) (hon : hasK (pathS c g.Leaf) (pathS c g.Leaf).length (c.Transitions.getD i default).From = true) :
  m56 c g i = some (⟨(fireS c g (c.Transitions.getD i default)).1, (fireS c g (c.Transitions.getD i default)).2.1⟩, (fireS c g (c.Transitions.getD i default)).2.2, 0) := by
 have hs := H.states
 obtain ⟨v1, v2, v3⟩ := validS_iff.1 hg
 have hml := v3.len
 have hp := pathS_len c g.Leaf
 have hlf := (isS_lt v1).2.2
 have ha := G.acts i hi
 obtain ⟨hf, ht⟩ := G.tr i hi
 obtain ⟨a1, a2⟩ := leaveS_ok G (s := scopeS c (c.Transitions.getD i default).From (c.Transitions.getD i default).To) g.Leaf.toNat g.Leaf (-1) g.Memory [] (Nat.le_refl _) v1 v3 (.inl rfl)
 simp only [List.length_nil] at a2
 have h16 : ((leaveS c (scopeS c (c.Transitions.getD i default).From (c.Transitions.getD i default).To) (pathS c g.Leaf) (-1) g.Memory []).2.length + (c.Transitions.getD i default).Actions.length) * 16 ≤ 140737488355328 := by omega
 have hsub : ∀ m : List Int, m.length = c.States.length → subL m 0 g.Memory.length = m := fun m h => subL_all (by rw [h, hml])
 have hrange : (decide ((i : Int) < 0) || decide ((c.Transitions.length : Int) ≤ (i : Int))) = false := by simp; omega
 have hend := (fireS_ok G H hg hi).1
 have hmend := (validS_iff.1 hend).2.2.len
 delta m56 d56
 simp only [↓JD.sg_m, ↓JD.sq_m, ↓JD.sc_m, ↓JD.bk_m, ↓JD.lp_m, ↓JD.cd_m, ↓JD.lu_m, ↓JD.ct_m, ↓JD.ce_m, ↓JL.r_m, ↓JL.z_m, ↓JD.se_m, onE_r, ↓Tr.run, ↓Tr.run_nd, ↓Tr.run_c3, ↓Tr.run_c2, ↓Tr.run_nx, ↓onS, bind_ite, Option.bind_some, Option.bind_none, obR, Check_eq c H, he, Valid_eq c H, hg, Path_eq c H, inL hi, Int.toNat_natCast, if_true, Option.bind_some, containsI_eq _ _ (show (pathS c g.Leaf).length ≤ 100000 by omega), hon, hrange, begun_eq H hml, scope_eq H hf ht, copyL_full (rfl : g.Memory.length = _), leave_eq G H _ v1 v2 v3, h16,
  hsub _ a1.len, bne_self_eq_false, Bool.not_true, Bool.false_eq_true, if_false]
 rw [into_eq G H ht _ _ a1 (by rw [List.length_append]; omega)]
 simp only [Option.bind_some]
 have := hsub _ hmend
 unfold fireS at this
 rw [this]
 rfl
set_option maxRecDepth 100000
theorem enabled_at {c : T48} {leaf v : Int} (h : 0 < (enabledS c leaf v).length) : ∃ i, i < c.Transitions.length ∧ (enabledS c leaf v).getD 0 default = (i : Int) ∧ hasK (pathS c leaf) (pathS c leaf).length (c.Transitions.getD i default).From = true := by
 have hm : (enabledS c leaf v).getD 0 default ∈ enabledS c leaf v := getD_mem h
 generalize (enabledS c leaf v).getD 0 default = x at *
 unfold enabledS at hm
 obtain ⟨i, hi, hx⟩ := List.mem_flatMap.1 hm
 unfold enabG at hx
 split at hx
 ·rename_i h1
  simp only [Bool.and_eq_true] at h1
  exact ⟨i, List.mem_range.1 hi, by simpa using hx, h1.1⟩
 ·cases hx
def fireR (c : T48) (g : T71) (t : Int) : T71 × List (List UInt8) × Int := (⟨(fireS c g (c.Transitions.getD t.toNat default)).1, (fireS c g (c.Transitions.getD t.toNat default)).2.1⟩, (fireS c g (c.Transitions.getD t.toNat default)).2.2, 0)
def stepM (c : T48) (g : T71) (v : Int) : Option (T71 × List (List UInt8) × Int) := (checkM c).bind fun e => if (e != 0) = true then some (⟨0, []⟩, [], e) else if (!validS c g) = true then some (⟨0, []⟩, [], 8) else if (!allowedS c v) = true then some (⟨0, []⟩, [], 1) else
 if (((enabledS c g.Leaf v).length : Int) == 0) = true then some (⟨0, []⟩, [], 6) else if (((enabledS c g.Leaf v).length : Int) == 1) = true then some (fireR c g ((enabledS c g.Leaf v).getD 0 default)) else some (⟨0, []⟩, [], 11)
theorem Step_eq (c : T48) (H : Fit c) (g : T71) (v : Int) : m31 c g v = stepM c g v := by
 obtain ⟨e, he⟩ := checkM_some c
 unfold stepM
 rw [he, Option.bind_some]
 delta m31 d31
 by_cases h0 : (e != 0) = true
 ·simp only [↓JD.sg_m, ↓JD.sq_m, ↓JD.sc_m, ↓JD.bk_m, ↓JD.lp_m, ↓JD.cd_m, ↓JD.lu_m, ↓JD.ct_m, ↓JD.ce_m, ↓JL.r_m, ↓JL.z_m, ↓JD.se_m, onE_r, ↓Tr.run, ↓Tr.run_nd, ↓Tr.run_c3, ↓Tr.run_c2, ↓Tr.run_nx, ↓onS, bind_ite, Option.bind_some, Option.bind_none, obR, Check_eq c H, he, h0, if_true]
 ·have h0' : e = 0 := by simpa using h0
  subst h0'
  simp only [↓JD.sg_m, ↓JD.sq_m, ↓JD.sc_m, ↓JD.bk_m, ↓JD.lp_m, ↓JD.cd_m, ↓JD.lu_m, ↓JD.ct_m, ↓JD.ce_m, ↓JL.r_m, ↓JL.z_m, ↓JD.se_m, onE_r, ↓Tr.run, ↓Tr.run_nd, ↓Tr.run_c3, ↓Tr.run_c2, ↓Tr.run_nx, ↓onS, bind_ite, Option.bind_some, Option.bind_none, obR, Check_eq c H, he, h0, if_false, Bool.false_eq_true, Valid_eq c H, Allowed_eq c H, Enabled_eq c H]
  cases hv : validS c g with
  | false => rfl
  | true =>
   simp only [Bool.not_true, Bool.false_eq_true, if_false]
   refine ite_else (ite_else ?_)
   by_cases h1 : (((enabledS c g.Leaf v).length : Int) == 1) = true
   ·have hl : (enabledS c g.Leaf v).length = 1 := by have := eq_of_beq h1; omega
    obtain ⟨i, hi, hx, hon⟩ := enabled_at (c := c) (leaf := g.Leaf) (v := v) (by omega)
    have hz : (0 : Int) < ((enabledS c g.Leaf v).length : Int) := by omega
    simp only [h1, hz, Int.le_refl, if_true, Int.toNat_zero, hx, fire_of (good_of he) H hv hi he hon, fireR, Int.toNat_natCast, Option.bind_some]
   ·simp only [h1, if_false, Bool.false_eq_true]
theorem stepM_ok {c : T48} (H : Fit c) {g : T71} {v : Int} {r : T71 × List (List UInt8) × Int} (h : stepM c g v = some r) : r.2.1.length ≤ 32000 ∧ (r.2.2 = 0 → checkM c = some 0 ∧ validS c g = true ∧ validS c r.1 = true) := by
 obtain ⟨e, he⟩ := checkM_some c
 unfold stepM at h
 rw [he, Option.bind_some] at h
 split at h
 ·rename_i h0; injection h with h; subst h; exact ⟨by simp, fun h => absurd h (by simpa using h0)⟩
 rename_i h0
 have h0' : e = 0 := by simpa using h0
 subst h0'
 split at h
 ·injection h with h; subst h; exact ⟨by simp, fun h => absurd h (by decide)⟩
 rename_i hv
 have hv : validS c g = true := by simpa using hv
 split at h
 ·injection h with h; subst h; exact ⟨by simp, fun h => absurd h (by decide)⟩
 split at h
 ·injection h with h; subst h; exact ⟨by simp, fun h => absurd h (by decide)⟩
 split at h
 ·rename_i h1
  have hl : (enabledS c g.Leaf v).length = 1 := by have := eq_of_beq h1; omega
  obtain ⟨i, hi, hx, hon⟩ := enabled_at (c := c) (leaf := g.Leaf) (v := v) (by omega)
  injection h with h; subst h
  rw [hx]
  unfold fireR
  rw [Int.toNat_natCast]
  obtain ⟨k1, k2⟩ := fireS_ok (good_of he) H hv hi
  exact ⟨k2, fun _ => ⟨he, hv, k1⟩⟩
 ·injection h with h; subst h; exact ⟨by simp, fun h => absurd h (by decide)⟩
end Go.Av.Ch
set_option maxRecDepth 1000000
namespace Go.Av.Mo
open Go.Av.Ch
def rep (c : T48) : List Int := List.replicate c.States.length (-1)
def maskL : List T176 → Nat × Nat
 | [] => (0, 0)
 | x :: l => (2 ^ x.Cond.toNat + (maskL l).1, (if x.Neg = true then 0 else 2 ^ x.Cond.toNat) + (maskL l).2)
def ascB : Nat → List T176 → Bool
 | _, [] => true
 | n, x :: l => decide (0 ≤ x.Cond) && decide (x.Cond ≤ 15) && decide (n ≤ x.Cond.toNat) && ascB (x.Cond.toNat + 1) l
theorem mask_mul : ∀ {l : List T176} {n : Nat}, ascB n l = true → ∃ a b, (maskL l).1 = 2 ^ n * a ∧ (maskL l).2 = 2 ^ n * b
 | [], n, _ => ⟨0, 0, by simp [maskL], by simp [maskL]⟩
 | x :: l, n, h => by
  simp only [ascB, Bool.and_eq_true, decide_eq_true_eq] at h
  obtain ⟨⟨⟨h1, h2⟩, h3⟩, h4⟩ := h
  obtain ⟨a, b, ha, hb⟩ := mask_mul h4
  obtain ⟨d, hd⟩ := Nat.le.dest h3
  refine ⟨2 ^ d * (1 + 2 * a), (if x.Neg = true then 0 else 2 ^ d) + 2 ^ d * (2 * b), ?_, ?_⟩
  ·simp only [maskL, ha, ← hd]
   rw [Nat.pow_add, Nat.pow_add, Nat.pow_add, Nat.mul_add, Nat.mul_add, Nat.pow_one]
   simp only [Nat.mul_one, Nat.one_mul, Nat.mul_assoc, Nat.mul_comm, Nat.mul_left_comm]
  ·simp only [maskL, hb, ← hd]
   rw [Nat.pow_add, Nat.pow_add, Nat.pow_add, Nat.mul_add, Nat.pow_one]
   cases x.Neg <;> simp [Nat.mul_assoc, Nat.mul_comm, Nat.mul_left_comm]
theorem holds_cons {x : T176} {l : List T176} {v : Int} : holdsS (x :: l) v = (!litN v x && holdsS l v) := by
 unfold holdsS
 rw [Bool.eq_iff_iff]
 simp only [Bool.and_eq_true, Bool.not_eq_true', anyR_false]
 constructor
 ·intro h
  exact ⟨by simpa using h 0 (by simp), fun i hi => by simpa using h (i + 1) (by simpa using hi)⟩
 ·rintro ⟨h1, h2⟩ i hi
  cases i with
  | zero => simpa using h1
  | succ i => simpa using h2 i (by simpa using hi)
theorem nbeq (a b : Nat) : Nat.beq a b = (a == b) := by rw [Bool.eq_iff_iff, beq_iff_eq]; exact ⟨Nat.eq_of_beq_eq_true, fun h => h ▸ Nat.beq_refl _⟩
theorem land_step {v k a b : Nat} {neg : Bool} : ((v &&& (2 ^ k + 2 ^ (k + 1) * a)) == ((if neg = true then 0 else 2 ^ k) + 2 ^ (k + 1) * b)) = ((v.testBit k != neg) && ((v &&& (2 ^ (k + 1) * a)) == 2 ^ (k + 1) * b)) := by
 have t1 : ∀ (z : Nat) (j : Nat), (2 ^ k + 2 ^ (k + 1) * z).testBit j = ((j == k) || (2 ^ (k + 1) * z).testBit j) := fun z j => by
  rw [Nat.add_comm, Nat.testBit_two_pow_mul_add _ (Nat.pow_lt_pow_right (by omega) (by omega)), Nat.testBit_two_pow_mul]
  by_cases h : j < k + 1
  ·rw [if_pos h, decide_eq_false (by omega), Bool.false_and, Bool.or_false, Nat.testBit_two_pow, Bool.eq_iff_iff, decide_eq_true_eq, beq_iff_eq]
   omega
  ·have h2 : (j == k) = false := by rw [beq_eq_false_iff_ne]; omega
   rw [if_neg h, decide_eq_true (by omega), Bool.true_and, h2, Bool.false_or]
 have t2 : ∀ (z : Nat), (2 ^ (k + 1) * z).testBit k = false := fun z => by
  rw [Nat.testBit_two_pow_mul, decide_eq_false (by omega), Bool.false_and]
 rw [Bool.eq_iff_iff]
 simp only [beq_iff_eq, Bool.and_eq_true, bne_iff_ne, ne_eq]
 constructor
 ·intro h
  have hj : ∀ j, (v &&& (2 ^ k + 2 ^ (k + 1) * a)).testBit j = ((if neg = true then 0 else 2 ^ k) + 2 ^ (k + 1) * b).testBit j := fun j => by rw [h]
  refine ⟨?_, ?_⟩
  ·have := hj k
   rw [Nat.testBit_and, t1, t2] at this
   cases neg with
   | true => simp only [if_true, Nat.zero_add, t2] at this; simpa using this
   | false => simp only [Bool.false_eq_true, if_false, t1, t2] at this; simpa using this
  ·apply Nat.eq_of_testBit_eq
   intro j
   have := hj j
   rw [Nat.testBit_and, t1] at this
   rw [Nat.testBit_and]
   by_cases e : j = k
   ·subst e; rw [t2, t2, Bool.and_false]
   ·have e2 : (j == k) = false := by simpa using e
    rw [e2, Bool.false_or] at this
    rw [this]
    cases neg with
    | true => simp
    | false => simp only [Bool.false_eq_true, if_false, t1, e2, Bool.false_or]
 ·rintro ⟨h1, h2⟩
  apply Nat.eq_of_testBit_eq
  intro j
  have hj : (v &&& (2 ^ (k + 1) * a)).testBit j = (2 ^ (k + 1) * b).testBit j := by rw [h2]
  rw [Nat.testBit_and] at hj
  rw [Nat.testBit_and, t1]
  by_cases e : j = k
  ·subst e
   rw [beq_self_eq_true, Bool.true_or, Bool.and_true]
   cases neg with
   | true => simp only [if_true, Nat.zero_add, t2]; simpa using h1
   | false => simp only [Bool.false_eq_true, if_false, t1, beq_self_eq_true, Bool.true_or]; simpa using h1
  ·have e2 : (j == k) = false := by simpa using e
   rw [e2, Bool.false_or, hj]
   cases neg with
   | true => simp
   | false => simp only [Bool.false_eq_true, if_false, t1, e2, Bool.false_or]
theorem holds_mask : ∀ {l : List T176} {n : Nat}, ascB n l = true → ∀ {v : Nat}, holdsS l (v : Int) = ((v &&& (maskL l).1) == (maskL l).2)
 | [], _, _, v => by simp [maskL, holdsS, anyR]
 | x :: l, n, h, v => by
  simp only [ascB, Bool.and_eq_true, decide_eq_true_eq] at h
  obtain ⟨⟨⟨h1, h2⟩, h3⟩, h4⟩ := h
  obtain ⟨a, b, ha, hb⟩ := mask_mul h4
  have ih := holds_mask h4 (v := v)
  rw [ha, hb] at ih
  simp only [maskL, ha, hb]
  rw [holds_cons, land_step, ih]
  congr 1
  unfold litN
  rw [bitV_eq (by omega) (by omega), Int.toNat_natCast]
  have d1 : decide (x.Cond < 0) = false := by simp; omega
  have d2 : decide (15 < x.Cond) = false := by simp; omega
  rw [d1, d2]
  cases v.testBit x.Cond.toNat <;> cases x.Neg <;> rfl
def cnt (v : Nat) : List (Nat × Nat) → Nat
 | [] => 0
 | q :: l => cond (Nat.beq (Nat.land v q.1) q.2) (Nat.succ (cnt v l)) (cnt v l)
def anyM (v : Nat) : List (Nat × Nat) → Bool
 | [] => false
 | q :: l => cond (Nat.beq (Nat.land v q.1) q.2) true (anyM v l)
def tab (c : T48) (leaf : Int) : List (Nat × Nat) := (List.range c.Transitions.length).flatMap fun i => if hasK (pathS c leaf) (pathS c leaf).length (c.Transitions.getD i default).From = true then [maskL (c.Transitions.getD i default).When] else []
def oneB (tabs : List (List (Nat × Nat))) (nev : List (Nat × Nat)) : Nat → Bool
 | 0 => true
 | n + 1 => cond (cond (anyM n nev) true (tabs.all fun t => Nat.beq (cnt n t) 1)) (oneB tabs nev n) false
def ascC (c : T48) : Bool := c.Transitions.all (fun t => ascB 0 t.When) && c.Never.all (fun l => ascB 0 l)
theorem cnt_tab {c : T48} (h : ascC c = true) {leaf : Int} {v : Nat} : (enabledS c leaf (v : Int)).length = cnt v (tab c leaf) := by
 simp only [ascC, Bool.and_eq_true, List.all_eq_true] at h
 unfold enabledS tab
 have key : ∀ l : List Nat, (∀ i ∈ l, i < c.Transitions.length) → (l.flatMap (enabG c (pathS c leaf) (v : Int))).length = cnt v (l.flatMap fun i => if hasK (pathS c leaf) (pathS c leaf).length (c.Transitions.getD i default).From = true then [maskL (c.Transitions.getD i default).When] else []) := by
  intro l
  induction l with
  | nil => intro _; rfl
  | cons i l ih =>
   intro hi
   have ih := ih fun j hj => hi j (List.mem_cons_of_mem _ hj)
   have hw := h.1 _ (getD_mem (hi i (by simp)))
   rw [List.flatMap_cons, List.flatMap_cons, List.length_append, ih]
   unfold enabG
   cases hasK (pathS c leaf) (pathS c leaf).length (c.Transitions.getD i default).From with
   | false => simp
   | true =>
    rw [holds_mask hw]
    simp only [Bool.true_and, if_true, List.cons_append, List.nil_append, cnt]
    have e : Nat.beq (Nat.land v (maskL (c.Transitions.getD i default).When).1) (maskL (c.Transitions.getD i default).When).2 = ((v &&& (maskL (c.Transitions.getD i default).When).1) == (maskL (c.Transitions.getD i default).When).2) := nbeq _ _
    rw [e]
    cases ((v &&& (maskL (c.Transitions.getD i default).When).1) == (maskL (c.Transitions.getD i default).When).2) with
    | false => simp
    | true => simp; omega
 exact key _ fun i hi => List.mem_range.1 hi
theorem any_nev {c : T48} (h : ascC c = true) {v : Nat} : anyR (fun i => holdsS (c.Never.getD i default) (v : Int)) c.Never.length = anyM v (c.Never.map maskL) := by
 simp only [ascC, Bool.and_eq_true, List.all_eq_true] at h
 have h := h.2
 generalize c.Never = l at h
 induction l with
 | nil => rfl
 | cons x l ih =>
  have e : anyR (fun i => holdsS ((x :: l).getD i default) (v : Int)) (x :: l).length = (holdsS x (v : Int) || anyR (fun i => holdsS (l.getD i default) (v : Int)) l.length) := by
   rw [Bool.eq_iff_iff, Bool.or_eq_true, anyR_iff, anyR_iff]
   constructor
   ·rintro ⟨i, hi, hx⟩
    cases i with
    | zero => exact .inl hx
    | succ i => exact .inr ⟨i, by simpa using hi, by simpa using hx⟩
   ·rintro (hx | ⟨i, hi, hx⟩)
    ·exact ⟨0, by simp, hx⟩
    ·exact ⟨i + 1, by simpa using hi, by simpa using hx⟩
  rw [e, ih fun y hy => h y (List.mem_cons_of_mem _ hy), holds_mask (h x (by simp))]
  simp only [List.map_cons, anyM]
  have e : Nat.beq (Nat.land v (maskL x).1) (maskL x).2 = ((v &&& (maskL x).1) == (maskL x).2) := nbeq _ _
  rw [e]
  cases ((v &&& (maskL x).1) == (maskL x).2) <;> rfl
theorem one_of {c : T48} {ls : List Int} {n : Nat} (ha : ascC c = true) (H : oneB (ls.map (tab c)) (c.Never.map maskL) n = true) {v : Nat} (hv : v < n) {leaf : Int} (hl : leaf ∈ ls) (h : allowedS c (v : Int) = true) : (enabledS c leaf (v : Int)).length = 1 := by
 rw [cnt_tab ha]
 unfold allowedS at h
 simp only [Bool.and_eq_true, Bool.not_eq_true'] at h
 have h := h.2
 rw [any_nev ha] at h
 induction n with
 | zero => omega
 | succ n ih =>
  unfold oneB at H
  cases hc : (cond (anyM n (c.Never.map maskL)) true ((ls.map (tab c)).all fun t => Nat.beq (cnt n t) 1)) with
  | false => rw [hc] at H; cases H
  | true =>
   rw [hc] at H
   by_cases e : v = n
   ·subst e
    rw [h] at hc
    simp only [cond_false, List.all_eq_true] at hc
    exact Nat.eq_of_beq_eq_true (hc _ (List.mem_map_of_mem hl))
   ·exact ih H (by omega)
theorem asc1 : ascC C1 = true := by kernel_rfl
theorem asc2 : ascC C2 = true := by kernel_rfl
theorem asc3 : ascC C3 = true := by kernel_rfl
theorem tab1 : (leavesS C1).map (tab C1) = [[(1, 1), (65, 64), (67, 2), (71, 0), (79, 4), (95, 12), (127, 28), (127, 60)], [(1, 1), (65, 64), (67, 2), (71, 0), (79, 4), (95, 12), (127, 28), (127, 60)], [(1, 1), (65, 64), (67, 2), (75, 0), (91, 8), (123, 24), (123, 56)], [(1, 1), (65, 64), (67, 2), (75, 0), (107, 8), (107, 40)], [(1, 1), (65, 64), (67, 2), (75, 0), (107, 8), (107, 40)], [(1, 1), (65, 64), (67, 2), (71, 0), (79, 4), (95, 12), (127, 28), (127, 60)]] := by kernel_rfl
theorem nev1 : C1.Never.map maskL = ([] : List (Nat × Nat)) := by kernel_rfl
theorem all1 : oneB ((leavesS C1).map (tab C1)) (C1.Never.map maskL) 128 = true := by rw [tab1, nev1]; kernel_rfl
theorem one1 {v : Nat} (hv : v < 128) {leaf : Int} (hl : leaf ∈ leavesS C1) (h : allowedS C1 (v : Int) = true) : (enabledS C1 leaf (v : Int)).length = 1 := one_of asc1 all1 hv hl h
theorem tab2 : (leavesS C2).map (tab C2) = [[(1, 1), (9, 8), (25, 16), (57, 32), (249, 192), (249, 64), (381, 256), (381, 260), (377, 0)], [(1, 1), (9, 8), (25, 16), (57, 32), (249, 192), (249, 64), (381, 256), (381, 260), (889, 512), (889, 0)], [(1, 1), (9, 8), (25, 16), (57, 32), (249, 192), (249, 64), (381, 256), (381, 260), (889, 512), (889, 0)], [(1, 1), (9, 8), (25, 16), (57, 32), (249, 192), (249, 64), (381, 256), (381, 260), (889, 512), (889, 0)], [(1, 1), (9, 8), (25, 16), (57, 32), (249, 192), (249, 64), (381, 256), (381, 260), (1401, 1024), (1913, 512), (2041, 128), (2041, 0)], [(1, 1), (9, 8), (25, 16), (57, 32), (249, 192), (249, 64), (381, 256), (381, 260), (379, 0), (383, 2), (383, 6)], [(1, 1), (9, 8), (25, 16), (57, 32), (249, 192), (249, 64), (381, 256), (381, 260), (379, 0), (383, 2), (383, 6)], [(1, 1), (9, 8), (25, 16), (57, 32), (249, 192), (249, 64), (381, 256), (381, 260), (889, 512), (889, 0)]] := by kernel_rfl
theorem nev2 : C2.Never.map maskL = [(258, 256), (1536, 1024)] := by kernel_rfl
theorem all2 : oneB ((leavesS C2).map (tab C2)) (C2.Never.map maskL) 2048 = true := by rw [tab2, nev2]; kernel_rfl
theorem one2 {v : Nat} (hv : v < 2048) {leaf : Int} (hl : leaf ∈ leavesS C2) (h : allowedS C2 (v : Int) = true) : (enabledS C2 leaf (v : Int)).length = 1 := one_of asc2 all2 hv hl h
theorem tab3 : (leavesS C3).map (tab C3) = [[(1, 0), (9, 9), (9, 1)], [(9, 9), (9, 1), (17, 0), (17, 16)], [(1, 1), (5, 4), (7, 2), (39, 32), (103, 64), (103, 0)], [(1, 1), (5, 4), (7, 2), (71, 64), (103, 32), (103, 0)], [(1, 1), (5, 4), (7, 2), (71, 64), (103, 32), (103, 0)], [(1, 1), (5, 4), (7, 2), (71, 64), (71, 0)], [(1, 1), (5, 4), (21, 0), (23, 16), (23, 18)], [(1, 0), (9, 9), (137, 129), (137, 1)]] := by kernel_rfl
theorem nev3 : C3.Never.map maskL = [(17, 17), (129, 128)] := by kernel_rfl
theorem all3 : oneB ((leavesS C3).map (tab C3)) (C3.Never.map maskL) 256 = true := by rw [tab3, nev3]; kernel_rfl
theorem one3 {v : Nat} (hv : v < 256) {leaf : Int} (hl : leaf ∈ leavesS C3) (h : allowedS C3 (v : Int) = true) : (enabledS C3 leaf (v : Int)).length = 1 := one_of asc3 all3 hv hl h
set_option maxRecDepth 1000000
theorem read1 : (m19 1) = some (C1, 0) := by kernel_rfl
set_option maxRecDepth 1000000
theorem read2 : (m19 2) = some (C2, 0) := by kernel_rfl
set_option maxRecDepth 1000000
theorem read3 : (m19 3) = some (C3, 0) := by kernel_rfl
set_option maxRecDepth 1000000
open Go.Av.Ch
theorem M11 (a0 : T23) (a1 : Int) : m11 a0 a1 = ((Option.bind (Option.bind (Option.bind (m22 a0) fun r => some r) fun x1 => (if (!x1) = true then (some (.inr (((⟨(0 : Int), (0 : Int), (0 : Int)⟩ : T23), [], (8 : Int))))) else (Option.bind (((m33 ).bind fun r3_0 => (if 0 ≤ (r3_0.length : Int) then some r3_0 else none))) fun (x3 : ((List (List UInt8)))) => (if ((Int.fdiv a1 (2 ^ (min (x3.length : Int).toNat (IntKind.bits .u32)))) != 0) = true then (some (.inr (((⟨(0 : Int), (0 : Int), (0 : Int)⟩ : T23), [], (1 : Int))))) else (some (.inl ())))))) (onS fun (_ : Unit) => (Option.bind (Option.bind (some (.inl ())) (onS fun (_ : Unit) => (Option.bind (Option.bind (some (.inl ())) (onS fun (_ : Unit) => (Option.bind (some (.inl ())) (onS fun (_ : Unit) => (Option.bind (Option.bind (Option.bind (Option.bind (m19 (1 : Int)) fun r => some r) fun x11 => (Option.bind (Option.bind (m41 x11.1 a1) fun r => some r) fun x12 => (some (.inl (x12.1, x12.2, x11.1))))) (onS fun (y1 : Int × Bool × T48) => (Option.bind (Option.bind (some (.inl ())) (onS fun (_ : Unit) => (if (!y1.2.1) = true then (some (.inr (.inr (.inr (.inr (((⟨(0 : Int), (0 : Int), (0 : Int)⟩ : T23), [], (11 : Int)))))))) else (some (.inl ()))))) (onS fun (_ : Unit) => (some (.inl (y1.2.2, y1.1))))))) (onS fun (y2 : T48 × Int) => (some (.inl (y2.1, y2.2))))))))) (onS fun (y3 : T48 × Int) => (Option.bind (Option.bind (some (.inl ())) (onS fun (_ : Unit) => (Option.bind (some (.inl ())) (onS fun (_ : Unit) => (Option.bind (Option.bind (Option.bind (Option.bind (m19 (2 : Int)) fun r => some r) fun x11 => (Option.bind (Option.bind (m41 x11.1 a1) fun r => some r) fun x12 => (some (.inl (x12.1, x12.2, x11.1))))) (onS fun (y4 : Int × Bool × T48) => (Option.bind (Option.bind (some (.inl ())) (onS fun (_ : Unit) => (if (!y4.2.1) = true then (some (.inr (.inr (.inr (.inr (((⟨(0 : Int), (0 : Int), (0 : Int)⟩ : T23), [], (11 : Int)))))))) else (some (.inl ()))))) (onS fun (_ : Unit) => (some (.inl (y4.2.2, y4.1))))))) (onS fun (y5 : T48 × Int) => (some (.inl (y5.1, y5.2))))))))) (onS fun (y6 : T48 × Int) => (Option.bind (Option.bind (some (.inl ())) (onS fun (_ : Unit) => (Option.bind (some (.inl ())) (onS fun (_ : Unit) => (Option.bind (Option.bind (Option.bind (Option.bind (m19 (3 : Int)) fun r => some r) fun x11 => (Option.bind (Option.bind (m41 x11.1 a1) fun r => some r) fun x12 => (some (.inl (x12.1, x12.2, x11.1))))) (onS fun (y7 : Int × Bool × T48) => (Option.bind (Option.bind (some (.inl ())) (onS fun (_ : Unit) => (if (!y7.2.1) = true then (some (.inr (.inr (.inr (.inr (((⟨(0 : Int), (0 : Int), (0 : Int)⟩ : T23), [], (11 : Int)))))))) else (some (.inl ()))))) (onS fun (_ : Unit) => (some (.inl (y7.2.2, y7.1))))))) (onS fun (y8 : T48 × Int) => (some (.inl (y8.1, y8.2))))))))) (onS fun (y9 : T48 × Int) => (Option.bind (Option.bind (some (.inl ())) (onS fun (_ : Unit) => (Option.bind (some (.inr (.inr (.inl (y3.1, y6.1, y9.1, y3.2, y6.2, y9.2))))) onE))) onE))))))))) (onS fun (y10 : T48 × T48 × T48 × Int × Int × Int) => (Option.bind (some (.inl ())) (onS fun (_ : Unit) => (Option.bind (Option.bind (some (.inl ())) (onS fun (_ : Unit) => (Option.bind (Option.bind (some (.inl ())) (onS fun (_ : Unit) => (Option.bind (some (.inl ())) (onS fun (_ : Unit) => (Option.bind (Option.bind (Option.bind (Option.bind (m42 ([(-1 : Int)] : List Int) (y10.1.States.length : Int)) fun r => some r) fun x22 => (Option.bind (Option.bind (m31 y10.1 (⟨(IntKind.wrap .i64 (a0.Lateral)), x22⟩ : T71) y10.2.2.2.1) fun r => some r) fun x23 => (some (.inl (x23.2.1, x23.2.2, x23.1))))) (onS fun (y11 : (List (List UInt8)) × Int × T71) => (Option.bind (Option.bind (some (.inl ())) (onS fun (_ : Unit) => (if (y11.2.1 != 0) = true then (some (.inr (.inr (.inr (.inr (((⟨(0 : Int), (0 : Int), (0 : Int)⟩ : T23), [], y11.2.1))))))) else (some (.inl ()))))) (onS fun (_ : Unit) => (if (y11.1.length * 16 ≤ 140737488355328) then (some (.inl (y11.1, (IntKind.wrap .u8 (y11.2.2.Leaf))))) else none))))) (onS fun (y12 : (List (List UInt8)) × Int) => (some (.inl (y12.1, y12.2))))))))) (onS fun (y13 : (List (List UInt8)) × Int) => (Option.bind (Option.bind (some (.inl ())) (onS fun (_ : Unit) => (Option.bind (some (.inl ())) (onS fun (_ : Unit) => (Option.bind (Option.bind (Option.bind (Option.bind (m42 ([(-1 : Int)] : List Int) (y10.2.1.States.length : Int)) fun r => some r) fun x22 => (Option.bind (Option.bind (m31 y10.2.1 (⟨(IntKind.wrap .i64 (a0.Vertical)), x22⟩ : T71) y10.2.2.2.2.1) fun r => some r) fun x23 => (some (.inl (x23.2.1, x23.2.2, x23.1))))) (onS fun (y14 : (List (List UInt8)) × Int × T71) => (Option.bind (Option.bind (some (.inl ())) (onS fun (_ : Unit) => (if (y14.2.1 != 0) = true then (some (.inr (.inr (.inr (.inr (((⟨(0 : Int), (0 : Int), (0 : Int)⟩ : T23), [], y14.2.1))))))) else (some (.inl ()))))) (onS fun (_ : Unit) => (if ((y13.1.length + y14.1.length) * 16 ≤ 140737488355328) then (some (.inl ((y13.1 ++ y14.1), (IntKind.wrap .u8 (y14.2.2.Leaf))))) else none))))) (onS fun (y15 : (List (List UInt8)) × Int) => (some (.inl (y15.1, y15.2))))))))) (onS fun (y16 : (List (List UInt8)) × Int) => (Option.bind (Option.bind (some (.inl ())) (onS fun (_ : Unit) => (Option.bind (some (.inl ())) (onS fun (_ : Unit) => (Option.bind (Option.bind (Option.bind (Option.bind (m42 ([(-1 : Int)] : List Int) (y10.2.2.1.States.length : Int)) fun r => some r) fun x22 => (Option.bind (Option.bind (m31 y10.2.2.1 (⟨(IntKind.wrap .i64 (a0.Phase)), x22⟩ : T71) y10.2.2.2.2.2) fun r => some r) fun x23 => (some (.inl (x23.2.1, x23.2.2, x23.1))))) (onS fun (y17 : (List (List UInt8)) × Int × T71) => (Option.bind (Option.bind (some (.inl ())) (onS fun (_ : Unit) => (if (y17.2.1 != 0) = true then (some (.inr (.inr (.inr (.inr (((⟨(0 : Int), (0 : Int), (0 : Int)⟩ : T23), [], y17.2.1))))))) else (some (.inl ()))))) (onS fun (_ : Unit) => (if ((y16.1.length + y17.1.length) * 16 ≤ 140737488355328) then (some (.inl ((y16.1 ++ y17.1), (IntKind.wrap .u8 (y17.2.2.Leaf))))) else none))))) (onS fun (y18 : (List (List UInt8)) × Int) => (some (.inl (y18.1, y18.2))))))))) (onS fun (y19 : (List (List UInt8)) × Int) => (Option.bind (Option.bind (some (.inl ())) (onS fun (_ : Unit) => (Option.bind (some (.inr (.inr (.inl (y19.1, y13.2, y16.2, y19.2))))) onE))) onE))))))))) (onS fun (y20 : (List (List UInt8)) × Int × Int × Int) => (some ((⟨y20.2.1, y20.2.2.1, y20.2.2.2⟩ : T23), y20.1, (0 : Int))))))))))) : Option (T23 × (List (List UInt8)) × Int)) := by kernel_rfl
theorem M22 (a0 : T23) : m22 a0 = ((Option.bind (((m21 (1 : Int) a0.Lateral).bind fun r1_0 => ((if (r1_0 != ([] : List UInt8)) = true then m21 (2 : Int) a0.Vertical else some default).bind fun r1_1 => ((if ((r1_0 != ([] : List UInt8)) && (r1_1 != ([] : List UInt8))) = true then m21 (3 : Int) a0.Phase else some default).bind fun r1_2 => some (r1_0, r1_1, r1_2))))) fun (x1 : ((List UInt8) × (List UInt8) × (List UInt8))) => (some (((x1.1 != ([] : List UInt8)) && (x1.2.1 != ([] : List UInt8))) && (x1.2.2 != ([] : List UInt8))))) : Option (Bool)) := by kernel_rfl
theorem M21 (a0 a1 : Int) : m21 a0 a1 = ((Option.bind (Option.bind (m46 a0) fun r => some r) fun x1 => (if (decide ((x1.length : Int) ≤ (IntKind.wrap .i64 (a1)))) = true then (some ([] : List UInt8)) else (if (0 ≤ a1) then (if (a1 < (x1.length : Int)) then (some (x1.getD a1.toNat default)) else none) else none))) : Option ((List UInt8))) := by kernel_rfl
def nam1 : List (List UInt8) := [[], [82, 79, 76, 76], [72, 69, 65, 68, 73, 78, 71], [65, 82, 77, 69, 68], [78, 65, 86], [65, 80, 80, 82, 79, 65, 67, 72], [71, 79, 65, 82, 79, 85, 78, 68]]
theorem modes1 : m46 1 = some nam1 := by kernel_rfl
theorem nall1 : (List.range 256).all (fun n => (nam1.getD n [] != []) == (decide (1 ≤ n) && decide (n ≤ 6))) = true := by kernel_rfl
theorem nam1_ne {n : Nat} (h : n < 256) : (nam1.getD n [] != ([] : List UInt8)) = (decide (1 ≤ n) && decide (n ≤ 6)) := by
 have := nall1
 simp only [List.all_eq_true] at this
 exact eq_of_beq (this n (List.mem_range.2 h))
theorem mName1 {n : Nat} (h : n < 256) : m21 1 (n : Int) = some (nam1.getD n []) := by
 have hl : nam1.length = 7 := by decide
 rw [M21, bind_id, modes1, Option.bind_some, w64 (by omega) (by omega), hl]
 by_cases h1 : ((7 : Nat) : Int) ≤ (n : Int)
 ·rw [if_pos (by simpa using h1), List.getD_eq_getElem?_getD, List.getElem?_eq_none (by omega)]; rfl
 ·rw [if_neg (by simpa using h1), if_pos (by omega), if_pos (by omega), Int.toNat_natCast]; rfl
def nam2 : List (List UInt8) := [[], [72, 79, 76, 68], [67, 76, 73, 77, 66], [68, 69, 83, 67, 69, 78, 68], [83, 80, 69, 69, 68], [67, 65, 80, 84, 85, 82, 69], [80, 65, 84, 72], [71, 76, 73, 68, 69], [71, 79, 65, 82, 79, 85, 78, 68]]
theorem modes2 : m46 2 = some nam2 := by kernel_rfl
theorem nall2 : (List.range 256).all (fun n => (nam2.getD n [] != []) == (decide (1 ≤ n) && decide (n ≤ 8))) = true := by kernel_rfl
theorem nam2_ne {n : Nat} (h : n < 256) : (nam2.getD n [] != ([] : List UInt8)) = (decide (1 ≤ n) && decide (n ≤ 8)) := by
 have := nall2
 simp only [List.all_eq_true] at this
 exact eq_of_beq (this n (List.mem_range.2 h))
theorem mName2 {n : Nat} (h : n < 256) : m21 2 (n : Int) = some (nam2.getD n []) := by
 have hl : nam2.length = 9 := by decide
 rw [M21, bind_id, modes2, Option.bind_some, w64 (by omega) (by omega), hl]
 by_cases h1 : ((9 : Nat) : Int) ≤ (n : Int)
 ·rw [if_pos (by simpa using h1), List.getD_eq_getElem?_getD, List.getElem?_eq_none (by omega)]; rfl
 ·rw [if_neg (by simpa using h1), if_pos (by omega), if_pos (by omega), Int.toNat_natCast]; rfl
def nam3 : List (List UInt8) := [[], [80, 82, 69, 70, 76, 84], [84, 65, 75, 69, 79, 70, 70], [67, 76, 73, 77, 66], [67, 82, 85, 73, 83, 69], [68, 69, 83, 67, 69, 78, 84], [65, 80, 80, 82, 79, 65, 67, 72], [71, 79, 65, 82, 79, 85, 78, 68], [76, 65, 78, 68, 69, 68]]
theorem modes3 : m46 3 = some nam3 := by kernel_rfl
theorem nall3 : (List.range 256).all (fun n => (nam3.getD n [] != []) == (decide (1 ≤ n) && decide (n ≤ 8))) = true := by kernel_rfl
theorem nam3_ne {n : Nat} (h : n < 256) : (nam3.getD n [] != ([] : List UInt8)) = (decide (1 ≤ n) && decide (n ≤ 8)) := by
 have := nall3
 simp only [List.all_eq_true] at this
 exact eq_of_beq (this n (List.mem_range.2 h))
theorem mName3 {n : Nat} (h : n < 256) : m21 3 (n : Int) = some (nam3.getD n []) := by
 have hl : nam3.length = 9 := by decide
 rw [M21, bind_id, modes3, Option.bind_some, w64 (by omega) (by omega), hl]
 by_cases h1 : ((9 : Nat) : Int) ≤ (n : Int)
 ·rw [if_pos (by simpa using h1), List.getD_eq_getElem?_getD, List.getElem?_eq_none (by omega)]; rfl
 ·rw [if_neg (by simpa using h1), if_pos (by omega), if_pos (by omega), Int.toNat_natCast]; rfl
def validN (l v p : Nat) : Bool := (decide (1 ≤ l) && decide (l ≤ 6)) && (decide (1 ≤ v) && decide (v ≤ 8)) && (decide (1 ≤ p) && decide (p ≤ 8))
theorem Valid_eq {l v p : Nat} (hl : l < 256) (hv : v < 256) (hp : p < 256) : m22 ⟨(l : Int), (v : Int), (p : Int)⟩ = some (validN l v p) := by
 unfold validN
 rw [M22, ← nam1_ne hl, ← nam2_ne hv, ← nam3_ne hp]
 have hd : ((default : List UInt8) != ([] : List UInt8)) = false := rfl
 cases h1 : (nam1.getD l [] != ([] : List UInt8)) with
 | false => simp only [mName1 hl, Option.bind_some, h1, hd, Bool.false_eq_true, if_false, Bool.false_and]
 | true =>
  cases h2 : (nam2.getD v [] != ([] : List UInt8)) with
  | false => simp only [mName1 hl, mName2 hv, Option.bind_some, h1, h2, hd, Bool.false_eq_true, if_false, if_true, Bool.false_and, Bool.and_false]
  | true => simp only [mName1 hl, mName2 hv, mName3 hp, Option.bind_some, h1, h2, if_true, Bool.and_true, Bool.true_and]
def goS (c : T48) (leaf : Int) (v : Nat) : T71 × List (List UInt8) × Int := fireR c ⟨leaf, rep c⟩ ((enabledS c leaf (v : Int)).getD 0 default)
theorem leaf_valid {c : T48} {leaf : Int} (h : leaf ∈ leavesS c) : validS c ⟨leaf, rep c⟩ = true := by
 obtain ⟨h1, h2⟩ := leavesS_iff.1 h
 exact validS_iff.2 ⟨h1, h2, mem_begin⟩
theorem go_of {c : T48} (hc : checkM c = some 0) {leaf : Int} (hl : leaf ∈ leavesS c) {v : Nat} (ha : allowedS c (v : Int) = true) (h1 : (enabledS c leaf (v : Int)).length = 1) : stepM c ⟨leaf, rep c⟩ (v : Int) = some (goS c leaf v) := by
 unfold stepM
 rw [hc, Option.bind_some, leaf_valid hl, ha]
 simp only [h1]
 rfl
theorem go_leaf {c : T48} (H : Fit c) {leaf : Int} {v : Int} {r : T71 × List (List UInt8) × Int} (h : stepM c ⟨leaf, rep c⟩ v = some r) (h0 : r.2.2 = 0) : r.1.Leaf ∈ leavesS c ∧ r.2.1.length ≤ 32000 := by
 obtain ⟨h1, h2⟩ := stepM_ok H h
 obtain ⟨g1, g2, _⟩ := validS_iff.1 (h2 h0).2.2
 exact ⟨leavesS_iff.2 ⟨g1, g2⟩, h1⟩
def al1 (b : Nat) : Bool := allowedS C1 (valS C1 b)
def al2 (b : Nat) : Bool := allowedS C2 (valS C2 b)
def al3 (b : Nat) : Bool := allowedS C3 (valS C3 b)
theorem mem1 {l : Nat} (h1 : 1 ≤ l) (h2 : l ≤ 6) : (l : Int) ∈ leavesS C1 := by
 rw [lea1]
 have : l = 1 ∨ l = 2 ∨ l = 3 ∨ l = 4 ∨ l = 5 ∨ l = 6 := by omega
 rcases this with rfl | rfl | rfl | rfl | rfl | rfl <;> simp
theorem leaf1 {x : Int} (h : x ∈ leavesS C1) : 1 ≤ x ∧ x ≤ 6 := by
 rw [lea1] at h
 simp only [List.mem_cons, List.not_mem_nil, or_false] at h
 omega
theorem val1 {b : Nat} (hb : b < 4294967296) : m41 C1 (b : Int) = some ((valS C1 b : Int), al1 b) := valuation_eq fit1 pos1 (by decide) hb
theorem go1 {l : Nat} (h1 : 1 ≤ l) (h2 : l ≤ 6) {b : Nat} (ha : al1 b = true) : stepM C1 ⟨(l : Int), rep C1⟩ ((valS C1 b : Nat) : Int) = some (goS C1 l (valS C1 b)) :=
 go_of chk1 (mem1 h1 h2) ha (one1 (valS_lt (c := C1)) (mem1 h1 h2) ha)
theorem cstep1 {l : Nat} (h1 : 1 ≤ l) (h2 : l ≤ 6) {b : Nat} (ha : al1 b = true) : m31 C1 ⟨(l : Int), rep C1⟩ ((valS C1 b : Nat) : Int) = some (goS C1 l (valS C1 b)) := by rw [Step_eq C1 fit1]; exact go1 h1 h2 ha
theorem rep1 : m42 ([-1] : List Int) (C1.States.length : Int) = some (rep C1) := by kernel_rfl
theorem gol1 {l : Nat} (h1 : 1 ≤ l) (h2 : l ≤ 6) {b : Nat} (ha : al1 b = true) : (1 ≤ (goS C1 l (valS C1 b)).1.Leaf ∧ (goS C1 l (valS C1 b)).1.Leaf ≤ 6) ∧ (goS C1 l (valS C1 b)).2.1.length ≤ 32000 := by
 obtain ⟨g1, g2⟩ := go_leaf fit1 (go1 h1 h2 ha) rfl
 exact ⟨leaf1 g1, g2⟩
theorem mem2 {l : Nat} (h1 : 1 ≤ l) (h2 : l ≤ 8) : (l : Int) ∈ leavesS C2 := by
 rw [lea2]
 have : l = 1 ∨ l = 2 ∨ l = 3 ∨ l = 4 ∨ l = 5 ∨ l = 6 ∨ l = 7 ∨ l = 8 := by omega
 rcases this with rfl | rfl | rfl | rfl | rfl | rfl | rfl | rfl <;> simp
theorem leaf2 {x : Int} (h : x ∈ leavesS C2) : 1 ≤ x ∧ x ≤ 8 := by
 rw [lea2] at h
 simp only [List.mem_cons, List.not_mem_nil, or_false] at h
 omega
theorem val2 {b : Nat} (hb : b < 4294967296) : m41 C2 (b : Int) = some ((valS C2 b : Int), al2 b) := valuation_eq fit2 pos2 (by decide) hb
theorem go2 {l : Nat} (h1 : 1 ≤ l) (h2 : l ≤ 8) {b : Nat} (ha : al2 b = true) : stepM C2 ⟨(l : Int), rep C2⟩ ((valS C2 b : Nat) : Int) = some (goS C2 l (valS C2 b)) :=
 go_of chk2 (mem2 h1 h2) ha (one2 (valS_lt (c := C2)) (mem2 h1 h2) ha)
theorem cstep2 {l : Nat} (h1 : 1 ≤ l) (h2 : l ≤ 8) {b : Nat} (ha : al2 b = true) : m31 C2 ⟨(l : Int), rep C2⟩ ((valS C2 b : Nat) : Int) = some (goS C2 l (valS C2 b)) := by rw [Step_eq C2 fit2]; exact go2 h1 h2 ha
theorem rep2 : m42 ([-1] : List Int) (C2.States.length : Int) = some (rep C2) := by kernel_rfl
theorem gol2 {l : Nat} (h1 : 1 ≤ l) (h2 : l ≤ 8) {b : Nat} (ha : al2 b = true) : (1 ≤ (goS C2 l (valS C2 b)).1.Leaf ∧ (goS C2 l (valS C2 b)).1.Leaf ≤ 8) ∧ (goS C2 l (valS C2 b)).2.1.length ≤ 32000 := by
 obtain ⟨g1, g2⟩ := go_leaf fit2 (go2 h1 h2 ha) rfl
 exact ⟨leaf2 g1, g2⟩
theorem mem3 {l : Nat} (h1 : 1 ≤ l) (h2 : l ≤ 8) : (l : Int) ∈ leavesS C3 := by
 rw [lea3]
 have : l = 1 ∨ l = 2 ∨ l = 3 ∨ l = 4 ∨ l = 5 ∨ l = 6 ∨ l = 7 ∨ l = 8 := by omega
 rcases this with rfl | rfl | rfl | rfl | rfl | rfl | rfl | rfl <;> simp
theorem leaf3 {x : Int} (h : x ∈ leavesS C3) : 1 ≤ x ∧ x ≤ 8 := by
 rw [lea3] at h
 simp only [List.mem_cons, List.not_mem_nil, or_false] at h
 omega
theorem val3 {b : Nat} (hb : b < 4294967296) : m41 C3 (b : Int) = some ((valS C3 b : Int), al3 b) := valuation_eq fit3 pos3 (by decide) hb
theorem go3 {l : Nat} (h1 : 1 ≤ l) (h2 : l ≤ 8) {b : Nat} (ha : al3 b = true) : stepM C3 ⟨(l : Int), rep C3⟩ ((valS C3 b : Nat) : Int) = some (goS C3 l (valS C3 b)) :=
 go_of chk3 (mem3 h1 h2) ha (one3 (valS_lt (c := C3)) (mem3 h1 h2) ha)
theorem cstep3 {l : Nat} (h1 : 1 ≤ l) (h2 : l ≤ 8) {b : Nat} (ha : al3 b = true) : m31 C3 ⟨(l : Int), rep C3⟩ ((valS C3 b : Nat) : Int) = some (goS C3 l (valS C3 b)) := by rw [Step_eq C3 fit3]; exact go3 h1 h2 ha
theorem rep3 : m42 ([-1] : List Int) (C3.States.length : Int) = some (rep C3) := by kernel_rfl
theorem gol3 {l : Nat} (h1 : 1 ≤ l) (h2 : l ≤ 8) {b : Nat} (ha : al3 b = true) : (1 ≤ (goS C3 l (valS C3 b)).1.Leaf ∧ (goS C3 l (valS C3 b)).1.Leaf ≤ 8) ∧ (goS C3 l (valS C3 b)).2.1.length ≤ 32000 := by
 obtain ⟨g1, g2⟩ := go_leaf fit3 (go3 h1 h2 ha) rfl
 exact ⟨leaf3 g1, g2⟩
def stepP (l v p b : Nat) : T23 × List (List UInt8) × Int :=
 if (!validN l v p) = true then (⟨0, 0, 0⟩, [], 8)
 else if 524288 ≤ b then (⟨0, 0, 0⟩, [], 1)
 else if (!(al1 b && al2 b && al3 b)) = true then (⟨0, 0, 0⟩, [], 11)
 else (⟨(goS C1 l (valS C1 b)).1.Leaf, (goS C2 v (valS C2 b)).1.Leaf, (goS C3 p (valS C3 b)).1.Leaf⟩, (goS C1 l (valS C1 b)).2.1 ++ (goS C2 v (valS C2 b)).2.1 ++ (goS C3 p (valS C3 b)).2.1, 0)
theorem shr19s {b : Nat} (hb : b < 4294967296) : (Int.fdiv (b : Int) (2 ^ (min (namesL.length : Int).toNat (IntKind.bits .u32))) != (0 : Int)) = decide (524288 ≤ b) := by
 rw [show (namesL.length : Int).toNat = 19 from rfl, show IntKind.bits .u32 = 32 from rfl, fdiv_pow (by omega), Bool.eq_iff_iff, decide_eq_true_eq, bne_iff_ne, ne_eq]
 omega
theorem Step_eqM {l v p b : Nat} (hl : l < 256) (hv : v < 256) (hp : p < 256) (hb : b < 4294967296) : m11 ⟨(l : Int), (v : Int), (p : Int)⟩ (b : Int) = some (stepP l v p b) := by
 have hn0 : (0 : Int) ≤ (namesL.length : Int) := by decide
 have e0 := Valid_eq hl hv hp
 have en := Names_eq
 have h19' := shr19s hb
 have r1 := read1
 have r2 := read2
 have r3 := read3
 have w1 := val1 hb
 have w2 := val2 hb
 have w3 := val3 hb
 have p1 := rep1
 have p2 := rep2
 have p3 := rep3
 have z1 : IntKind.wrap .i64 (l : Int) = (l : Int) := w64 (by omega) (by omega)
 have z2 : IntKind.wrap .i64 (v : Int) = (v : Int) := w64 (by omega) (by omega)
 have z3 : IntKind.wrap .i64 (p : Int) = (p : Int) := w64 (by omega) (by omega)
 have good : validN l v p = true → al1 b = true → al2 b = true → al3 b = true →
   (m31 C1 ⟨(l : Int), rep C1⟩ ((valS C1 b : Nat) : Int) = some (goS C1 l (valS C1 b)) ∧ m31 C2 ⟨(v : Int), rep C2⟩ ((valS C2 b : Nat) : Int) = some (goS C2 v (valS C2 b)) ∧ m31 C3 ⟨(p : Int), rep C3⟩ ((valS C3 b : Nat) : Int) = some (goS C3 p (valS C3 b))) ∧
   ((goS C1 l (valS C1 b)).2.2 = 0 ∧ (goS C2 v (valS C2 b)).2.2 = 0 ∧ (goS C3 p (valS C3 b)).2.2 = 0) ∧
   ((goS C1 l (valS C1 b)).2.1.length * 16 ≤ 140737488355328 ∧ ((goS C1 l (valS C1 b)).2.1.length + (goS C2 v (valS C2 b)).2.1.length) * 16 ≤ 140737488355328 ∧ (((goS C1 l (valS C1 b)).2.1 ++ (goS C2 v (valS C2 b)).2.1).length + (goS C3 p (valS C3 b)).2.1.length) * 16 ≤ 140737488355328) ∧
   (IntKind.wrap .u8 (goS C1 l (valS C1 b)).1.Leaf = (goS C1 l (valS C1 b)).1.Leaf ∧ IntKind.wrap .u8 (goS C2 v (valS C2 b)).1.Leaf = (goS C2 v (valS C2 b)).1.Leaf ∧ IntKind.wrap .u8 (goS C3 p (valS C3 b)).1.Leaf = (goS C3 p (valS C3 b)).1.Leaf) := by
  intro hval a1 a2 a3
  simp only [validN, Bool.and_eq_true, decide_eq_true_eq] at hval
  obtain ⟨⟨⟨l1, l2⟩, v1, v2⟩, p1, p2⟩ := hval
  obtain ⟨⟨c1, c2⟩, c3⟩ := gol1 l1 l2 a1
  obtain ⟨⟨d1, d2⟩, d3⟩ := gol2 v1 v2 a2
  obtain ⟨⟨e1, e2⟩, e3⟩ := gol3 p1 p2 a3
  exact ⟨⟨cstep1 l1 l2 a1, cstep2 v1 v2 a2, cstep3 p1 p2 a3⟩, ⟨rfl, rfl, rfl⟩, ⟨by omega, by omega, by rw [List.length_append]; omega⟩, IntWalk.u8_in _ (by omega), IntWalk.u8_in _ (by omega), IntWalk.u8_in _ (by omega)⟩
 unfold stepP
 simp only [M11, bind_id]
 generalize goS C1 l (valS C1 b) = g1 at good ⊢
 generalize goS C2 v (valS C2 b) = g2 at good ⊢
 generalize goS C3 p (valS C3 b) = g3 at good ⊢
 generalize ((valS C1 b : Nat) : Int) = y1 at good w1
 generalize ((valS C2 b : Nat) : Int) = y2 at good w2
 generalize ((valS C3 b : Nat) : Int) = y3 at good w3
 generalize rep C1 = q1 at good p1
 generalize rep C2 = q2 at good p2
 generalize rep C3 = q3 at good p3
 generalize C1 = c1 at good r1 w1 p1
 generalize C2 = c2 at good r2 w2 p2
 generalize C3 = c3 at good r3 w3 p3
 generalize al1 b = b1 at good w1 ⊢
 generalize al2 b = b2 at good w2 ⊢
 generalize al3 b = b3 at good w3 ⊢
 generalize validN l v p = bv at good e0 ⊢
 generalize namesL = nl at hn0 en h19'
 generalize m19 = F at r1 r2 r3 ⊢
 generalize m41 = G at w1 w2 w3 ⊢
 generalize m31 = S at good ⊢
 generalize m42 = Q at p1 p2 p3 ⊢
 generalize m22 = V at e0 ⊢
 generalize m33 = M at en ⊢
 cases bv with
 | false => simp only [e0, bs, or_, Bool.not_false, if_true]
 | true =>
  by_cases h19 : 524288 ≤ b
  ·simp only [e0, en, hn0, h19', h19, decide_true, bs, or_, Bool.not_true, Bool.false_eq_true, if_false, if_true]
  ·cases b1 with
   | false => simp only [e0, en, hn0, h19', h19, decide_false, r1, w1, bs, ol, or_, oe, Bool.not_true, Bool.not_false, Bool.false_and, Bool.false_eq_true, if_false, if_true]
   | true =>
    cases b2 with
    | false => simp only [e0, en, hn0, h19', h19, decide_false, r1, w1, r2, w2, bs, ol, or_, oe, Bool.not_true, Bool.not_false, Bool.true_and, Bool.false_and, Bool.false_eq_true, if_false, if_true]
    | true =>
     cases b3 with
     | false => simp only [e0, en, hn0, h19', h19, decide_false, r1, w1, r2, w2, r3, w3, bs, ol, or_, oe, Bool.not_true, Bool.not_false, Bool.true_and, Bool.false_and, Bool.false_eq_true, if_false, if_true]
     | true =>
      obtain ⟨⟨s1, s2, s3⟩, ⟨o1, o2, o3⟩, ⟨f1, f2, f3⟩, k1, k2, k3⟩ := good rfl rfl rfl rfl
      simp only [e0, en, hn0, h19', h19, decide_false, r1, w1, r2, w2, r3, w3, p1, p2, p3, z1, z2, z3, s1, s2, s3, o1, o2, o3, f1, f2, f3, k1, k2, k3,
       bs, ol, or_, oe, bne_self_eq_false, Bool.not_true, Bool.not_false, Bool.true_and, Bool.false_and, Bool.false_eq_true, if_false, if_true]
set_option maxRecDepth 1000000
def headS (p : List UInt8) : List (List UInt8) → List (List UInt8)
 | [] => [p]
 | l :: r => (p ++ l) :: r
def linesS : List UInt8 → List (List UInt8)
 | [] => [[]]
 | c :: s => match Nat.beq c.toNat 10 with
  | true => [] :: linesS s
  | false => headS [c] (linesS s)
theorem linesS_t {c : UInt8} {s : List UInt8} (h : Nat.beq c.toNat 10 = true) : linesS (c :: s) = [] :: linesS s := by rw [linesS, h]
theorem linesS_f {c : UInt8} {s : List UInt8} (h : Nat.beq c.toNat 10 = false) : linesS (c :: s) = headS [c] (linesS s) := by rw [linesS, h]
theorem linesS_ne : ∀ s, ∃ l r, linesS s = l :: r
 | [] => ⟨_, _, rfl⟩
 | c :: s => by
  unfold linesS
  split
  ·exact ⟨_, _, rfl⟩
  ·obtain ⟨l, r, h⟩ := linesS_ne s
   rw [h]; exact ⟨_, _, rfl⟩
theorem headS_headS (p q : List UInt8) (l : List (List UInt8)) : headS p (headS q l) = headS (p ++ q) l := by cases l <;> simp [headS]
theorem M145 (a0 : List UInt8) : m145 a0 = ((Option.bind (some (.inl ())) (onS fun (_ : Unit) => (Option.bind (Option.bind (some (.inl ())) (onS fun (_ : Unit) => (loopO (fun (s1 : (List (List UInt8)) × Int × Int) => ((if (decide (s1.2.2 ≤ (a0.length : Int))) = true then (if (!(s1.2.2 == (a0.length : Int))) = true → (0 ≤ s1.2.2) then (if (!(s1.2.2 == (a0.length : Int))) = true → (s1.2.2 < (a0.length : Int)) then (if ((s1.2.2 == (a0.length : Int)) || ((byteAt a0 s1.2.2.toNat) == 10)) = true then (if (0 ≤ s1.2.1) then (if (s1.2.1 ≤ s1.2.2) then (if (s1.2.2 ≤ (a0.length : Int)) then (if ((s1.1.length + 1) * 16 ≤ 140737488355328) then (some (.inl ((s1.1 ++ ([((a0.take s1.2.2.toNat).drop s1.2.1.toNat)] : List (List UInt8))), (IntKind.wrap .i64 (s1.2.2 + 1)), (IntKind.wrap .i64 (s1.2.2 + 1))))) else none) else none) else none) else none) else (some (.inl (s1.1, s1.2.1, (IntKind.wrap .i64 (s1.2.2 + 1)))))) else none) else none) else (some (.inr (.inl s1.1)))) : Option (((List (List UInt8)) × Int × Int) ⊕ (((List (List UInt8))) ⊕ ((List (List UInt8))))))) ([], (0 : Int), (0 : Int))))) (onS fun (y2 : (List (List UInt8))) => (some y2))))) : Option ((List (List UInt8)))) := by kernel_rfl
theorem M101o0 (a0 : List UInt8) : m101o0 a0 = ((Option.bind (if (decide (262144 < (a0.length : Int))) = true then (some (.inr ((([(⟨(1 : Int), (1 : Int), (3 : Int)⟩ : T136)] : List T136), [])))) else (some (.inl ()))) (onS fun (_ : Unit) => (Option.bind (Option.bind (Option.bind (Option.bind (m145 a0) fun r => some r) fun x5 => (some (.inl (x5, (x5.length : Int))))) (onS fun (y1 : (List (List UInt8)) × Int) => (loopO (fun (s2 : (List T139) × (List T136) × Int) => ((if (decide (s2.2.2 < y1.2)) = true then (if (0 ≤ s2.2.2) then (if (s2.2.2 < (y1.1.length : Int)) then (Option.bind (Option.bind (m146 (y1.1.getD s2.2.2.toNat default)) fun r => some r) fun x8 => (if (x8.2.2 != 0) = true then (if (decide ((s2.2.1.length : Int) < (50 : Int))) = true then (if ((s2.2.1.length + 1) * 24 ≤ 140737488355328) then (some (.inl (s2.1, (s2.2.1 ++ ([(⟨(IntKind.wrap .i64 (s2.2.2 + 1)), x8.2.1, x8.2.2⟩ : T136)] : List T136)), (IntKind.wrap .i64 (s2.2.2 + 1))))) else none) else (some (.inl (s2.1, s2.2.1, (IntKind.wrap .i64 (s2.2.2 + 1)))))) else (if (decide (0 < (x8.1.length : Int))) = true then (if ((s2.1.length + 1) * 32 ≤ 140737488355328) then (some (.inl ((s2.1 ++ ([(⟨(IntKind.wrap .i64 (s2.2.2 + 1)), x8.1⟩ : T139)] : List T139)), s2.2.1, (IntKind.wrap .i64 (s2.2.2 + 1))))) else none) else (some (.inl (s2.1, s2.2.1, (IntKind.wrap .i64 (s2.2.2 + 1)))))))) else none) else none) else (some (.inr (.inl (s2.1, s2.2.1))))) : Option (((List T139) × (List T136) × Int) ⊕ (((List T139) × (List T136)) ⊕ ((List T136) × (List T139)))))) ([], [], (0 : Int))))) (onS fun (y3 : (List T139) × (List T136)) => (some (y3.2, y3.1)))))) : Option ((List T136) × (List T139))) := by kernel_rfl
theorem M63 (a0 : List UInt8) : m63 a0 = ((Option.bind (Option.bind (Option.bind (m101o0 a0) fun r => some r) fun x1 => (if (((x1.1.length : Int) == (0 : Int)) && ((x1.2.length : Int) == (0 : Int))) = true then (if (decide ((0 : Int) < (1 : Int))) = true then (some (.inr (((⟨([] : List UInt8), [], [], [], (0 : Int), []⟩ : T48), ([(⟨(1 : Int), (1 : Int), (9 : Int)⟩ : T136)] : List T136))))) else (some (.inl (x1.2, ([(⟨(1 : Int), (1 : Int), (9 : Int)⟩ : T136)] : List T136))))) else (if (decide (0 < (x1.1.length : Int))) = true then (some (.inr (((⟨([] : List UInt8), [], [], [], (0 : Int), []⟩ : T48), x1.1)))) else (some (.inl (x1.2, x1.1)))))) (onS fun (y1 : (List T139) × (List T136)) => (Option.bind (Option.bind (some (.inl ())) (onS fun (_ : Unit) => (loopO (fun (s2 : (List T136) × Int) => ((if (decide (s2.2 < (y1.1.length : Int))) = true then (if (0 ≤ s2.2) then (if (s2.2 < (y1.1.length : Int)) then (if ((0 : Int) ≤ (0 : Int)) then (if (0 < ((y1.1.getD s2.2.toNat default).Fields.length : Int)) then (Option.bind (Option.bind (m102 (y1.1.getD s2.2.toNat default)) fun r => some r) fun x10 => (if (decide (x10 < 0)) = true then (if (true && (decide ((s2.1.length : Int) < (50 : Int)))) = true then (if ((s2.1.length + 1) * 24 ≤ 140737488355328) then (some (.inl ((s2.1 ++ ([(⟨(y1.1.getD s2.2.toNat default).Number, ((y1.1.getD s2.2.toNat default).Fields.getD (0 : Int).toNat default).Column, (4 : Int)⟩ : T136)] : List T136)), (IntKind.wrap .i64 (s2.2 + 1))))) else none) else (some (.inl (s2.1, (IntKind.wrap .i64 (s2.2 + 1)))))) else (Option.bind ((if (((!((s2.2 == 0) && (x10 != 0))) && (decide (0 < s2.2))) && (!(x10 == 0))) = true → 0 ≤ (IntKind.wrap .i64 (s2.2 - 1)) then (if (((!((s2.2 == 0) && (x10 != 0))) && (decide (0 < s2.2))) && (!(x10 == 0))) = true → (IntKind.wrap .i64 (s2.2 - 1)) < (y1.1.length : Int) then ((if (((!((s2.2 == 0) && (x10 != 0))) && (decide (0 < s2.2))) && (!(x10 == 0))) = true then m102 (y1.1.getD (IntKind.wrap .i64 (s2.2 - 1)).toNat default) else some default).bind fun r14_0 => ((if (((!((s2.2 == 0) && (x10 != 0))) && (decide (0 < s2.2))) && (!(x10 == 0))) = true then m103 x10 r14_0 else some default).bind fun r14_1 => some (r14_0, r14_1))) else none) else none)) fun (x14 : (Int × Bool)) => (if (((s2.2 == 0) && (x10 != 0)) || ((decide (0 < s2.2)) && ((x10 == 0) || (!x14.2)))) = true then (if (true && (decide ((s2.1.length : Int) < (50 : Int)))) = true then (if ((s2.1.length + 1) * 24 ≤ 140737488355328) then (some (.inl ((s2.1 ++ ([(⟨(y1.1.getD s2.2.toNat default).Number, ((y1.1.getD s2.2.toNat default).Fields.getD (0 : Int).toNat default).Column, (9 : Int)⟩ : T136)] : List T136)), (IntKind.wrap .i64 (s2.2 + 1))))) else none) else (some (.inl (s2.1, (IntKind.wrap .i64 (s2.2 + 1)))))) else (Option.bind (Option.bind (m104 (y1.1.getD s2.2.toNat default)) fun r => some r) fun x16 => (if (x16.2 && (decide ((s2.1.length : Int) < (50 : Int)))) = true then (if ((s2.1.length + 1) * 24 ≤ 140737488355328) then (some (.inl ((s2.1 ++ ([x16.1] : List T136)), (IntKind.wrap .i64 (s2.2 + 1))))) else none) else (some (.inl (s2.1, (IntKind.wrap .i64 (s2.2 + 1))))))))))) else none) else none) else none) else none) else (some (.inr (.inl s2.1)))) : Option (((List T136) × Int) ⊕ (((List T136)) ⊕ (T48 × (List T136)))))) (y1.2, (0 : Int))))) (onS fun (y3 : (List T136)) => (Option.bind (if (decide (0 < (y3.length : Int))) = true then (some (.inr (((⟨([] : List UInt8), [], [], [], (0 : Int), []⟩ : T48), y3)))) else (some (.inl ()))) (onS fun (_ : Unit) => (Option.bind (Option.bind (some (.inl ())) (onS fun (_ : Unit) => (loopO (fun (s4 : (List T136) × Int) => ((if (decide (s4.2 < (y1.1.length : Int))) = true then (if (0 ≤ s4.2) then (if (s4.2 < (y1.1.length : Int)) then (Option.bind (Option.bind (m105 y1.1 (y1.1.getD s4.2.toNat default)) fun r => some r) fun x25 => (if ((decide (0 < x25)) && (decide ((s4.1.length : Int) < (50 : Int)))) = true then (if ((s4.1.length + 1) * 24 ≤ 140737488355328) then (some (.inl ((s4.1 ++ ([(⟨(y1.1.getD s4.2.toNat default).Number, x25, (6 : Int)⟩ : T136)] : List T136)), (IntKind.wrap .i64 (s4.2 + 1))))) else none) else (some (.inl (s4.1, (IntKind.wrap .i64 (s4.2 + 1))))))) else none) else none) else (some (.inr (.inl s4.1)))) : Option (((List T136) × Int) ⊕ (((List T136)) ⊕ (T48 × (List T136)))))) (y3, (0 : Int))))) (onS fun (y5 : (List T136)) => (if (decide (0 < (y5.length : Int))) = true then (some ((⟨([] : List UInt8), [], [], [], (0 : Int), []⟩ : T48), y5)) else (Option.bind (Option.bind (m106 y1.1) fun r => some r) fun x31 => (Option.bind (Option.bind (m107 x31) fun r => some r) fun x32 => (if (x32 != 0) = true then (some ((⟨([] : List UInt8), [], [], [], (0 : Int), []⟩ : T48), ([(⟨(1 : Int), (1 : Int), x32⟩ : T136)] : List T136))) else (some (x31, [])))))))))))))) : Option (T48 × (List T136))) := by kernel_rfl
theorem M37 (a0 : Int) : m37 a0 = ((if ((decide (a0 < 1)) || (decide (3 < a0))) = true then (some ((⟨([] : List UInt8), [], [], [], (0 : Int), []⟩ : T48), (1 : Int))) else (Option.bind (((m36 a0).bind fun r3_0 => ((m63 r3_0).bind fun r3_1 => some (r3_0, r3_1)))) fun (x3 : ((List UInt8) × (T48 × (List T136)))) => (some (x3.2.1, (0 : Int))))) : Option (T48 × Int)) := by kernel_rfl
theorem Lines_eq (s : List UInt8) (hs : s.length ≤ 1000000) : m145 s = some (linesS s) := by
 simp only [M145, bs, ol]
 have key := loop_inv (b := fun (s1 : List (List UInt8) × Int × Int) => (if (decide (s1.2.2 ≤ (s.length : Int))) = true then (if (!(s1.2.2 == (s.length : Int))) = true → ((0 : Int) ≤ s1.2.2) then (if (!(s1.2.2 == (s.length : Int))) = true → (s1.2.2 < (s.length : Int)) then (if ((s1.2.2 == (s.length : Int)) || ((byteAt s s1.2.2.toNat) == (10 : Int))) = true then (if ((0 : Int) ≤ s1.2.1) then (if (s1.2.1 ≤ s1.2.2) then (if (s1.2.2 ≤ (s.length : Int)) then (if ((s1.1.length + 1) * 16 ≤ 140737488355328) then (some (.inl ((s1.1 ++ ([((s.take s1.2.2.toNat).drop s1.2.1.toNat)] : List (List UInt8))), (IntKind.wrap .i64 (s1.2.2 + (1 : Int))), (IntKind.wrap .i64 (s1.2.2 + (1 : Int))))) : Option (((List (List UInt8)) × Int × Int) ⊕ (((List (List UInt8))) ⊕ ((List (List UInt8)))))) else none) else none) else none) else none) else (some (.inl (s1.1, s1.2.1, (IntKind.wrap .i64 (s1.2.2 + (1 : Int))))) : Option (((List (List UInt8)) × Int × Int) ⊕ (((List (List UInt8))) ⊕ ((List (List UInt8))))))) else none) else none) else (some (.inr (.inl s1.1)) : Option (((List (List UInt8)) × Int × Int) ⊕ (((List (List UInt8))) ⊕ ((List (List UInt8))))))))
  (fun m st => ∃ (out : List (List UInt8)) (b i : Nat), st = (out, (b : Int), (i : Int)) ∧ out.length ≤ i ∧ m = s.length + 1 - i ∧ ((b ≤ i ∧ i ≤ s.length ∧ out ++ headS ((s.take i).drop b) (linesS (s.drop i)) = linesS s) ∨ (i = s.length + 1 ∧ out = linesS s))) (fun x => x = .inl (linesS s)) ?_ (s.length + 1) ([], (0 : Int), (0 : Int)) ⟨[], 0, 0, rfl, by simp, by omega, .inl ⟨by omega, by omega, by
   obtain ⟨l, r, h⟩ := linesS_ne s
   simp [h, headS]⟩⟩
 ·obtain ⟨x, h1, rfl⟩ := key
  exact on_l h1 rfl
 ·rintro m st ⟨out, b, i, rfl, ho, rfl, ⟨hb, hi, he⟩ | ⟨rfl, he⟩⟩
  ·left
   have w1 : IntKind.wrap .i64 ((i : Int) + 1) = ((i + 1 : Nat) : Int) := w64 (by omega) (by omega)
   have d1 : decide ((i : Int) ≤ (s.length : Int)) = true := by simp; omega
   have a1 : ((0 : Int) ≤ (i : Int)) = True := eq_true (by omega)
   have a2 : ((0 : Int) ≤ (b : Int)) = True := eq_true (by omega)
   have a3 : ((b : Int) ≤ (i : Int)) = True := eq_true (by omega)
   have a4 : ((i : Int) ≤ (s.length : Int)) = True := eq_true (by omega)
   have a5 : ((out.length + 1) * 16 ≤ 140737488355328) = True := eq_true (by omega)
   rcases Nat.lt_or_eq_of_le hi with hlt | heq
   ·have n1 : ((i : Int) == (s.length : Int)) = false := by simp; omega
    have a6 : ((i : Int) < (s.length : Int)) = True := eq_true (by omega)
    have hd : s.drop i = s[i] :: s.drop (i + 1) := List.drop_eq_getElem_cons hlt
    have hb10 : byteAt s i = (s[i].toNat : Int) := by simp only [byteAt, List.getElem?_eq_getElem hlt]
    rw [hd] at he
    cases hc : Nat.beq s[i].toNat 10 with
    | true =>
     have e10 : (byteAt s i == (10 : Int)) = true := by rw [hb10, Nat.eq_of_beq_eq_true hc]; rfl
     refine ⟨(out ++ [(s.take i).drop b], ((i + 1 : Nat) : Int), ((i + 1 : Nat) : Int)), ?_, s.length + 1 - (i + 1), by omega, _, i + 1, i + 1, rfl, by simp; omega, rfl, .inl ⟨by omega, by omega, ?_⟩⟩
     ·simp only [d1, decide_true, n1, a1, a2, a3, a4, a5, a6, Int.toNat_natCast, e10, Bool.or_true, implies_true, if_true, w1]
     ·rw [← he]
      rw [linesS_t hc]
      obtain ⟨l, r, h⟩ := linesS_ne (s.drop (i + 1))
      rw [h]
      simp [headS]
    | false =>
     have e10 : (byteAt s i == (10 : Int)) = false := by
      rw [hb10, beq_eq_false_iff_ne]
      intro h
      have : s[i].toNat = 10 := by omega
      rw [this] at hc; cases hc
     refine ⟨(out, (b : Int), ((i + 1 : Nat) : Int)), ?_, s.length + 1 - (i + 1), by omega, _, b, i + 1, rfl, by omega, rfl, .inl ⟨by omega, by omega, ?_⟩⟩
     ·simp only [d1, decide_true, n1, a1, a2, a3, a4, a5, a6, Int.toNat_natCast, e10, Bool.or_false, implies_true, if_true, Bool.false_eq_true, if_false, w1]
     ·rw [← he]
      rw [linesS_f hc, headS_headS]
      have ht : (s.take (i + 1)).drop b = (s.take i).drop b ++ [s[i]] := by
       rw [List.take_add_one, List.getElem?_eq_getElem hlt, List.drop_append]
       simp only [List.length_take, Option.toList_some]
       rw [show b - min i s.length = 0 by omega]; rfl
      rw [ht]
   ·subst heq
    have n1 : ((s.length : Int) == (s.length : Int)) = true := by simp
    refine ⟨(out ++ [(s.take s.length).drop b], ((s.length + 1 : Nat) : Int), ((s.length + 1 : Nat) : Int)), ?_, 0, by omega, _, s.length + 1, s.length + 1, rfl, by simp; omega, by omega, .inr ⟨rfl, ?_⟩⟩
    ·simp only [d1, decide_true, n1, a1, a2, a3, a5, Int.le_refl, Int.toNat_natCast, Bool.true_or, Bool.not_true, Bool.false_eq_true, false_implies, if_true, w1]
    ·rw [← he, List.drop_length]; simp [linesS, headS]
  ·right
   have d1 : decide (((s.length + 1 : Nat) : Int) ≤ (s.length : Int)) = false := by simp; omega
   exact ⟨_, by simp only [d1, Bool.false_eq_true, if_false]; rfl, by rw [he]⟩
def splitW : List UInt8 → Int → Int → List UInt8 → List T141
 | [], _, b, cur => [⟨cur.reverse, b + 1⟩]
 | c :: s, i, b, cur => match Nat.beq c.toNat 32 with
  | true => ⟨cur.reverse, b + 1⟩ :: splitW s (i + 1) (i + 1) []
  | false => splitW s (i + 1) b (c :: cur)
def linesX : Int → List (List UInt8) → List T139
 | _, [] => []
 | n, [] :: r => linesX (n + 1) r
 | n, (c :: s) :: r => ⟨n, splitW (c :: s) 0 0 []⟩ :: linesX (n + 1) r
set_option maxRecDepth 1000000
def outB (a : Int) : Bool := decide (a < 1) || decide (3 < a)
theorem axis_cases (a : Int) : outB a = true ∨ a = 1 ∨ a = 2 ∨ a = 3 := by
 cases h : outB a with
 | true => exact .inl rfl
 | false =>
  simp only [outB, Bool.or_eq_false_iff, decide_eq_false_iff_not] at h
  omega
def noChart : T48 := ⟨[], [], [], [], 0, []⟩
theorem rChart_out {a : Int} (h : outB a = true) : m37 a = some (noChart, 1) := by
 unfold outB at h
 rw [M37, if_pos h]; rfl
set_option maxRecDepth 1000000
open Go.Av.Ch
set_option maxRecDepth 1000000
noncomputable def src1 : List UInt8 := (m36 1).getD []
theorem src1_eq : m36 1 = some src1 := by kernel_rfl
theorem rRead1 : m101o0 src1 = some ([], linesX 1 (linesS src1)) := by
 have h := Lines_eq src1 (of_decide_eq_true (by kernel_rfl))
 rw [M101o0, h]
 show _ = some _
 kernel_rfl
theorem rParse1 : m63 src1 = some (C1, []) := by
 rw [M63, rRead1]
 show _ = some _
 kernel_rfl
theorem rread1 : (m37 1) = some (C1, 0) := by
 have h := rParse1
 have h2 := src1_eq
 rw [M37]
 generalize m63 = F at h ⊢
 generalize m36 = G at h2 ⊢
 rw [if_neg (by decide), h2, Option.bind_some, h]; rfl
set_option maxRecDepth 1000000
noncomputable def src2 : List UInt8 := (m36 2).getD []
theorem src2_eq : m36 2 = some src2 := by kernel_rfl
theorem rRead2 : m101o0 src2 = some ([], linesX 1 (linesS src2)) := by
 have h := Lines_eq src2 (of_decide_eq_true (by kernel_rfl))
 rw [M101o0, h]
 show _ = some _
 kernel_rfl
theorem rParse2 : m63 src2 = some (C2, []) := by
 rw [M63, rRead2]
 show _ = some _
 kernel_rfl
theorem rread2 : (m37 2) = some (C2, 0) := by
 have h := rParse2
 have h2 := src2_eq
 rw [M37]
 generalize m63 = F at h ⊢
 generalize m36 = G at h2 ⊢
 rw [if_neg (by decide), h2, Option.bind_some, h]; rfl
set_option maxRecDepth 1000000
noncomputable def src3 : List UInt8 := (m36 3).getD []
theorem src3_eq : m36 3 = some src3 := by kernel_rfl
theorem rRead3 : m101o0 src3 = some ([], linesX 1 (linesS src3)) := by
 have h := Lines_eq src3 (of_decide_eq_true (by kernel_rfl))
 rw [M101o0, h]
 show _ = some _
 kernel_rfl
theorem rParse3 : m63 src3 = some (C3, []) := by
 rw [M63, rRead3]
 show _ = some _
 kernel_rfl
theorem rread3 : (m37 3) = some (C3, 0) := by
 have h := rParse3
 have h2 := src3_eq
 rw [M37]
 generalize m63 = F at h ⊢
 generalize m36 = G at h2 ⊢
 rw [if_neg (by decide), h2, Option.bind_some, h]; rfl
set_option maxRecDepth 1000000
open Go.Av.Ch
theorem etaC (x : T48) : (⟨x.Name, x.Conds, x.Never, x.States, x.Start, x.Transitions⟩ : T48) = x := Eq.mpr rfl rfl
set_option maxRecDepth 1000000
open Go.Av.Ch
theorem M27 (a0 a1 : Int) : m27 a0 a1 = ((Option.bind (Option.bind (Option.bind (m37 a0) fun r => some r) fun x1 => (if (x1.2 != 0) = true then (some (.inr (([] : List UInt8)))) else (some (.inl (x1.1.Name, x1.1.Conds, x1.1.Never, x1.1.States, x1.1.Start, x1.1.Transitions))))) (onS fun (y1 : (List UInt8) × (List (List UInt8)) × (List (List T176)) × (List T57) × Int × (List T119)) => (Option.bind (Option.bind (Option.bind (Option.bind (m48 (⟨y1.1, y1.2.1, y1.2.2.1, y1.2.2.2.1, y1.2.2.2.2.1, y1.2.2.2.2.2⟩ : T48)) fun r => some r) fun x4 => (some (.inl (x4, (x4.length : Int))))) (onS fun (y2 : (List Int) × Int) => (loopO (fun (s3 : Int) => ((if (decide (s3 < y2.2)) = true then (if (0 ≤ s3) then (if (s3 < (y2.1.length : Int)) then (if ((y2.1.getD s3.toNat default) == (IntKind.wrap .i64 (a1))) = true then (if (0 ≤ (y2.1.getD s3.toNat default)) then (if ((y2.1.getD s3.toNat default) < (y1.2.2.2.1.length : Int)) then (some (.inr (.inr ((y1.2.2.2.1.getD (y2.1.getD s3.toNat default).toNat default).Name)))) else none) else none) else (some (.inl (IntKind.wrap .i64 (s3 + 1))))) else none) else none) else (some (.inr (.inl ())))) : Option ((Int) ⊕ ((Unit) ⊕ ((List UInt8)))))) (0 : Int)))) (onS fun (_ : Unit) => (some ([] : List UInt8)))))) : Option ((List UInt8))) := by kernel_rfl
theorem M24 (a0 : T30) : m24 a0 = ((Option.bind (((m27 (1 : Int) a0.Lateral).bind fun r1_0 => ((if (r1_0 != ([] : List UInt8)) = true then m27 (2 : Int) a0.Vertical else some default).bind fun r1_1 => ((if ((r1_0 != ([] : List UInt8)) && (r1_1 != ([] : List UInt8))) = true then m27 (3 : Int) a0.Phase else some default).bind fun r1_2 => some (r1_0, r1_1, r1_2))))) fun (x1 : ((List UInt8) × (List UInt8) × (List UInt8))) => (some (((x1.1 != ([] : List UInt8)) && (x1.2.1 != ([] : List UInt8))) && (x1.2.2 != ([] : List UInt8))))) : Option (Bool)) := by kernel_rfl
theorem nm1 : (List.range 7).all (fun n => Nat.beq n 0 || ((C1.States.getD n default).Name == nam1.getD n [])) = true := by kernel_rfl
theorem nm2 : (List.range 9).all (fun n => Nat.beq n 0 || ((C2.States.getD n default).Name == nam2.getD n [])) = true := by kernel_rfl
theorem nm3 : (List.range 9).all (fun n => Nat.beq n 0 || ((C3.States.getD n default).Name == nam3.getD n [])) = true := by kernel_rfl
theorem nm_of {c : T48} {l : List (List UInt8)} {k n : Nat} (h : (List.range k).all (fun n => Nat.beq n 0 || ((c.States.getD n default).Name == l.getD n [])) = true) (h1 : 1 ≤ n) (h2 : n < k) : l.getD n [] = (c.States.getD n default).Name := by
 simp only [List.all_eq_true] at h
 have := h n (List.mem_range.2 h2)
 rw [show Nat.beq n 0 = false from by cases n with | zero => omega | succ n => rfl, Bool.false_or] at this
 exact (eq_of_beq this).symm
theorem rName_of {a : Int} {c : T48} (H : Fit c) (hr : m37 a = some (c, 0)) {n : Nat} (hn : n < 256) : m27 a (n : Int) = some (if (n : Int) ∈ leavesS c then (c.States.getD n default).Name else []) := by
 have hlv := rLeaves_eq c H
 have hs := H.states
 have hl : (leavesS c).length ≤ 1000 := by
  have := flatMap_len (leafG_len c) c.States.length
  unfold leavesS; omega
 have w : IntKind.wrap .i64 (n : Int) = (n : Int) := w64 (by omega) (by omega)
 simp only [M27, bind_id]
 simp only [hr, bs, ol, bne_self_eq_false, Bool.false_eq_true, if_false, etaC, hlv, w]
 rw [loop_ex (leavesS c).length (fun i => if ((leavesS c).getD i default == (n : Int)) = true then some ((c.States.getD n default).Name) else none) ?_ ?_, firstR_const]
 ·have e : anyR (fun i => (leavesS c).getD i default == (n : Int)) (leavesS c).length = decide ((n : Int) ∈ leavesS c) := by
   rw [Bool.eq_iff_iff, anyR_iff, decide_eq_true_eq]
   constructor
   ·rintro ⟨i, hi, h⟩
    rw [← eq_of_beq h]; exact getD_mem hi
   ·intro h
    obtain ⟨i, hi, h⟩ := List.getElem_of_mem h
    exact ⟨i, hi, by simp [List.getD_eq_getElem?_getD, List.getElem?_eq_getElem hi, h]⟩
  rw [e]
  by_cases h : (n : Int) ∈ leavesS c
  ·rw [if_pos (by simpa using h), if_pos h, orK_some]
  ·rw [if_neg (by simpa using h), if_neg h, orK_none]
 ·intro i hi
  by_cases h : ((leavesS c).getD i default == (n : Int)) = true
  ·have hm : (leavesS c).getD i default ∈ leavesS c := getD_mem hi
   have e := eq_of_beq h
   rw [e] at hm
   obtain ⟨h1, h2⟩ := leavesS_iff.1 hm
   have h3 := isS_iff.1 h1
   simp only [inL hi, decide_true, Int.toNat_natCast, if_true, h, e, h3.1, h3.2, beq_self_eq_true, exB_some]
  ·simp only [inL hi, decide_true, Int.toNat_natCast, if_true, h, if_false, Bool.false_eq_true, wr1 hi (by omega), exB_none]
 ·(simp only [lt_irr, decide_false, Bool.false_eq_true, if_false]; try rfl)
theorem rName1 {n : Nat} (hn : n < 256) : m27 1 (n : Int) = some (nam1.getD n []) := by
 rw [rName_of fit1 rread1 hn]
 by_cases h : (n : Int) ∈ leavesS C1
 ·have hb := leaf1 h
  rw [if_pos h, nm_of nm1 (by omega) (by omega)]
 ·rw [if_neg h]
  have hz : n = 0 ∨ 7 ≤ n := by
   apply Classical.byContradiction
   intro hc
   exact h (mem1 (by omega) (by omega))
  rcases hz with rfl | hz
  ·rfl
  ·rw [List.getD_eq_getElem?_getD, List.getElem?_eq_none (by show nam1.length ≤ n; exact hz)]; rfl
theorem rName2 {n : Nat} (hn : n < 256) : m27 2 (n : Int) = some (nam2.getD n []) := by
 rw [rName_of fit2 rread2 hn]
 by_cases h : (n : Int) ∈ leavesS C2
 ·have hb := leaf2 h
  rw [if_pos h, nm_of nm2 (by omega) (by omega)]
 ·rw [if_neg h]
  have hz : n = 0 ∨ 9 ≤ n := by
   apply Classical.byContradiction
   intro hc
   exact h (mem2 (by omega) (by omega))
  rcases hz with rfl | hz
  ·rfl
  ·rw [List.getD_eq_getElem?_getD, List.getElem?_eq_none (by show nam2.length ≤ n; exact hz)]; rfl
theorem rName3 {n : Nat} (hn : n < 256) : m27 3 (n : Int) = some (nam3.getD n []) := by
 rw [rName_of fit3 rread3 hn]
 by_cases h : (n : Int) ∈ leavesS C3
 ·have hb := leaf3 h
  rw [if_pos h, nm_of nm3 (by omega) (by omega)]
 ·rw [if_neg h]
  have hz : n = 0 ∨ 9 ≤ n := by
   apply Classical.byContradiction
   intro hc
   exact h (mem3 (by omega) (by omega))
  rcases hz with rfl | hz
  ·rfl
  ·rw [List.getD_eq_getElem?_getD, List.getElem?_eq_none (by show nam3.length ≤ n; exact hz)]; rfl
theorem rmValid_eq {l v p : Nat} (hl : l < 256) (hv : v < 256) (hp : p < 256) : m24 ⟨(l : Int), (v : Int), (p : Int)⟩ = some (validN l v p) := by
 unfold validN
 rw [M24, ← nam1_ne hl, ← nam2_ne hv, ← nam3_ne hp]
 have hd : ((default : List UInt8) != ([] : List UInt8)) = false := rfl
 cases h1 : (nam1.getD l [] != ([] : List UInt8)) with
 | false => simp only [rName1 hl, bs, h1, hd, Bool.false_eq_true, if_false, Bool.false_and]
 | true =>
  cases h2 : (nam2.getD v [] != ([] : List UInt8)) with
  | false => simp only [rName1 hl, rName2 hv, bs, h1, h2, hd, Bool.false_eq_true, if_false, if_true, Bool.false_and, Bool.and_false]
  | true => simp only [rName1 hl, rName2 hv, rName3 hp, bs, h1, h2, if_true, Bool.and_true, Bool.true_and]
set_option maxRecDepth 1000000
open Go.Av.Ch
theorem ok_state {s : T23} (h : ok23 s) : ∃ l v p : Nat, s = ⟨(l : Int), (v : Int), (p : Int)⟩ ∧ l < 256 ∧ v < 256 ∧ p < 256 := by
 obtain ⟨h1, h2, h3⟩ := h
 obtain ⟨l, e1, g1⟩ := u8_nat h1
 obtain ⟨v, e2, g2⟩ := u8_nat h2
 obtain ⟨p, e3, g3⟩ := u8_nat h3
 obtain ⟨x, y, z⟩ := s
 simp only at e1 e2 e3
 subst e1 e2 e3
 exact ⟨l, v, p, rfl, g1, g2, g3⟩
theorem M10 : m10  = ((Option.bind (((m17 ).bind fun r1_0 => ((m11 r1_0 (16385 : Int)).bind fun r1_1 => some (r1_0, r1_1)))) fun (x1 : (T23 × (T23 × (List (List UInt8)) × Int))) => (Option.bind (Option.bind (m11 x1.2.1 (28 : Int)) fun r => some r) fun x2 => (Option.bind (((m25 x1.2.1).bind fun r3_0 => ((if (((r3_0 == ([82, 79, 76, 76, 32, 72, 79, 76, 68, 32, 84, 65, 75, 69, 79, 70, 70] : List UInt8)) && ((x1.2.2.1.length : Int) == (0 : Int))) && (x1.2.2.2 == 0)) = true then m25 x2.1 else some default).bind fun r3_1 => (if (((((r3_0 == ([82, 79, 76, 76, 32, 72, 79, 76, 68, 32, 84, 65, 75, 69, 79, 70, 70] : List UInt8)) && ((x1.2.2.1.length : Int) == (0 : Int))) && (x1.2.2.2 == 0)) && (r3_1 == ([78, 65, 86, 32, 72, 79, 76, 68, 32, 84, 65, 75, 69, 79, 70, 70] : List UInt8))) && ((x2.2.1.length : Int) == (1 : Int))) = true → (0 : Int) ≤ (0 : Int) then (if (((((r3_0 == ([82, 79, 76, 76, 32, 72, 79, 76, 68, 32, 84, 65, 75, 69, 79, 70, 70] : List UInt8)) && ((x1.2.2.1.length : Int) == (0 : Int))) && (x1.2.2.2 == 0)) && (r3_1 == ([78, 65, 86, 32, 72, 79, 76, 68, 32, 84, 65, 75, 69, 79, 70, 70] : List UInt8))) && ((x2.2.1.length : Int) == (1 : Int))) = true → 0 < (x2.2.1.length : Int) then some (r3_0, r3_1) else none) else none)))) fun (x3 : ((List UInt8) × (List UInt8))) => (some (((((((x3.1 == ([82, 79, 76, 76, 32, 72, 79, 76, 68, 32, 84, 65, 75, 69, 79, 70, 70] : List UInt8)) && ((x1.2.2.1.length : Int) == (0 : Int))) && (x1.2.2.2 == 0)) && (x3.2 == ([78, 65, 86, 32, 72, 79, 76, 68, 32, 84, 65, 75, 69, 79, 70, 70] : List UInt8))) && ((x2.2.1.length : Int) == (1 : Int))) && ((x2.2.1.getD (0 : Int).toNat default) == ([67, 65, 80, 84, 85, 82, 69, 68] : List UInt8))) && (x2.2.2 == 0)))))) : Option (Bool)) := by kernel_rfl
theorem wake1 : stepP 1 1 1 16385 = (⟨1, 1, 2⟩, [], 0) := by kernel_rfl
theorem wake2 : stepP 1 1 2 28 = (⟨4, 1, 2⟩, [[67, 65, 80, 84, 85, 82, 69, 68]], 0) := by kernel_rfl
theorem wake3 : m25 ⟨1, 1, 2⟩ = some [82, 79, 76, 76, 32, 72, 79, 76, 68, 32, 84, 65, 75, 69, 79, 70, 70] := by kernel_rfl
theorem wake4 : m25 ⟨4, 1, 2⟩ = some [78, 65, 86, 32, 72, 79, 76, 68, 32, 84, 65, 75, 69, 79, 70, 70] := by kernel_rfl
theorem start_eq : m17 = some ⟨1, 1, 1⟩ := by kernel_rfl
theorem awake_true : m10 = some true := by
 have e1 := Step_eqM (l := 1) (v := 1) (p := 1) (b := 16385) (by omega) (by omega) (by omega) (by omega)
 have e2 := Step_eqM (l := 1) (v := 1) (p := 2) (b := 28) (by omega) (by omega) (by omega) (by omega)
 rw [wake1] at e1
 rw [wake2] at e2
 simp only [Int.cast_ofNat_Int] at e1 e2
 have e3 := wake3
 have e4 := wake4
 have e5 := start_eq
 simp only [M10, bind_id]
 generalize m11 = F at e1 e2 ⊢
 generalize m25 = G at e3 e4 ⊢
 generalize m17 = S at e5 ⊢
 simp only [e5, bs, e1, e2, e3, e4]
 rfl
end Go.Av.Mo
set_option maxRecDepth 100000
namespace Go.Av
def headB (p : List UInt8) : List (List UInt8) → List (List UInt8)
 | [] => [p]
 | l :: r => (p ++ l) :: r
def splitB (c : UInt8) : List UInt8 → List (List UInt8)
 | [] => [[]]
 | b :: s => if b = c then [] :: splitB c s else headB [b] (splitB c s)
theorem splitB_cons {c b : UInt8} {s : List UInt8} : splitB c (b :: s) = if b = c then [] :: splitB c s else headB [b] (splitB c s) := rfl
theorem splitB_ne (c : UInt8) : ∀ s, ∃ l r, splitB c s = l :: r
 | [] => ⟨_, _, rfl⟩
 | b :: s => by
  rw [splitB_cons]
  split
  ·exact ⟨_, _, rfl⟩
  ·obtain ⟨l, r, h⟩ := splitB_ne c s
   rw [h]; exact ⟨_, _, rfl⟩
theorem splitB_none {c : UInt8} : ∀ {s : List UInt8}, s.count c = 0 → splitB c s = [s]
 | [], _ => rfl
 | b :: s, h => by
  rw [List.count_cons] at h
  have hb : ¬ b = c := fun e => by subst e; simp at h
  rw [splitB_cons]
  rw [if_neg hb, splitB_none (by omega)]
  rfl
theorem splitB_at {c : UInt8} : ∀ {s : List UInt8}, s.count c ≠ 0 → ∃ k : Nat, Lib.indexByte s c = (k : Int) ∧ k < s.length ∧ splitB c s = s.take k :: splitB c (s.drop (k + 1)) ∧ s.count c = (s.drop (k + 1)).count c + 1
 | [], h => absurd rfl h
 | b :: s, h => by
  by_cases hb : b = c
  ·subst hb
   refine ⟨0, by simp [Lib.indexByte], by simp, by simp [splitB], by simp⟩
  ·have hc : s.count c ≠ 0 := by rw [List.count_cons] at h; simpa [hb] using h
   obtain ⟨k, h1, h2, h3, h4⟩ := splitB_at hc
   refine ⟨k + 1, ?_, by simpa using h2, ?_, ?_⟩
   ·unfold Lib.indexByte
    rw [if_neg (by simpa using hb), h1, if_neg (by simp)]
    omega
   ·rw [splitB_cons, if_neg hb, h3]
    rfl
   ·rw [List.count_cons, if_neg (by simpa using hb), h4]
    rfl
theorem splitB_join {c : UInt8} {x y : List UInt8} (hx : c ∉ x) : splitB c (x ++ c :: y) = x :: splitB c y := by
 induction x with
 | nil => simp [splitB]
 | cons b x ih =>
  have hb : ¬ b = c := fun e => hx (by simp [e])
  rw [List.cons_append, splitB_cons, if_neg hb, ih fun h => hx (List.mem_cons_of_mem _ h)]
  rfl
theorem splitB_self {c : UInt8} {x : List UInt8} (hx : c ∉ x) : splitB c x = [x] := splitB_none (List.count_eq_zero.2 hx)
theorem splitB_glue {c : UInt8} : ∀ {s : List UInt8} {l : List UInt8} {r : List (List UInt8)}, splitB c s = l :: r → (r = [] ∧ s = l) ∨ ∃ t, s = l ++ c :: t ∧ splitB c t = r
 | [], l, r, h => by
  simp only [splitB, List.cons.injEq] at h
  exact .inl ⟨h.2.symm, h.1⟩
 | b :: s, l, r, h => by
  rw [splitB_cons] at h
  split at h
  ·rename_i hb
   simp only [List.cons.injEq] at h
   exact .inr ⟨s, by rw [← h.1, hb]; rfl, h.2⟩
  ·obtain ⟨l', r', h'⟩ := splitB_ne c s
   rw [h'] at h
   simp only [headB, List.cons.injEq] at h
   rcases splitB_glue h' with ⟨h1, h2⟩ | ⟨t, h1, h2⟩
   ·exact .inl ⟨by rw [← h.2]; exact h1, by rw [h2, ← h.1]; rfl⟩
   ·exact .inr ⟨t, by rw [h1, ← h.1]; rfl, by rw [h2]; exact h.2⟩
theorem M136 (a0 a1 : List UInt8) : m136 a0 a1 = ((Option.bind (Option.bind (m185 a0 a1) fun r => some r) fun x1 => (some x1)) : Option (Int)) := by kernel_rfl
theorem M84 (a0 a1 : List UInt8) (a2 a3 : Int) : m84 a0 a1 a2 a3 = ((Option.bind (if (a3 == 0) = true then (some (.inr ([]))) else (if (a1 == ([] : List UInt8)) = true then (Option.bind (Option.bind (m134 a0 a3) fun r => some r) fun x4 => (some (.inr (x4)))) else (if (decide (a3 < 0)) = true then (Option.bind (Option.bind (m135 a0 a1) fun r => some r) fun x6 => (if (0 ≤ (if (IntKind.wrap .i64 ((a0.length : Int) + (1 : Int))) < (IntKind.wrap .i64 (x6 + 1)) then (IntKind.wrap .i64 ((a0.length : Int) + (1 : Int))) else (IntKind.wrap .i64 (x6 + 1)))) then (if ((if (IntKind.wrap .i64 ((a0.length : Int) + (1 : Int))) < (IntKind.wrap .i64 (x6 + 1)) then (IntKind.wrap .i64 ((a0.length : Int) + (1 : Int))) else (IntKind.wrap .i64 (x6 + 1))) = (if (IntKind.wrap .i64 ((a0.length : Int) + (1 : Int))) < (IntKind.wrap .i64 (x6 + 1)) then (IntKind.wrap .i64 ((a0.length : Int) + (1 : Int))) else (IntKind.wrap .i64 (x6 + 1)))) then (if ((if (IntKind.wrap .i64 ((a0.length : Int) + (1 : Int))) < (IntKind.wrap .i64 (x6 + 1)) then (IntKind.wrap .i64 ((a0.length : Int) + (1 : Int))) else (IntKind.wrap .i64 (x6 + 1))) * 16 ≤ 140737488355328) then (if ((if (IntKind.wrap .i64 ((a0.length : Int) + (1 : Int))) < (IntKind.wrap .i64 (x6 + 1)) then (IntKind.wrap .i64 ((a0.length : Int) + (1 : Int))) else (IntKind.wrap .i64 (x6 + 1))) ≤ 9223372036854775807) then (some (.inl ((IntKind.wrap .i64 ((if (IntKind.wrap .i64 ((a0.length : Int) + (1 : Int))) < (IntKind.wrap .i64 (x6 + 1)) then (IntKind.wrap .i64 ((a0.length : Int) + (1 : Int))) else (IntKind.wrap .i64 (x6 + 1))) - 1)), (List.replicate (if (IntKind.wrap .i64 ((a0.length : Int) + (1 : Int))) < (IntKind.wrap .i64 (x6 + 1)) then (IntKind.wrap .i64 ((a0.length : Int) + (1 : Int))) else (IntKind.wrap .i64 (x6 + 1))).toNat ([] : List UInt8)), (if (IntKind.wrap .i64 ((a0.length : Int) + (1 : Int))) < (IntKind.wrap .i64 (x6 + 1)) then (IntKind.wrap .i64 ((a0.length : Int) + (1 : Int))) else (IntKind.wrap .i64 (x6 + 1))).toNat))) else none) else none) else none) else none)) else (if (0 ≤ (if (IntKind.wrap .i64 ((a0.length : Int) + (1 : Int))) < a3 then (IntKind.wrap .i64 ((a0.length : Int) + (1 : Int))) else a3)) then (if ((if (IntKind.wrap .i64 ((a0.length : Int) + (1 : Int))) < a3 then (IntKind.wrap .i64 ((a0.length : Int) + (1 : Int))) else a3) = (if (IntKind.wrap .i64 ((a0.length : Int) + (1 : Int))) < a3 then (IntKind.wrap .i64 ((a0.length : Int) + (1 : Int))) else a3)) then (if ((if (IntKind.wrap .i64 ((a0.length : Int) + (1 : Int))) < a3 then (IntKind.wrap .i64 ((a0.length : Int) + (1 : Int))) else a3) * 16 ≤ 140737488355328) then (if ((if (IntKind.wrap .i64 ((a0.length : Int) + (1 : Int))) < a3 then (IntKind.wrap .i64 ((a0.length : Int) + (1 : Int))) else a3) ≤ 9223372036854775807) then (some (.inl ((IntKind.wrap .i64 ((if (IntKind.wrap .i64 ((a0.length : Int) + (1 : Int))) < a3 then (IntKind.wrap .i64 ((a0.length : Int) + (1 : Int))) else a3) - 1)), (List.replicate (if (IntKind.wrap .i64 ((a0.length : Int) + (1 : Int))) < a3 then (IntKind.wrap .i64 ((a0.length : Int) + (1 : Int))) else a3).toNat ([] : List UInt8)), (if (IntKind.wrap .i64 ((a0.length : Int) + (1 : Int))) < a3 then (IntKind.wrap .i64 ((a0.length : Int) + (1 : Int))) else a3).toNat))) else none) else none) else none) else none)))) (onS fun (y1 : Int × (List (List UInt8)) × Nat) => (Option.bind (loopO (fun (s2 : (List UInt8) × (List (List UInt8)) × Int) => ((if (decide (s2.2.2 < y1.1)) = true then (Option.bind (Option.bind (m136 s2.1 a1) fun r => some r) fun x12 => (if (decide (x12 < 0)) = true then (some (.inr (.inl (s2.1, s2.2.1, s2.2.2)))) else (if (0 ≤ (IntKind.wrap .i64 (x12 + a2))) then (if ((IntKind.wrap .i64 (x12 + a2)) ≤ (s2.1.length : Int)) then (if (0 ≤ s2.2.2) then (if (s2.2.2 < (y1.2.2 : Int)) then (if (s2.2.2.toNat < y1.2.2) then (if (0 ≤ (IntKind.wrap .i64 (x12 + (a1.length : Int)))) then (if ((IntKind.wrap .i64 (x12 + (a1.length : Int))) ≤ (s2.1.length : Int)) then (some (.inl ((s2.1.drop (IntKind.wrap .i64 (x12 + (a1.length : Int))).toNat), ((subL s2.2.1 0 y1.2.2).set s2.2.2.toNat (s2.1.take (IntKind.wrap .i64 (x12 + a2)).toNat)), (IntKind.wrap .i64 (s2.2.2 + 1))))) else none) else none) else none) else none) else none) else none) else none))) else (some (.inr (.inl (s2.1, s2.2.1, s2.2.2))))) : Option (((List UInt8) × (List (List UInt8)) × Int) ⊕ (((List UInt8) × (List (List UInt8)) × Int) ⊕ ((List (List UInt8))))))) (a0, y1.2.1, (0 : Int))) (onS fun (y3 : (List UInt8) × (List (List UInt8)) × Int) => (if (0 ≤ y3.2.2) then (if (y3.2.2 < (y1.2.2 : Int)) then (if (y3.2.2.toNat < y1.2.2) then (if (0 ≤ (IntKind.wrap .i64 (y3.2.2 + 1))) then (if ((IntKind.wrap .i64 (y3.2.2 + 1)) ≤ (y1.2.2 : Int)) then (some (((subL y3.2.1 0 y1.2.2).set y3.2.2.toNat y3.1).take (IntKind.wrap .i64 (y3.2.2 + 1)).toNat)) else none) else none) else none) else none) else none))))) : Option ((List (List UInt8)))) := by kernel_rfl
theorem M49 (a0 a1 : List UInt8) : m49 a0 a1 = ((Option.bind (Option.bind (m84 a0 a1 (0 : Int) (-1 : Int)) fun r => some r) fun x1 => (some x1)) : Option ((List (List UInt8)))) := by kernel_rfl
theorem Index_eq (s : List UInt8) (c : UInt8) : m136 s [c] = some (Lib.indexByte s c) := by
 simp only [M136, bind_id]
 rfl
theorem genSplit_eq (s : List UInt8) (c : UInt8) (hs : s.length ≤ 1000000) : m84 s [c] 0 (-1) = some (splitB c s) := by
 have hcl : s.count c ≤ s.length := List.count_le_length
 have hC : m135 s [c] = some ((s.count c : Nat) : Int) := rfl
 have e1 : ((-1 : Int) == 0) = false := rfl
 have e2 : (([c] : List UInt8) == ([] : List UInt8)) = false := rfl
 have e3 : decide ((-1 : Int) < 0) = true := rfl
 have w1 : IntKind.wrap .i64 ((s.length : Int) + 1) = (s.length : Int) + 1 := w64 (by omega) (by omega)
 have w2 : IntKind.wrap .i64 (((s.count c : Nat) : Int) + 1) = ((s.count c + 1 : Nat) : Int) := w64 (by omega) (by omega)
 have w3 : (if (s.length : Int) + 1 < ((s.count c + 1 : Nat) : Int) then (s.length : Int) + 1 else ((s.count c + 1 : Nat) : Int)) = ((s.count c + 1 : Nat) : Int) := if_neg (by omega)
 have w4 : IntKind.wrap .i64 (((s.count c + 1 : Nat) : Int) - 1) = ((s.count c : Nat) : Int) := by rw [w64 (by omega) (by omega)]; omega
 have a1 : ((0 : Int) ≤ ((s.count c + 1 : Nat) : Int)) = True := eq_true (by omega)
 have a2 : (((s.count c + 1 : Nat) : Int) * 16 ≤ 140737488355328) = True := eq_true (by omega)
 have a3 : (((s.count c + 1 : Nat) : Int) ≤ 9223372036854775807) = True := eq_true (by omega)
 simp only [M84, bind_id]
 simp only [e1, e2, e3, hC, bs, ol, w1, w2, w3, w4, a1, a2, a3, Int.toNat_natCast, Bool.false_eq_true, if_false, if_true]
 generalize hN : s.count c = N at *
 refine loop_end (fun m st => ∃ (rest : List UInt8) (a : List (List UInt8)) (i : Nat), st = (rest, a, (i : Int)) ∧ m = N - i ∧ i ≤ N ∧ a.length = N + 1 ∧ rest.count c = N - i ∧ rest.length ≤ s.length ∧ splitB c s = a.take i ++ splitB c rest)
  (fun y => ∃ (rest : List UInt8) (a : List (List UInt8)), y = (rest, a, (N : Int)) ∧ a.length = N + 1 ∧ splitB c s = a.take N ++ [rest]) N ⟨s, _, 0, rfl, rfl, by omega, by simp, by rw [hN]; omega, Nat.le_refl _, by simp⟩ ?_ ?_
 ·rintro m st ⟨rest, a, i, rfl, rfl, hi, hl, hc, hr, he⟩
  rcases Nat.lt_or_eq_of_le hi with hlt | heq
  ·left
   obtain ⟨k, k1, k2, k3, k4⟩ := splitB_at (c := c) (s := rest) (by omega)
   have hI := Index_eq rest c
   rw [k1] at hI
   have b1 : decide ((i : Int) < (N : Int)) = true := by simp; omega
   have b2 : decide ((k : Int) < 0) = false := by simp
   have b3 : IntKind.wrap .i64 ((k : Int) + 0) = (k : Int) := w64 (by omega) (by omega)
   have b4 : IntKind.wrap .i64 ((k : Int) + (([c] : List UInt8).length : Int)) = ((k + 1 : Nat) : Int) := by
    show IntKind.wrap .i64 ((k : Int) + ((1 : Nat) : Int)) = _
    rw [w64 (by omega) (by omega)]; omega
   have b5 : ((0 : Int) ≤ (k : Int)) = True := eq_true (by omega)
   have b6 : ((k : Int) ≤ (rest.length : Int)) = True := eq_true (by omega)
   have b7 : ((0 : Int) ≤ (i : Int)) = True := eq_true (by omega)
   have b8 : ((i : Int) < ((N + 1 : Nat) : Int)) = True := eq_true (by omega)
   have b9 : (i < N + 1) = True := eq_true (by omega)
   have b10 : ((0 : Int) ≤ ((k + 1 : Nat) : Int)) = True := eq_true (by omega)
   have b11 : (((k + 1 : Nat) : Int) ≤ (rest.length : Int)) = True := eq_true (by omega)
   have b12 : IntKind.wrap .i64 ((i : Int) + 1) = ((i + 1 : Nat) : Int) := w64 (by omega) (by omega)
   have b13 : subL a 0 (N + 1) = a := subL_all hl
   refine ⟨(rest.drop (k + 1), a.set i (rest.take k), ((i + 1 : Nat) : Int)), ?_, N - (i + 1), by omega, _, _, i + 1, rfl, rfl, by omega, by rw [List.length_set]; exact hl, by omega, by rw [List.length_drop]; omega, ?_⟩
   ·simp only [b1, hI, bs, b2, b3, b4, b5, b6, b7, b8, b9, b10, b11, b12, b13, Int.toNat_natCast, Bool.false_eq_true, if_false, if_true]
   ·rw [he, k3, List.take_add_one, List.getElem?_set_self (by omega), List.take_set_of_le (Nat.le_refl _)]
    simp
  ·right
   subst heq
   have b1 : decide ((i : Int) < (i : Int)) = false := by simp
   refine ⟨_, by simp only [b1, Bool.false_eq_true, if_false], rest, a, rfl, hl, ?_⟩
   rw [he, splitB_none (by omega)]
 ·rintro y ⟨rest, a, rfl, hl, he⟩
  have b1 : ((0 : Int) ≤ (N : Int)) = True := eq_true (by omega)
  have b2 : ((N : Int) < ((N + 1 : Nat) : Int)) = True := eq_true (by omega)
  have b3 : (N < N + 1) = True := eq_true (by omega)
  have b4 : IntKind.wrap .i64 ((N : Int) + 1) = ((N + 1 : Nat) : Int) := w64 (by omega) (by omega)
  have b5 : ((0 : Int) ≤ ((N + 1 : Nat) : Int)) = True := eq_true (by omega)
  have b6 : (((N + 1 : Nat) : Int) ≤ ((N + 1 : Nat) : Int)) = True := eq_true (by omega)
  have b7 : subL a 0 (N + 1) = a := subL_all hl
  simp only [b1, b2, b3, b4, b5, b6, b7, Int.toNat_natCast, if_true]
  rw [he, List.take_add_one, List.getElem?_set_self (by omega), List.take_set_of_le (Nat.le_refl _)]
  rfl
theorem Split_eq (s : List UInt8) (c : UInt8) (hs : s.length ≤ 1000000) : m49 s [c] = some (splitB c s) := by
 simp only [M49, bind_id, genSplit_eq s c hs, bs]
end Go.Av
