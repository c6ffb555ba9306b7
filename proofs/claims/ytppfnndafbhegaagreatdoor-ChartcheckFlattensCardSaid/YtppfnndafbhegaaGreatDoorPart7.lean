/- A part of the proof. -/
import Derived.Test.YtppfnndafbhegaaGreatDoorPart6
set_option linter.unusedVariables false
set_option linter.unusedSimpArgs false
set_option maxRecDepth 100000
namespace Go.Av
open Ch Go.Proofs
theorem hasC_app {l k:List A9} {g:A9} (h:Mq l g=true):Mq (l++k) g=true:=by
 rw[hasC_iff]at h ⊢
 exact List.mem_append_left _ h
theorem DoneP.same {c:A7} {g:A9} {s:SS} {f:List UInt8→Option Int} (h:DoneP c g s f) {t:Int} (ht:Mq s.1 (Cr c g t).1=true):DoneP c g s (fun q=>if q=D5 t then some (if true=true then(1:Int)else 0)else f q):=fun u hu=>by
 by_cases e:u=t
 ·rw[e];exact ht
 ·have:D5 u≠D5 t:=fun k=>e (Wr k)
  simp only[this,if_false]at hu
  exact h u hu
theorem DoneP.more {c:A7} {g:A9} {s:SS} {f:List UInt8→Option Int} (h:DoneP c g s f) {t:Int} {fr bv:List Int}:DoneP c g (s.1++[(Cr c g t).1],fr,bv) (fun q=>if q=D5 t then some (if true=true then(1:Int)else 0)else f q):=fun u hu=>by
 by_cases e:u=t
 ·rw[e];rw[hasC_iff];simp
 ·have:D5 u≠D5 t:=fun k=>e (Wr k)
  simp only[this,if_false]at hu
  exact hasC_app (h u hu)
theorem ma {i:Nat} (h:i < 1000000):(Lit.int .i64 (i:Int)).wf=true:=by
 simp[Lit.wf,IntKind.min,IntKind.max,IntKind.signed,IntKind.bits];omega
theorem srchE_eq {c : A7} (H : Fit c) (hn : c.Ag.length ≤ 12) : P4 c = (C8 c).bind fun e => if (e != 0) = true then some e else match Dt c with | some s => none | none => some 3 := by
  obtain ⟨e, he⟩ := Cz c
  have h1 := Lk c
  have h2 := Ja hn
  have hv2 := Pa (c := c)
  have q1 := gr c H
  have q2 := Vb H hn
  have q3 : ∀ (leaf v : Int), Mw c leaf v = some (Ad c leaf v) := N3 c H
  have q4 : ∀ (l : List A9) (g : A9), Short l → l.length ≤ 1000000 → Ok l g = some (Fd l g) := bw
  have q5 : C8 c = some 0 → ∀ (g : A9) (v : Int), C4 c g = true → (((Ad c g.Leaf v).length : Int) == 1) = true → Ji c g ((Ad c g.Leaf v).getD 0 default) = some (Cr c g ((Ad c g.Leaf v).getD 0 default)) := fun hc g v hg h => rx H hc hg h
  simp only [M44o1, Fc, q1, q2]
  generalize Mw = F1 at q3 ⊢
  generalize Ok = F2 at q4 ⊢
  generalize Ji = F3 at q5 ⊢
  unfold O8
  by_cases h0 : (e != 0) = true
  · simp only [he, bs, h0, if_true, Ou, bn]
  · have h0 := Bool.eq_false_iff.2 h0
    have e0 : e = 0 := by simpa using h0
    subst e0
    simp only [he, bs, h0, Bool.false_eq_true, if_false, ol, Dl]
    have q5 := q5 he
    have I0 := Qo H he
    refine J9 (Ss H (fun i s => ((i : Int), s.1, s.2.1, s.2.2)) (fun s => .inl (s.1, s.2.1, s.2.2)) (some (.inr (3 : Int))) (fun i s I hi => ?_) (fun s I => ?_) 402 0 _ I0 (by omega) (by omega)) ?_
    · have hi' : (i : Int) < (s.1.length : Int) := by omega
      simp only [hi', decide_true, if_true, bs, ol]
      have hg : C4 c (s.1.getD i default) = true := I.ok _ (Bj hi)
      refine J9 (cz H (i := i) (fun s => .inl (s.1, s.2.1, s.2.2)) (some (.inr (.inr (.inr (3 : Int))))) (Bw c) (fun t f => t.1.getD i default = s.1.getD i default ∧ DoneP c (s.1.getD i default) t f) (fun k s' n f hk I' hi'' hn' hP => ?_) (fun s n f I => ?_) I hi (fun _ => none) ⟨rfl, fun t ht => by simp at ht⟩) ?_
      · generalize s.1.getD i default = g at hg hP
        obtain ⟨hP1, hP2⟩ := hP
        obtain ⟨vn, hvn, hve, hall⟩ := valsA_mem.1 (Bj hk)
        obtain ⟨v, hvd⟩ : ∃ v, v = (Bw c).getD k default := ⟨_, rfl⟩
        rw [← hvd] at hve hall ⊢
        have b1 := I'.le
        have b2 := I'.l1
        have b3 := I'.l2
        have hb1 := Wz he hg hall
        have w2 : IntKind.wrap .i64 ((k : Int) + 1) = ((k + 1 : Nat) : Int) := by rw [El (by omega) (by omega)]; omega
        have c1 : ((s'.1.length + 1) * 32 ≤ 140737488355328) = True := eq_true (by omega)
        have c2 : ((s'.2.1.length + 1) * 8 ≤ 140737488355328) = True := eq_true (by omega)
        have c3 : ((s'.2.2.length + 1) * 2 ≤ 140737488355328) = True := eq_true (by omega)
        have c4 : (n < maxLen) = True := eq_true (by unfold maxLen; omega)
        have c5 : ((0 : Int) ≤ (0 : Int)) = True := eq_true (by omega)
        unfold Fh
        rw [hP1, hb1]
        simp only [C3 hk, C3 hi'', decide_true, if_true, Int.toNat_natCast, hP1, q3, bs, w2, c5, ← hvd]
        by_cases hl : (((Ad c g.Leaf v).length : Int) == 1) = true
        · have hl2 : (((Ad c g.Leaf v).length : Int) != 1) = false := by simpa using hl
          have hl3 : (0 < ((Ad c g.Leaf v).length : Int)) = True := eq_true (by have : ((Ad c g.Leaf v).length : Int) = 1 := by simpa using hl
                                                                                omega)
          have hf := q5 g v hg hl
          obtain ⟨t, ht⟩ : ∃ t, t = (Ad c g.Leaf v).getD 0 default := ⟨_, rfl⟩
          obtain ⟨ti, hti, htx, _⟩ := J7 (c := c) (leaf := g.Leaf) (v := v) (by have : ((Ad c g.Leaf v).length : Int) = 1 := by simpa using hl
                                                                                omega)
          have htr := H.trans
          rw [← ht] at htx hf
          have hwf : ((Lit.int .i64 t).wf = true) = True := eq_true (by rw [htx]; exact ma (by omega))
          simp only [hl, hl2, hl3, hwf, c4, c5, if_true, Bool.not_false, true_implies, Bool.false_or, Int.toNat_zero, ← ht, hf, bs]
          by_cases hd : ((f (D5 t)).getD 0 != 0) = true
          · have hh := hP2 t hd
            refine ⟨n, f, by omega, fun s'' hs'' => ?_, ?_⟩
            · unfold K4 at hs''
              rw [if_pos hh] at hs''
              injection hs'' with hs''
              subst hs''
              exact ⟨hP1, hP2⟩
            · unfold K4
              rw [if_pos hh]
              simp only [hd, if_true]; rfl
          · have hd := Bool.eq_false_iff.2 hd
            have e1 : ((Cr c g t).2.2 != 0) = false := rfl
            have hfd := q4 s'.1 (Cr c g t).1 (I'.short H) (by omega)
            refine ⟨n + 1, fun q => if q = D5 t then some (if true = true then (1 : Int) else 0) else f q, by omega, fun s'' hs'' => ?_, ?_⟩
            · unfold K4 at hs''
              split at hs''
              · rename_i hh
                injection hs'' with hs''
                subst hs''
                exact ⟨hP1, hP2.same hh⟩
              · split at hs''
                · cases hs''
                · injection hs'' with hs''
                  subst hs''
                  exact ⟨by rw [Fe hi'']; exact hP1, hP2.more⟩
            · simp only [hd, e1, hfd, bs, Bool.false_eq_true, if_false, Bool.not_false, if_true, Bool.false_or, Zz]
              unfold K4
              cases hh : Mq s'.1 (Cr c g t).1 with
              | true => simp only [if_true]; rfl
              | false =>
                simp only [Bool.false_eq_true, if_false]
                by_cases h4 : s'.1.length = 400
                · have d2 : ((s'.1.length : Int) == (400 : Int)) = true := by simp; omega
                  simp only [d2, h4, if_true]; rfl
                · have d2 : ((s'.1.length : Int) == (400 : Int)) = false := by simp; omega
                  simp only [d2, h4, c1, c2, c3, Bool.false_eq_true, if_false, if_true]; rfl
        · have hl2 : (((Ad c g.Leaf v).length : Int) != 1) = true := by simpa using hl
          have hl := Bool.eq_false_iff.2 hl
          refine ⟨n, f, by omega, fun s'' hs'' => ?_, ?_⟩
          · simp only [hl, Bool.false_eq_true, if_false] at hs''
            injection hs'' with hs''
            subst hs''
            exact ⟨hP1, hP2⟩
          · simp only [hl, hl2, Bool.not_true, Bool.false_eq_true, false_implies, if_true, if_false, Bool.true_or]; rfl
      · simp only [Bb, decide_false, Bool.false_eq_true, if_false]
      · rw [gf]
        cases hr : Fy c i (Mr c) s with
        | none => rfl
        | some s' =>
          have w2 : IntKind.wrap .i64 ((i : Int) + 1) = ((i + 1 : Nat) : Int) := by
            have := I.le
            rw [El (by omega) (by omega)]; omega
          simp only [Sk, bs, ol, w2]; rfl
    · simp only [Bb, decide_false, Bool.false_eq_true, if_false, bs, Ou]
    · unfold Dt
      cases Lp c 402 0 (Lm ⟨(Dq c).1, (Dq c).2.1⟩) with
      | some s => rfl
      | none => rfl
theorem srchR_eq {c : A7} (H : Fit c) (hn : c.Ag.length ≤ 12) : P5 c = (C8 c).bind fun e => if (e != 0) = true then none else match Dt c with | some s => some (s.1, s.2.1, s.2.2, Bw c) | none => none := by
  obtain ⟨e, he⟩ := Cz c
  have h1 := Lk c
  have h2 := Ja hn
  have hv2 := Pa (c := c)
  have q1 := gr c H
  have q2 := Vb H hn
  have q3 : ∀ (leaf v : Int), Mw c leaf v = some (Ad c leaf v) := N3 c H
  have q4 : ∀ (l : List A9) (g : A9), Short l → l.length ≤ 1000000 → Ok l g = some (Fd l g) := bw
  have q5 : C8 c = some 0 → ∀ (g : A9) (v : Int), C4 c g = true → (((Ad c g.Leaf v).length : Int) == 1) = true → Ji c g ((Ad c g.Leaf v).getD 0 default) = some (Cr c g ((Ad c g.Leaf v).getD 0 default)) := fun hc g v hg h => rx H hc hg h
  simp only [M44o2, Fc, q1, q2]
  generalize Mw = F1 at q3 ⊢
  generalize Ok = F2 at q4 ⊢
  generalize Ji = F3 at q5 ⊢
  unfold O8
  by_cases h0 : (e != 0) = true
  · simp only [he, bs, h0, if_true, Ou, bn]
  · have h0 := Bool.eq_false_iff.2 h0
    have e0 : e = 0 := by simpa using h0
    subst e0
    simp only [he, bs, h0, Bool.false_eq_true, if_false, ol, Dl]
    have q5 := q5 he
    have I0 := Qo H he
    refine J9 (Ss H (fun i s => ((i : Int), s.1, s.2.1, s.2.2)) (fun s => .inl (s.1, s.2.1, s.2.2)) none (fun i s I hi => ?_) (fun s I => ?_) 402 0 _ I0 (by omega) (by omega)) ?_
    · have hi' : (i : Int) < (s.1.length : Int) := by omega
      simp only [hi', decide_true, if_true, bs, ol]
      have hg : C4 c (s.1.getD i default) = true := I.ok _ (Bj hi)
      refine J9 (cz H (i := i) (fun s => .inl (s.1, s.2.1, s.2.2)) none (Bw c) (fun t f => t.1.getD i default = s.1.getD i default ∧ DoneP c (s.1.getD i default) t f) (fun k s' n f hk I' hi'' hn' hP => ?_) (fun s n f I => ?_) I hi (fun _ => none) ⟨rfl, fun t ht => by simp at ht⟩) ?_
      · generalize s.1.getD i default = g at hg hP
        obtain ⟨hP1, hP2⟩ := hP
        obtain ⟨vn, hvn, hve, hall⟩ := valsA_mem.1 (Bj hk)
        obtain ⟨v, hvd⟩ : ∃ v, v = (Bw c).getD k default := ⟨_, rfl⟩
        rw [← hvd] at hve hall ⊢
        have b1 := I'.le
        have b2 := I'.l1
        have b3 := I'.l2
        have hb1 := Wz he hg hall
        have w2 : IntKind.wrap .i64 ((k : Int) + 1) = ((k + 1 : Nat) : Int) := by rw [El (by omega) (by omega)]; omega
        have c1 : ((s'.1.length + 1) * 32 ≤ 140737488355328) = True := eq_true (by omega)
        have c2 : ((s'.2.1.length + 1) * 8 ≤ 140737488355328) = True := eq_true (by omega)
        have c3 : ((s'.2.2.length + 1) * 2 ≤ 140737488355328) = True := eq_true (by omega)
        have c4 : (n < maxLen) = True := eq_true (by unfold maxLen; omega)
        have c5 : ((0 : Int) ≤ (0 : Int)) = True := eq_true (by omega)
        unfold Fh
        rw [hP1, hb1]
        simp only [C3 hk, C3 hi'', decide_true, if_true, Int.toNat_natCast, hP1, q3, bs, w2, c5, ← hvd]
        by_cases hl : (((Ad c g.Leaf v).length : Int) == 1) = true
        · have hl2 : (((Ad c g.Leaf v).length : Int) != 1) = false := by simpa using hl
          have hl3 : (0 < ((Ad c g.Leaf v).length : Int)) = True := eq_true (by have : ((Ad c g.Leaf v).length : Int) = 1 := by simpa using hl
                                                                                omega)
          have hf := q5 g v hg hl
          obtain ⟨t, ht⟩ : ∃ t, t = (Ad c g.Leaf v).getD 0 default := ⟨_, rfl⟩
          obtain ⟨ti, hti, htx, _⟩ := J7 (c := c) (leaf := g.Leaf) (v := v) (by have : ((Ad c g.Leaf v).length : Int) = 1 := by simpa using hl
                                                                                omega)
          have htr := H.trans
          rw [← ht] at htx hf
          have hwf : ((Lit.int .i64 t).wf = true) = True := eq_true (by rw [htx]; exact ma (by omega))
          simp only [hl, hl2, hl3, hwf, c4, c5, if_true, Bool.not_false, true_implies, Bool.false_or, Int.toNat_zero, ← ht, hf, bs]
          by_cases hd : ((f (D5 t)).getD 0 != 0) = true
          · have hh := hP2 t hd
            refine ⟨n, f, by omega, fun s'' hs'' => ?_, ?_⟩
            · unfold K4 at hs''
              rw [if_pos hh] at hs''
              injection hs'' with hs''
              subst hs''
              exact ⟨hP1, hP2⟩
            · unfold K4
              rw [if_pos hh]
              simp only [hd, if_true]; rfl
          · have hd := Bool.eq_false_iff.2 hd
            have e1 : ((Cr c g t).2.2 != 0) = false := rfl
            have hfd := q4 s'.1 (Cr c g t).1 (I'.short H) (by omega)
            refine ⟨n + 1, fun q => if q = D5 t then some (if true = true then (1 : Int) else 0) else f q, by omega, fun s'' hs'' => ?_, ?_⟩
            · unfold K4 at hs''
              split at hs''
              · rename_i hh
                injection hs'' with hs''
                subst hs''
                exact ⟨hP1, hP2.same hh⟩
              · split at hs''
                · cases hs''
                · injection hs'' with hs''
                  subst hs''
                  exact ⟨by rw [Fe hi'']; exact hP1, hP2.more⟩
            · simp only [hd, e1, hfd, bs, Bool.false_eq_true, if_false, Bool.not_false, if_true, Bool.false_or, Zz]
              unfold K4
              cases hh : Mq s'.1 (Cr c g t).1 with
              | true => simp only [if_true]; rfl
              | false =>
                simp only [Bool.false_eq_true, if_false]
                by_cases h4 : s'.1.length = 400
                · have d2 : ((s'.1.length : Int) == (400 : Int)) = true := by simp; omega
                  simp only [d2, h4, if_true]; rfl
                · have d2 : ((s'.1.length : Int) == (400 : Int)) = false := by simp; omega
                  simp only [d2, h4, c1, c2, c3, Bool.false_eq_true, if_false, if_true]; rfl
        · have hl2 : (((Ad c g.Leaf v).length : Int) != 1) = true := by simpa using hl
          have hl := Bool.eq_false_iff.2 hl
          refine ⟨n, f, by omega, fun s'' hs'' => ?_, ?_⟩
          · simp only [hl, Bool.false_eq_true, if_false] at hs''
            injection hs'' with hs''
            subst hs''
            exact ⟨hP1, hP2⟩
          · simp only [hl, hl2, Bool.not_true, Bool.false_eq_true, false_implies, if_true, if_false, Bool.true_or]; rfl
      · simp only [Bb, decide_false, Bool.false_eq_true, if_false]
      · rw [gf]
        cases hr : Fy c i (Mr c) s with
        | none => rfl
        | some s' =>
          have w2 : IntKind.wrap .i64 ((i : Int) + 1) = ((i + 1 : Nat) : Int) := by
            have := I.le
            rw [El (by omega) (by omega)]; omega
          simp only [Sk, bs, ol, w2]; rfl
    · simp only [Bb, decide_false, Bool.false_eq_true, if_false, bs, Ou]
    · unfold Dt
      cases Lp c 402 0 (Lm ⟨(Dq c).1, (Dq c).2.1⟩) with
      | some s => rfl
      | none => rfl
end Go.Av
set_option maxRecDepth 100000
namespace Go.Av
open Ch Go.Proofs
def Wd {A:Type} [Inhabited A] (k:Int) (l:List A):List A:=At l 0 (if k < (l.length:Int)then k else(l.length:Int)).toNat
theorem Wx {A:Type} [Inhabited A] {k:Nat} {l:List A}:(Wd (k:Int) l).length≤k:=by
 unfold Wd;rw[Hl];split<;>omega
theorem Rq {A:Type} [Inhabited A] {k:Int} (hk:0≤k) {l:List A}:∀ x∈Wd k l,x∈l:=fun x hx=>by
 unfold Wd at hx
 rw[Qj (by split<;>omega)]at hx
 exact List.mem_of_mem_drop (List.mem_of_mem_take hx)
def Zx (c:A7):A7:=⟨(Sb c).Name,Wd 3 (Sb c).Ag,(Sb c).Ai,Wd 7 (Sb c).A4,(Sb c).Start,Wd 14 (Sb c).A0⟩
structure Wv (c:A7):Prop where
 fit:Fit c
 conds:c.Ag.length≤3
 states:c.A4.length≤7
 trans:c.A0.length≤14
theorem AA4 (c:A7):Wv (Zx c):=by
 have S:=few_small c
 have l1:(Zx c).Ag.length≤3:=Wx (k:=3)
 have l2:(Zx c).A4.length≤7:=Wx (k:=7)
 have l3:(Zx c).A0.length≤14:=Wx (k:=14)
 exact⟨⟨by omega,Nat.le_trans S.never (by omega),fun l hl=>Nat.le_trans (S.lits l hl) (by omega),by omega,fun s hs=>Nat.le_trans (S.entry s (Rq (by omega) s hs)) (by omega),fun s hs=>Nat.le_trans (S.exit_ s (Rq (by omega) s hs)) (by omega),by omega,
  fun t ht=>Nat.le_trans (S.when_ t (Rq (by omega) t ht)) (by omega),fun t ht=>Nat.le_trans (S.acts t (Rq (by omega) t ht)) (by omega)⟩,l1,l2,l3⟩
theorem M14 (a0:A7):m14 a0=((Option.bind (Option.bind (m43 a0) fun r=>some r) fun x1=>(if(0≤(if 7 < (x1.A4.length:Int)then(7:Int)else(x1.A4.length:Int)))then(if((if 7 < (x1.A4.length:Int)then(7:Int)else(x1.A4.length:Int))≤(x1.A4.length:Int))then(if(0≤(if 3 < (x1.Ag.length:Int)then(3:Int)else(x1.Ag.length:Int)))then(if((if 3 < (x1.Ag.length:Int)then(3:Int)else(x1.Ag.length:Int))≤(x1.Ag.length:Int))then(if(0≤(if 14 < (x1.A0.length:Int)then(14:Int)else(x1.A0.length:Int)))then(if((if 14 < (x1.A0.length:Int)then(14:Int)else(x1.A0.length:Int))≤(x1.A0.length:Int))then(some (⟨x1.Name,(At x1.Ag 0 (if 3 < (x1.Ag.length:Int)then(3:Int)else(x1.Ag.length:Int)).toNat),x1.Ai,(At x1.A4 0 (if 7 < (x1.A4.length:Int)then(7:Int)else(x1.A4.length:Int)).toNat),x1.Start,(At x1.A0 0 (if 14 < (x1.A0.length:Int)then(14:Int)else(x1.A0.length:Int)).toNat)⟩:A7))else none)else none)else none)else none)else none)else none)):Option (A7)):=by kernel_rfl
theorem few_eq8 (c:A7):m14 c=some (Zx c):=by
 have h:=Few_eq c
 simp only[M14,Fc,h,bs,Ow 7 (by omega),Ow 3 (by omega),Ow 14 (by omega),Zf,if_true]
 rfl
def Xh (c:A7):Option (List A9×Int):=(C8 c).bind fun e=>if(e != 0)=true then some ([],e)else match Dt c with | some s=>some (s.1,0) | none=>some ([],3)
theorem M16 (a0:A7):m16 a0=((Option.bind (Option.bind (m45 a0) fun r=>some r) fun x1=>(some (x1.1,x1.2.2.2))):Option ((List A9)×Int)):=by kernel_rfl
theorem S0 {c:A7} (H:Fit c) (hn:c.Ag.length≤12):m16 c=Xh c:=by
 obtain⟨e,he⟩:=Cz c
 have q1:=vv H hn
 unfold Xh
 simp only[M16,Fc,q1,he,bs]
 by_cases h0:(e != 0)=true
 ·simp only[h0,bs,if_true]
 ·have h0:=Bool.eq_false_iff.2 h0
  simp only[h0,Bool.false_eq_true,if_false]
  cases Dt c with
  | none=>rfl
  | some s=>rfl
theorem l7 {c:A7} (H:Fit c):∀ {n i:Nat} {s s':SS},Inv c s→Lp c n i s=some s'→Inv c s'
 | 0,_,_,_,_,h=>by cases h
 | n+1,i,s,s',I,h=>by
  unfold Lp at h
  split at h
  ·rw[Option.bind_eq_some_iff]at h
   obtain⟨t,h1,h2⟩:=h
   exact l7 H (V7 H I h1).1 h2
  ·injection h with h;subst h;exact I
theorem M1 {c:A7} (H:Fit c) (hc:C8 c=some 0) {s:SS} (h:Dt c=some s):Inv c s:=l7 H (Qo H hc) h
end Go.Av
set_option maxRecDepth 100000
namespace Go.Av
open Ch Go.Proofs
theorem any_loop {X:Type} {b:(Bool×Int)→Option ((Bool×Int)⊕(Bool⊕X))} {k:Bool→Option X} (n:Nat) (p:Nat→Bool) {z:Option X} (hb:∀ (f:Bool) (i:Nat),i < n→b (f,(i:Int))=some (.inl ((f || p i),((i+1:Nat):Int)))) (he:∀ f,b (f,(n:Int))=some (.inr (.inl f))) (hz:k (Bo p n)=z) :
  (Bl b (false,0)).bind (As k)=z:=by
 have key:∀ m i f,i+m=n→Bl b (f,(i:Int))=some (.inl (f || (List.range' i m).any p)):=by
  intro m
  induction m with
  | zero =>
   intro i f h
   obtain rfl:i=n:=by omega
   rw[Cd,he];simp
  | succ m ih =>
   intro i f h
   rw[Cd,hb f i (by omega)]
   simp only[Option.bind_some]
   rw[ih (i+1) _ (by omega),List.range'_succ,List.any_cons,Bool.or_assoc]
 have:=key n 0 false (by omega)
 rw[← List.range_eq_range',Bool.false_or]at this
 refine bind_to this ?_
 exact hz
theorem W9 {α:Type} [Inhabited α] {l:List α} {x:α} {n:Nat} (h:n=l.length):(l++[x]).getD n default=x:=by
 subst h;simp[List.getD_eq_getElem?_getD]
structure Wy (c:A7) (g0:A9) (s:SS):Prop where
 i0:s.1.getD 0 default=g0
 f0:s.2.1.getD 0 default = -1
 w:∀ k,0 < k→k < s.1.length→∃ j v:Nat,j < k∧s.2.1.getD k default=(j:Int)∧v < D0 c∧s.2.2.getD k default=(v:Int)∧G1 c (s.1.getD j default) (v:Int)=some (s.1.getD k default)
 nd:s.1.Nodup
theorem beg_wy (c:A7) (g:A9):Wy c g (Lm g):=⟨rfl,rfl,fun k h1 h2=>by simp only[Lm,List.length_cons,List.length_nil]at h2;omega,by simp[Lm]⟩
theorem visit_wy {c:A7} {g0:A9} {i v:Nat} {s s':SS} (I:Inv c s) (W:Wy c g0 s) (hi:i < s.1.length) (hv:v < D0 c) (hs:Fh c i s (v:Int)=some s'):Wy c g0 s':=by
 unfold Fh at hs
 split at hs
 ·injection hs with hs;subst hs;exact W
 ·rename_i h he
  unfold K4 at hs
  split at hs
  ·injection hs with hs;subst hs;exact W
  ·rename_i hh
   split at hs
   ·cases hs
   ·injection hs with hs
    subst hs
    have l1:=I.l1
    have l2:=I.l2
    have pos:=I.pos
    refine⟨?_,?_,fun k h1 h2=>?_,?_⟩
    ·show (s.1++[h]).getD 0 default=g0
     rw[Fe pos];exact W.i0
    ·show (s.2.1++[(i:Int)]).getD 0 default = -1
     rw[Fe (by omega)];exact W.f0
    ·simp only[List.length_append,List.length_cons,List.length_nil]at h2
     show ∃ j v':Nat,j < k∧(s.2.1++[(i:Int)]).getD k default=(j:Int)∧v' < D0 c∧(s.2.2++[(v:Int)]).getD k default=(v':Int)∧G1 c ((s.1++[h]).getD j default) (v':Int)=some ((s.1++[h]).getD k default)
     by_cases hk:k < s.1.length
     ·obtain⟨j,v',q1,q2,q3,q4,q5⟩:=W.w k h1 hk
      refine⟨j,v',q1,?_,q3,?_,?_⟩
      ·rw[Fe (by omega)];exact q2
      ·rw[Fe (by omega)];exact q4
      ·rw[Fe (by omega),Fe hk];exact q5
     ·obtain rfl:k=s.1.length:=by omega
      refine⟨i,v,hi,?_,hv,?_,?_⟩
      ·rw[W9 l1.symm]
      ·rw[W9 l2.symm]
      ·rw[Fe hi,W9 rfl];exact he
    ·show (s.1++[h]).Nodup
     rw[List.nodup_append]
     refine⟨W.nd,by simp,fun a ha b hb=>?_⟩
     simp only[List.mem_singleton]at hb
     subst hb
     rintro rfl
     exact hh (hasC_iff.2 ha)
theorem rnd_wy {c:A7} (H:Fit c) {g0:A9} {i:Nat}:∀ {l:List Int} {s s':SS},(∀ v∈l,∃ n:Nat,v=n∧n < D0 c)→Inv c s→Wy c g0 s→i < s.1.length→Fy c i l s=some s'→Wy c g0 s'
 | [],s,s',_,_,W,_,hs=>by injection hs with hs;subst hs;exact W
 | v :: l,s,s',hl,I,W,hi,hs=>by
  unfold Fy at hs
  rw[Option.bind_eq_some_iff]at hs
  obtain⟨t,h1,h2⟩:=hs
  obtain⟨n,rfl,hn⟩:=hl v (by simp)
  obtain⟨I1,k1⟩:=Pe H I h1
  exact rnd_wy H (fun w hw=>hl w (by simp[hw])) I1 (visit_wy I W hi hn h1) (by omega) h2
theorem allV_mem {c:A7} {v:Int}:v∈Mr c↔∃ n:Nat,v=n∧n < D0 c:=by
 unfold Mr
 rw[List.mem_map]
 constructor
 ·rintro⟨n,h,rfl⟩;exact⟨n,rfl,List.mem_range.1 h⟩
 ·rintro⟨n,rfl,h⟩;exact⟨n,List.mem_range.2 h,rfl⟩
theorem rh {c:A7} (H:Fit c) {g0:A9}:∀ {n i:Nat} {s s':SS},Inv c s→Wy c g0 s→Lp c n i s=some s'→Wy c g0 s'
 | 0,_,_,_,_,_,h=>by cases h
 | n+1,i,s,s',I,W,h=>by
  unfold Lp at h
  split at h
  ·rename_i hi
   rw[Option.bind_eq_some_iff]at h
   obtain⟨t,h1,h2⟩:=h
   exact rh H (V7 H I h1).1 (rnd_wy H (fun v hv=>allV_mem.1 hv) I W hi h1) h2
  ·injection h with h;subst h;exact W
def ax (c:A7):A9:=⟨(Dq c).1,(Dq c).2.1⟩
theorem Rc {c:A7} (H:Fit c) (hc:C8 c=some 0) {s:SS} (h:Dt c=some s):Wy c (ax c) s:=rh H (Qo H hc) (beg_wy c (ax c)) h
theorem wm {c:A7} {i:Nat} {s s':SS} {v:Int} (hs:Fh c i s v=some s') {h:A9} (he:G1 c (s.1.getD i default) v=some h):h∈s'.1:=by
 unfold Fh at hs
 rw[he]at hs
 simp only at hs
 unfold K4 at hs
 split at hs
 ·rename_i hh;injection hs with hs;subst hs;exact hasC_iff.1 hh
 ·split at hs
  ·cases hs
  ·injection hs with hs;subst hs;simp
theorem bd {c:A7} {i:Nat}:∀ {l:List Int} {s s':SS},Fy c i l s=some s'→∃ k,s'.1=s.1++k
 | [],s,s',hs=>by injection hs with hs;subst hs;exact⟨[],by simp⟩
 | v :: l,s,s',hs=>by
  unfold Fy at hs
  rw[Option.bind_eq_some_iff]at hs
  obtain⟨t,h1,h2⟩:=hs
  obtain⟨k1,e1⟩:=du h1
  obtain⟨k2,e2⟩:=bd h2
  exact⟨k1++k2,by rw[e2,e1,List.append_assoc]⟩
theorem ro {c:A7} {i:Nat}:∀ {l:List Int} {s s':SS},i < s.1.length→Fy c i l s=some s'→∀ v∈l,∀ h,G1 c (s.1.getD i default) v=some h→h∈s'.1
 | [],s,s',_,_,v,hv,_,_=>by cases hv
 | v :: l,s,s',hi,hs,w,hw,h,he=>by
  unfold Fy at hs
  rw[Option.bind_eq_some_iff]at hs
  obtain⟨t,h1,h2⟩:=hs
  obtain⟨k1,e1⟩:=du h1
  have e3:t.1.getD i default=s.1.getD i default:=by rw[e1,Fe hi]
  rcases List.mem_cons.1 hw with rfl | hw
  ·obtain⟨k2,e2⟩:=bd h2
   rw[e2];exact List.mem_append_left _ (wm h1 he)
  ·exact ro (by rw[e1];simp;omega) h2 w hw h (by rw[e3];exact he)
def Cl (c:A7) (s:SS) (i:Nat):Prop:=∀ j,j < i→∀ v:Nat,v < D0 c→∀ h,G1 c (s.1.getD j default) (v:Int)=some h→h∈s.1
theorem qb {c:A7}:∀ {n i:Nat} {s s':SS},i≤s.1.length→Cl c s i→Lp c n i s=some s'→Cl c s' s'.1.length
 | 0,_,_,_,_,_,h=>by cases h
 | n+1,i,s,s',hi,C,h=>by
  unfold Lp at h
  split at h
  ·rename_i hlt
   rw[Option.bind_eq_some_iff]at h
   obtain⟨t,h1,h2⟩:=h
   obtain⟨k,e⟩:=bd h1
   refine qb (by rw[e];simp;omega) (fun j hj v hv x hx=>?_) h2
   by_cases hji:j=i
   ·subst hji
    rw[e,Fe hlt]at hx
    exact ro hlt h1 v (allV_mem.2 ⟨v,rfl,hv⟩) x hx
   ·rw[e,Fe (by omega)]at hx
    rw[e];exact List.mem_append_left _ (C j (by omega) v hv x hx)
  ·injection h with h
   subst h
   obtain rfl:i=s.1.length:=by omega
   exact C
theorem w9 {c:A7} {s:SS} (h:Dt c=some s):Cl c s s.1.length:=qb (by simp) (fun j hj=>by omega) h
theorem sn {c:A7} {s:SS} (h:Dt c=some s) {g x:A9} (hg:g∈s.1) {v:Nat} (hv:v < D0 c) (he:G1 c g (v:Int)=some x):x∈s.1:=by
 obtain⟨j,hj,rfl⟩:=List.getElem_of_mem hg
 exact w9 h j hj v hv x (by simpa [List.getD_eq_getElem?_getD,List.getElem?_eq_getElem hj] using he)
end Go.Av
set_option maxRecDepth 100000
namespace Go.Av
open Ch Go.Proofs
theorem Om {l:List Int} {i k:Nat} {a:Int} (hi:i < l.length):(l.set i a).getD k default=if k=i then a else l.getD k default:=by
 simp only[List.getD_eq_getElem?_getD,List.getElem?_set]
 by_cases h:i=k
 ·subst h;simp[hi]
 ·have:¬ k=i:=fun e=>h e.symm
  simp[h,this]
structure Fb (s:SS):Prop where
 le:s.1.length≤400
 l1:s.2.1.length=s.1.length
 l2:s.2.2.length=s.1.length
 pos:0 < s.1.length
 f0:s.2.1.getD 0 default = -1
 w:∀ k,0 < k→k < s.1.length→∃ j:Nat,j < k∧s.2.1.getD k default=(j:Int)
def leafI (s:SS) (leaf:Int):Int:=Do (fun i=>(s.1.getD i default).Leaf==leaf) s.1.length
theorem oq (F:Nat→Bool) (n:Nat):(Do F n = -1∧Bo F n=false)∨∃ k:Nat,k < n∧Do F n=(k:Int)∧F k=true:=by
 unfold Do
 cases h:Be (fun i=>if F i=true then some (i:Int)else none) n with
 | none =>
  left
  refine⟨rfl,?_⟩
  rw[anyR_false]
  intro i hi
  have:=firstR_none.1 h i hi
  split at this
  ·cases this
  ·rename_i h2;simpa using h2
 | some y =>
  right
  obtain⟨i,hi,h2⟩:=Di h
  split at h2
  ·rename_i h3
   injection h2 with h2;subst h2
   exact⟨i,hi,rfl,h3⟩
  ·cases h2
end Go.Av
set_option maxRecDepth 100000
namespace Go.Av
open Ch Go.Proofs
def Dv (s:SS) (leaf:Int):Bool:=Bo (fun i=>(s.1.getD i default).Leaf==leaf) s.1.length
theorem reachB_iff {s:SS} {leaf:Int}:Dv s leaf=true↔∃ g∈s.1,g.Leaf=leaf:=by
 unfold Dv
 rw[anyR_iff]
 constructor
 ·rintro⟨i,hi,h⟩;exact⟨_,Bj hi,by simpa using h⟩
 ·rintro⟨g,hg,h⟩
  obtain⟨i,hi,rfl⟩:=List.getElem_of_mem hg
  exact⟨i,hi,by simpa [List.getD_eq_getElem?_getD,List.getElem?_eq_getElem hi] using h⟩
theorem ot (s:SS) (leaf:Int) (hl:s.1.length≤1000000):ck s.1 leaf=some (Dv s leaf):=by
 delta ck d58
 simp only[↓JD.sg_m,↓JD.sq_m,↓JD.sc_m,↓JD.bk_m,↓JD.lp_m,↓JD.cd_m,↓JD.lu_m,↓JD.ct_m,↓JD.ce_m,↓JL.r_m,↓JL.z_m,↓JD.se_m,Bi,↓Tr.run,↓Tr.run_nd,↓Tr.run_c3,↓Tr.run_c2,↓Tr.run_nx,↓As,Ao,Option.bind_some,Option.bind_none,Ca]
 rw[D4 s.1.length (fun i=>if((s.1.getD i default).Leaf==leaf)=true then some true else none) ?_ ?_,Co,Dv]
 ·cases Bo (fun i=>(s.1.getD i default).Leaf==leaf) s.1.length<;>rfl
 ·intro i hi
  (simp only[C2,Bx,Br];simp only[C3 hi,decide_true,Int.toNat_natCast,if_true,implies_true,D7 hi (by omega)];try rfl)
 ·(simp only[Bb,decide_false,Bool.false_eq_true,if_false];try rfl)
def Od (c:A7) (leaf kind:Int) (v:Nat):Option Aq :=
 if Cx c (v:Int)=true then
  if(kind==1&&((Ad c leaf (v:Int)).length:Int)==0)=true then some ⟨kind,leaf,(v:Int),-1,-1⟩
  else if(kind==2&&decide (1 < ((Ad c leaf (v:Int)).length:Int)))=true then some ⟨kind,leaf,(v:Int),(Ad c leaf (v:Int)).getD 0 default,(Ad c leaf (v:Int)).getD 1 default⟩else none
 else none
def Ck (c:A7) (leaf kind:Int):Option Aq:=Be (Od c leaf kind) (D0 c)
theorem yh {c:A7} (H:Fit c) (hn:c.Ag.length≤12) (leaf kind:Int):m59 c leaf kind=some (match Ck c leaf kind with | some x=>(x,true) | none=>(⟨0,0,0,0,0⟩,false)):=by
 have h1:=Lk c
 have h2:=Ja hn
 have q1:=bf hn
 have q2:∀ v:Nat,v < D0 c→Ww c (v:Int)=some (Cx c (v:Int)):=fun v hv=>Q2 c H v (by omega) (by omega)
 have q3:=Q4 c H
 delta m59 d59
 simp only[↓JD.sg_m,↓JD.sq_m,↓JD.sc_m,↓JD.bk_m,↓JD.lp_m,↓JD.cd_m,↓JD.lu_m,↓JD.ct_m,↓JD.ce_m,↓JL.r_m,↓JL.z_m,↓JD.se_m,Bi,↓Tr.run,↓Tr.run_nd,↓Tr.run_c3,↓Tr.run_c2,↓Tr.run_nx,↓As,Ao,Option.bind_some,Option.bind_none,Ca,q1,q3]
 generalize Ww=F at q2 ⊢
 rw[D4 (D0 c) (fun v=>(Od c leaf kind v).map fun x=>(x,true)) ?_ ?_]
 ·unfold Ck
  have e:Be (fun v=>(Od c leaf kind v).map fun x=>(x,true)) (D0 c)=(Be (Od c leaf kind) (D0 c)).map fun x=>(x,true):=by
   generalize D0 c=n
   induction n with
   | zero=>rfl
   | succ n ih =>
    rw[Ls,Ls,ih]
    cases Be (Od c leaf kind) n<;>rfl
  rw[e]
  cases Be (Od c leaf kind) (D0 c)<;>rfl
 ·intro v hv
  have d1:decide ((v:Int)≤(D0 c:Int) - 1)=true:=by simp;omega
  have w1:IntKind.wrap .u16 (v:Int)=(v:Int):=n16 (by omega)
  have w2:IntKind.wrap .i64 ((v:Int)+1)=(v:Int)+1:=El (by omega) (by omega)
  simp only[d1,if_true,w1,w2,q2 v hv,Option.bind_some]
  unfold Od
  cases ha:Cx c (v:Int) with
  | false=>simp only[Bool.not_false,if_true,Bool.false_eq_true,if_false,Option.map_none,Br]
  | true =>
   simp only[Bool.not_true,Bool.false_eq_true,if_false,if_true]
   by_cases k1:(kind==1&&((Ad c leaf (v:Int)).length:Int)==0)=true
   ·simp only[k1,if_true,Option.map_some,Bx]
   ·have k1:=Bool.eq_false_iff.2 k1
    simp only[k1,Bool.false_eq_true,if_false]
    by_cases k2:(kind==2&&decide (1 < ((Ad c leaf (v:Int)).length:Int)))=true
    ·have k2a:(kind==2)=true:=by simp only[Bool.and_eq_true]at k2;exact k2.1
     have hl:(1:Int) < ((Ad c leaf (v:Int)).length:Int):=by
      simp only[Bool.and_eq_true,decide_eq_true_eq]at k2;exact k2.2
     have c1:((0:Int)≤(0:Int))=True:=eq_true (by omega)
     have c2:(0 < ((Ad c leaf (v:Int)).length:Int))=True:=eq_true (by omega)
     have c3:((0:Int)≤(1:Int))=True:=eq_true (by omega)
     have c4:(1 < ((Ad c leaf (v:Int)).length:Int))=True:=eq_true hl
     simp only[k2a,Bool.true_and,c1,c2,c3,c4,decide_true,if_true,Option.map_some,Bx];rfl
    ·have k2:=Bool.eq_false_iff.2 k2
     simp only[k2,Bool.false_eq_true,if_false,Option.map_none,Br]
 ·have d1:decide ((D0 c:Int)≤(D0 c:Int) - 1)=false:=by simp;omega
  simp only[d1,Bool.false_eq_true,if_false]
def Ml (c:A7) (leaf t:Int) (v:Nat):Bool:=Cx c (v:Int)&&Df (Ad c leaf (v:Int)) (Ad c leaf (v:Int)).length t
def Cp (c:A7) (leaf t:Int):Bool:=Bo (Ml c leaf t) (D0 c)
theorem dp {c:A7} (H:Fit c) (hn:c.Ag.length≤12) (leaf t:Int):dg c leaf t=some (Cp c leaf t):=by
 have h1:=Lk c
 have h2:=Ja hn
 have htr:=H.trans
 have q1:=bf hn
 have q2:∀ v:Nat,v < D0 c→Ww c (v:Int)=some (Cx c (v:Int)):=fun v hv=>Q2 c H v (by omega) (by omega)
 have q3:=Q4 c H
 delta dg d60
 simp only[↓JD.sg_m,↓JD.sq_m,↓JD.sc_m,↓JD.bk_m,↓JD.lp_m,↓JD.cd_m,↓JD.lu_m,↓JD.ct_m,↓JD.ce_m,↓JL.r_m,↓JL.z_m,↓JD.se_m,Bi,↓Tr.run,↓Tr.run_nd,↓Tr.run_c3,↓Tr.run_c2,↓Tr.run_nx,↓As,Ao,Option.bind_some,Option.bind_none,Ca,q1,q3]
 generalize Ww=F at q2 ⊢
 rw[D4 (D0 c) (fun v=>if Ml c leaf t v=true then some true else none) ?_ ?_,Co,Cp]
 ·cases Bo (Ml c leaf t) (D0 c)<;>rfl
 ·intro v hv
  have d1:decide ((v:Int)≤(D0 c:Int) - 1)=true:=by simp;omega
  have w1:IntKind.wrap .u16 (v:Int)=(v:Int):=n16 (by omega)
  have w2:IntKind.wrap .i64 ((v:Int)+1)=(v:Int)+1:=El (by omega) (by omega)
  have hel:=Of c leaf (v:Int)
  simp only[d1,if_true,w1,w2,q2 v hv,Option.bind_some,Gn]
  unfold Ml
  cases ha:Cx c (v:Int) with
  | false=>simp only[Bool.not_false,if_true,Bool.false_and,Bool.false_eq_true,if_false,Br,Ru,Option.bind_some];rfl
  | true =>
   simp only[Bool.not_true,Bool.false_eq_true,if_false,Bool.true_and,Option.bind_some,Gn]
   rw[D4 (Ad c leaf (v:Int)).length (fun i=>if((Ad c leaf (v:Int)).getD i default==t)=true then some (.inr (.inr true))else none) ?_ ?_]
   ·rw[Co]
    have:Bo (fun i=>(Ad c leaf (v:Int)).getD i default==t) (Ad c leaf (v:Int)).length=Df (Ad c leaf (v:Int)) (Ad c leaf (v:Int)).length t:=by
     unfold Df
     refine Nd fun i hi=>?_
     rw[Bool.eq_iff_iff,beq_iff_eq,beq_iff_eq]
     exact eq_comm
    rw[this]
    cases Df (Ad c leaf (v:Int)) (Ad c leaf (v:Int)).length t<;>rfl
   ·intro i hi
    simp only[C2,Bx,Br,C3 hi,decide_true,Int.toNat_natCast,if_true,D7 hi (by omega)]
   ·simp only[Bb,decide_false,Bool.false_eq_true,if_false]
 ·have d1:decide ((D0 c:Int)≤(D0 c:Int) - 1)=false:=by simp;omega
  simp only[d1,Bool.false_eq_true,if_false,Option.bind_some,Ru]
end Go.Av
set_option maxRecDepth 100000
namespace Go.Av
open Ch Go.Proofs
def Ew (c:A7) (i:Nat):Int:=(Bq c).getD i default
def N4 (c:A7) (s:SS) (kind:Int) (i:Nat):List Aq:=if Dv s (Ew c i)=true then(Ck c (Ew c i) kind).toList else[]
def Hj (c:A7) (s:SS) (i:Nat):List Aq:=if Dv s (Ew c i)=true then[]else[⟨3,Ew c i,0,-1,-1⟩]
def Pc (c:A7) (s:SS) (t:Nat):Bool:=Bo (fun i=>Dv s (Ew c i)&&Cp c (Ew c i) (t:Int)) (Bq c).length
def G2 (c:A7) (s:SS) (t:Nat):List Aq:=if Pc c s t=true then[]else[⟨4,-1,0,(t:Int),-1⟩]
def Ct (c:A7) (s:SS) (kind:Int):List Aq:=(List.range (Bq c).length).flatMap (N4 c s kind)
def Dz (c:A7) (s:SS):List Aq:=Ct c s 1++Ct c s 2++(List.range (Bq c).length).flatMap (Hj c s)++(List.range c.A0.length).flatMap (G2 c s)
theorem cc (c:A7) (s:SS) (kind:Int) (i:Nat):(N4 c s kind i).length≤1:=by
 unfold N4;split
 ·cases Ck c (Ew c i) kind<;>simp
 ·simp
theorem Nw (c:A7) (s:SS) (i:Nat):(Hj c s i).length≤1:=by unfold Hj;split<;>simp
theorem Sh (c:A7) (s:SS) (i:Nat):(G2 c s i).length≤1:=by unfold G2;split<;>simp
theorem Hi (c:A7) (s:SS) (kind:Int):(Ct c s kind).length≤(Bq c).length:=by
 have:=Bh (cc c s kind) (Bq c).length
 unfold Ct;omega
theorem Oo {A St X:Type} {b:St→Option (St⊕X)} (n:Nat) (mk:Nat→List A→St) (g:Nat→List A) (out:List A→X) (pre:List A)
  (hs:∀ i,i < n→b (mk i (pre++(List.range i).flatMap g))=some (.inl (mk (i+1) (pre++(List.range i).flatMap g++g i)))) (he:b (mk n (pre++(List.range n).flatMap g))=some (.inr (out (pre++(List.range n).flatMap g)))) :
  Bl b (mk 0 pre)=some (out (pre++(List.range n).flatMap g)):=by
 have key:∀ k i,i+k=n→Bl b (mk i (pre++(List.range i).flatMap g))=some (out (pre++(List.range n).flatMap g)):=by
  intro k
  induction k with
  | zero =>
   intro i hk
   obtain rfl:i=n:=by omega
   rw[Cd,he];rfl
  | succ k ih =>
   intro i hk
   rw[Cd,hs i (by omega),List.append_assoc,← F8]
   exact ih (i+1) (by omega)
 have:=key n 0 (by omega)
 simpa using this
def w7 (c:A7):Option (List Aq×Int):=(C8 c).bind fun e=>if(e != 0)=true then some ([],e)else match Dt c with | some s=>some (Dz c s,0) | none=>some ([],3)
theorem Pw {c:A7}:(Bq c).length≤c.A4.length:=by
 have:=Bh (Pb c) c.A4.length
 unfold Bq;omega
theorem M22 (a0:A7):m22 a0=((Option.bind (Option.bind (Option.bind (m16 a0) fun r=>some r) fun x1=>(if(x1.2 != 0)=true then(some (.inr (([],x1.2))))else(some (.inl x1.1)))) (As fun(y1:(List A9))=>(Option.bind (Option.bind (some (.inl ())) (As fun(_:Unit)=>(Bl (fun(s2:(List Aq)×Int)=>((Option.bind (if(decide (s2.2≤2))=true then(some (.inl ()))else(some (.inr (.inr (.inl s2.1))))) (As fun(_:Unit)=>(Option.bind (Option.bind (Option.bind (Option.bind (fv a0) fun r=>some r) fun x8=>(some (.inl (x8,(x8.length:Int))))) (As fun(y3:(List Int)×Int)=>(Bl (fun(s4:(List Aq)×Int)=>((if(decide (s4.2 < y3.2))=true then(if(0≤s4.2)then(if(s4.2 < (y3.1.length:Int))then(Option.bind (Option.bind (ck y1 (y3.1.getD s4.2.toNat default)) fun r=>some r) fun x11=>(if x11=true then(Option.bind (Option.bind (m59 a0 (y3.1.getD s4.2.toNat default) s2.2) fun r=>some r) fun x12=>(if x12.2=true then(if((s4.1.length+1) * 40≤140737488355328)then(some (.inl ((s4.1++([x12.1]:List Aq)),(IntKind.wrap .i64 (s4.2+1)))))else none)else(some (.inl (s4.1,(IntKind.wrap .i64 (s4.2+1)))))))else(some (.inl (s4.1,(IntKind.wrap .i64 (s4.2+1)))))))else none)else none)else(some (.inr (.inl s4.1)))):Option (((List Aq)×Int)⊕(((List Aq))⊕(((List Aq)×Int)⊕(((List Aq))⊕((List Aq)×Int))))))) (s2.1,(0:Int))))) (As fun(y5:(List Aq))=>(some (.inl (y5,(IntKind.wrap .u8 (s2.2+1))))))))):Option (((List Aq)×Int)⊕(((List Aq))⊕((List Aq)×Int))))) ([],(1:Int))))) (As fun(y6:(List Aq))=>(Option.bind (Option.bind (Option.bind (Option.bind (fv a0) fun r=>some r) fun x16=>(some (.inl (x16,(x16.length:Int))))) (As fun(y7:(List Int)×Int)=>(Bl (fun(s8:(List Aq)×Int)=>((if(decide (s8.2 < y7.2))=true then(if(0≤s8.2)then(if(s8.2 < (y7.1.length:Int))then(Option.bind (Option.bind (ck y1 (y7.1.getD s8.2.toNat default)) fun r=>some r) fun x19=>(if(!x19)=true then(if((s8.1.length+1) * 40≤140737488355328)then(some (.inl ((s8.1++([(⟨(3:Int),(y7.1.getD s8.2.toNat default),(0:Int),(-1:Int),(-1:Int)⟩:Aq)]:List Aq)),(IntKind.wrap .i64 (s8.2+1)))))else none)else(some (.inl (s8.1,(IntKind.wrap .i64 (s8.2+1)))))))else none)else none)else(some (.inr (.inl s8.1)))):Option (((List Aq)×Int)⊕(((List Aq))⊕((List Aq)×Int))))) (y6,(0:Int))))) (As fun(y9:(List Aq))=>(Option.bind (Option.bind (some (.inl ())) (As fun(_:Unit)=>(Bl (fun(s10:(List Aq)×Int)=>((Option.bind (if(decide (s10.2 < (a0.A0.length:Int)))=true then(some (.inl ()))else(some (.inr (.inr (.inl s10.1))))) (As fun(_:Unit)=>(Option.bind (Option.bind (some (.inl ())) (As fun(_:Unit)=>(Option.bind (Option.bind (Option.bind (Option.bind (fv a0) fun r=>some r) fun x26=>(some (.inl (x26,(x26.length:Int))))) (As fun(y11:(List Int)×Int)=>(Bl (fun(s12:Bool×Int)=>((if(decide (s12.2 < y11.2))=true then(if(0≤s12.2)then(if(s12.2 < (y11.1.length:Int))then(Option.bind (((if(!s12.1)=true then ck y1 (y11.1.getD s12.2.toNat default)else some default).bind fun r29_0=>((if((!s12.1)&&r29_0)=true then dg a0 (y11.1.getD s12.2.toNat default) s10.2 else some default).bind fun r29_1=>some (r29_0,r29_1)))) fun(x29:(Bool×Bool))=>(some (.inl ((s12.1 || (x29.1&&x29.2)),(IntKind.wrap .i64 (s12.2+1))))))else none)else none)else(some (.inr (.inl s12.1)))):Option ((Bool×Int)⊕((Bool)⊕(((List Aq))⊕(((List Aq)×Int)⊕(((List Aq))⊕((List Aq)×Int)))))))) (false,(0:Int))))) (As fun(y13:Bool)=>(if(!y13)=true then(if((s10.1.length+1) * 40≤140737488355328)then(some (.inl (s10.1++([(⟨(4:Int),(-1:Int),(0:Int),s10.2,(-1:Int)⟩:Aq)]:List Aq))))else none)else(some (.inl s10.1))))))) (As fun(y14:(List Aq))=>(some (.inl (y14,(IntKind.wrap .i64 (s10.2+1))))))))):Option (((List Aq)×Int)⊕(((List Aq))⊕((List Aq)×Int))))) (y9,(0:Int))))) (As fun(y15:(List Aq))=>(some (y15,(0:Int))))))))))):Option ((List Aq)×Int)):=by kernel_rfl
theorem nf {c:A7} (H:Fit c) (hn:c.Ag.length≤12):m22 c=w7 c:=by
 obtain⟨e,he⟩:=Cz c
 have hst:=H.states
 have htr:=H.trans
 have hll:=Pw (c:=c)
 have q0:=S0 H hn
 have q1:=Y3 c H
 have q2:=fun(s:SS) (hs:s.1.length≤1000000) (leaf:Int)=>ot s leaf hs
 have q3:=yh H hn
 have q4:=dp H hn
 unfold w7
 simp only[M22,Fc,q0,q1,q3,q4]
 generalize ck=F at q2 ⊢
 unfold Xh
 by_cases h0:(e != 0)=true
 ·simp only[he,bs,h0,if_true,Ou]
 ·have h0:=Bool.eq_false_iff.2 h0
  have e0:e=0:=by simpa using h0
  subst e0
  simp only[he,bs,h0,Bool.false_eq_true,if_false]
  cases hs:Dt c with
  | none=>rfl
  | some s =>
   have I:=M1 H he hs
   have b1:=I.le
   have q2:=q2 s (by omega)
   have k1:=Hi c s 1
   have k2:=Hi c s 2
   simp only[Dl,Bool.false_eq_true,if_false,bs,ol]
   have e12:(List.range 2).flatMap (fun k:Nat=>Ct c s ((k:Int)+1))=Ct c s 1++Ct c s 2:=by simp[List.range_succ]
   refine E2 (y:=Ct c s 1++Ct c s 2) ?_ ?_
   ·rw[← e12]
    refine E9 2 (fun i l=>(l,(i:Int)+1)) (fun k:Nat=>Ct c s ((k:Int)+1)) Sum.inl (fun i hi=>?_) ?_
    ·have d1:decide ((i:Int)+1≤2)=true:=by simp;omega
     have hpl:((List.range i).flatMap fun k:Nat=>Ct c s ((k:Int)+1)).length≤i * (Bq c).length:=Bh (m:=(Bq c).length) (fun k=>Hi c s _) i
     have hpl2:((List.range i).flatMap fun k:Nat=>Ct c s ((k:Int)+1)).length≤2000:=by
      have:i * (Bq c).length≤2 * (Bq c).length:=Nat.mul_le_mul_right _ (by omega)
      omega
     simp only[d1,if_true,bs,ol]
     generalize ((List.range i).flatMap fun k:Nat=>Ct c s ((k:Int)+1))=pre at hpl2 ⊢
     refine J9 (Oo (Bq c).length (fun j l=>(l,(j:Int))) (N4 c s ((i:Int)+1)) Sum.inl pre (fun j hj=>?_) ?_) ?_
     ·have hgl:=Bh (cc c s ((i:Int)+1)) j
      have c1:((pre++(List.range j).flatMap (N4 c s ((i:Int)+1))).length+1) * 40≤140737488355328:=by rw[List.length_append];omega
      have w2:IntKind.wrap .i64 ((j:Int)+1)=((j+1:Nat):Int):=by rw[El (by omega) (by omega)];omega
      simp only[C3 hj,decide_true,if_true,Int.toNat_natCast,q2,bs,w2]
      unfold N4 Ew
      cases Dv s ((Bq c).getD j default) with
      | false=>simp only[Bool.false_eq_true,if_false,List.append_nil]
      | true =>
       simp only[if_true]
       cases Ck c ((Bq c).getD j default) ((i:Int)+1) with
       | none=>simp only[Bool.false_eq_true,if_false,Option.toList_none,List.append_nil]
       | some x =>
        have c1':=c1
        unfold N4 Ew at c1'
        simp only[if_true,Option.toList_some,eq_true c1']
     ·simp only[Bb,decide_false,Bool.false_eq_true,if_false]
     ·have w3:IntKind.wrap .u8 ((i:Int)+1+1)=((i+1:Nat):Int)+1:=by rw[IntWalk.u8_in _ (by omega)];omega
      simp only[bs,ol,w3];rfl
    ·rfl
   ·refine E2 (y:=Ct c s 1++Ct c s 2++(List.range (Bq c).length).flatMap (Hj c s)) ?_ ?_
    ·refine Oo (Bq c).length (fun j l=>(l,(j:Int))) (Hj c s) Sum.inl (Ct c s 1++Ct c s 2) (fun j hj=>?_) ?_
     ·have hgl:=Bh (Nw c s) j
      have c1:(((Ct c s 1++Ct c s 2)++(List.range j).flatMap (Hj c s)).length+1) * 40≤140737488355328:=by rw[List.length_append,List.length_append];omega
      have w2:IntKind.wrap .i64 ((j:Int)+1)=((j+1:Nat):Int):=by rw[El (by omega) (by omega)];omega
      simp only[C3 hj,decide_true,if_true,Int.toNat_natCast,q2,bs,w2,eq_true c1]
      unfold Hj Ew
      cases Dv s ((Bq c).getD j default) with
      | false=>simp only[Bool.not_false,Bool.false_eq_true,if_true,if_false]
      | true=>simp only[Bool.not_true,Bool.false_eq_true,if_true,if_false,List.append_nil]
     ·simp only[Bb,decide_false,Bool.false_eq_true,if_false]
    ·have hul:=Bh (Nw c s) (Bq c).length
     refine E2 (y:=Dz c s) ?_ rfl
     unfold Dz
     refine Oo c.A0.length (fun j l=>(l,(j:Int))) (G2 c s) Sum.inl _ (fun t ht=>?_) ?_
     ·have hgl:=Bh (Sh c s) t
      have c1:(((Ct c s 1++Ct c s 2++(List.range (Bq c).length).flatMap (Hj c s))++(List.range t).flatMap (G2 c s)).length+1) * 40≤140737488355328:=by simp only[List.length_append];omega
      have w2:IntKind.wrap .i64 ((t:Int)+1)=((t+1:Nat):Int):=by rw[El (by omega) (by omega)];omega
      have ht':(t:Int) < (c.A0.length:Int):=by omega
      simp only[ht',decide_true,if_true,bs,ol,w2]
      refine J9 (m':=some (.inl (Ct c s 1++Ct c s 2++(List.range (Bq c).length).flatMap (Hj c s)++(List.range t).flatMap (G2 c s)++G2 c s t))) ?_ (by simp only[bs,ol])
      refine any_loop (Bq c).length (fun i=>Dv s (Ew c i)&&Cp c (Ew c i) (t:Int)) (fun f i hi=>?_) (fun f=>?_) ?_
      ·have w2:IntKind.wrap .i64 ((i:Int)+1)=((i+1:Nat):Int):=by rw[El (by omega) (by omega)];omega
       simp only[C3 hi,decide_true,if_true,Int.toNat_natCast,q2,bs,w2]
       unfold Ew
       cases f with
       | true=>simp only[Bool.not_true,Bool.false_and,Bool.false_eq_true,if_false,bs,Bool.true_or]
       | false =>
        simp only[Bool.not_false,Bool.true_and,if_true,bs,Bool.false_or]
        cases Dv s ((Bq c).getD i default) with
        | false=>simp only[Bool.false_eq_true,if_false,bs,Bool.false_and]
        | true=>simp only[if_true,bs,Bool.true_and]
      ·simp only[Bb,decide_false,Bool.false_eq_true,if_false]
      ·have hlv:Bo (fun i=>Dv s (Ew c i)&&Cp c (Ew c i) (t:Int)) (Bq c).length=Pc c s t:=rfl
       rw[hlv]
       cases hl2:Pc c s t with
       | true =>
        have hd:G2 c s t=[]:=by unfold G2;rw[hl2];rfl
        simp only[Bool.not_true,Bool.false_eq_true,if_true,if_false,hd,List.append_nil]
       | false =>
        have hd:G2 c s t=[⟨4,-1,0,(t:Int),-1⟩]:=by unfold G2;rw[hl2];rfl
        simp only[Bool.not_false,Bool.false_eq_true,if_true,if_false,eq_true c1,hd]
     ·simp only[Bb,decide_false,Bool.false_eq_true,if_false,bs,Ou]
end Go.Av
set_option maxRecDepth 100000
namespace Go.Av
open Ch Go.Proofs
theorem J3 {zs:List Int} {j:Nat} (h:j < zs.length):(zs.toArray)[j]! = zs[j]:=by
 rw[getElem!_pos _ _ (by simpa using h)];simp
theorem cmpI_mem {zs:List Int} {x:Int}:x∈Ed zs↔x∈zs:=by
 unfold Ed Lib.compact Lib.compactUpTo
 rw[List.mem_map]
 constructor
 ·rintro⟨j,hj,rfl⟩
  have:=List.mem_range.1 (List.mem_filter.1 hj).1
  rw[J3 this];exact List.getElem_mem _
 ·intro hx
  obtain⟨j,hj,e⟩:=List.getElem_of_mem hx
  -- the first place where it stands
  have key:∀ n j,j≤n→(h:j < zs.length)→∃ k,k < zs.length∧Lib.keeps zs.toArray k=true∧(zs.toArray)[k]! = zs[j]:=by
   intro n
   induction n with
   | zero =>
    intro j h1 h2
    obtain rfl:j=0:=by omega
    exact⟨0,h2,by simp[Lib.keeps],J3 h2⟩
   | succ n ih =>
    intro j h1 h2
    cases hk:Lib.keeps zs.toArray j with
    | true=>exact⟨j,h2,hk,J3 h2⟩
    | false =>
     have h3:¬ (j=0):=by rintro rfl;simp[Lib.keeps]at hk
     have h4:(zs.toArray)[j]! = (zs.toArray)[j - 1]! := by
      simp only[Lib.keeps,decide_eq_false_iff_not,not_or,Decidable.not_not]at hk;exact hk.2
     rw[J3 h2,J3 (show j - 1 < zs.length by omega)]at h4
     obtain⟨k,k1,k2,k3⟩:=ih (j - 1) (by omega) (by omega)
     exact⟨k,k1,k2,by rw[k3,← h4]⟩
  obtain⟨k,k1,k2,k3⟩:=key j j (Nat.le_refl _) hj
  exact⟨k,List.mem_filter.2 ⟨List.mem_range.2 k1,k2⟩,by rw[k3,e]⟩
theorem cmpI_lt {zs:List Int} (hs:zs.Pairwise (·≤·)):(Ed zs).Pairwise (· < ·):=by
 unfold Ed Lib.compact Lib.compactUpTo
 rw[List.pairwise_map]
 have h1:(List.range zs.length).Pairwise (· < ·):=List.pairwise_lt_range
 have h2:=h1.filter (Lib.keeps zs.toArray)
 refine h2.imp_of_mem (fun {a b} ha hb hab=>?_)
 have ha':=List.mem_range.1 (List.mem_filter.1 ha).1
 have hb':=List.mem_range.1 (List.mem_filter.1 hb).1
 have hk:=(List.mem_filter.1 hb).2
 rw[J3 ha',J3 hb']
 have h0:b≠0:=by omega
 have h4:(zs.toArray)[b]! ≠ (zs.toArray)[b - 1]! := by
  simp only[Lib.keeps,decide_eq_true_eq]at hk;exact hk.resolve_left h0
 rw[J3 hb',J3 (show b - 1 < zs.length by omega)]at h4
 have le:∀ i j,(hi:i < zs.length)→(hj:j < zs.length)→i≤j→zs[i]≤zs[j]:=fun i j hi hj hij=>by
  rcases Nat.eq_or_lt_of_le hij with rfl | h
  ·exact Int.le_refl _
  ·exact List.pairwise_iff_getElem.1 hs i j hi hj h
 have l1:=le a (b - 1) ha' (by omega) (by omega)
 have l2:=le (b - 1) b (by omega) hb' (by omega)
 omega
def Vr (s:SS):List Int:=(List.range s.1.length).flatMap fun i=>[(s.1.getD i default).Leaf]
def rL (c:A7) (s:SS):List Int:=(Bq c).filter (Dv s)
theorem lvs_mem {s:SS} {x:Int}:x∈Vr s↔Dv s x=true:=by
 unfold Vr Dv
 rw[List.mem_flatMap,anyR_iff]
 constructor
 ·rintro⟨i,h1,h2⟩
  simp only[List.mem_singleton]at h2
  exact⟨i,List.mem_range.1 h1,by rw[h2];simp⟩
 ·rintro⟨i,h1,h2⟩
  exact⟨i,List.mem_range.2 h1,List.mem_singleton.2 (eq_of_beq h2).symm⟩
theorem so (c:A7):(Bq c).Pairwise (· < ·):=by
 unfold Bq
 generalize c.A4.length=n
 induction n with
 | zero=>simp
 | succ n ih =>
  rw[F8,List.pairwise_append]
  refine⟨ih,?_,fun a ha b hb=>?_⟩
  ·unfold Ju;split<;>simp
  ·obtain⟨i,h1,h2⟩:=List.mem_flatMap.1 ha
   have:=List.mem_range.1 h1
   unfold Ju at h2 hb
   split at h2
   ·cases h2
   ·split at hb
    ·cases hb
    ·simp only[List.mem_singleton]at h2 hb
     omega
theorem wu {l k:List Int} (h1:l.Pairwise (· < ·)) (h2:k.Pairwise (· < ·)) (h:∀ x,x∈l↔x∈k):l=k:=by
 have n1:l.Nodup:=h1.imp fun h=>by omega
 have n2:k.Nodup:=h2.imp fun h=>by omega
 exact List.Perm.eq_of_pairwise (le:=fun x y:Int=>x≤y) (fun a b _ _ h1 h2=>by omega) (h1.imp fun h=>by omega) (h2.imp fun h=>by omega) ((List.perm_ext_iff_of_nodup n1 n2).2 h)
theorem er {c:A7} {s:SS} (I:Inv c s):Ed (Db (Vr s))=rL c s:=by
 refine wu (cmpI_lt (O2 _)) ((so c).filter _) fun x=>?_
 rw[cmpI_mem,(N9 _).mem_iff,lvs_mem]
 unfold rL
 rw[List.mem_filter]
 constructor
 ·intro h
  refine⟨?_,h⟩
  obtain⟨g,hg,rfl⟩:=reachB_iff.1 h
  have:=validS_iff.1 (I.ok g hg)
  exact leavesS_iff.2 ⟨this.1,this.2.1⟩
 ·exact fun h=>h.2
theorem M100o1 (a0:A7) (a1:List A9) (a2 a3 a4:List Int):Sa a0 a1 a2 a3 a4=((Option.bind (some (.inl ())) (As fun(_:Unit)=>(Option.bind (Option.bind (some (.inl ())) (As fun(_:Unit)=>(Bl (fun(s1:(List Int)×Int)=>((if(decide (s1.2 < (a1.length:Int)))=true then(if(0≤s1.2)then(if(s1.2 < (a1.length:Int))then(Option.bind ((if(s1.1.length+1) * 8≤140737488355328 then some ()else none)) fun(x5:(Unit))=>(some (.inl ((s1.1++([(a1.getD s1.2.toNat default).Leaf]:List Int)),(IntKind.wrap .i64 (s1.2+1))))))else none)else none)else(some (.inr (.inl s1.1)))):Option (((List Int)×Int)⊕(((List Int))⊕((List Int)))))) (([]:List Int),(0:Int))))) (As fun(y2:(List Int))=>(Option.bind (Option.bind (Wb y2) fun r=>some r) fun x7=>(Option.bind (Option.bind (Vz (Db y2)) fun r=>some r) fun x8=>(some (Ed (Db y2))))))))):Option ((List Int))):=by kernel_rfl
theorem t8 {c:A7} {s:SS} (I:Inv c s) (w:List Int):Sa c s.1 s.2.1 s.2.2 w=some (rL c s):=by
 have b1:=I.le
 simp only[M100o1,Fc,bs,ol]
 refine E2 (E9 s.1.length (fun i l=>(l,(i:Int))) (fun i=>[(s.1.getD i default).Leaf]) Sum.inl (fun i hi=>?_) ?_) ?_
 ·have hgl:=Bh (g:=fun i=>[(s.1.getD i default).Leaf]) (m:=1) (fun i=>by simp) i
  have c1:(((List.range i).flatMap fun i=>[(s.1.getD i default).Leaf]).length+1) * 8≤140737488355328:=by omega
  have w2:IntKind.wrap .i64 ((i:Int)+1)=((i+1:Nat):Int):=by rw[El (by omega) (by omega)];omega
  simp only[C3 hi,decide_true,if_true,Int.toNat_natCast,eq_true c1,bs,w2]
 ·simp only[Bb,decide_false,Bool.false_eq_true,if_false]
 ·have hlen:(Vr s).length≤400:=by
   have:=Bh (g:=fun i=>[(s.1.getD i default).Leaf]) (m:=1) (fun i=>by simp) s.1.length
   unfold Vr;omega
  have m1:Wb (Vr s)=some ():=by unfold Wb;rw[if_pos (by omega)]
  have m2:Vz (Db (Vr s))=some ():=by unfold Vz;rw[if_pos (by rw[Mm];omega)]
  show (Wb (Vr s)).bind (fun _=>(Vz (Db (Vr s))).bind fun _=>some (Ed (Db (Vr s))))=_
  rw[m1,Option.bind_some,m2,Option.bind_some,er I]
end Go.Av
set_option maxRecDepth 100000
namespace Go.Av
open Ch Go.Proofs
theorem Kw {α β:Type} [Inhabited α] (f:α→List β):∀ (l:List α),(List.range l.length).flatMap (fun j=>f (l.getD j default))=l.flatMap f
 | []=>rfl
 | x :: l=>by
  rw[List.length_cons,List.range_succ_eq_map,List.flatMap_cons,List.flatMap_map,List.flatMap_cons]
  congr 1
  exact Kw f l
theorem Vl {α β:Type} (p:α→Bool) (f:α→List β):∀ (l:List α),(l.filter p).flatMap f=l.flatMap fun x=>if p x=true then f x else[]
 | []=>rfl
 | x :: l=>by
  rw[List.flatMap_cons,← Vl p f l]
  cases h:p x with
  | true=>rw[List.filter_cons_of_pos (by exact h),List.flatMap_cons,if_pos rfl]
  | false=>rw[List.filter_cons_of_neg (by rw[h];decide),if_neg (by decide),List.nil_append]
theorem Vs {α Y:Type} [Inhabited α] (f:α→Option Y) (l:List α):Be (fun j=>f (l.getD j default)) l.length=l.findSome? f:=by
 unfold Be
 induction l with
 | nil=>rfl
 | cons x l ih =>
  rw[List.length_cons,List.range_succ_eq_map,List.findSome?_cons,List.findSome?_cons,List.findSome?_map]
  show (match f x with | some b=>some b | none=>_)=_
  cases f x with
  | some b=>rfl
  | none=>exact ih
theorem Ue {α:Type} [Inhabited α] (p:α→Bool) (l:List α):Bo (fun j=>p (l.getD j default)) l.length=l.any p:=by
 rw[Bool.eq_iff_iff,anyR_iff,List.any_eq_true]
 constructor
 ·rintro⟨i,hi,h⟩;exact⟨_,Bj hi,h⟩
 ·rintro⟨x,hx,h⟩
  obtain⟨i,hi,rfl⟩:=List.getElem_of_mem hx
  exact⟨i,hi,by simpa [List.getD_eq_getElem?_getD,List.getElem?_eq_getElem hi] using h⟩
theorem Ms {α β Y:Type} (f:β→Option Y) (g:α→List β):∀ l:List α,(l.flatMap g).findSome? f=l.findSome? fun x=>(g x).findSome? f
 | []=>rfl
 | x :: l=>by
  rw[List.flatMap_cons,List.findSome?_append,List.findSome?_cons,Ms f g l]
  cases (g x).findSome? f<;>rfl
theorem Yn {Y:Type} {f:Nat→Option Y} {n:Nat}:Be f (n+1)=K7 (Be f n) (f n):=by
 rw[Ls]
 cases Be f n<;>rfl
def D3 (n:Nat) (B:Nat→Bool):List Bool:=(List.range n).map B
theorem mkL_len (n:Nat) (B:Nat→Bool):(D3 n B).length=n:=by simp[D3]
theorem wa {n:Nat} {B:Nat→Bool} {i:Nat} (h:i < n):(D3 n B).getD i default=B i:=by simp[D3,List.getD_eq_getElem?_getD,h]
theorem Fj {n:Nat} {B C:Nat→Bool} (h:∀ i,i < n→B i=C i):D3 n B=D3 n C:=by
 unfold D3
 exact List.map_congr_left fun i hi=>h i (List.mem_range.1 hi)
theorem rl {n:Nat} {B:Nat→Bool}:At (D3 n B) 0 n=D3 n B:=by
 rw[Pz (by rw[Hl,mkL_len])]
 intro i hi
 rw[Hl]at hi
 exact Pn hi
theorem mkL_set {n:Nat} {B:Nat→Bool} {t:Nat} (h:t < n):(D3 n B).set t true=D3 n fun u=>B u || t==u:=by
 apply List.ext_getElem?
 intro u
 simp only[D3,List.getElem?_set,List.getElem?_map,List.length_map,List.length_range]
 by_cases e:t=u
 ·subst e;simp[h]
 ·rw[if_neg e]
  have:(t==u)=false:=by simpa using e
  by_cases hu:u < n
  ·simp[hu,this]
  ·simp[hu]
def f1 (c:A7) (leaf v:Int):Option Aq:=if(((Ad c leaf v).length:Int)==0)=true then some ⟨1,leaf,v,-1,-1⟩else none
def f2 (c:A7) (leaf v:Int):Option Aq:=if decide (1 < ((Ad c leaf v).length:Int))=true then some ⟨2,leaf,v,(Ad c leaf v).getD 0 default,(Ad c leaf v).getD 1 default⟩else none
def pA (c:A7) (leaf:Int) (u:Nat) (v:Int):Bool:=Df (Ad c leaf v) (Ad c leaf v).length (u:Int)
theorem gk {c:A7} {Y:Type} (f:Int→Option Y) (v:Nat):(Vc c v).findSome? f=if Cx c (v:Int)=true then f (v:Int)else none:=by
 unfold Vc
 split
 ·simp[List.findSome?_cons]
  cases f (v:Int)<;>rfl
 ·rfl
theorem f1_all {c:A7} {leaf:Int}:Be (fun j=>f1 c leaf ((Bw c).getD j default)) (Bw c).length=Ck c leaf 1:=by
 rw[Vs (f1 c leaf) (Bw c)]
 unfold Bw Ck Be
 rw[Ms]
 congr 1
 funext v
 rw[gk]
 unfold Od f1
 simp only[show ((1:Int)==1)=true from rfl,show ((1:Int)==2)=false from rfl,Bool.true_and,Bool.false_and,Bool.false_eq_true,if_false]
theorem f2_all {c:A7} {leaf:Int}:Be (fun j=>f2 c leaf ((Bw c).getD j default)) (Bw c).length=Ck c leaf 2:=by
 rw[Vs (f2 c leaf) (Bw c)]
 unfold Bw Ck Be
 rw[Ms]
 congr 1
 funext v
 rw[gk]
 unfold Od f2
 simp only[show ((2:Int)==2)=true from rfl,show ((2:Int)==1)=false from rfl,Bool.true_and,Bool.false_and,Bool.false_eq_true,if_false]
theorem pA_all {c:A7} {leaf:Int} {u:Nat}:Bo (fun j=>pA c leaf u ((Bw c).getD j default)) (Bw c).length=Cp c leaf (u:Int):=by
 rw[Ue (pA c leaf u) (Bw c),Bool.eq_iff_iff,List.any_eq_true]
 unfold Cp
 rw[anyR_iff]
 constructor
 ·rintro⟨x,hx,h⟩
  obtain⟨n,hn,rfl,ha⟩:=valsA_mem.1 hx
  exact⟨n,hn,by unfold Ml;rw[ha];exact h⟩
 ·rintro⟨n,hn,h⟩
  unfold Ml at h
  simp only[Bool.and_eq_true]at h
  exact⟨(n:Int),valsA_mem.2 ⟨n,hn,rfl,h.1⟩,h.2⟩
theorem pk {c:A7} {leaf v:Int} {x:Int} (h:x∈Ad c leaf v):∃ t:Nat,x=t∧t < c.A0.length:=by
 unfold Ad at h
 obtain⟨i,hi,hx⟩:=List.mem_flatMap.1 h
 unfold Jl at hx
 split at hx
 ·simp only[List.mem_singleton]at hx
  exact⟨i,hx,List.mem_range.1 hi⟩
 ·cases hx
theorem Na {α:Type} (o:Option α):o.toList.length≤1:=by cases o<;>simp
theorem qd {c:A7} {s:SS} {kind:Int}:(List.range (rL c s).length).flatMap (fun j=>(Ck c ((rL c s).getD j default) kind).toList)=Ct c s kind:=by
 rw[Kw (fun x=>(Ck c x kind).toList) (rL c s)]
 unfold rL
 rw[Vl,← Kw (fun x=>if Dv s x=true then(Ck c x kind).toList else[]) (Bq c)]
 rfl
theorem live_rL {c:A7} {s:SS} {t:Nat}:Bo (fun j=>Cp c ((rL c s).getD j default) (t:Int)) (rL c s).length=Pc c s t:=by
 rw[Ue (fun x=>Cp c x (t:Int)) (rL c s)]
 unfold Pc Ew
 rw[Ue (fun x=>Dv s x&&Cp c x (t:Int)) (Bq c),Bool.eq_iff_iff,List.any_eq_true,List.any_eq_true]
 unfold rL
 constructor
 ·rintro⟨x,hx,h⟩
  obtain⟨h1,h2⟩:=List.mem_filter.1 hx
  exact⟨x,h1,by rw[h2,h];rfl⟩
 ·rintro⟨x,hx,h⟩
  simp only[Bool.and_eq_true]at h
  exact⟨x,List.mem_filter.2 ⟨hx,h.1⟩,h.2⟩
theorem rL_has {c:A7} {s:SS} {x:Int} (hx:x∈Bq c):Df (rL c s) (rL c s).length x=Dv s x:=by
 rw[Bool.eq_iff_iff,hasK_iff]
 unfold rL
 rw[List.mem_filter]
 exact⟨fun h=>h.2,fun h=>⟨hx,h⟩⟩
theorem Yj {X:Type} {T:Nat} {l:List Int} (hm:∀ x∈l,∃ t:Nat,x=t∧t < T) {b:List Bool×Int→Option ((List Bool×Int)⊕X)} (out:List Bool→X)
  (hb:∀ (B:Nat→Bool) (j t:Nat),j < l.length→l.getD j default=(t:Int)→t < T→b (D3 T B,(j:Int))=some (.inl ((D3 T B).set t true,((j+1:Nat):Int)))) (he:∀ B,b (D3 T B,(l.length:Int))=some (.inr (out (D3 T B)))) (B:Nat→Bool) :
  Bl b (D3 T B,0)=some (out (D3 T fun t=>B t || Df l l.length (t:Int))):=by
 have e0:(D3 T B,(0:Int))=(fun j:Nat=>(D3 T (fun t=>B t || Bo (fun i=>l.getD i default==(t:Int)) j),(j:Int))) 0:=by
  have:D3 T B=D3 T (fun t=>B t || Bo (fun i=>l.getD i default==(t:Int)) 0):=Fj fun t _=>by simp[Bo]
  rw[this];rfl
 have e9:D3 T (fun t=>B t || Df l l.length (t:Int))=D3 T (fun t=>B t || Bo (fun i=>l.getD i default==(t:Int)) l.length):=by
  refine Fj fun t _=>?_
  unfold Df
  congr 1
  refine Nd fun i hi=>?_
  rw[Bool.eq_iff_iff,beq_iff_eq,beq_iff_eq];exact eq_comm
 rw[e0,e9]
 refine Kc l.length (fun j:Nat=>(D3 T (fun t=>B t || Bo (fun i=>l.getD i default==(t:Int)) j),(j:Int))) _ (fun j hj=>?_) (he _)
 obtain⟨t,ht,htl⟩:=hm _ (Bj hj)
 have r4:D3 T (fun u=>B u || Bo (fun i=>l.getD i default==(u:Int)) (j+1))=D3 T (fun u=>(B u || Bo (fun i=>l.getD i default==(u:Int)) j) || t==u):=by
  refine Fj fun u _=>?_
  unfold Bo
  rw[List.range_succ,List.any_append,← Bool.or_assoc]
  congr 1
  simp only[List.any_cons,List.any_nil,Bool.or_false,ht]
  rw[Bool.eq_iff_iff,beq_iff_eq,beq_iff_eq];omega
 show b _=some (.inl (D3 T (fun u=>B u || Bo (fun i=>l.getD i default==(u:Int)) (j+1)),((j+1:Nat):Int)))
 rw[r4,← mkL_set htl]
 exact hb _ j t hj ht htl
theorem M47o1 (a0:A7) (a1:List A9) (a2 a3 a4:List Int):Ph a0 a1 a2 a3 a4=((Option.bind (Option.bind (Option.bind (Sa a0 a1 a2 a3 a4) fun r=>some r) fun x1=>(if(0≤(a0.A0.length:Int))then(if((a0.A0.length:Int)=(a0.A0.length:Int))then(if((a0.A0.length:Int) * 1≤140737488355328)then(if((a0.A0.length:Int)≤9223372036854775807)then(some (.inl x1))else none)else none)else none)else none)) (As fun(y1:(List Int))=>(Option.bind (Option.bind (some (.inl ())) (As fun(_:Unit)=>(Bl (fun(s2:(List Aq)×(List Aq)×(List Bool)×Int)=>((Option.bind (if(decide (s2.2.2.2 < (y1.length:Int)))=true then(some (.inl ()))else(some (.inr (.inr (.inl (s2.1,s2.2.1,s2.2.2.1)))))) (As fun(_:Unit)=>(Option.bind (Option.bind (if(0≤s2.2.2.2)then(if(s2.2.2.2 < (y1.length:Int))then(if(s2.2.2.2.toNat < y1.length)then(some (.inl ()))else none)else none)else none) (As fun(_:Unit)=>(Bl (fun(s3:(List Aq)×(List Aq)×(List Bool)×Bool×Bool×Int)=>((Option.bind (if(decide (s3.2.2.2.2.2 < (a4.length:Int)))=true then(some (.inl ()))else(some (.inr (.inr (.inl (s3.1,s3.2.1,s3.2.2.1)))))) (As fun(_:Unit)=>(Option.bind (Option.bind (if(0≤s3.2.2.2.2.2)then(if(s3.2.2.2.2.2 < (a4.length:Int))then(Option.bind (Option.bind (Mw a0 (y1.getD s2.2.2.2.toNat default) (a4.getD s3.2.2.2.2.2.toNat default)) fun r=>some r) fun x11=>(some (.inl x11)))else none)else none) (As fun(y4:(List Int))=>(Option.bind (Option.bind (some (.inl ())) (As fun(_:Unit)=>(Bl (fun(s5:(List Bool)×Int)=>((if(decide (s5.2 < (y4.length:Int)))=true then(if(0≤s5.2)then(if(s5.2 < (y4.length:Int))then(if(0≤(y4.getD s5.2.toNat default))then(if((y4.getD s5.2.toNat default) < ((a0.A0.length:Int).toNat:Int))then(if((y4.getD s5.2.toNat default).toNat < (a0.A0.length:Int).toNat)then(some (.inl (((At s5.1 0 (a0.A0.length:Int).toNat).set (y4.getD s5.2.toNat default).toNat true),(IntKind.wrap .i64 (s5.2+1)))))else none)else none)else none)else none)else none)else(some (.inr (.inl s5.1)))):Option (((List Bool)×Int)⊕(((List Bool))⊕(((List Aq)×(List Aq)×(List Bool)×Bool×Bool)⊕(((List Aq)×(List Aq)×(List Bool)×Bool×Bool×Int)⊕(((List Aq)×(List Aq)×(List Bool))⊕(((List Aq)×(List Aq)×(List Bool)×Int)⊕(((List Aq)×(List Aq)×(List Bool))⊕((List Aq))))))))))) (s3.2.2.1,(0:Int))))) (As fun(y6:(List Bool))=>(if(((y4.length:Int)==(0:Int))&&(!s3.2.2.2.1))=true then(if((s3.1.length+1) * 40≤140737488355328)then(if((decide (1 < (y4.length:Int)))&&(!s3.2.2.2.2.1))=true then(if((0:Int)≤(0:Int))then(if(0 < (y4.length:Int))then(if((0:Int)≤(1:Int))then(if(1 < (y4.length:Int))then(if((s3.2.1.length+1) * 40≤140737488355328)then(some (.inl ((s3.1++([(⟨(1:Int),(y1.getD s2.2.2.2.toNat default),(a4.getD s3.2.2.2.2.2.toNat default),(-1:Int),(-1:Int)⟩:Aq)]:List Aq)),(s3.2.1++([(⟨(2:Int),(y1.getD s2.2.2.2.toNat default),(a4.getD s3.2.2.2.2.2.toNat default),(y4.getD (0:Int).toNat default),(y4.getD (1:Int).toNat default)⟩:Aq)]:List Aq)),y6,true,true)))else none)else none)else none)else none)else none)else(some (.inl ((s3.1++([(⟨(1:Int),(y1.getD s2.2.2.2.toNat default),(a4.getD s3.2.2.2.2.2.toNat default),(-1:Int),(-1:Int)⟩:Aq)]:List Aq)),s3.2.1,y6,true,s3.2.2.2.2.1))))else none)else(if((decide (1 < (y4.length:Int)))&&(!s3.2.2.2.2.1))=true then(if((0:Int)≤(0:Int))then(if(0 < (y4.length:Int))then(if((0:Int)≤(1:Int))then(if(1 < (y4.length:Int))then(if((s3.2.1.length+1) * 40≤140737488355328)then(some (.inl (s3.1,(s3.2.1++([(⟨(2:Int),(y1.getD s2.2.2.2.toNat default),(a4.getD s3.2.2.2.2.2.toNat default),(y4.getD (0:Int).toNat default),(y4.getD (1:Int).toNat default)⟩:Aq)]:List Aq)),y6,s3.2.2.2.1,true)))else none)else none)else none)else none)else none)else(some (.inl (s3.1,s3.2.1,y6,s3.2.2.2.1,s3.2.2.2.2.1))))))))) (As fun(y7:(List Aq)×(List Aq)×(List Bool)×Bool×Bool)=>(some (.inl (y7.1,y7.2.1,y7.2.2.1,y7.2.2.2.1,y7.2.2.2.2,(IntKind.wrap .i64 (s3.2.2.2.2.2+1))))))))):Option (((List Aq)×(List Aq)×(List Bool)×Bool×Bool×Int)⊕(((List Aq)×(List Aq)×(List Bool))⊕(((List Aq)×(List Aq)×(List Bool)×Int)⊕(((List Aq)×(List Aq)×(List Bool))⊕((List Aq)))))))) (s2.1,s2.2.1,s2.2.2.1,false,false,(0:Int))))) (As fun(y8:(List Aq)×(List Aq)×(List Bool))=>(some (.inl (y8.1,y8.2.1,y8.2.2,(IntKind.wrap .i64 (s2.2.2.2+1))))))))):Option (((List Aq)×(List Aq)×(List Bool)×Int)⊕(((List Aq)×(List Aq)×(List Bool))⊕((List Aq)))))) ([],[],(List.replicate (a0.A0.length:Int).toNat false),(0:Int))))) (As fun(y9:(List Aq)×(List Aq)×(List Bool))=>(Option.bind (if((y9.1.length+y9.2.1.length) * 40≤140737488355328)then(some (.inl ()))else none) (As fun(_:Unit)=>(Option.bind (Option.bind (Option.bind (Option.bind (py a0) fun r=>some r) fun x26=>(some (.inl (x26,(x26.length:Int))))) (As fun(y10:(List Int)×Int)=>(Bl (fun(s11:(List Aq)×Int)=>((if(decide (s11.2 < y10.2))=true then(if(0≤s11.2)then(if(s11.2 < (y10.1.length:Int))then(Option.bind (Option.bind (Xe y1 (y10.1.getD s11.2.toNat default)) fun r=>some r) fun x29=>(if(!x29)=true then(if((s11.1.length+1) * 40≤140737488355328)then(some (.inl ((s11.1++([(⟨(3:Int),(y10.1.getD s11.2.toNat default),(0:Int),(-1:Int),(-1:Int)⟩:Aq)]:List Aq)),(IntKind.wrap .i64 (s11.2+1)))))else none)else(some (.inl (s11.1,(IntKind.wrap .i64 (s11.2+1)))))))else none)else none)else(some (.inr (.inl s11.1)))):Option (((List Aq)×Int)⊕(((List Aq))⊕((List Aq)))))) ((y9.1++y9.2.1),(0:Int))))) (As fun(y12:(List Aq))=>(Option.bind (Option.bind (some (.inl ())) (As fun(_:Unit)=>(Bl (fun(s13:(List Aq)×Int)=>((if(decide (s13.2 < ((a0.A0.length:Int).toNat:Int)))=true then(if(0≤s13.2)then(if(s13.2 < ((a0.A0.length:Int).toNat:Int))then(if(s13.2.toNat < (a0.A0.length:Int).toNat)then(if(!(y9.2.2.getD s13.2.toNat default))=true then(if((s13.1.length+1) * 40≤140737488355328)then(some (.inl ((s13.1++([(⟨(4:Int),(-1:Int),(0:Int),s13.2,(-1:Int)⟩:Aq)]:List Aq)),(IntKind.wrap .i64 (s13.2+1)))))else none)else(some (.inl (s13.1,(IntKind.wrap .i64 (s13.2+1))))))else none)else none)else none)else(some (.inr (.inl s13.1)))):Option (((List Aq)×Int)⊕(((List Aq))⊕((List Aq)))))) (y12,(0:Int))))) (As fun(y14:(List Aq))=>(some y14))))))))))):Option ((List Aq))):=by kernel_rfl
theorem sfind_eq {c:A7} (H:Fit c) (hn:c.Ag.length≤12) {s:SS} (I:Inv c s):Ph c s.1 s.2.1 s.2.2 (Bw c)=some (Dz c s):=by
 have hst:=H.states
 have htr:=H.trans
 have h2:=Ja hn
 have hv2:=Pa (c:=c)
 have hll:=Pw (c:=c)
 have hrl:(rL c s).length≤(Bq c).length:=by unfold rL;exact List.length_filter_le _ _
 have q0:=t8 I (Bw c)
 have q1:=yc c H
 have q2:∀ (leaf v:Int),Mw c leaf v=some (Ad c leaf v):=N3 c H
 have q3:∀ x,Xe (rL c s) x=some (Df (rL c s) (rL c s).length x):=fun x=>Hf (rL c s) x (by omega)
 have c0:((0:Int)≤(c.A0.length:Int))=True:=eq_true (by omega)
 have c1:((c.A0.length:Int) * 1≤140737488355328)=True:=eq_true (by omega)
 have c2:((c.A0.length:Int)≤9223372036854775807)=True:=eq_true (by omega)
 have z0:((0:Int)≤(0:Int))=True:=eq_true (by omega)
 have z1:((0:Int)≤(1:Int))=True:=eq_true (by omega)
 simp only[M47o1,Fc,q0,q1,q2,q3,bs,c0,c1,c2,if_true,ol,Int.toNat_natCast]
 refine E2 (y:=(Ct c s 1,Ct c s 2,D3 c.A0.length fun t=>Pc c s t)) ?_ ?_
 ·have e0:(([]:List Aq),([]:List Aq),List.replicate c.A0.length false,(0:Int))=(fun i:Nat=>((List.range i).flatMap (fun j=>(Ck c ((rL c s).getD j default) 1).toList),(List.range i).flatMap (fun j=>(Ck c ((rL c s).getD j default) 2).toList),D3 c.A0.length (fun t=>Bo (fun j=>Cp c ((rL c s).getD j default) (t:Int)) i),(i:Int))) 0:=by
   have:List.replicate c.A0.length false=D3 c.A0.length (fun t=>Bo (fun j=>Cp c ((rL c s).getD j default) (t:Int)) 0):=by
    apply List.ext_getElem?
    intro u
    simp only[D3,List.getElem?_replicate,List.getElem?_map]
    by_cases hu:u < c.A0.length
    ·simp[hu,Bo]
    ·simp[hu]
   rw[this];rfl
  have e9:(Ct c s 1,Ct c s 2,D3 c.A0.length fun t=>Pc c s t)=((List.range (rL c s).length).flatMap (fun j=>(Ck c ((rL c s).getD j default) 1).toList),(List.range (rL c s).length).flatMap (fun j=>(Ck c ((rL c s).getD j default) 2).toList),D3 c.A0.length (fun t=>Bo (fun j=>Cp c ((rL c s).getD j default) (t:Int)) (rL c s).length)):=by
   rw[qd,qd,Fj (fun t _=>live_rL.symm)]
  rw[e0,e9]
  refine Kc (rL c s).length (fun i:Nat=>((List.range i).flatMap (fun j=>(Ck c ((rL c s).getD j default) 1).toList),(List.range i).flatMap (fun j=>(Ck c ((rL c s).getD j default) 2).toList),D3 c.A0.length (fun t=>Bo (fun j=>Cp c ((rL c s).getD j default) (t:Int)) i),(i:Int))) (Sum.inl _) (fun i hi=>?_) ?_
  ·have g1:=Bh (g:=fun j=>(Ck c ((rL c s).getD j default) 1).toList) (m:=1) (fun j=>Na _) i
   have g2:=Bh (g:=fun j=>(Ck c ((rL c s).getD j default) 2).toList) (m:=1) (fun j=>Na _) i
   simp only[C3 hi,decide_true,if_true,bs,ol,Int.toNat_natCast,eq_true hi]
   have r1:(List.range (i+1)).flatMap (fun j=>(Ck c ((rL c s).getD j default) 1).toList)=(List.range i).flatMap (fun j=>(Ck c ((rL c s).getD j default) 1).toList)++(Ck c ((rL c s).getD i default) 1).toList:=F8 _ _
   have r2:(List.range (i+1)).flatMap (fun j=>(Ck c ((rL c s).getD j default) 2).toList)=(List.range i).flatMap (fun j=>(Ck c ((rL c s).getD j default) 2).toList)++(Ck c ((rL c s).getD i default) 2).toList:=F8 _ _
   obtain⟨B,hB⟩:∃ B:Nat→Bool,B=fun t:Nat=>Bo (fun j=>Cp c ((rL c s).getD j default) (t:Int)) i:=⟨_,rfl⟩
   have r0:D3 c.A0.length (fun t=>Bo (fun j=>Cp c ((rL c s).getD j default) (t:Int)) i)=D3 c.A0.length B:=by rw[hB]
   have r3:D3 c.A0.length (fun t=>Bo (fun j=>Cp c ((rL c s).getD j default) (t:Int)) (i+1))=D3 c.A0.length (fun t=>B t || Cp c ((rL c s).getD i default) (t:Int)):=by
    rw[hB]
    refine Fj fun t _=>?_
    unfold Bo
    rw[List.range_succ,List.any_append]
    simp
   rw[r1,r2,r3,r0]
   clear r1 r2 r3 r0 hB e0 e9
   generalize (List.range i).flatMap (fun j=>(Ck c ((rL c s).getD j default) 1).toList)=K1 at g1 ⊢
   generalize (List.range i).flatMap (fun j=>(Ck c ((rL c s).getD j default) 2).toList)=K2 at g2 ⊢
   generalize (rL c s).getD i default=leaf
   have w2:IntKind.wrap .i64 ((i:Int)+1)=((i+1:Nat):Int):=by rw[El (by omega) (by omega)];omega
   refine E2 (y:=(K1++(Ck c leaf 1).toList,K2++(Ck c leaf 2).toList,D3 c.A0.length fun t=>B t || Cp c leaf (t:Int))) ?_ (by simp only[bs,ol,w2])
   have e0:(K1,K2,D3 c.A0.length B,false,false,(0:Int))=(fun k:Nat=>(K1++(Be (fun j=>f1 c leaf ((Bw c).getD j default)) k).toList,K2++(Be (fun j=>f2 c leaf ((Bw c).getD j default)) k).toList,D3 c.A0.length (fun t=>B t || Bo (fun j=>pA c leaf t ((Bw c).getD j default)) k),(Be (fun j=>f1 c leaf ((Bw c).getD j default)) k).isSome,(Be (fun j=>f2 c leaf ((Bw c).getD j default)) k).isSome,(k:Int))) 0:=by
    have:D3 c.A0.length B=D3 c.A0.length (fun t=>B t || Bo (fun j=>pA c leaf t ((Bw c).getD j default)) 0):=Fj fun t _=>by simp[Bo]
    rw[this]
    simp[Be]
   have e9:(K1++(Ck c leaf 1).toList,K2++(Ck c leaf 2).toList,D3 c.A0.length fun t=>B t || Cp c leaf (t:Int))=(K1++(Be (fun j=>f1 c leaf ((Bw c).getD j default)) (Bw c).length).toList,K2++(Be (fun j=>f2 c leaf ((Bw c).getD j default)) (Bw c).length).toList,D3 c.A0.length (fun t=>B t || Bo (fun j=>pA c leaf t ((Bw c).getD j default)) (Bw c).length)):=by
    rw[f1_all,f2_all]
    congr 2
    exact Fj fun t _=>by rw[pA_all]
   rw[e0,e9]
   refine Kc (Bw c).length (fun k:Nat=>(K1++(Be (fun j=>f1 c leaf ((Bw c).getD j default)) k).toList,K2++(Be (fun j=>f2 c leaf ((Bw c).getD j default)) k).toList,D3 c.A0.length (fun t=>B t || Bo (fun j=>pA c leaf t ((Bw c).getD j default)) k),(Be (fun j=>f1 c leaf ((Bw c).getD j default)) k).isSome,(Be (fun j=>f2 c leaf ((Bw c).getD j default)) k).isSome,(k:Int))) (Sum.inl _) (fun k hk=>?_) ?_
   ·have w3:IntKind.wrap .i64 ((k:Int)+1)=((k+1:Nat):Int):=by rw[El (by omega) (by omega)];omega
    have t1:=Na (Be (fun j=>f1 c leaf ((Bw c).getD j default)) k)
    have t2:=Na (Be (fun j=>f2 c leaf ((Bw c).getD j default)) k)
    obtain⟨B',hB⟩:∃ B':Nat→Bool,B'=fun t:Nat=>B t || Bo (fun j=>pA c leaf t ((Bw c).getD j default)) k:=⟨_,rfl⟩
    have r0:D3 c.A0.length (fun t=>B t || Bo (fun j=>pA c leaf t ((Bw c).getD j default)) k)=D3 c.A0.length B':=by rw[hB]
    have r3:D3 c.A0.length (fun t=>B t || Bo (fun j=>pA c leaf t ((Bw c).getD j default)) (k+1))=D3 c.A0.length (fun t=>B' t || pA c leaf t ((Bw c).getD k default)):=by
     rw[hB]
     refine Fj fun t _=>?_
     unfold Bo
     rw[List.range_succ,List.any_append,← Bool.or_assoc]
     simp
    simp only[C3 hk,decide_true,if_true,bs,ol,Int.toNat_natCast]
    rw[r3,r0,Yn (f:=fun j=>f1 c leaf ((Bw c).getD j default)),Yn (f:=fun j=>f2 c leaf ((Bw c).getD j default))]
    generalize Be (fun j=>f1 c leaf ((Bw c).getD j default)) k=o1 at t1 ⊢
    generalize Be (fun j=>f2 c leaf ((Bw c).getD j default)) k=o2 at t2 ⊢
    clear r3 r0 hB e0 e9
    generalize (Bw c).getD k default=v
    have c3:(((K1++o1.toList).length+1) * 40≤140737488355328)=True:=eq_true (by rw[List.length_append];omega)
    have c4:(((K2++o2.toList).length+1) * 40≤140737488355328)=True:=eq_true (by rw[List.length_append];omega)
    have hel:=Of c leaf v
    refine E2 (y:=(K1++(K7 o1 (f1 c leaf v)).toList,K2++(K7 o2 (f2 c leaf v)).toList,D3 c.A0.length (fun t=>B' t || pA c leaf t v),(K7 o1 (f1 c leaf v)).isSome,(K7 o2 (f2 c leaf v)).isSome)) ?_ (by simp only[w3])
    refine E2 (Yj (l:=Ad c leaf v) (fun x hx=>pk hx) Sum.inl (fun B'' j t hj ht htl=>?_) (fun B''=>?_) B') ?_
    ·have w4:IntKind.wrap .i64 ((j:Int)+1)=((j+1:Nat):Int):=by rw[El (by omega) (by omega)];omega
     have c5:((t:Int) < (c.A0.length:Int))=True:=eq_true (by omega)
     have c6:((0:Int)≤(t:Int))=True:=eq_true (by omega)
     simp only[C3 hj,decide_true,if_true,Int.toNat_natCast,ht,c5,c6,eq_true htl,rl,w4]
    ·simp only[Bb,decide_false,Bool.false_eq_true,if_false]
    unfold f1 f2 pA
    have c3':((K1.length+1) * 40≤140737488355328)=True:=eq_true (by omega)
    have c4':((K2.length+1) * 40≤140737488355328)=True:=eq_true (by omega)
    have g0:(((Ad c leaf v).length:Int)==0)=true→decide (1 < ((Ad c leaf v).length:Int))=false:=fun h=>by
     have:((Ad c leaf v).length:Int)=0:=by simpa using h
     rw[this];rfl
    have g1:decide (1 < ((Ad c leaf v).length:Int))=true→((0 < ((Ad c leaf v).length:Int))=True∧(1 < ((Ad c leaf v).length:Int))=True):=fun h=>by
     have:=of_decide_eq_true h
     exact⟨eq_true (by omega),eq_true this⟩
    cases e0:(((Ad c leaf v).length:Int)==0) with
    | true =>
     have e1:=g0 e0
     cases o1 with
     | none=>cases o2<;>simp only[e1,c3',Ht,Ek,Option.isSome_none,Option.isSome_some,Option.toList_none,Option.toList_some,List.append_nil,Bool.not_false,Bool.not_true,Bool.and_true,Bool.and_false,Bool.false_and,Bool.true_and,Bool.false_eq_true,if_true,if_false]
     | some x=>cases o2<;>simp only[e1,Ht,Ek,Option.isSome_none,Option.isSome_some,Option.toList_none,Option.toList_some,List.append_nil,Bool.not_false,Bool.not_true,Bool.and_true,Bool.and_false,Bool.false_and,Bool.true_and,Bool.false_eq_true,if_true,if_false]
    | false =>
     cases e1:decide (1 < ((Ad c leaf v).length:Int)) with
     | false =>
      cases o1<;>cases o2<;>simp only[Ht,Ek,Option.isSome_none,Option.isSome_some,Option.toList_none,Option.toList_some,List.append_nil,Bool.not_false,Bool.not_true,Bool.and_true,Bool.and_false,Bool.false_and,Bool.true_and,Bool.false_eq_true,if_true,if_false]
     | true =>
      obtain⟨z2,z3⟩:=g1 e1
      cases o1<;>cases o2<;>simp only[z0,z1,z2,z3,c4',Ht,Ek,Option.isSome_none,Option.isSome_some,Option.toList_none,Option.toList_some,List.append_nil,Bool.not_false,Bool.not_true,Bool.and_true,Bool.and_false,Bool.false_and,Bool.true_and,Bool.false_eq_true,if_true,if_false]<;>rfl
   ·simp only[Bb,decide_false,Bool.false_eq_true,if_false,bs,Ou]
  ·simp only[Bb,decide_false,Bool.false_eq_true,if_false,bs,Ou]
 ·have k1:=Hi c s 1
  have k2:=Hi c s 2
  have c9:(((Ct c s 1).length+(Ct c s 2).length) * 40≤140737488355328)=True:=eq_true (by omega)
  simp only[c9,if_true,bs,ol]
  refine E2 (y:=Ct c s 1++Ct c s 2++(List.range (Bq c).length).flatMap (Hj c s)) ?_ ?_
  ·refine Oo (Bq c).length (fun j l=>(l,(j:Int))) (Hj c s) Sum.inl (Ct c s 1++Ct c s 2) (fun j hj=>?_) ?_
   ·have hgl:=Bh (Nw c s) j
    have c1:(((Ct c s 1++Ct c s 2)++(List.range j).flatMap (Hj c s)).length+1) * 40≤140737488355328:=by rw[List.length_append,List.length_append];omega
    have w2:IntKind.wrap .i64 ((j:Int)+1)=((j+1:Nat):Int):=by rw[El (by omega) (by omega)];omega
    simp only[C3 hj,decide_true,if_true,Int.toNat_natCast,rL_has (Bj hj),bs,w2,eq_true c1]
    cases hr:Dv s ((Bq c).getD j default) with
    | false =>
     have hd:Hj c s j=[⟨3,(Bq c).getD j default,0,-1,-1⟩]:=by unfold Hj Ew;rw[hr];rfl
     simp only[Bool.not_false,if_true,hd]
    | true =>
     have hd:Hj c s j=[]:=by unfold Hj Ew;rw[hr];rfl
     simp only[Bool.not_true,Bool.false_eq_true,if_false,hd,List.append_nil]
   ·simp only[Bb,decide_false,Bool.false_eq_true,if_false]
  ·have hul:=Bh (Nw c s) (Bq c).length
   refine E2 (y:=Dz c s) ?_ rfl
   unfold Dz
   refine Oo c.A0.length (fun j l=>(l,(j:Int))) (G2 c s) Sum.inl _ (fun t ht=>?_) ?_
   ·have hgl:=Bh (Sh c s) t
    have c1:(((Ct c s 1++Ct c s 2++(List.range (Bq c).length).flatMap (Hj c s))++(List.range t).flatMap (G2 c s)).length+1) * 40≤140737488355328:=by simp only[List.length_append];omega
    have w2:IntKind.wrap .i64 ((t:Int)+1)=((t+1:Nat):Int):=by rw[El (by omega) (by omega)];omega
    simp only[C3 ht,decide_true,if_true,Int.toNat_natCast,eq_true ht,wa ht,w2]
    cases hl2:Pc c s t with
    | true =>
     have hd:G2 c s t=[]:=by unfold G2;rw[hl2];rfl
     simp only[Bool.not_true,Bool.false_eq_true,if_true,if_false,hd,List.append_nil]
    | false =>
     have hd:G2 c s t=[⟨4,-1,0,(t:Int),-1⟩]:=by unfold G2;rw[hl2];rfl
     simp only[Bool.not_false,Bool.false_eq_true,if_true,if_false,eq_true c1,hd]
   ·simp only[Bb,decide_false,Bool.false_eq_true,if_false]
end Go.Av
set_option maxRecDepth 100000
namespace Go.Av
open Ch Go.Proofs
theorem d8 {c:A7} (H:Fit c) (s:SS):(Dz c s).length≤4000:=by
 have hst:=H.states
 have htr:=H.trans
 have hll:=Pw (c:=c)
 have k1:=Hi c s 1
 have k2:=Hi c s 2
 have hul:=Bh (Nw c s) (Bq c).length
 have hgl:=Bh (Sh c s) c.A0.length
 unfold Dz
 simp only[List.length_append];omega
end Go.Av
set_option maxRecDepth 100000
namespace Go.Av
open Ch Go.Proofs
theorem leaf_in {c:A7} {s:SS} (I:Inv c s) {leaf:Int} (h:Dv s leaf=true):leaf∈Bq c:=by
 obtain⟨g,hg,rfl⟩:=reachB_iff.1 h
 have:=validS_iff.1 (I.ok g hg)
 exact leavesS_iff.2 ⟨this.1,this.2.1⟩
theorem kind_mem {c:A7} {s:SS} {kind:Int} {x:Aq}:x∈Ct c s kind↔∃ leaf∈Bq c,Dv s leaf=true∧Ck c leaf kind=some x:=by
 unfold Ct
 rw[List.mem_flatMap]
 constructor
 ·rintro⟨i,h1,h2⟩
  unfold N4 at h2
  split at h2
  ·rename_i h3
   refine⟨Ew c i,Bj (List.mem_range.1 h1),h3,?_⟩
   simpa using h2
  ·cases h2
 ·rintro⟨leaf,h1,h2,h3⟩
  obtain⟨i,hi,rfl⟩:=List.getElem_of_mem h1
  have e:Ew c i=(Bq c)[i]:=by simp[Ew,List.getD_eq_getElem?_getD,List.getElem?_eq_getElem hi]
  refine⟨i,List.mem_range.2 hi,?_⟩
  unfold N4
  rw[e,if_pos h2,h3];simp
theorem om {c:A7} {leaf kind:Int} {x:Aq} (h:Ck c leaf kind=some x):∃ v:Nat,v < D0 c∧Cx c (v:Int)=true∧((kind=1∧(Ad c leaf (v:Int)).length=0∧x=⟨1,leaf,(v:Int),-1,-1⟩)∨(kind=2∧1 < (Ad c leaf (v:Int)).length∧x=⟨2,leaf,(v:Int),(Ad c leaf (v:Int)).getD 0 default,(Ad c leaf (v:Int)).getD 1 default⟩)):=by
 obtain⟨v,hv,h2⟩:=Di h
 unfold Od at h2
 split at h2
 ·rename_i ha
  refine⟨v,hv,ha,?_⟩
  split at h2
  ·rename_i h3
   simp only[Bool.and_eq_true,beq_iff_eq]at h3
   obtain⟨rfl,h3⟩:=h3
   injection h2 with h2
   exact .inl ⟨rfl,by omega,h2.symm⟩
  ·split at h2
   ·rename_i h3
    simp only[Bool.and_eq_true,beq_iff_eq,decide_eq_true_eq]at h3
    obtain⟨rfl,h3⟩:=h3
    injection h2 with h2
    exact .inr ⟨rfl,by omega,h2.symm⟩
   ·cases h2
 ·cases h2
theorem p9 {c:A7} {leaf kind:Int} {x:Aq} (h:Ck c leaf kind=some x):x.Kind=kind:=by
 obtain⟨v,_,_,⟨rfl,_,rfl⟩ | ⟨rfl,_,rfl⟩⟩:=om h<;>rfl
theorem og {c:A7} {s:SS} (I:Inv c s) (n1:∀ x∈Dz c s,x.Kind≠1) (n2:∀ x∈Dz c s,x.Kind≠2) {leaf:Int} (h:Dv s leaf=true) {v:Nat} (hv:v < D0 c) (ha:Cx c (v:Int)=true):(Ad c leaf (v:Int)).length=1:=by
 have hl:=leaf_in I h
 have k:∀ kind:Int,kind=1∨kind=2→Ck c leaf kind=none:=fun kind hk=>by
  cases hf:Ck c leaf kind with
  | none=>rfl
  | some x =>
   exfalso
   have hm:x∈Ct c s kind:=kind_mem.2 ⟨leaf,hl,h,hf⟩
   have hx:=p9 hf
   rcases hk with rfl | rfl
   ·exact n1 x (by unfold Dz;simp only[List.mem_append];exact .inl (.inl (.inl hm))) hx
   ·exact n2 x (by unfold Dz;simp only[List.mem_append];exact .inl (.inl (.inr hm))) hx
 have k1:=firstR_none.1 (k 1 (.inl rfl)) v hv
 have k2:=firstR_none.1 (k 2 (.inr rfl)) v hv
 unfold Od at k1 k2
 rw[if_pos ha]at k1 k2
 have c1:¬ (Ad c leaf (v:Int)).length=0:=fun h0=>by
  rw[if_pos (by simp[h0])]at k1;cases k1
 have c2:¬ 1 < (Ad c leaf (v:Int)).length:=fun h0=>by
  have d1:decide (1 < ((Ad c leaf (v:Int)).length:Int))=true:=by simp;omega
  simp only[show ((2:Int)==1)=false from rfl,Bool.false_and,Bool.false_eq_true,if_false,show ((2:Int)==2)=true from rfl,Bool.true_and,d1,if_true]at k2
  cases k2
 omega
end Go.Av
set_option maxRecDepth 100000
namespace Go.Av
open Ch Go.Proofs
def S2 (m l:List Int):Prop:=∀ x∈l,m.getD x.toNat default = -1
def M3 (c:A7) (g:A9):Prop:=S2 g.A6 (Ab c g.Leaf)
theorem qr {m l:List Int} {x:Int} (hx:x.toNat < m.length) (h:S2 m l):S2 (m.set x.toNat (-1)) (x :: l):=fun z hz=>by
 rw[Om hx]
 rcases List.mem_cons.1 hz with rfl | hz
 ·rw[if_pos rfl]
 ·split
  ·rfl
  ·exact h z hz
theorem ar {c:A7} {s:Int} (h:Bm c s=true):∀ x∈(Ab c s).tail,x < s:=fun x hx=>by
 rw[Cw h,List.tail_cons]at hx
 split at hx
 ·cases hx
 ·rename_i ht
  have h1:=Ef (Bool.eq_false_iff.2 ht)
  have h2:=(Fm _ _ (Nat.le_refl _) x hx).2
  omega
theorem uq {c:A7} (G:Ch.Good c) {x y:Int} (hx:Bm c x=true) (h:Dm c y x=true):(Ab c y).tail=Ab c x:=by
 have h1:=Gw G h
 have h2:=isS_iff.1 hx
 have h3:(c.A4.getD y.toNat default).Al=x:=by
  unfold Dm at h
  simp only[Bool.and_eq_true,beq_iff_eq]at h
  exact h.2
 have ht:Dn c y=false:=by
  unfold Dn
  rw[h3]
  simp only[Bool.or_eq_false_iff,decide_eq_false_iff_not];omega
 rw[Cw h1.1,ht,if_neg (by decide),List.tail_cons,h3]
theorem Dy {c:A7} {x:Int} (hx:Bm c x=true):Ab c x=x :: (Ab c x).tail:=by
 rw[Cw hx,List.tail_cons]
theorem Rl {c:A7} (G:Ch.Good c):∀ (n:Nat) (x:Int) (m:List Int) (a:List (List UInt8)),Bm c x=true→MemOk c m→c.A4.length≤n+x.toNat→S2 m (Ab c x).tail→S2 (Eo c n x m a).2.1 (Ab c (Eo c n x m a).1)
 | 0,x,m,a,hx,M,hn,hm=>by have:=(Dd hx).2.2;omega
 | n+1,x,m,a,hx,M,hn,hm=>by
  have hl:=(Dd hx).2.2
  unfold Eo
  cases hc:Dc c x with
  | true =>
   rw[if_pos rfl]
   have hch:=H7 G M hx hc
   have h1:=Gw G hch
   have h2:=isS_iff.1 hx
   refine Rl G n _ _ _ h1.1 (M.set (.inl rfl) hx) (by omega) ?_
   rw[uq G hx hch,Dy hx]
   exact qr (by rw[M.len];exact hl) hm
  | false =>
   rw[if_neg (by decide)]
   show S2 m (Ab c x)
   rw[Dy hx]
   intro z hz
   rcases List.mem_cons.1 hz with rfl | hz
   ·exact M.none hx (G.leafI _ hx hc).2
   ·exact hm z hz
theorem Lz {c:A7} (G:Ch.Good c) {m:List Int} {a:List (List UInt8)} (M:MemOk c m) {r:List Int} (hr:S2 m r):∀ (l:List Int),(∀ x∈l,Bm c x=true)→S2 (Cf c l m a).1 (l++r)
 | [],_=>hr
 | x :: l,h=>by
  have h1:=(Em G (a:=a) M l fun y hy=>h y (List.mem_cons_of_mem _ hy)).1
  have hx:=(Dd (h x (by simp))).2.2
  have hx2:x.toNat < (Cf c l m a).1.length:=by rw[h1.len];exact hx
  exact qr hx2 (Lz G M hr l fun y hy=>h y (List.mem_cons_of_mem _ hy))
theorem l9 {s x:Int} {l:List Int} (h:s≠x):C1 s (x :: l)=x :: C1 s l:=by
 unfold C1
 rw[List.takeWhile_cons_of_pos (p:=fun x=>!(s==x)) (by simpa using h)]
theorem Xi {s:Int} {l:List Int}:C1 s (s :: l)=[]:=by
 unfold C1
 rw[List.takeWhile_cons_of_neg (p:=fun x=>!(s==x)) (by simp)]
theorem Yq {c:A7} {s z:Int} (hz:0≤z):∀ (l:List Int) (last:Int) (m:List Int) (a:List (List UInt8)),(∀ x∈l,0≤x)→z ∉ C1 s l→(Cn c s l last m a).1.getD z.toNat default=m.getD z.toNat default
 | [],_,_,_,_,_=>rfl
 | x :: l,last,m,a,hl,hn=>by
  unfold Cn
  by_cases hs:(x==s)=true
  ·rw[if_pos hs]
  ·rw[if_neg hs]
   have hu:C1 s (x :: l)=x :: C1 s l:=l9 fun e=>hs (by simp[e])
   rw[hu]at hn
   simp only[List.mem_cons,not_or]at hn
   rw[Yq hz l _ _ _ (fun y hy=>hl y (List.mem_cons_of_mem _ hy)) hn.2]
   split
   ·have h0:=hl x (by simp)
    by_cases hx:x.toNat < m.length
    ·rw[Om hx,if_neg]
     intro e
     exact hn.1 (by omega)
    ·rw[List.set_eq_of_length_le (by omega)]
   ·rfl
theorem Km {c:A7} {s:Int}:∀ (n:Nat) (x:Int),x.toNat≤n→s∈Ab c x→Ab c x=C1 s (Ab c x)++Ab c s:=by
 intro n
 induction n with
 | zero =>
  intro x hn h
  have hx:Bm c x=true:=by
   cases hx:Bm c x with
   | true=>rfl
   | false=>unfold Ab at h;rw[hx,if_neg (by decide)]at h;cases h
  by_cases e:s=x
  ·subst e
   have:C1 s (Ab c s)=[]:=by rw[Dy hx];exact Xi
   rw[this];rfl
  ·rw[Dy hx]at h
   have h1:=(List.mem_cons.1 h).resolve_left e
   have h2:=ar hx s h1
   have h3:=isS_iff.1 (En s h1)
   omega
 | succ n ih =>
  intro x hn h
  have hx:Bm c x=true:=by
   cases hx:Bm c x with
   | true=>rfl
   | false=>unfold Ab at h;rw[hx,if_neg (by decide)]at h;cases h
  by_cases e:s=x
  ·subst e
   have:C1 s (Ab c s)=[]:=by rw[Dy hx];exact Xi
   rw[this];rfl
  ·rw[Dy hx]at h
   have h1:=(List.mem_cons.1 h).resolve_left e
   have h4:Ab c x=x :: (Ab c x).tail:=Dy hx
   have h5:C1 s (x :: (Ab c x).tail)=x :: C1 s (Ab c x).tail:=l9 e
   have h6:(Ab c x).tail=Ab c (c.A4.getD x.toNat default).Al:=by
    rw[Cw hx,List.tail_cons]
    rw[Cw hx,List.tail_cons]at h1
    split
    ·rename_i ht;rw[if_pos ht]at h1;cases h1
    ·rfl
   have h10:s∈Ab c (c.A4.getD x.toNat default).Al:=by rw[← h6];exact h1
   have ht:Dn c x=false:=by
    cases ht:Dn c x with
    | false=>rfl
    | true =>
     exfalso
     have:(Ab c x).tail=[]:=by rw[Cw hx,List.tail_cons,ht,if_pos rfl]
     rw[this]at h1;cases h1
   have h8:=Ef ht
   have h9:=isS_iff.1 hx
   have h11:=ih _ (by omega) h10
   rw[← h6]at h11
   rw[h4,h5,List.cons_append,← h11]
theorem vh {c:A7} {s x:Int} (hx:Bm c x=true) (h:s∈(Ab c x).tail):(Ab c x).tail=C1 s (Ab c x).tail++Ab c s:=by
 have h6:(Ab c x).tail=Ab c (c.A4.getD x.toNat default).Al:=by
  rw[Cw hx,List.tail_cons]
  rw[Cw hx,List.tail_cons]at h
  split
  ·rename_i ht;rw[if_pos ht]at h;cases h
  ·rfl
 rw[h6]
 rw[h6]at h
 exact Km _ _ (Nat.le_refl _) h
theorem uf {c:A7}:∀ (n:Nat) (x:Int),x.toNat≤n→(Ab c x).Nodup:=by
 intro n
 induction n with
 | zero =>
  intro x hn
  cases hx:Bm c x with
  | false=>unfold Ab;rw[hx,if_neg (by decide)];exact List.nodup_nil
  | true =>
   have hx2:=isS_iff.1 hx
   have:(Ab c x).tail=[]:=by
    cases h:(Ab c x).tail with
    | nil=>rfl
    | cons y l =>
     have h1:y∈(Ab c x).tail:=by rw[h];simp
     have h2:=ar hx y h1
     have h3:=isS_iff.1 (En y h1)
     omega
   rw[Dy hx,this];simp
 | succ n ih =>
  intro x hn
  cases hx:Bm c x with
  | false=>unfold Ab;rw[hx,if_neg (by decide)];exact List.nodup_nil
  | true =>
   have hx2:=isS_iff.1 hx
   rw[Dy hx,List.nodup_cons]
   refine⟨fun h=>by have:=ar hx x h;omega,?_⟩
   rw[Cw hx,List.tail_cons]
   split
   ·exact List.nodup_nil
   ·rename_i ht
    have h8:=Ef (Bool.eq_false_iff.2 ht)
    exact ih _ (by omega)
theorem pb {c:A7} (a b:Int):C7 c a b = -1∨(C7 c a b∈(Ab c a).tail∧C7 c a b∈(Ab c b).tail):=by
 unfold C7
 cases h:(Ab c a).tail.find? fun x=>Df (Ab c b).tail (Ab c b).tail.length x with
 | none=>exact .inl rfl
 | some s=>exact .inr ⟨List.mem_of_find?_eq_some h,hasK_iff.1 (List.find?_some h)⟩
theorem Xu {c:A7} (G:Ch.Good c):M3 c (ax c):=by
 have h0:S2 (List.replicate c.A4.length (-1)) []:=fun x hx=>by cases hx
 have h1:=Em G (a:=[]) Mg (Ab c c.Start).tail En
 have h2:=Lz G (a:=[]) Mg h0 (Ab c c.Start).tail En
 rw[List.append_nil]at h2
 exact Rl G c.A4.length c.Start _ _ G.start h1.1 (by omega) h2
theorem zr {c:A7} (G:Ch.Good c) {g:A9} (hg:C4 c g=true) (N:M3 c g) {i:Nat} (hi:i < c.A0.length) (hon:(c.A0.getD i default).From∈Ab c g.Leaf):M3 c ⟨(Ea c g (c.A0.getD i default)).1,(Ea c g (c.A0.getD i default)).2.1⟩:=by
 obtain⟨v1,v2,v3⟩:=validS_iff.1 hg
 have ht:=(G.tr i hi).2
 generalize c.A0.getD i default=t at *
 obtain⟨a1,_⟩:=P2 G (s:=C7 c t.From t.To) g.Leaf.toNat g.Leaf (-1) g.A6 [] (Nat.le_refl _) v1 v3 (.inl rfl)
 have hu:∀ x∈C1 (C7 c t.From t.To) (Ab c t.To).tail,Bm c x=true:=fun x hx=>En x (Gr x hx)
 have key:S2 (Cf c (C1 (C7 c t.From t.To) (Ab c t.To).tail) (Cn c (C7 c t.From t.To) (Ab c g.Leaf) (-1) g.A6 []).1 ((Cn c (C7 c t.From t.To) (Ab c g.Leaf) (-1) g.A6 []).2++t.B9)).1 (Ab c t.To).tail:=by
  rcases pb (c:=c) t.From t.To with hs | ⟨hs1,hs2⟩
  ·have h0:S2 (Cn c (C7 c t.From t.To) (Ab c g.Leaf) (-1) g.A6 []).1 []:=fun x hx=>by cases hx
   have:=Lz G (a:=(Cn c (C7 c t.From t.To) (Ab c g.Leaf) (-1) g.A6 []).2++t.B9) a1 h0 _ hu
   rw[List.append_nil]at this
   have e:C1 (C7 c t.From t.To) (Ab c t.To).tail=(Ab c t.To).tail:=Yt fun x hx=>by
    have:=isS_iff.1 (En x hx)
    rw[hs];omega
   rw[e]at this ⊢
   exact this
  ·have hsl:C7 c t.From t.To∈Ab c g.Leaf:=by
    rw[Km _ _ (Nat.le_refl _) hon]
    exact List.mem_append_right _ (List.mem_of_mem_tail hs1)
   have hsp:=Km _ _ (Nat.le_refl _) hsl
   have hnd:=uf (c:=c) _ g.Leaf (Nat.le_refl _)
   rw[hsp,List.nodup_append]at hnd
   have h0:S2 (Cn c (C7 c t.From t.To) (Ab c g.Leaf) (-1) g.A6 []).1 (Ab c (C7 c t.From t.To)):=fun z hz=>by
    have hz0:=isS_iff.1 (Fm _ _ (Nat.le_refl _) z hz).1
    rw[Yq hz0.1 _ _ _ _ (fun y hy=>(isS_iff.1 (Fm _ _ (Nat.le_refl _) y hy).1).1) (fun hm=>hnd.2.2 z hm z hz rfl)]
    exact N z (by rw[hsp];exact List.mem_append_right _ hz)
   have:=Lz G (a:=(Cn c (C7 c t.From t.To) (Ab c g.Leaf) (-1) g.A6 []).2++t.B9) a1 h0 _ hu
   rw[← vh ht hs2]at this
   exact this
 obtain⟨h1,_⟩:=Em G (a:=(Cn c (C7 c t.From t.To) (Ab c g.Leaf) (-1) g.A6 []).2++t.B9) a1 _ hu
 exact Rl G c.A4.length t.To _ _ ht h1 (by omega) key
theorem sk {c:A7} (hc:C8 c=some 0) {g h:A9} (hg:C4 c g=true) (N:M3 c g) {v:Int} (hs:G1 c g v=some h):M3 c h:=by
 cases ha:Cx c v with
 | false=>rw[e8 ha]at hs;cases hs
 | true =>
  rw[Wz hc hg ha]at hs
  split at hs
  ·rename_i h1
   have hl:(Ad c g.Leaf v).length=1:=by have:=eq_of_beq h1;omega
   obtain⟨i,hi,hx,hon⟩:=J7 (c:=c) (leaf:=g.Leaf) (v:=v) (by omega)
   injection hs with hs
   subst hs
   rw[hx]
   unfold Cr
   rw[Int.toNat_natCast]
   exact zr (Ge hc) hg N hi (hasK_iff.1 hon)
  ·cases hs
theorem Yh {c:A7} (hc:C8 c=some 0) {s:SS} (I:Inv c s) (W:Wy c (ax c) s):∀ (n k:Nat),k≤n→k < s.1.length→M3 c (s.1.getD k default)
 | 0,k,h1,h2=>by
  obtain rfl:k=0:=by omega
  rw[W.i0];exact Xu (Ge hc)
 | n+1,k,h1,h2=>by
  by_cases hk:k=0
  ·subst hk;rw[W.i0];exact Xu (Ge hc)
  ·obtain⟨j,v,q1,q2,q3,q4,q5⟩:=W.w k (by omega) h2
   exact sk hc (I.ok _ (Bj (by omega))) (Yh hc I W n j (by omega) (by omega)) q5
end Go.Av
set_option maxRecDepth 100000
namespace Go.Av
open Ch Go.Proofs
theorem Vq:∀ (n:Nat) (l:List Nat),l.Nodup→(∀ x∈l,x < n)→l.length≤n
 | 0,l,_,h=>by
  cases l with
  | nil=>simp
  | cons x l=>have:=h x (by simp);omega
 | n+1,l,hd,h=>by
  have h1:=Vq n (l.erase n) (hd.erase n) (fun x hx=>by
   have h2:=(hd.mem_erase_iff).1 hx
   have h3:=h x h2.2
   have h4:x≠n:=h2.1
   omega)
  rw[List.length_erase]at h1
  split at h1<;>omega
def Jt (p:Nat→Bool):Nat→Nat
 | 0=>0
 | n+1=>Jt p n+if p n=true then 2 ^ n else 0
theorem Qt (p:Nat→Bool):∀ n,Jt p n < 2 ^ n
 | 0=>by simp[Jt]
 | n+1=>by
  have:=Qt p n
  unfold Jt
  rw[Nat.pow_succ]
  split<;>omega
theorem d9 {p q:Nat→Bool}:∀ n,Jt p n=Jt q n→∀ i,i < n→p i=q i
 | 0,_,i,hi=>by omega
 | n+1,h,i,hi=>by
  have h1:=Qt p n
  have h2:=Qt q n
  unfold Jt at h
  have h3:p n=q n:=by
   cases hp:p n<;>cases hq:q n<;>rw[hp,hq]at h<;>simp at h<;>first | rfl | omega
  have h4:Jt p n=Jt q n:=by rw[h3]at h;omega
  by_cases e:i=n
  ·subst e;exact h3
  ·exact d9 n h4 i (by omega)
theorem Vu {c:A7} (G:Ch.Good c) {x l:Int} (hx:x∈Ab c l) (ht:Dn c x=false):(Cj c x).Al∈Ab c l:=by
 have h1:=(Fm _ _ (Nat.le_refl _) x hx).1
 have h2:=(G3 G h1 ht).1
 rw[Km _ _ (Nat.le_refl _) hx]
 refine List.mem_append_right _ ?_
 rw[Cw h1,ht,if_neg (by decide)]
 refine List.mem_cons_of_mem _ ?_
 show (Cj c x).Al∈Ab c (Cj c x).Al
 rw[Dy h2];simp
theorem eg {c:A7} {x l:Int} (hx:x∈Ab c l) (ht:Dn c x=true):(Ab c l).getLast?=some x:=by
 have h1:=(Fm _ _ (Nat.le_refl _) x hx).1
 rw[Km _ _ (Nat.le_refl _) hx,Cw h1,ht,if_pos rfl]
 simp
theorem path_one {c:A7} {x t l:Int} (hx:x∈Ab c l) (hxt:Dn c x=true) (ht:t∈Ab c l) (htt:Dn c t=true):x=t:=by
 have h1:=eg hx hxt
 rw[eg ht htt]at h1
 injection h1 with h1;exact h1.symm
theorem path_top {c:A7} (G:Ch.Good c):∀ (n:Nat) (l:Int),l.toNat≤n→Bm c l=true→∃ t∈Ab c l,Dn c t=true:=by
 intro n
 induction n with
 | zero =>
  intro l hn hl
  refine⟨l,by rw[Dy hl];simp,?_⟩
  cases ht:Dn c l with
  | true=>rfl
  | false =>
   have:=(G3 G hl ht).2.1
   omega
 | succ n ih =>
  intro l hn hl
  cases ht:Dn c l with
  | true=>exact⟨l,by rw[Dy hl];simp,ht⟩
  | false =>
   have h1:=G3 G hl ht
   obtain⟨t,h2,h3⟩:=ih (Cj c l).Al (by omega) h1.1
   refine⟨t,?_,h3⟩
   rw[Cw hl,ht,if_neg (by decide)]
   exact List.mem_cons_of_mem _ h2
def Mv (c:A7) (g:A9) (x:Int):Prop:=x∈Ab c g.Leaf∨(0≤(Cj c x).Al∧g.A6.getD (Cj c x).Al.toNat default=x)
theorem ah {c:A7} (G:Ch.Good c) {x:Int} (hx:Bm c x=true) (ht:Dn c x=true):¬ 0≤(Cj c x).Al:=fun h=>by
 have h1:=(G.parent x hx).2
 unfold Dn at ht
 simp only[Bool.or_eq_true,decide_eq_true_eq]at ht
 have e:(Cj c x).Al=(c.A4.getD x.toNat default).Al:=rfl
 omega
theorem mz {c:A7} (G:Ch.Good c) {g h:A9} (hg:C4 c g=true) (hh:C4 c h=true) (Nh:M3 c h) (Eg:∀ x,Bm c x=true→0 < x→Mv c g x→Mv c h x) (Eh:∀ x,Bm c x=true→0 < x→Mv c h x→Mv c g x):∀ (n:Nat) (x:Int),x.toNat≤n→x∈Ab c g.Leaf→x∈Ab c h.Leaf:=by
 intro n
 induction n with
 | zero =>
  intro x hn hx
  have h1:=(Fm _ _ (Nat.le_refl _) x hx).1
  have h2:=isS_iff.1 h1
  have hxt:Dn c x=true:=by
   cases ht:Dn c x with
   | true=>rfl
   | false=>have:=(G3 G h1 ht).2.1;omega
  obtain⟨t,t1,t2⟩:=path_top G _ h.Leaf (Nat.le_refl _) (validS_iff.1 hh).1
  have t3:=(Fm _ _ (Nat.le_refl _) t t1).1
  have t4:=isS_iff.1 t3
  by_cases e:t=0
  ·have:x=t:=by omega
   rw[this];exact t1
  ·rcases Eh t t3 (by omega) (.inl t1) with q | ⟨q,_⟩
   ·have:=path_one hx hxt q t2
    omega
   ·exact absurd q (ah G t3 t2)
 | succ n ih =>
  intro x hn hx
  have h1:=(Fm _ _ (Nat.le_refl _) x hx).1
  have h2:=isS_iff.1 h1
  by_cases hx0:x.toNat≤n
  ·exact ih x hx0 hx
  ·have hp:0 < x:=by omega
   rcases Eg x h1 hp (.inl hx) with q | ⟨q1,q2⟩
   ·exact q
   ·exfalso
    cases ht:Dn c x with
    | true=>exact ah G h1 ht q1
    | false =>
     have h3:=G3 G h1 ht
     have h4:=ih _ (by omega) (Vu G hx ht)
     have h5:=Nh _ h4
     rw[q2]at h5
     omega
theorem conf_inj {c:A7} (G:Ch.Good c) {g h:A9} (hg:C4 c g=true) (hh:C4 c h=true) (Ng:M3 c g) (Nh:M3 c h) (Eg:∀ x,Bm c x=true→0 < x→Mv c g x→Mv c h x) (Eh:∀ x,Bm c x=true→0 < x→Mv c h x→Mv c g x):g=h:=by
 have s1:=fun x=>mz G hg hh Nh Eg Eh x.toNat x (Nat.le_refl _)
 have s2:=fun x=>mz G hh hg Ng Eh Eg x.toNat x (Nat.le_refl _)
 obtain⟨g1,g2,g3⟩:=validS_iff.1 hg
 obtain⟨h1,h2,h3⟩:=validS_iff.1 hh
 have l1:=(Fm _ _ (Nat.le_refl _) g.Leaf (s1 g.Leaf (by rw[Dy g1];simp))).2
 have l2:=(Fm _ _ (Nat.le_refl _) h.Leaf (s2 h.Leaf (by rw[Dy h1];simp))).2
 have el:g.Leaf=h.Leaf:=by omega
 have half:∀ (a b:A9),MemOk c a.A6→a.Leaf=b.Leaf→(∀ x,Bm c x=true→0 < x→Mv c a x→Mv c b x)→∀ i:Nat,i < c.A4.length→(i:Int) ∉ Ab c a.Leaf→a.A6.getD i default ≠ -1→b.A6.getD i default=a.A6.getD i default:=fun a b Ma e E i hi hn hm=>by
  have hx:Bm c (i:Int)=true:=isS_iff.2 ⟨by omega,by omega⟩
  have hc:=Ma.child hx (by simpa using hm)
  rw[Int.toNat_natCast]at hc
  have h4:=Gw G hc
  have h5:(Cj c (a.A6.getD i default)).Al=(i:Int):=by
   unfold Dm at hc
   simp only[Bool.and_eq_true,beq_iff_eq]at hc
   exact hc.2
  rcases E _ h4.1 (by omega) (.inr ⟨by rw[h5];omega,by rw[h5,Int.toNat_natCast]⟩) with q | ⟨_,q⟩
  ·exfalso
   apply hn
   have ht:Dn c (a.A6.getD i default)=false:=by
    cases ht:Dn c (a.A6.getD i default) with
    | false=>rfl
    | true=>exact absurd (by rw[h5];omega) (ah G h4.1 ht)
   have:=Vu G q ht
   rw[h5]at this
   rw[e];exact this
  ·rw[h5,Int.toNat_natCast]at q
   exact q
 have em:g.A6=h.A6:=by
  rw[Pz (by rw[g3.len,h3.len])]
  intro i hi
  rw[g3.len]at hi
  by_cases hp:(i:Int)∈Ab c g.Leaf
  ·have a1:=Ng _ hp
   have a2:=Nh _ (by rw[← el];exact hp)
   rw[Int.toNat_natCast]at a1 a2
   rw[a1,a2]
  ·by_cases hm:g.A6.getD i default = -1
   ·by_cases hk:h.A6.getD i default = -1
    ·rw[hm,hk]
    ·exact half h g h3 el.symm Eh i hi (by rw[← el];exact hp) hk
   ·exact(half g h g3 el Eg i hi hp hm).symm
 obtain⟨a,b⟩:=g
 obtain⟨a',b'⟩:=h
 simp only at el em
 rw[el,em]
noncomputable def qa (c:A7) (g:A9) (i:Nat):Bool:=@decide (Bm c ((i:Int)+1)=true∧Mv c g ((i:Int)+1)) (Classical.propDecidable _)
theorem co {c:A7} (T:Wv c) (hc:C8 c=some 0) {s:SS} (I:Inv c s) (W:Wy c (ax c) s):s.1.length≤64:=by
 have G:=Ge hc
 have hst:=T.states
 have hN:∀ g∈s.1,M3 c g:=fun g hg=>by
  obtain⟨i,hi,rfl⟩:=List.getElem_of_mem hg
  have:=Yh hc I W i i (Nat.le_refl _) hi
  simpa [List.getD_eq_getElem?_getD,List.getElem?_eq_getElem hi] using this
 have inj:∀ g∈s.1,∀ h∈s.1,Jt (qa c g) 6=Jt (qa c h) 6→g=h:=fun g hg h hh e=>by
  have hb:=d9 6 e
  have one:∀ a b:A9,(∀ i,i < 6→qa c a i=qa c b i)→∀ x,Bm c x=true→0 < x→Mv c a x→Mv c b x:=fun a b hab x hx h0 hq=>by
   have h1:=isS_iff.1 hx
   have h2:=hab (x.toNat - 1) (by omega)
   have h3:((x.toNat - 1:Nat):Int)+1=x:=by omega
   unfold qa at h2
   rw[h3]at h2
   have h4:(Bm c x=true∧Mv c a x)=(Bm c x=true∧Mv c b x):=by
    have:=decide_eq_decide.1 h2
    exact propext this
   have h5:Bm c x=true∧Mv c b x:=by rw[← h4];exact⟨hx,hq⟩
   exact h5.2
  exact conf_inj G (I.ok g hg) (I.ok h hh) (hN g hg) (hN h hh) (one g h hb) (one h g fun i hi=>(hb i hi).symm)
 have nd:(s.1.map fun g=>Jt (qa c g) 6).Nodup:=List.pairwise_map.2 (W.nd.imp_of_mem fun ha hb hne e=>hne (inj _ ha _ hb e))
 have:=Vq 64 _ nd fun x hx=>by
  obtain⟨g,_,rfl⟩:=List.mem_map.1 hx
  exact Qt _ 6
 rw[List.length_map]at this
 exact this
end Go.Av
set_option maxRecDepth 100000
namespace Go.Av
open Ch Go.Proofs
def stG (i:Nat):Ah:=⟨([83]:List UInt8)++Lib.decDigits i,-1,-1,false,[],[]⟩
def Et (s:SS) (i:Nat):A9:=s.1.getD i default
def Ql (c:A7) (s:SS) (i t:Nat):List Ap:=if Cp c (Et s i).Leaf (t:Int)=true then[⟨(i:Int),Fd s.1 (Cr c (Et s i) (t:Int)).1,(c.A0.getD t default).When,(Cr c (Et s i) (t:Int)).2.1⟩]else[]
def Oa (c:A7) (s:SS) (i t:Nat):Bool:=Cp c (Et s i).Leaf (t:Int)&&decide (8 < ((Cr c (Et s i) (t:Int)).2.1.length:Int))
def stF (n:Nat):List Ah:=(List.range n).flatMap fun i=>[stG i]
def O4 (c:A7) (s:SS) (i n:Nat):List Ap:=(List.range n).flatMap (Ql c s i)
def Oc (c:A7) (s:SS) (i n:Nat):Bool:=Bo (Oa c s i) n
def trF (c:A7) (s:SS) (n:Nat):List Ap:=(List.range n).flatMap fun i=>O4 c s i c.A0.length
def Fo (c:A7) (s:SS) (n:Nat):Bool:=decide (40 < (s.1.length:Int)) || Bo (fun i=>Oc c s i c.A0.length) n
theorem Wl (F:Nat→Bool) (n:Nat):Bo F (n+1)=(Bo F n || F n):=by
 unfold Bo
 rw[List.range_succ,List.any_append];simp
theorem Zi (n:Nat):stF (n+1)=stF n++[stG n]:=F8 _ _
theorem rn (c:A7) (s:SS) (i n:Nat):O4 c s i (n+1)=O4 c s i n++Ql c s i n:=F8 _ _
theorem jp (c:A7) (s:SS) (i n:Nat):Oc c s i (n+1)=(Oc c s i n || Oa c s i n):=Wl _ _
theorem sb (c:A7) (s:SS) (n:Nat):trF c s (n+1)=trF c s n++O4 c s n c.A0.length:=F8 _ _
theorem my (c:A7) (s:SS) (n:Nat):Fo c s (n+1)=(Fo c s n || Oc c s n c.A0.length):=by
 unfold Fo;rw[Wl,Bool.or_assoc]
theorem trG_len (c:A7) (s:SS) (i t:Nat):(Ql c s i t).length≤1:=by unfold Ql;split<;>simp
theorem Zl (c:A7) (s:SS) (i n:Nat):(O4 c s i n).length≤n:=by
 have:=Bh (trG_len c s i) n
 unfold O4;omega
theorem qk (c:A7) (s:SS) (n:Nat):(trF c s n).length≤n * c.A0.length:=Bh (fun i=>Zl c s i c.A0.length) n
theorem Zr (n:Nat):(stF n).length=n:=by
 induction n with
 | zero=>rfl
 | succ n ih=>rw[Zi,List.length_append,ih];rfl
theorem qf {i:Nat} (h:i < 100):(Lib.decDigits i).length≤2:=by
 by_cases h1:i < 10
 ·rw[Lib.decDigits_one h1];simp
 ·rw[Lib.decDigits_two h1 h];simp
def Fw (c:A7) (s:SS):A7:=⟨c.Name,c.Ag,c.Ai,stF s.1.length,0,trF c s s.1.length⟩
def Wm (x:Aq):Bool:=x.Kind==1 || x.Kind==2
def Jn:A7:=⟨[],[],[],[],0,[]⟩
def Lx (c:A7):Option (A7×Int):=(C8 c).bind fun e=>if(e != 0)=true then some (Jn,e)else match Dt c with
 | none=>some (Jn,3)
 | some s=>if Bo (fun i=>Wm ((Dz c s).getD i default)) (Dz c s).length=true then some (Jn,11)else if(Fo c s s.1.length || decide (120 < ((trF c s s.1.length).length:Int)))=true then some (Jn,3)else some (Fw c s,0)
theorem enab_mem {c:A7} {leaf v:Int} {t:Nat} (h:(t:Int)∈Ad c leaf v):t < c.A0.length∧Df (Ab c leaf) (Ab c leaf).length (c.A0.getD t default).From=true:=by
 unfold Ad at h
 obtain⟨i,hi,hx⟩:=List.mem_flatMap.1 h
 unfold Jl at hx
 split at hx
 ·rename_i h1
  simp only[List.mem_singleton]at hx
  have:t=i:=by omega
  subst this
  simp only[Bool.and_eq_true]at h1
  exact⟨List.mem_range.1 hi,h1.1⟩
 ·cases hx
theorem Ry {c:A7} {leaf:Int} {t:Nat} (h:Cp c leaf (t:Int)=true):t < c.A0.length∧Df (Ab c leaf) (Ab c leaf).length (c.A0.getD t default).From=true:=by
 obtain⟨v,hv,h2⟩:=anyR_iff.1 h
 unfold Ml at h2
 simp only[Bool.and_eq_true]at h2
 exact enab_mem (hasK_iff.1 h2.2)
theorem u3 {c:A7} (H:Fit c) (hc:C8 c=some 0) {g:A9} (hg:C4 c g=true) {t:Nat} (ha:Cp c g.Leaf (t:Int)=true):Ji c g (t:Int)=some (Cr c g (t:Int)):=by
 obtain⟨h1,h2⟩:=Ry ha
 rw[gb H]
 have hn:(decide ((t:Int) < 0) || decide ((c.A0.length:Int)≤(t:Int)))=false:=by
  simp only[Bool.or_eq_false_iff,decide_eq_false_iff_not];omega
 simp only[hc,Option.bind_some,Dl,hg,hn,Int.toNat_natCast,h2,Bool.not_true,Bool.false_eq_true,if_false]
 rfl
end Go.Av
set_option maxRecDepth 100000
namespace Go.Av
open Ch Go.Proofs
theorem oz {c:A7} (H:Fit c) (hc:C8 c=some 0) {g:A9} (hg:C4 c g=true) {t:Nat} (ha:Cp c g.Leaf (t:Int)=true):lh c g (t:Int)=some (Cr c g (t:Int)):=by
 obtain⟨h1,h2⟩:=Ry ha
 rw[rFire_eq H]
 have hn:(decide ((t:Int) < 0) || decide ((c.A0.length:Int)≤(t:Int)))=false:=by
  simp only[Bool.or_eq_false_iff,decide_eq_false_iff_not];omega
 simp only[hc,Option.bind_some,Dl,hg,hn,Int.toNat_natCast,h2,Bool.not_true,Bool.false_eq_true,if_false]
 rfl
theorem M36 (a0:A7):m36 a0=((Option.bind (Option.bind (Option.bind (m22 a0) fun r=>some r) fun x1=>(if(x1.2 != 0)=true then(some (.inr (((⟨([]:List UInt8),[],[],[],(0:Int),[]⟩:A7),x1.2))))else(some (.inl x1.1)))) (As fun(y1:(List Aq))=>(Option.bind (Option.bind (some (.inl ())) (As fun(_:Unit)=>(Bl (fun(s2:Int)=>((if(decide (s2 < (y1.length:Int)))=true then(if(0≤s2)then(if(s2 < (y1.length:Int))then(if(((y1.getD s2.toNat default).Kind==1) || ((y1.getD s2.toNat default).Kind==2))=true then(some (.inr (.inr (((⟨([]:List UInt8),[],[],[],(0:Int),[]⟩:A7),(11:Int))))))else(some (.inl (IntKind.wrap .i64 (s2+1)))))else none)else none)else(some (.inr (.inl ())))):Option ((Int)⊕((Unit)⊕(A7×Int))))) (0:Int)))) (As fun(_:Unit)=>(Option.bind (Option.bind (Option.bind (m16 a0) fun r=>some r) fun x10=>(if((0+a0.Ag.length) * 16≤140737488355328)then(some (.inl x10.1))else none)) (As fun(y3:(List A9))=>(Option.bind (Option.bind (some (.inl ())) (As fun(_:Unit)=>(Bl (fun(s4:Int×(List (List B7)))=>((if(decide (s4.1 < (a0.Ai.length:Int)))=true then(if(0≤s4.1)then(if(s4.1 < (a0.Ai.length:Int))then(if((0+(a0.Ai.getD s4.1.toNat default).length) * 16≤140737488355328)then(if((s4.2.length+1) * 24≤140737488355328)then(some (.inl ((IntKind.wrap .i64 (s4.1+1)),(s4.2++([(([]:List B7)++(a0.Ai.getD s4.1.toNat default))]:List (List B7))))))else none)else none)else none)else none)else(some (.inr (.inl s4.2)))):Option ((Int×(List (List B7)))⊕(((List (List B7)))⊕(A7×Int))))) ((0:Int),[])))) (As fun(y5:(List (List B7)))=>(Option.bind (some (.inl ())) (As fun(_:Unit)=>(Option.bind (Option.bind (some (.inl ())) (As fun(_:Unit)=>(Bl (fun(s6:Bool×Int×(List Ah)×(List Ap))=>((Option.bind (if(decide (s6.2.1 < (y3.length:Int)))=true then(some (.inl ()))else(some (.inr (.inr (.inl (s6.1,s6.2.2.1,s6.2.2.2)))))) (As fun(_:Unit)=>(Option.bind (Option.bind (if(0≤s6.2.1)then(if(s6.2.1 < (y3.length:Int))then(Option.bind (((ji s6.2.1).bind fun r21_0=>(if([83]:List UInt8).length+r21_0.length≤9223372036854775807 then(if(s6.2.2.1.length+1) * 88≤140737488355328 then some r21_0 else none)else none))) fun(x21:((List UInt8)))=>(some (.inl (s6.2.2.1++([(⟨(([83]:List UInt8)++x21),(-1:Int),(-1:Int),false,[],[]⟩:Ah)]:List Ah)))))else none)else none) (As fun(y7:(List Ah))=>(Bl (fun(s8:Bool×Int×(List Ap))=>((if(decide (s8.2.1 < (a0.A0.length:Int)))=true then(if(0≤s8.2.1)then(if(s8.2.1 < (a0.A0.length:Int))then(Option.bind (Option.bind (dg a0 (y3.getD s6.2.1.toNat default).Leaf s8.2.1) fun r=>some r) fun x25=>(if(!x25)=true then(some (.inl (s8.1,(IntKind.wrap .i64 (s8.2.1+1)),s8.2.2)))else(Option.bind (Option.bind (lh a0 (y3.getD s6.2.1.toNat default) s8.2.1) fun r=>some r) fun x26=>(Option.bind (((So y3 x26.1).bind fun r28_0=>(if(0+(a0.A0.getD s8.2.1.toNat default).When.length) * 16≤140737488355328 then(if(s8.2.2.length+1) * 64≤140737488355328 then some r28_0 else none)else none))) fun(x28:(Int))=>(some (.inl ((s8.1 || (decide (8 < (x26.2.1.length:Int)))),(IntKind.wrap .i64 (s8.2.1+1)),(s8.2.2++([(⟨s6.2.1,x28,(([]:List B7)++(a0.A0.getD s8.2.1.toNat default).When),x26.2.1⟩:Ap)]:List Ap)))))))))else none)else none)else(some (.inr (.inl (s8.1,y7,s8.2.2))))):Option ((Bool×Int×(List Ap))⊕((Bool×(List Ah)×(List Ap))⊕((Bool×Int×(List Ah)×(List Ap))⊕((Bool×(List Ah)×(List Ap))⊕(A7×Int))))))) (s6.1,(0:Int),s6.2.2.2)))) (As fun(y9:Bool×(List Ah)×(List Ap))=>(some (.inl (y9.1,(IntKind.wrap .i64 (s6.2.1+1)),y9.2.1,y9.2.2))))))):Option ((Bool×Int×(List Ah)×(List Ap))⊕((Bool×(List Ah)×(List Ap))⊕(A7×Int))))) ((decide (40 < (y3.length:Int))),(0:Int),[],[])))) (As fun(y10:Bool×(List Ah)×(List Ap))=>(if(y10.1 || (decide (120 < (y10.2.2.length:Int))))=true then(some ((⟨([]:List UInt8),[],[],[],(0:Int),[]⟩:A7),(3:Int)))else(some ((⟨a0.Name,(([]:List (List UInt8))++a0.Ag),y5,y10.2.1,(0:Int),y10.2.2⟩:A7),(0:Int)))))))))))))))):Option (A7×Int)):=by kernel_rfl
theorem o5 {c:A7} (T:Wv c):m36 c=Lx c:=by
 have H:=T.fit
 have hn:c.Ag.length≤12:=by have:=T.conds;omega
 have hcd:=H.conds
 have hnv:=H.never
 have htr:=T.trans
 have q1:=nf H hn
 have q2:=S0 H hn
 have q3:∀ leaf t,dg c leaf t=some (Cp c leaf t):=dp H hn
 have q4:∀ i:Nat,i < 1000→ji (i:Int)=some (Lib.decDigits i):=fun i hi=>by
  unfold ji
  rw[if_pos ⟨by omega,by omega⟩,Int.toNat_natCast]
 have q5:C8 c=some 0→∀ g:A9,C4 c g=true→∀ t:Nat,Cp c g.Leaf (t:Int)=true→lh c g (t:Int)=some (Cr c g (t:Int)):=fun hc g hg t ha=>oz H hc hg ha
 have q6:∀ (l:List A9) (g:A9),Short l→l.length≤1000000→So l g=some (Fd l g):=db
 obtain⟨e,he⟩:=Cz c
 simp only[M36,Fc,q1,q2,bs]
 generalize dg=F1 at q3 ⊢
 generalize ji=F2 at q4 ⊢
 generalize lh=F3 at q5 ⊢
 generalize So=F4 at q6 ⊢
 unfold w7 Xh Lx
 simp only[he,bs]
 by_cases h0:(e != 0)=true
 ·simp only[h0,if_true,bs,Ou];rfl
 have h0:=Bool.eq_false_iff.2 h0
 have e0:e=0:=by simpa using h0
 subst e0
 simp only[Dl,Bool.false_eq_true,if_false]
 cases hs:Dt c with
 | none=>rfl
 | some s =>
  have I:=M1 H he hs
  have W:=Rc H he hs
  have few:=co T he I W
  have fl:=d8 H s
  simp only[bs,Dl,Bool.false_eq_true,if_false,ol]
  rw[D4 (Dz c s).length (fun i=>if Wm ((Dz c s).getD i default)=true then some (Jn,(11:Int))else none) (fun i hi=>?_) (by simp only[Bb,decide_false,Bool.false_eq_true,if_false]),Co]
  rotate_left
  ·simp only[C2,Bx,Br,C3 hi,decide_true,Int.toNat_natCast,if_true,D7 hi (by omega)]
   rfl
  by_cases hb:Bo (fun i=>Wm ((Dz c s).getD i default)) (Dz c s).length=true
  ·simp only[hb,if_true];rfl
  have hb:=Bool.eq_false_iff.2 hb
  simp only[hb,Bool.false_eq_true,if_false,Ek]
  have c0:((0+c.Ag.length) * 16≤140737488355328)=True:=eq_true (by omega)
  simp only[c0,if_true,bs,ol]
  refine E2 (y:=c.Ai) ?_ ?_
  ·have e1:c.Ai=(List.range c.Ai.length).flatMap (fun j=>[c.Ai.getD j default]):=by
    rw[Kw (fun x=>[x]) c.Ai];simp
   refine Eq.trans (E9 c.Ai.length (fun i k=>((i:Int),k)) (fun j=>[c.Ai.getD j default]) Sum.inl (fun i hi=>?_) ?_) (by rw[← e1])
   ·have hgl:=Bh (g:=fun j=>[c.Ai.getD j default]) (m:=1) (fun j=>by simp) i
    have hll:=H.lits _ (Bj hi)
    have c1:((0+(c.Ai.getD i default).length) * 16≤140737488355328)=True:=eq_true (by omega)
    have c2:((((List.range i).flatMap fun j=>[c.Ai.getD j default]).length+1) * 24≤140737488355328)=True:=eq_true (by omega)
    have w2:IntKind.wrap .i64 ((i:Int)+1)=((i+1:Nat):Int):=by rw[El (by omega) (by omega)];omega
    simp only[C3 hi,decide_true,Int.toNat_natCast,if_true,c1,c2,w2,List.nil_append]
   ·simp only[Bb,decide_false,Bool.false_eq_true,if_false]
  ·have dl:∀ i,i < 64→(Lib.decDigits i).length≤2:=fun i hi=>qf (by omega)
   refine E2 (y:=(Fo c s s.1.length,stF s.1.length,trF c s s.1.length)) ?_ ?_
   ·have e0:(decide (40 < (s.1.length:Int)),(0:Int),([]:List Ah),([]:List Ap))=(fun i:Nat=>(Fo c s i,(i:Int),stF i,trF c s i)) 0:=by simp[Fo,Bo,stF,trF]
    rw[e0]
    refine Kc s.1.length (fun i:Nat=>(Fo c s i,(i:Int),stF i,trF c s i)) (Sum.inl _) (fun i hi=>?_) ?_
    ·have d1:=q4 i (by omega)
     have d2:=dl i (by omega)
     have d3:=Zr i
     have d4:=qk c s i
     have d5:i * c.A0.length≤64 * 14:=Nat.mul_le_mul (by omega) htr
     have c1:(([83]:List UInt8).length+(Lib.decDigits i).length≤9223372036854775807)=True:=eq_true (by show 1+_≤_;omega)
     have c2:(((stF i).length+1) * 88≤140737488355328)=True:=eq_true (by omega)
     have w2:IntKind.wrap .i64 ((i:Int)+1)=((i+1:Nat):Int):=by rw[El (by omega) (by omega)];omega
     have hg:=I.ok _ (Bj hi)
     simp only[C3 hi,decide_true,Int.toNat_natCast,if_true,bs,ol,d1,c1,c2]
     refine E2 (y:=(Fo c s (i+1),stF (i+1),trF c s (i+1))) ?_ (by simp only[w2])
     rw[my,Zi,sb]
     have e1:(Fo c s i,(0:Int),trF c s i)=(fun t:Nat=>(Fo c s i || Oc c s i t,(t:Int),trF c s i++O4 c s i t)) 0:=by simp[Oc,Bo,O4]
     rw[e1]
     refine Kc c.A0.length (fun t:Nat=>(Fo c s i || Oc c s i t,(t:Int),trF c s i++O4 c s i t)) (Sum.inl _) (fun t ht=>?_) ?_
     ·have w3:IntKind.wrap .i64 ((t:Int)+1)=((t+1:Nat):Int):=by rw[El (by omega) (by omega)];omega
      have d6:=Zl c s i t
      simp only[C3 ht,decide_true,Int.toNat_natCast,if_true,bs,ol,q3,w3,jp,rn]
      cases ha:Cp c (s.1.getD i default).Leaf (t:Int) with
      | false =>
       have g1:Ql c s i t=[]:=by unfold Ql Et;rw[ha,if_neg (by decide)]
       have g2:Oa c s i t=false:=by unfold Oa Et;rw[ha,Bool.false_and]
       simp only[Bool.not_false,if_true,g1,g2,List.append_nil,Bool.or_false]
      | true =>
       have g1:Ql c s i t=[⟨(i:Int),Fd s.1 (Cr c (s.1.getD i default) (t:Int)).1,(c.A0.getD t default).When,(Cr c (s.1.getD i default) (t:Int)).2.1⟩]:=by unfold Ql Et;rw[ha,if_pos rfl]
       have g2:Oa c s i t=decide (8 < ((Cr c (s.1.getD i default) (t:Int)).2.1.length:Int)):=by unfold Oa Et;rw[ha,Bool.true_and]
       have f1:=q5 he _ hg t ha
       have f2:=q6 s.1 (Cr c (s.1.getD i default) (t:Int)).1 (I.short H) (by omega)
       have hw:=H.when_ _ (Bj ht)
       have c3:((0+(c.A0.getD t default).When.length) * 16≤140737488355328)=True:=eq_true (by omega)
       have c4:(((trF c s i++O4 c s i t).length+1) * 64≤140737488355328)=True:=eq_true (by rw[List.length_append];omega)
       simp only[Bool.not_true,Bool.false_eq_true,if_false,f1,f2,bs,c3,c4,if_true,g1,g2,List.nil_append,List.append_assoc,Bool.or_assoc]
     ·simp only[Bb,decide_false,Bool.false_eq_true,if_false];rfl
    ·simp only[Bb,decide_false,Bool.false_eq_true,if_false,bs,Ou]
   ·rfl
end Go.Av
set_option maxRecDepth 100000
namespace Go.Av
open Ch Go.Proofs
theorem orJ_none {R:Type} {b:Option R}:orJ none b=b:=Eq.mpr rfl rfl
theorem M35 (a0:A7):m35 a0=((orJ (Option.bind (Option.bind (Option.bind (P4 a0) fun r=>some r) fun x1=>(if(x1 != 0)=true then(some (.inr (((⟨([]:List UInt8),[],[],[],(0:Int),[]⟩:A7),x1))))else(some (.inl ())))) (As fun(_:Unit)=>(Option.bind (Option.bind (Option.bind (none) fun(x4:(Unit))=>none) (As fun(y:Empty)=>(y.elim))) lj))) (Option.bind (Option.bind (Option.bind (P5 a0) fun r=>some r) fun x1=>(if((0:Int) != (0:Int))=true then(some (.inr (((⟨([]:List UInt8),[],[],[],(0:Int),[]⟩:A7),(0:Int)))))else(some (.inl (x1.1,x1.2.1,x1.2.2.1,x1.2.2.2))))) (As fun(y1:(List A9)×(List Int)×(List Int)×(List Int))=>(Option.bind (Option.bind (Option.bind (Option.bind (Ph a0 y1.1 y1.2.1 y1.2.2.1 y1.2.2.2) fun r=>some r) fun x4=>(some (.inl (x4,(x4.length:Int))))) (As fun(y2:(List Aq)×Int)=>(Bl (fun(s3:Int)=>((if(decide (s3 < y2.2))=true then(if(0≤s3)then(if(s3 < (y2.1.length:Int))then(if(((y2.1.getD s3.toNat default).Kind==1) || ((y2.1.getD s3.toNat default).Kind==2))=true then(some (.inr (.inr (((⟨([]:List UInt8),[],[],[],(0:Int),[]⟩:A7),(11:Int))))))else(some (.inl (IntKind.wrap .i64 (s3+1)))))else none)else none)else(some (.inr (.inl ())))):Option ((Int)⊕((Unit)⊕(A7×Int))))) (0:Int)))) (As fun(_:Unit)=>(Option.bind (Option.bind (Option.bind (qn a0.Ag) fun r=>some r) fun x10=>(some (.inl x10))) (As fun(y4:(List (List UInt8)))=>(Option.bind (Option.bind (some (.inl ())) (As fun(_:Unit)=>(Bl (fun(s5:Int×(List (List B7)))=>((if(decide (s5.1 < (a0.Ai.length:Int)))=true then(if(0≤s5.1)then(if(s5.1 < (a0.Ai.length:Int))then(Option.bind (((cg (a0.Ai.getD s5.1.toNat default)).bind fun r14_0=>(if(s5.2.length+1) * 24≤140737488355328 then some r14_0 else none))) fun(x14:((List B7)))=>(some (.inl ((IntKind.wrap .i64 (s5.1+1)),(s5.2++([x14]:List (List B7)))))))else none)else none)else(some (.inr (.inl s5.2)))):Option ((Int×(List (List B7)))⊕(((List (List B7)))⊕(A7×Int))))) ((0:Int),[])))) (As fun(y6:(List (List B7)))=>(Option.bind (some (.inl ())) (As fun(_:Unit)=>(Option.bind (Option.bind (some (.inl ())) (As fun(_:Unit)=>(Bl (fun(s7:Bool×Int×(List Ah)×(List Ap))=>((Option.bind (if(decide (s7.2.1 < (y1.1.length:Int)))=true then(some (.inl ()))else(some (.inr (.inr (.inl (s7.1,s7.2.2.1,s7.2.2.2)))))) (As fun(_:Unit)=>(Option.bind (Option.bind (if(0≤s7.2.1)then(if(s7.2.1 < (y1.1.length:Int))then(Option.bind (((g8 s7.2.1).bind fun r20_0=>(if([83]:List UInt8).length+r20_0.length≤9223372036854775807 then(if(s7.2.2.1.length+1) * 88≤140737488355328 then some r20_0 else none)else none))) fun(x20:((List UInt8)))=>(if(0≤(a0.A0.length:Int))then(if((a0.A0.length:Int)=(a0.A0.length:Int))then(if((a0.A0.length:Int) * 1≤140737488355328)then(if((a0.A0.length:Int)≤9223372036854775807)then(some (.inl (s7.2.2.1++([(⟨(([83]:List UInt8)++x20),(-1:Int),(-1:Int),false,[],[]⟩:Ah)]:List Ah))))else none)else none)else none)else none))else none)else none) (As fun(y8:(List Ah))=>(Option.bind (Option.bind (some (.inl ())) (As fun(_:Unit)=>(Bl (fun(s9:(List Bool)×Int)=>((Option.bind (if(decide (s9.2 < (y1.2.2.2.length:Int)))=true then(some (.inl ()))else(some (.inr (.inr (.inl s9.1))))) (As fun(_:Unit)=>(Option.bind (Option.bind (if(0≤s9.2)then(if(s9.2 < (y1.2.2.2.length:Int))then(Option.bind (Option.bind (Mw a0 (y1.1.getD s7.2.1.toNat default).Leaf (y1.2.2.2.getD s9.2.toNat default)) fun r=>some r) fun x25=>(some (.inl (x25,(x25.length:Int)))))else none)else none) (As fun(y10:(List Int)×Int)=>(Bl (fun(s11:(List Bool)×Int)=>((if(decide (s11.2 < y10.2))=true then(if(0≤s11.2)then(if(s11.2 < (y10.1.length:Int))then(if(0≤(y10.1.getD s11.2.toNat default))then(if((y10.1.getD s11.2.toNat default) < ((a0.A0.length:Int).toNat:Int))then(if((y10.1.getD s11.2.toNat default).toNat < (a0.A0.length:Int).toNat)then(some (.inl (((At s11.1 0 (a0.A0.length:Int).toNat).set (y10.1.getD s11.2.toNat default).toNat true),(IntKind.wrap .i64 (s11.2+1)))))else none)else none)else none)else none)else none)else(some (.inr (.inl s11.1)))):Option (((List Bool)×Int)⊕(((List Bool))⊕(((List Bool)×Int)⊕(((List Bool))⊕((Bool×(List Ah)×(List Ap))⊕((Bool×Int×(List Ah)×(List Ap))⊕((Bool×(List Ah)×(List Ap))⊕(A7×Int)))))))))) (s9.1,(0:Int))))) (As fun(y12:(List Bool))=>(some (.inl (y12,(IntKind.wrap .i64 (s9.2+1))))))))):Option (((List Bool)×Int)⊕(((List Bool))⊕((Bool×(List Ah)×(List Ap))⊕((Bool×Int×(List Ah)×(List Ap))⊕((Bool×(List Ah)×(List Ap))⊕(A7×Int)))))))) ((List.replicate (a0.A0.length:Int).toNat false),(0:Int))))) (As fun(y13:(List Bool))=>(Option.bind (some (.inl ())) (As fun(_:Unit)=>(Bl (fun(s14:Bool×Int×(List Ap))=>((if(decide (s14.2.1 < ((a0.A0.length:Int).toNat:Int)))=true then(if(0≤s14.2.1)then(if(s14.2.1 < ((a0.A0.length:Int).toNat:Int))then(if(s14.2.1.toNat < (a0.A0.length:Int).toNat)then(if(!(y13.getD s14.2.1.toNat default))=true then(some (.inl (s14.1,(IntKind.wrap .i64 (s14.2.1+1)),s14.2.2)))else(Option.bind (Option.bind (Ji a0 (y1.1.getD s7.2.1.toNat default) s14.2.1) fun r=>some r) fun x35=>(Option.bind (((Ok y1.1 x35.1).bind fun r37_0=>(if 0≤s14.2.1 then(if s14.2.1 < (a0.A0.length:Int)then((cg (a0.A0.getD s14.2.1.toNat default).When).bind fun r37_1=>(if(s14.2.2.length+1) * 64≤140737488355328 then some (r37_0,r37_1)else none))else none)else none))) fun(x37:(Int×(List B7)))=>(some (.inl ((s14.1 || (decide (8 < (x35.2.1.length:Int)))),(IntKind.wrap .i64 (s14.2.1+1)),(s14.2.2++([(⟨s7.2.1,x37.1,x37.2,x35.2.1⟩:Ap)]:List Ap))))))))else none)else none)else none)else(some (.inr (.inl (s14.1,y8,s14.2.2))))):Option ((Bool×Int×(List Ap))⊕((Bool×(List Ah)×(List Ap))⊕((Bool×Int×(List Ah)×(List Ap))⊕((Bool×(List Ah)×(List Ap))⊕(A7×Int))))))) (s7.1,(0:Int),s7.2.2.2)))))))) (As fun(y15:Bool×(List Ah)×(List Ap))=>(some (.inl (y15.1,(IntKind.wrap .i64 (s7.2.1+1)),y15.2.1,y15.2.2))))))):Option ((Bool×Int×(List Ah)×(List Ap))⊕((Bool×(List Ah)×(List Ap))⊕(A7×Int))))) ((decide (40 < (y1.1.length:Int))),(0:Int),[],[])))) (As fun(y16:Bool×(List Ah)×(List Ap))=>(if(y16.1 || (decide (120 < (y16.2.2.length:Int))))=true then(some ((⟨([]:List UInt8),[],[],[],(0:Int),[]⟩:A7),(3:Int)))else(some ((⟨a0.Name,y4,y6,y16.2.1,(0:Int),y16.2.2⟩:A7),(0:Int))))))))))))))))):Option (A7×Int)):=by kernel_rfl
theorem uo {c:A7} (T:Wv c):m35 c=Lx c:=by
 have H:=T.fit
 have hn:c.Ag.length≤12:=by have:=T.conds;omega
 have hcd:=H.conds
 have hnv:=H.never
 have htr:=T.trans
 have h2:=Ja hn
 have hv2:=Pa (c:=c)
 have q1:=srchE_eq H hn
 have q2:=srchR_eq H hn
 have q3:∀ s:SS,Inv c s→Ph c s.1 s.2.1 s.2.2 (Bw c)=some (Dz c s):=fun s I=>sfind_eq H hn I
 have q4:∀ i:Nat,i < 100→g8 (i:Int)=some (Lib.decDigits i):=fun i hi=>by
  unfold g8
  rw[if_pos ⟨by omega,by omega⟩,Int.toNat_natCast]
 have q5:C8 c=some 0→∀ g:A9,C4 c g=true→∀ t:Nat,Cp c g.Leaf (t:Int)=true→Ji c g (t:Int)=some (Cr c g (t:Int)):=fun hc g hg t ha=>u3 H hc hg ha
 have q6:∀ (l:List A9) (g:A9),Short l→l.length≤1000000→Ok l g=some (Fd l g):=bw
 have q7:∀ (leaf v:Int),Mw c leaf v=some (Ad c leaf v):=N3 c H
 have q8:qn c.Ag=some c.Ag:=by unfold qn;rw[if_pos (by omega)]
 have q9:∀ l:List B7,l.length≤1000→cg l=some l:=fun l hl=>by
  unfold cg Xm
  rw[if_pos (by omega)]
 obtain⟨e,he⟩:=Cz c
 simp only[M35,Fc,q1,q2,he,bs]
 generalize Ph=F1 at q3 ⊢
 generalize g8=F2 at q4 ⊢
 generalize Ji=F3 at q5 ⊢
 generalize Ok=F4 at q6 ⊢
 generalize Mw=F5 at q7 ⊢
 generalize qn=F6 at q8 ⊢
 generalize cg=F7 at q9 ⊢
 unfold Lx
 simp only[he,bs]
 by_cases h0:(e != 0)=true
 ·simp only[h0,bs,bn,if_true,Ou];rfl
 have h0:=Bool.eq_false_iff.2 h0
 have e0:e=0:=by simpa using h0
 subst e0
 simp only[h0,Bool.false_eq_true,if_false]
 cases hs:Dt c with
 | none=>rfl
 | some s =>
  have I:=M1 H he hs
  have W:=Rc H he hs
  have few:=co T he I W
  have fl:=d8 H s
  have q3':=q3 s I
  simp only[bs,bn,Dl,Bool.false_eq_true,if_false,ol,q3',orJ_none]
  rw[D4 (Dz c s).length (fun i=>if Wm ((Dz c s).getD i default)=true then some (Jn,(11:Int))else none) (fun i hi=>?_) (by simp only[Bb,decide_false,Bool.false_eq_true,if_false]),Co]
  rotate_left
  ·simp only[C2,Bx,Br,C3 hi,decide_true,Int.toNat_natCast,if_true,D7 hi (by omega)]
   rfl
  by_cases hb:Bo (fun i=>Wm ((Dz c s).getD i default)) (Dz c s).length=true
  ·simp only[hb,if_true];rfl
  have hb:=Bool.eq_false_iff.2 hb
  simp only[hb,Bool.false_eq_true,if_false,Ek,q8,bs,ol]
  refine E2 (y:=c.Ai) ?_ ?_
  ·have e1:c.Ai=(List.range c.Ai.length).flatMap (fun j=>[c.Ai.getD j default]):=by
    rw[Kw (fun x=>[x]) c.Ai];simp
   refine Eq.trans (E9 c.Ai.length (fun i k=>((i:Int),k)) (fun j=>[c.Ai.getD j default]) Sum.inl (fun i hi=>?_) ?_) (by rw[← e1])
   ·have hgl:=Bh (g:=fun j=>[c.Ai.getD j default]) (m:=1) (fun j=>by simp) i
    have hll:=H.lits _ (Bj hi)
    have c2:((((List.range i).flatMap fun j=>[c.Ai.getD j default]).length+1) * 24≤140737488355328)=True:=eq_true (by omega)
    have w2:IntKind.wrap .i64 ((i:Int)+1)=((i+1:Nat):Int):=by rw[El (by omega) (by omega)];omega
    simp only[C3 hi,decide_true,Int.toNat_natCast,if_true,q9 _ hll,bs,c2,w2]
   ·simp only[Bb,decide_false,Bool.false_eq_true,if_false]
  ·refine E2 (y:=(Fo c s s.1.length,stF s.1.length,trF c s s.1.length)) ?_ ?_
   ·have e0:(decide (40 < (s.1.length:Int)),(0:Int),([]:List Ah),([]:List Ap))=(fun i:Nat=>(Fo c s i,(i:Int),stF i,trF c s i)) 0:=by simp[Fo,Bo,stF,trF]
    rw[e0]
    refine Kc s.1.length (fun i:Nat=>(Fo c s i,(i:Int),stF i,trF c s i)) (Sum.inl _) (fun i hi=>?_) ?_
    ·have d1:=q4 i (by omega)
     have d2:=qf (i:=i) (by omega)
     have d3:=Zr i
     have d4:=qk c s i
     have d5:i * c.A0.length≤64 * 14:=Nat.mul_le_mul (by omega) htr
     have c1:(([83]:List UInt8).length+(Lib.decDigits i).length≤9223372036854775807)=True:=eq_true (by show 1+_≤_;omega)
     have c2:(((stF i).length+1) * 88≤140737488355328)=True:=eq_true (by omega)
     have c5:((0:Int)≤(c.A0.length:Int))=True:=eq_true (by omega)
     have c6:((c.A0.length:Int) * 1≤140737488355328)=True:=eq_true (by omega)
     have c7:((c.A0.length:Int)≤9223372036854775807)=True:=eq_true (by omega)
     have w2:IntKind.wrap .i64 ((i:Int)+1)=((i+1:Nat):Int):=by rw[El (by omega) (by omega)];omega
     have hg:=I.ok _ (Bj hi)
     simp only[C3 hi,decide_true,Int.toNat_natCast,if_true,bs,ol,d1,c1,c2,c5,c6,c7]
     refine E2 (y:=(Fo c s (i+1),stF (i+1),trF c s (i+1))) ?_ (by simp only[w2])
     rw[my,Zi,sb]
     refine E2 (y:=D3 c.A0.length fun t=>Cp c (s.1.getD i default).Leaf (t:Int)) ?_ ?_
     ·generalize (s.1.getD i default).Leaf=leaf
      have e1:(List.replicate c.A0.length false,(0:Int))=(fun k:Nat=>(D3 c.A0.length (fun t=>Bo (fun j=>pA c leaf t ((Bw c).getD j default)) k),(k:Int))) 0:=by
       have:List.replicate c.A0.length false=D3 c.A0.length (fun t=>Bo (fun j=>pA c leaf t ((Bw c).getD j default)) 0):=by
        apply List.ext_getElem?
        intro u
        simp only[D3,List.getElem?_replicate,List.getElem?_map]
        by_cases hu:u < c.A0.length
        ·simp[hu,Bo]
        ·simp[hu]
       rw[this];rfl
      have e2:(D3 c.A0.length fun t=>Cp c leaf (t:Int))=D3 c.A0.length (fun t=>Bo (fun j=>pA c leaf t ((Bw c).getD j default)) (Bw c).length):=Fj fun t _=>pA_all.symm
      rw[e1,e2]
      refine Kc (Bw c).length (fun k:Nat=>(D3 c.A0.length (fun t=>Bo (fun j=>pA c leaf t ((Bw c).getD j default)) k),(k:Int))) (Sum.inl _) (fun k hk=>?_) ?_
      ·have w3:IntKind.wrap .i64 ((k:Int)+1)=((k+1:Nat):Int):=by rw[El (by omega) (by omega)];omega
       have r3:D3 c.A0.length (fun t=>Bo (fun j=>pA c leaf t ((Bw c).getD j default)) (k+1))=D3 c.A0.length (fun t=>Bo (fun j=>pA c leaf t ((Bw c).getD j default)) k || pA c leaf t ((Bw c).getD k default)):=Fj fun t _=>Wl _ _
       simp only[C3 hk,decide_true,Int.toNat_natCast,if_true,bs,ol,q7,r3]
       generalize (Bw c).getD k default=v
       have hel:=Of c leaf v
       refine J9 (Yj (l:=Ad c leaf v) (fun x hx=>pk hx) Sum.inl (fun B'' j t hj ht htl=>?_) (fun B''=>?_) _) ?_
       ·have w4:IntKind.wrap .i64 ((j:Int)+1)=((j+1:Nat):Int):=by rw[El (by omega) (by omega)];omega
        have c8:((t:Int) < (c.A0.length:Int))=True:=eq_true (by omega)
        have c9:((0:Int)≤(t:Int))=True:=eq_true (by omega)
        simp only[C3 hj,decide_true,if_true,Int.toNat_natCast,ht,c8,c9,eq_true htl,rl,w4]
       ·simp only[Bb,decide_false,Bool.false_eq_true,if_false]
       ·simp only[bs,ol,w3];rfl
      ·simp only[Bb,decide_false,Bool.false_eq_true,if_false,bs,Ou]
     have e1:(Fo c s i,(0:Int),trF c s i)=(fun t:Nat=>(Fo c s i || Oc c s i t,(t:Int),trF c s i++O4 c s i t)) 0:=by simp[Oc,Bo,O4]
     simp only[e1]
     refine Kc c.A0.length (fun t:Nat=>(Fo c s i || Oc c s i t,(t:Int),trF c s i++O4 c s i t)) (Sum.inl _) (fun t ht=>?_) ?_
     ·have w3:IntKind.wrap .i64 ((t:Int)+1)=((t+1:Nat):Int):=by rw[El (by omega) (by omega)];omega
      have d6:=Zl c s i t
      have c8:((t:Int) < (c.A0.length:Int))=True:=eq_true (by omega)
      have c9:((0:Int)≤(t:Int))=True:=eq_true (by omega)
      simp only[C3 ht,decide_true,Int.toNat_natCast,if_true,bs,ol,eq_true ht,wa ht,w3,jp,rn]
      cases ha:Cp c (s.1.getD i default).Leaf (t:Int) with
      | false =>
       have g1:Ql c s i t=[]:=by unfold Ql Et;rw[ha,if_neg (by decide)]
       have g2:Oa c s i t=false:=by unfold Oa Et;rw[ha,Bool.false_and]
       simp only[Bool.not_false,if_true,g1,g2,List.append_nil,Bool.or_false]
      | true =>
       have g1:Ql c s i t=[⟨(i:Int),Fd s.1 (Cr c (s.1.getD i default) (t:Int)).1,(c.A0.getD t default).When,(Cr c (s.1.getD i default) (t:Int)).2.1⟩]:=by unfold Ql Et;rw[ha,if_pos rfl]
       have g2:Oa c s i t=decide (8 < ((Cr c (s.1.getD i default) (t:Int)).2.1.length:Int)):=by unfold Oa Et;rw[ha,Bool.true_and]
       have f1:=q5 he _ hg t ha
       have f2:=q6 s.1 (Cr c (s.1.getD i default) (t:Int)).1 (I.short H) (by omega)
       have f3:=q9 _ (H.when_ _ (Bj ht))
       have c4:(((trF c s i++O4 c s i t).length+1) * 64≤140737488355328)=True:=eq_true (by rw[List.length_append];omega)
       simp only[Bool.not_true,Bool.false_eq_true,if_false,f1,f2,f3,bs,c4,c8,c9,if_true,g1,g2,List.append_assoc,Bool.or_assoc]
     ·simp only[Bb,decide_false,Bool.false_eq_true,if_false];rfl
    ·simp only[Bb,decide_false,Bool.false_eq_true,if_false,bs,Ou]
   ·rfl
end Go.Av
set_option maxRecDepth 100000
namespace Go.Av
open Ch Go.Proofs
structure Vd (c:A7):Prop where
 name:nm c.Name=true
 pos:0 < c.A4.length
 conds:c.Ag.length≤12
 never:c.Ai.length≤16
 states:c.A4.length≤40
 trans:c.A0.length≤120
 cond:∀ i,i < c.Ag.length→Lv c i=none
 nev:∀ i,i < c.Ai.length→Px c i=none
 st:∀ i,i < c.A4.length→Ch.stF c i=none
 start:Bm c c.Start=true
 tr:∀ i,i < c.A0.length→Ch.trF c i=none
theorem chk_of {c:A7} (h:C8 c=some 0):Vd c:=by
 unfold C8 at h
 obtain⟨hn,h⟩:=Kf h (by decide)
 obtain⟨h1,h⟩:=Kf h (by decide)
 obtain⟨hcap,h⟩:=Kf h (by decide)
 have n1:Be (Lv c) c.Ag.length≠some 0:=fun e=>by
  obtain⟨i,_,e⟩:=Di e
  unfold Lv at e
  split at e
  ·rename_i hh;injection e with e;rw[e]at hh;simp at hh
  ·cases e
 obtain⟨hcd,h⟩:=Mi h n1
 have n2:Be (Px c) c.Ai.length≠some 0:=fun e=>by
  obtain⟨i,_,e⟩:=Di e
  unfold Px at e
  split at e
  ·cases e
  ·split at e
   ·rename_i hh;injection e with e;rw[e]at hh;simp at hh
   ·cases e
 obtain⟨hnv,h⟩:=Mi h n2
 have n3:Be (Ch.stF c) c.A4.length≠some 0:=fun e=>by
  obtain⟨i,_,e⟩:=Di e
  unfold Ch.stF at e
  split at e
  ·rename_i hh;injection e with e;rw[e]at hh;simp at hh
  ·cases e
 obtain⟨hst,h⟩:=Mi h n3
 obtain⟨hs,h⟩:=Kf h (by decide)
 have n4:Be (Ch.trF c) c.A0.length≠some 0:=fun e=>by
  obtain⟨i,_,e⟩:=Di e
  unfold Ch.trF at e
  split at e
  ·cases e
  ·split at e
   ·rename_i hh;injection e with e;rw[e]at hh;simp at hh
   ·split at e
    ·rename_i hh;injection e with e;rw[e]at hh;simp at hh
    ·cases e
 obtain⟨htr,-⟩:=Mi h n4
 simp only[Bool.or_eq_true,decide_eq_true_eq,not_or,Int.not_lt]at hcap
 have h1:¬ ((c.A4.length:Int)=0):=by simpa using h1
 exact⟨by simpa using hn,by omega,by omega,by omega,by omega,by omega,firstR_none.1 hcd,firstR_none.1 hnv,firstR_none.1 hst,by simpa using hs,firstR_none.1 htr⟩
theorem of_chk {c:A7} (h:Vd c):C8 c=some 0:=by
 have h1:=h.conds
 have h2:=h.never
 have h3:=h.states
 have h4:=h.trans
 have h5:=h.pos
 unfold C8
 rw[if_neg (by rw[h.name];decide),if_neg (by simp;intro h;simp[h]at h5),if_neg (by simp only[Bool.or_eq_true,decide_eq_true_eq,not_or,Int.not_lt];omega),firstR_none.2 h.cond,Ek,firstR_none.2 h.nev,Ek,firstR_none.2 h.st,Ek,if_neg (by rw[h.start];decide),firstR_none.2 h.tr,Ek]
def NmL (l:List (List UInt8)):Prop:=∀ a∈l,nm a=true
theorem NmL.nil:NmL []:=fun a h=>by cases h
theorem NmL.app {l k:List (List UInt8)} (h1:NmL l) (h2:NmL k):NmL (l++k):=fun a h=>(List.mem_append.1 h).elim (h1 a) (h2 a)
theorem act_iff {l:List (List UInt8)}:L2 l=0↔l.length≤8∧NmL l:=by
 unfold L2
 constructor
 ·intro h
  split at h
  ·cases h
  rename_i h1
  split at h
  ·cases h
  rename_i h2
  have h2:=Bool.eq_false_iff.2 h2
  refine⟨by simp only[decide_eq_true_eq]at h1;omega,fun a ha=>?_⟩
  obtain⟨i,hi,rfl⟩:=List.getElem_of_mem ha
  have:=anyR_false.1 h2 i hi
  simpa [List.getD_eq_getElem?_getD,List.getElem?_eq_getElem hi] using this
 ·rintro⟨h1,h2⟩
  rw[if_neg (by simp;omega),if_neg]
  rw[Bool.not_eq_true,anyR_false]
  intro i hi
  rw[h2 _ (Bj hi)];rfl
theorem getD_out {α:Type} [Inhabited α] {l:List α} {i:Nat} (h:¬ i < l.length):l.getD i default=default:=by
 rw[List.getD_eq_getElem?_getD,List.getElem?_eq_none (by omega)];rfl
theorem kj {c:A7} {i:Nat} (h:Jj c i=0):NmL (c.A4.getD i default).Az∧NmL (c.A4.getD i default).Exit:=by
 unfold Jj at h
 split at h
 ·cases h
 split at h
 ·cases h
 split at h
 ·cases h
 split at h
 ·rename_i a4;rw[h]at a4;simp at a4
 rename_i a4
 exact⟨(act_iff.1 (by simpa using a4)).2,(act_iff.1 h).2⟩
theorem M7 {c:A7} (K:Vd c) (x:Int):NmL (Cj c x).Az∧NmL (Cj c x).Exit:=by
 unfold Cj
 by_cases hx:x.toNat < c.A4.length
 ·have h:=K.st _ hx
  unfold Ch.stF at h
  split at h
  ·cases h
  ·rename_i hh
   have hh:Hv c x.toNat=0:=by simpa using hh
   unfold Hv at hh
   split at hh
   ·rename_i h2;rw[hh]at h2;simp at h2
   ·exact kj hh
 ·rw[getD_out hx]
  exact⟨NmL.nil,NmL.nil⟩
theorem l5 {c:A7} (K:Vd c) {i:Nat} (hi:i < c.A0.length):Pu c (c.A0.getD i default).When=0∧NmL (c.A0.getD i default).B9:=by
 have h:=K.tr i hi
 unfold Ch.trF at h
 split at h
 ·cases h
 split at h
 ·cases h
 rename_i h2
 split at h
 ·cases h
 rename_i h3
 exact⟨by simpa using h2,(act_iff.1 (by simpa using h3)).2⟩
theorem jb {c:A7} (K:Vd c):∀ (n:Nat) (x:Int) (m:List Int) (a:List (List UInt8)),NmL a→NmL (Eo c n x m a).2.2
 | 0,x,m,a,h=>h
 | n+1,x,m,a,h=>by
  unfold Eo
  split
  ·exact jb K n _ _ _ (h.app (M7 K x).1)
  ·exact h.app (M7 K x).1
theorem cb {c:A7} (K:Vd c) {m:List Int} {a:List (List UInt8)} (h:NmL a):∀ l:List Int,NmL (Cf c l m a).2
 | []=>h
 | x :: l=>by
  show NmL ((Cf c l m a).2++(Cj c x).Az)
  exact(cb K h l).app (M7 K x).1
theorem gz {c:A7} (K:Vd c) {s:Int}:∀ (l:List Int) (last:Int) (m:List Int) (a:List (List UInt8)),NmL a→NmL (Cn c s l last m a).2
 | [],_,m,a,h=>h
 | x :: l,last,m,a,h=>by
  unfold Cn
  split
  ·exact h
  ·exact gz K l x _ _ (h.app (M7 K x).2)
theorem fire_nm {c:A7} (K:Vd c) {g:A9} {i:Nat} (hi:i < c.A0.length):NmL (Cr c g (i:Int)).2.1:=by
 unfold Cr Ea L5
 rw[Int.toNat_natCast]
 exact jb K _ _ _ _ (cb K ((gz K _ _ _ _ NmL.nil).app (l5 K hi).2) _)
def jq (i:Nat):List UInt8:=([83]:List UInt8)++Lib.decDigits i
theorem nmN_ok:∀ i:Nat,i < 40→nm (jq i)=true∧∀ j:Nat,j < i→(jq i==jq j)=false:=by
 have h:((List.range 40).all fun i=>nm (jq i)&&(List.range i).all fun j=>!(jq i==jq j))=true:=by kernel_rfl
 intro i hi
 have h1:=List.all_eq_true.1 h i (List.mem_range.2 hi)
 simp only[Bool.and_eq_true]at h1
 refine⟨h1.1,fun j hj=>?_⟩
 have h2:=List.all_eq_true.1 h1.2 j (List.mem_range.2 hj)
 simpa using h2
theorem zy (n:Nat):stF n=(List.range n).map stG:=(List.map_eq_flatMap ..).symm
theorem stF_get {n i:Nat} (h:i < n):(stF n).getD i default=stG i:=by
 rw[zy,List.getD_eq_getElem?_getD,List.getElem?_map,List.getElem?_range h];rfl
structure Flt (c:A7) (s:SS):Prop where
 tiny:Wv c
 check:C8 c=some 0
 search:Dt c=some s
 good:Bo (fun i=>Wm ((Dz c s).getD i default)) (Dz c s).length=false
 lim:Fo c s s.1.length=false
 cap:(trF c s s.1.length).length≤120
theorem flt_of {c:A7} (T:Wv c) {d:A7} (h:Lx c=some (d,0)):∃ s,Flt c s∧d=Fw c s:=by
 obtain⟨e,he⟩:=Cz c
 unfold Lx at h
 simp only[he,Option.bind_some]at h
 by_cases h0:(e != 0)=true
 ·rw[if_pos h0]at h
  injection h with h;injection h with _ h
  rw[h]at h0;simp at h0
 rw[if_neg h0]at h
 have e0:e=0:=by simpa using h0
 subst e0
 cases hs:Dt c with
 | none=>rw[hs]at h;injection h with h;injection h with _ h;cases h
 | some s =>
  rw[hs]at h
  simp only at h
  split at h
  ·injection h with h;injection h with _ h;cases h
  ·rename_i h1
   split at h
   ·injection h with h;injection h with _ h;cases h
   ·rename_i h2
    simp only[Bool.or_eq_true,decide_eq_true_eq,not_or,Int.not_lt,Bool.not_eq_true]at h2
    injection h with h;injection h with h _
    exact⟨s,⟨T,he,hs,Bool.eq_false_iff.2 h1,h2.1,by omega⟩,h.symm⟩
section
variable {c:A7} {s:SS}
theorem Flt.inv (F:Flt c s):Inv c s:=M1 F.tiny.fit F.check F.search
theorem Flt.wy (F:Flt c s):Wy c (ax c) s:=Rc F.tiny.fit F.check F.search
theorem Flt.len (F:Flt c s):s.1.length≤40:=by
 have:=F.lim
 unfold Fo at this
 simp only[Bool.or_eq_false_iff,decide_eq_false_iff_not]at this
 omega
theorem Flt.chk (F:Flt c s):Vd c:=chk_of F.check
theorem Flt.kind (F:Flt c s) {k:Int} (hk:k=1∨k=2):∀ x∈Dz c s,x.Kind≠k:=fun x hx e=>by
 obtain⟨i,hi,rfl⟩:=List.getElem_of_mem hx
 have:=anyR_false.1 F.good i hi
 unfold Wm at this
 simp only[List.getD_eq_getElem?_getD,List.getElem?_eq_getElem hi,Option.getD_some,Bool.or_eq_false_iff,beq_eq_false_iff_ne]at this
 rcases hk with rfl | rfl
 ·exact this.1 e
 ·exact this.2 e
theorem Flt.one (F:Flt c s) {k:Nat} (hk:k < s.1.length) {v:Nat} (hv:v < D0 c) (ha:Cx c (v:Int)=true):(Ad c (Et s k).Leaf (v:Int)).length=1 :=
 og F.inv (F.kind (.inl rfl)) (F.kind (.inr rfl)) (reachB_iff.2 ⟨_,Bj hk,rfl⟩) hv ha
theorem Flt.acts (F:Flt c s) {k t:Nat} (hk:k < s.1.length) (ht:t < c.A0.length) (ha:Cp c (Et s k).Leaf (t:Int)=true):(Cr c (Et s k) (t:Int)).2.1.length≤8:=by
 have h:=F.lim
 unfold Fo at h
 simp only[Bool.or_eq_false_iff]at h
 have h1:=anyR_false.1 h.2 k hk
 unfold Oc at h1
 have h2:=anyR_false.1 h1 t ht
 unfold Oa at h2
 rw[ha,Bool.true_and,decide_eq_false_iff_not]at h2
 omega
theorem Flt.next (F:Flt c s) {k t:Nat} (hk:k < s.1.length) (ha:Cp c (Et s k).Leaf (t:Int)=true):t < c.A0.length∧(Cr c (Et s k) (t:Int)).1∈s.1:=by
 obtain⟨h1,h2⟩:=Ry ha
 refine⟨h1,?_⟩
 obtain⟨v,hv,h3⟩:=anyR_iff.1 ha
 unfold Ml at h3
 simp only[Bool.and_eq_true]at h3
 have h4:=F.one hk hv h3.1
 have h5:=hasK_iff.1 h3.2
 have hg:C4 c (Et s k)=true:=F.inv.ok _ (Bj hk)
 have h6:(Ad c (Et s k).Leaf (v:Int)).getD 0 default=(t:Int):=by
  match hl:Ad c (Et s k).Leaf (v:Int),h4,h5 with
  | [x],_,h5=>simp only[List.mem_singleton]at h5;rw[h5];rfl
 refine sn F.search (Bj hk) hv ?_
 unfold G1 Js
 simp only[F.check,Option.bind_some,Dl,Bool.false_eq_true,if_false]
 have hg':C4 c (s.1.getD k default)=true:=hg
 have h4':(Ad c (s.1.getD k default).Leaf (v:Int)).length=1:=h4
 have h6':(Ad c (s.1.getD k default).Leaf (v:Int)).getD 0 default=(t:Int):=h6
 simp only[hg',h3.1,h4',h6',Bool.not_true,Bool.false_eq_true,if_false,show (((1:Nat):Int)==0)=false from rfl,show (((1:Nat):Int)==1)=true from rfl,if_true,Option.bind_some]
 rfl
theorem findC_mem {l:List A9} {g:A9} (h:g∈l):∃ k:Nat,k < l.length∧Fd l g=(k:Int)∧l.getD k default=g:=by
 rcases oq (fun i=>S1 (l.getD i default) g) l.length with⟨_,h1⟩ | ⟨k,h1,h2,h3⟩
 ·exfalso
  obtain⟨i,hi,rfl⟩:=List.getElem_of_mem h
  have:=anyR_false.1 h1 i hi
  rw[show l.getD i default=l[i] by simp[List.getD_eq_getElem?_getD,List.getElem?_eq_getElem hi],mw]at this
  cases this
 ·exact⟨k,h1,h2,eqC_iff.1 h3⟩
theorem lq {x:Ap} {n:Nat} (h:x∈trF c s n):∃ k t,k < n∧t < c.A0.length∧Cp c (Et s k).Leaf (t:Int)=true∧x=⟨(k:Int),Fd s.1 (Cr c (Et s k) (t:Int)).1,(c.A0.getD t default).When,(Cr c (Et s k) (t:Int)).2.1⟩:=by
 unfold trF at h
 obtain⟨k,h1,h2⟩:=List.mem_flatMap.1 h
 unfold O4 at h2
 obtain⟨t,h3,h4⟩:=List.mem_flatMap.1 h2
 unfold Ql at h4
 split at h4
 ·rename_i ha
  simp only[List.mem_singleton]at h4
  exact⟨k,t,List.mem_range.1 h1,List.mem_range.1 h3,ha,h4⟩
 ·cases h4
theorem Flt.chkF (F:Flt c s):Vd (Fw c s):=by
 have K:=F.chk
 have L:=F.len
 have P:=F.inv.pos
 have hl:(Fw c s).A4.length=s.1.length:=Zr _
 have hp:∀ i:Nat,i < s.1.length→(Fw c s).A4.getD i default=stG i:=fun i hi=>stF_get hi
 have hc:∀ x:Int,0≤x→Dc (Fw c s) x=false:=fun x hx=>by
  unfold Dc
  rw[anyR_false]
  intro i hi
  rw[hl]at hi
  rw[hp i hi]
  show ((-1:Int)==x)=false
  simp;omega
 refine⟨K.name,by omega,K.conds,K.never,by omega,F.cap,K.cond,K.nev,fun i hi=>?_,?_,fun i hi=>?_⟩
 ·rw[hl]at hi
  have e1:Jj (Fw c s) i=0:=by
   unfold Jj
   rw[hp i hi,hc _ (by omega)]
   show (if(decide ((-1:Int) < -1) || decide ((i:Int) ≤ -1))=true then(9:Int)else _)=0
   rw[if_neg (by simp;omega)]
   rfl
  have e2:Gf (Hm (Fw c s)) i=0:=by
   have g:∀ j:Nat,j < s.1.length→(Hm (Fw c s)).getD j default=jq j:=fun j hj=>by
    rw[Py _ (by rw[hl];exact hj),hp j hj];rfl
   obtain⟨n1,n2⟩:=nmN_ok i (by omega)
   unfold Gf
   rw[g i hi,n1,if_neg (by decide),if_neg]
   rw[Bool.not_eq_true]
   unfold Df
   rw[anyR_false]
   intro j hj
   rw[g j (by omega)]
   exact n2 j hj
  unfold Ch.stF Hv
  rw[e2,e1];rfl
 ·rw[isS_iff,hl]
  show (0:Int)≤0∧(0:Int) < _
  omega
 ·have hm:(Fw c s).A0.getD i default∈trF c s s.1.length:=Bj hi
  generalize (Fw c s).A0.getD i default=x at hm
  have hx:∀ (y:Ap),y∈trF c s s.1.length→Bm (Fw c s) y.From=true∧Bm (Fw c s) y.To=true∧Pu (Fw c s) y.When=0∧L2 y.B9=0:=fun y hy=>by
   obtain⟨k,t,k1,t1,ha,rfl⟩:=lq hy
   obtain⟨_,n2⟩:=F.next k1 ha
   obtain⟨j,j1,j2,_⟩:=findC_mem n2
   refine⟨by rw[isS_iff,hl];show (0:Int)≤(k:Int)∧(k:Int) < _;omega,?_,(l5 K t1).1,act_iff.2 ⟨F.acts k1 t1 ha,fire_nm K t1⟩⟩
   rw[isS_iff,hl]
   show (0:Int)≤Fd s.1 (Cr c (Et s k) (t:Int)).1∧Fd s.1 (Cr c (Et s k) (t:Int)).1 < _
   rw[j2];omega
  have hm:(Fw c s).A0.getD i default∈trF c s s.1.length:=Bj hi
  obtain⟨a1,a2,a3,a4⟩:=hx _ hm
  unfold Ch.trF
  rw[a1,a2,a3,a4];rfl
theorem Flt.checkF (F:Flt c s):C8 (Fw c s)=some 0:=of_chk F.chkF
theorem Flt.fitF (F:Flt c s):Fit (Fw c s):=by
 have K:=F.chkF
 have H:=F.tiny.fit
 have h1:=K.conds
 have h2:=K.never
 have h3:=K.states
 have h4:=K.trans
 have e:∀ x∈stF s.1.length,x.Az=[]∧x.Exit=[]:=fun x hx=>by
  rw[zy]at hx
  obtain⟨i,_,rfl⟩:=List.mem_map.1 hx
  exact⟨rfl,rfl⟩
 refine⟨by omega,by omega,H.lits,by omega,fun x hx=>by rw[(e x hx).1];simp,fun x hx=>by rw[(e x hx).2];simp,by omega,fun x hx=>?_,fun x hx=>?_⟩
 ·obtain⟨k,t,k1,t1,ha,rfl⟩:=lq hx
  show (c.A0.getD t default).When.length≤1000
  exact H.when_ _ (Bj t1)
 ·obtain⟨k,t,k1,t1,ha,rfl⟩:=lq hx
  have:=F.acts k1 t1 ha
  show (Cr c (Et s k) (t:Int)).2.1.length≤1000
  omega
end
end Go.Av
set_option maxRecDepth 100000
namespace Go.Av
open Ch Go.Proofs
theorem M84 (a0 a1:List B7):Xn a0 a1=((Option.bind (if((a0.length:Int) != (a1.length:Int))=true then(some (.inr (false)))else(some (.inl ()))) (As fun(_:Unit)=>(Option.bind (Option.bind (some (.inl ())) (As fun(_:Unit)=>(Bl (fun(s1:Int)=>((if(decide (s1 < (a0.length:Int)))=true then(if(0≤s1)then(if(s1 < (a0.length:Int))then(if(0≤s1)then(if(s1 < (a1.length:Int))then(if(!(((a0.getD s1.toNat default).Cond==(a1.getD s1.toNat default).Cond)&&(((a0.getD s1.toNat default).Neg==(a1.getD s1.toNat default).Neg)&&true)))=true then(some (.inr (.inr (false))))else(some (.inl (IntKind.wrap .i64 (s1+1)))))else none)else none)else none)else none)else(some (.inr (.inl ())))):Option ((Int)⊕((Unit)⊕(Bool))))) (0:Int)))) (As fun(_:Unit)=>(some true))))):Option (Bool)):=by kernel_rfl
theorem M37 (a0 a1:A7):yq a0 a1=((Option.bind (Option.bind (((if(!((a0.Name != a1.Name) || (a0.Start != a1.Start)))=true then Qi a0.Ag a1.Ag else some default).bind fun r1_0=>some r1_0)) fun(x1:(Bool))=>(if((((((a0.Name != a1.Name) || (a0.Start != a1.Start)) || (!x1)) || ((a0.Ai.length:Int) != (a1.Ai.length:Int))) || ((a0.A4.length:Int) != (a1.A4.length:Int))) || ((a0.A0.length:Int) != (a1.A0.length:Int)))=true then(some (.inr (false)))else(some (.inl ())))) (As fun(_:Unit)=>(Option.bind (Option.bind (some (.inl ())) (As fun(_:Unit)=>(Bl (fun(s1:Int)=>((if(decide (s1 < (a0.Ai.length:Int)))=true then(Option.bind ((if 0≤s1 then(if s1 < (a0.Ai.length:Int)then(if 0≤s1 then(if s1 < (a1.Ai.length:Int)then((Xn (a0.Ai.getD s1.toNat default) (a1.Ai.getD s1.toNat default)).bind fun r6_0=>some r6_0)else none)else none)else none)else none)) fun(x6:(Bool))=>(if(!x6)=true then(some (.inr (.inr (false))))else(some (.inl (IntKind.wrap .i64 (s1+1))))))else(some (.inr (.inl ())))):Option ((Int)⊕((Unit)⊕(Bool))))) (0:Int)))) (As fun(_:Unit)=>(Option.bind (Option.bind (some (.inl ())) (As fun(_:Unit)=>(Bl (fun(s2:Int)=>((if(decide (s2 < (a0.A4.length:Int)))=true then(if(0≤s2)then(if(s2 < (a0.A4.length:Int))then(if(0≤s2)then(if(s2 < (a1.A4.length:Int))then(Option.bind (((if(!(((((a0.A4.getD s2.toNat default).Name != (a1.A4.getD s2.toNat default).Name) || ((a0.A4.getD s2.toNat default).Al != (a1.A4.getD s2.toNat default).Al)) || ((a0.A4.getD s2.toNat default).B0 != (a1.A4.getD s2.toNat default).B0)) || ((a0.A4.getD s2.toNat default).Aw != (a1.A4.getD s2.toNat default).Aw)))=true then Qi (a0.A4.getD s2.toNat default).Az (a1.A4.getD s2.toNat default).Az else some default).bind fun r13_0=>((if(!((((((a0.A4.getD s2.toNat default).Name != (a1.A4.getD s2.toNat default).Name) || ((a0.A4.getD s2.toNat default).Al != (a1.A4.getD s2.toNat default).Al)) || ((a0.A4.getD s2.toNat default).B0 != (a1.A4.getD s2.toNat default).B0)) || ((a0.A4.getD s2.toNat default).Aw != (a1.A4.getD s2.toNat default).Aw)) || (!r13_0)))=true then Qi (a0.A4.getD s2.toNat default).Exit (a1.A4.getD s2.toNat default).Exit else some default).bind fun r13_1=>some (r13_0,r13_1)))) fun(x13:(Bool×Bool))=>(if(((((((a0.A4.getD s2.toNat default).Name != (a1.A4.getD s2.toNat default).Name) || ((a0.A4.getD s2.toNat default).Al != (a1.A4.getD s2.toNat default).Al)) || ((a0.A4.getD s2.toNat default).B0 != (a1.A4.getD s2.toNat default).B0)) || ((a0.A4.getD s2.toNat default).Aw != (a1.A4.getD s2.toNat default).Aw)) || (!x13.1)) || (!x13.2))=true then(some (.inr (.inr (false))))else(some (.inl (IntKind.wrap .i64 (s2+1))))))else none)else none)else none)else none)else(some (.inr (.inl ())))):Option ((Int)⊕((Unit)⊕(Bool))))) (0:Int)))) (As fun(_:Unit)=>(Option.bind (Option.bind (some (.inl ())) (As fun(_:Unit)=>(Bl (fun(s3:Int)=>((if(decide (s3 < (a0.A0.length:Int)))=true then(if(0≤s3)then(if(s3 < (a0.A0.length:Int))then(if(0≤s3)then(if(s3 < (a1.A0.length:Int))then(Option.bind (((if(!(((a0.A0.getD s3.toNat default).From != (a1.A0.getD s3.toNat default).From) || ((a0.A0.getD s3.toNat default).To != (a1.A0.getD s3.toNat default).To)))=true then Xn (a0.A0.getD s3.toNat default).When (a1.A0.getD s3.toNat default).When else some default).bind fun r20_0=>((if(!((((a0.A0.getD s3.toNat default).From != (a1.A0.getD s3.toNat default).From) || ((a0.A0.getD s3.toNat default).To != (a1.A0.getD s3.toNat default).To)) || (!r20_0)))=true then Qi (a0.A0.getD s3.toNat default).B9 (a1.A0.getD s3.toNat default).B9 else some default).bind fun r20_1=>some (r20_0,r20_1)))) fun(x20:(Bool×Bool))=>(if(((((a0.A0.getD s3.toNat default).From != (a1.A0.getD s3.toNat default).From) || ((a0.A0.getD s3.toNat default).To != (a1.A0.getD s3.toNat default).To)) || (!x20.1)) || (!x20.2))=true then(some (.inr (.inr (false))))else(some (.inl (IntKind.wrap .i64 (s3+1))))))else none)else none)else none)else none)else(some (.inr (.inl ())))):Option ((Int)⊕((Unit)⊕(Bool))))) (0:Int)))) (As fun(_:Unit)=>(some true))))))))):Option (Bool)):=by kernel_rfl
theorem f5 (l:List B7) (hl:l.length≤1000000):Xn l l=some true:=by
 simp only[M84,Fc,Dl,Bool.false_eq_true,if_false,bs,ol]
 refine Oy l.length (fun i hi=>?_) (by simp only[Bb,decide_false,Bool.false_eq_true,if_false]) rfl
 simp only[C3 hi,decide_true,Int.toNat_natCast,if_true,D7 hi (by omega),beq_self_eq_true,Bool.and_self,Bool.not_true,Bool.false_eq_true,if_false]
theorem zf (c:A7) (H:Fit c):yq c c=some true:=by
 have h1:=H.conds
 have h2:=H.never
 have h3:=H.states
 have h4:=H.trans
 have q1:∀ l:List (List UInt8),l.length≤1000→Qi l l=some true:=fun l hl=>by rw[ak l l (by omega),beq_self_eq_true]
 have q2:∀ l:List B7,l.length≤1000→Xn l l=some true:=fun l hl=>f5 l (by omega)
 simp only[M37,Fc]
 generalize Qi=F1 at q1 ⊢
 generalize Xn=F2 at q2 ⊢
 have e1:=q1 c.Ag h1
 simp only[e1,Dl,Bool.or_self,Bool.not_false,Bool.not_true,Bool.false_eq_true,if_false,if_true,bs,ol]
 refine Oy c.Ai.length (fun i hi=>?_) (by simp only[Bb,decide_false,Bool.false_eq_true,if_false]) ?_
 ·have e2:=q2 _ (H.lits _ (Bj hi))
  simp only[C3 hi,decide_true,Int.toNat_natCast,if_true,D7 hi (by omega),e2,bs,Bool.not_true,Bool.false_eq_true,if_false]
 refine Oy c.A4.length (fun i hi=>?_) (by simp only[Bb,decide_false,Bool.false_eq_true,if_false]) ?_
 ·have e2:=q1 _ (H.entry _ (Bj hi))
  have e3:=q1 _ (H.exit_ _ (Bj hi))
  simp only[C3 hi,decide_true,Int.toNat_natCast,if_true,D7 hi (by omega),e2,e3,bs,Dl,Bool.or_self,Bool.not_false,Bool.not_true,Bool.false_eq_true,if_false]
 refine Oy c.A0.length (fun i hi=>?_) (by simp only[Bb,decide_false,Bool.false_eq_true,if_false]) rfl
 have e2:=q2 _ (H.when_ _ (Bj hi))
 have e3:=q1 _ (H.acts _ (Bj hi))
 simp only[C3 hi,decide_true,Int.toNat_natCast,if_true,D7 hi (by omega),e2,e3,bs,Dl,Bool.or_self,Bool.not_false,Bool.not_true,Bool.false_eq_true,if_false]
end Go.Av
set_option maxRecDepth 1000000
namespace Go.Av
open Ch Go.Proofs
theorem Cc.awake_true:m13=some true:=by kernel_rfl
theorem flatM_ok {c:A7} (T:Wv c):∃ r,Lx c=some r∧Fit r.1∧(r.2=0→C8 r.1=some 0):=by
 have Z:Fit Jn:=⟨by decide,by decide,by simp[Jn],by decide,by simp[Jn],by simp[Jn],by decide,by simp[Jn],by simp[Jn]⟩
 obtain⟨r,hr⟩:∃ r,Lx c=some r:=by
  obtain⟨e,he⟩:=Cz c
  unfold Lx
  rw[he,Option.bind_some]
  split
  ·exact⟨_,rfl⟩
  ·split
   ·exact⟨_,rfl⟩
   ·split
    ·exact⟨_,rfl⟩
    ·split<;>exact⟨_,rfl⟩
 by_cases h0:r.2=0
 ·obtain⟨s,F,hd⟩:=flt_of T (d:=r.1) (by rw[hr,← h0])
  exact⟨r,hr,by rw[hd];exact F.fitF,fun _=>by rw[hd];exact F.checkF⟩
 ·refine⟨r,hr,?_,fun h=>absurd h h0⟩
  obtain⟨e,he⟩:=Cz c
  unfold Lx at hr
  rw[he,Option.bind_some]at hr
  split at hr
  ·injection hr with hr;subst hr;exact Z
  ·split at hr
   ·injection hr with hr;subst hr;exact Z
   ·split at hr
    ·injection hr with hr;subst hr;exact Z
    ·split at hr
     ·injection hr with hr;subst hr;exact Z
     ·injection hr with hr;subst hr;exact absurd rfl h0
theorem M10 (a0:A7):m10 a0=((Option.bind (Option.bind (m13) fun r=>some r) fun x1=>(if(!x1)=true then(some false)else(Option.bind (Option.bind (m14 a0) fun r=>some r) fun x3=>(Option.bind (Option.bind (m35 x3) fun r=>some r) fun x4=>(Option.bind (Option.bind (m36 x3) fun r=>some r) fun x5=>(Option.bind (((if(x4.2==x5.2)=true then yq x4.1 x5.1 else some default).bind fun r6_0=>((if(((x4.2==x5.2)&&r6_0)&&(!(x4.2 != 0)))=true then zk x4.1 else some default).bind fun r6_1=>some (r6_0,r6_1)))) fun(x6:(Bool×Int))=>(some (((x4.2==x5.2)&&x6.1)&&((x4.2 != 0) || (x6.2==0)))))))))):Option (Bool)):=by kernel_rfl
theorem plain10 {c:A7} (_:ok27 c):m10 c=some true:=by
 have T:=AA4 c
 have H:=T.fit
 have hn:(Zx c).Ag.length≤12:=by have:=T.conds;omega
 have q0:=Cc.awake_true
 have q1:=few_eq8 c
 have q2:=uo T
 have q3:=o5 T
 obtain⟨r,hr,hf,hk⟩:=flatM_ok T
 have q4:=zf r.1 hf
 have q5:=Hk r.1 hf
 rw[hr]at q2 q3
 by_cases h0:r.2=0
 ·rw[hk h0]at q5
  simp only[M10,Fc,q0,q1,q2,q3,q4,q5,h0,bs,Dl,beq_self_eq_true,Bool.not_true,Bool.not_false,Bool.false_eq_true,if_false,if_true,Bool.and_self,Bool.or_true]
 ·have h1:(r.2 != 0)=true:=by simpa using h0
  simp only[M10,Fc,q0,q1,q2,q3,q4,h1,bs,Dl,beq_self_eq_true,Bool.not_true,Bool.not_false,Bool.false_eq_true,if_false,if_true,Bool.and_self,Bool.and_false,Bool.true_or]
end Go.Av
