/- The hull of a part over a box of the grid: the reference's three loops; the program's stretching. -/
import Derived.Test.YtfgeoeipnidfhaaRat
namespace Go.Proofs.Ytfgeoeipnidfhaa
open Go.RowKit Go.Base Wg

def mm (s : Int × Int) (v : Int) : Int × Int := (min s.1 v, max s.2 v)
def rowH (p : Nat) (g : Grid) (x0 y z : Int) : Nat → Int × Int → Int × Int
  | 0, s => s
  | n + 1, s => mm (rowH p g x0 y z n s) (vx p g (x0 + n) y z)
def layH (p : Nat) (g : Grid) (x0 : Int) (nx : Nat) (y0 z : Int) : Nat → Int × Int → Int × Int
  | 0, s => s
  | n + 1, s => rowH p g x0 (y0 + n) z nx (layH p g x0 nx y0 z n s)
def allH (p : Nat) (g : Grid) (x0 : Int) (nx : Nat) (y0 : Int) (ny : Nat) (z0 : Int) : Nat → Int × Int → Int × Int
  | 0, s => s
  | n + 1, s => layH p g x0 nx y0 (z0 + n) ny (allH p g x0 nx y0 ny z0 n s)
def cnt (a b : Int) : Nat := (b - a + 1).toNat
def hullV (p : Nat) (g : Grid) (x0 x1 y0 y1 z0 z1 : Int) : Int × Int :=
  allH p g x0 (cnt x0 x1) y0 (cnt y0 y1) z0 (cnt z0 z1) (vx p g x0 y0 z0, vx p g x0 y0 z0)
def pr (s : Int × Int) : List Value := [.int .i64 s.1, .int .i64 s.2]
theorem GIn.elem {w : World} {g : Grid} {A1 A2 A3 : Option Addr} {c1 c2 c3 : Nat} (h : GIn w g A1 c1 A2 c2 A3 c3) (ho : Ok g) : ∃ bw ow bd od, A2 = some ⟨bw, ow, none⟩ ∧ A3 = some ⟨bd, od, none⟩ ∧ ∀ wr, Ext w wr → ∀ x y z, 0 ≤ x → x ≤ g.nx - 1 → 0 ≤ y → y ≤ g.ny - 1 → 0 ≤ z → z ≤ (g.alts.length : Int) - 1 →
    0 ≤ idx g x y z ∧ idx g x y z < (g.winds.length : Int) ∧ idx g x y z < (g.devs.length : Int) ∧ wr.cell? ⟨bw, ow + (idx g x y z).toNat * 2, none⟩ = some (.int .i64 (vx 0 g x y z)) ∧ wr.cell? ⟨bw, ow + (idx g x y z).toNat * 2 + 1, none⟩ = some (.int .i64 (vx 1 g x y z)) ∧ wr.cell? ⟨bd, od + (idx g x y z).toNat, none⟩ = some (.int .i64 (vx 2 g x y z)) := by
  have hc : 1 ≤ count g := by
    have := mul_range ho.nx1 ho.nx2 ho.ny1 ho.ny2
    have := mul_range this.1 this.2 (show 1 ≤ (g.alts.length : Int) by have := ho.al1; omega) (show (g.alts.length : Int) ≤ 8 by have := ho.al2; omega)
    exact this.1
  obtain ⟨bw, ow, rfl, hb, hcell⟩ := rd_pair h.wd (by have := ho.wl; omega)
  obtain ⟨bd, od, rfl, hb', hcell'⟩ := rd_cell h.d (by have := ho.dl; omega)
  refine ⟨bw, ow, bd, od, rfl, rfl, fun wr hx x y z x0 x1 y0 y1 z0 z1 => ?_⟩
  obtain ⟨-, -, -, -, q5, q6⟩ := idx_in ho x0 x1 y0 y1 z0 z1
  have e1 : (idx g x y z).toNat < g.winds.length := by have := ho.wl; omega
  have e2 : (idx g x y z).toNat < g.devs.length := by have := ho.dl; omega
  obtain ⟨hc1, -⟩ := bcell hx
  refine ⟨q5, by have := ho.wl; omega, by have := ho.dl; omega, ?_, ?_, ?_⟩
  · rw [hc1 _ _ hb, (hcell _ e1).1]; simp [vx, partV, List.getD, List.getElem?_eq_getElem e1]
  · rw [hc1 _ _ hb, (hcell _ e1).2]; simp [vx, partV, List.getD, List.getElem?_eq_getElem e1]
  · rw [hc1 _ _ hb', hcell' _ e2]; simp [vx, partV, List.getD, List.getElem?_eq_getElem e2]
theorem num_at (x : Int) : Value.int .i64 x = .int .i64 (x + ((0 : Nat) : Int)) := by simp
theorem num_next (x : Int) (a : Nat) : Value.int .i64 (x + (a : Int) + 1) = .int .i64 (x + ((a + 1 : Nat) : Int)) := by congr 1; omega

set_option maxRecDepth 100000 in
set_option maxHeartbeats 1000000 in
theorem hull_any (p : Nat) (pt : Int) (g : Grid) (A1 A2 A3 : Option Addr) (c1 c2 c3 : Nat) (x0 x1 y0 y1 z0 z1 : Int) (w0 : World) (h : GIn w0 g A1 c1 A2 c2 A3 c3) (ho : Ok g) (he : ElemC p pt g A1 A2 A3 c1 c2 c3)
    (hx0 : 0 ≤ x0) (hx : x0 ≤ x1) (hx1 : x1 ≤ g.nx - 1) (hy0 : 0 ≤ y0) (hy : y0 ≤ y1) (hy1 : y1 ≤ g.ny - 1) (hz0 : 0 ≤ z0) (hz : z0 ≤ z1) (hz1 : z1 ≤ (g.alts.length : Int) - 1) :
    Calls Try.prog 41 #[gv g A1 c1 A2 c2 A3 c3, .int .i64 pt, .int .i64 x0, .int .i64 x1, .int .i64 y0, .int .i64 y1, .int .i64 z0, .int .i64 z1] w0 fun e w' => e = .returned (.agg #[.int .i64 (hullV p g x0 x1 y0 y1 z0 z1).1, .int .i64 (hullV p g x0 x1 y0 y1 z0 z1).2]) ∧ Ext w0 w' := by
  have HG := hide h
  have HO := hide ho
  have HE := hide he
  have b7 := ho.nx2
  have b8 := ho.ny2
  have b9 := ho.al2
  unfold hullV
  obtain ⟨nx, enx⟩ : ∃ n : Nat, cnt x0 x1 = n := ⟨_, rfl⟩
  obtain ⟨ny, eny⟩ : ∃ n : Nat, cnt y0 y1 = n := ⟨_, rfl⟩
  obtain ⟨nz, enz⟩ : ∃ n : Nat, cnt z0 z1 = n := ⟨_, rfl⟩
  rw [enx, eny, enz]
  have fnx : x1 + 1 = x0 + (nx : Int) := by unfold cnt at enx; omega
  have fny : y1 + 1 = y0 + (ny : Int) := by unfold cnt at eny; omega
  have fnz : z1 + 1 = z0 + (nz : Int) := by unfold cnt at enz; omega
  have FX := hide fnx
  have FY := hide fny
  have FZ := hide fnz
  clear enx eny enz h ho he fnx fny fnz
  go_enter Try.func41, Try.ntmps41
  go_wp2_with fail
  refine (HE.out _ _ _ _ ((HG.out.ext (ext_new _ _)).ext (ext_new _ _)) hx0 (by omega) hy0 (by omega) hz0 (by omega)).mono ?_
  rintro e w1 ⟨rfl, hxx⟩
  obtain ⟨v, ev⟩ : ∃ v, vx p g x0 y0 z0 = v := ⟨_, rfl⟩
  rw [ev]
  have EV := hide ev
  clear ev
  have HB := hide ((((Bx.at_new w0 _ _ _ rfl).ext (ext_new _ _)).ext hxx))
  have HR := hide ((Bx.at_new (w0.alloc _) #[.int .i64 0, .int .i64 0] _ (w0.heap.size + 1) (by simp)).ext hxx)
  have HF := hide ((Free.new (w0.alloc _) #[.int .i64 0, .int .i64 0] _ (w0.heap.size + 1) (by simp)).ext hxx)
  have HX := hide ((Ext.trans (ext_new _ _) (ext_new _ _)).trans hxx)
  clear hxx
  go_wp2_with fail
  have HI := hide (show InS w0 (w1.alloc (.cells #[.int .i64 v, .int .i64 v] 39)) w0.heap.size (w0.heap.size + 1) w1.heap.size (gcells g A1 c1 A2 c2 A3 c3) [.int .i64 0, .int .i64 0] (pr (v, v)) from
    ⟨HB.out.ext (ext_new _ _), HR.out.ext (ext_new _ _), Bx.at_new _ _ _ _ rfl, HF.out.ext (ext_new _ _), Free.new _ _ _ _ rfl, Ext.trans HX.out (ext_new _ _), by omega, Nat.ne_of_lt HB.out.lt, Nat.ne_of_lt HR.out.lt, by omega, HX.out.size⟩)
  have hsb := HR.out.lt
  clear HB HR HF HX
  go_loopw [17, 19, 20, 21] (fun _ zv _ _ wr => ∃ c : Nat, c ≤ nz ∧ zv = .int .i64 (z0 + (c : Int)) ∧ Hid (InS w0 wr w0.heap.size (w0.heap.size + 1) w1.heap.size (gcells g A1 c1 A2 c2 A3 c3) [.int .i64 0, .int .i64 0] (pr (allH p g x0 nx y0 ny z0 c (v, v))))) (fun _ zv _ _ _ => (z0 + (nz : Int) - intOf zv).toNat)
  case atStart => exact ⟨0, by omega, num_at z0, HI⟩
  case round =>
    clear HI
    obtain ⟨c, hc, rfl, HI⟩ := hrel
    obtain ⟨wz, rfl⟩ : ∃ wz : World, wz = wr := ⟨_, rfl⟩
    obtain ⟨sz, esz⟩ : ∃ s, allH p g x0 nx y0 ny z0 c (v, v) = s := ⟨_, rfl⟩
    rw [esz] at HI
    have ESZ := hide esz
    clear esz
    by_cases hltz : c < nz
    · have hcz : z0 + (c : Int) ≤ z1 := by have := FZ.out; omega
      have hz2 : 0 ≤ z0 + (c : Int) := by omega
      go_wp2_with fail
      go_loopw [17, 20, 21] (fun _ yv _ wr => ∃ b : Nat, b ≤ ny ∧ yv = .int .i64 (y0 + (b : Int)) ∧ Hid (InS w0 wr w0.heap.size (w0.heap.size + 1) w1.heap.size (gcells g A1 c1 A2 c2 A3 c3) [.int .i64 0, .int .i64 0] (pr (layH p g x0 nx y0 (z0 + c) b sz)))) (fun _ yv _ _ => (y0 + (ny : Int) - intOf yv).toNat)
      case atStart => exact ⟨0, by omega, num_at y0, HI⟩
      case round =>
        clear HI
        obtain ⟨b, hb, rfl, HI⟩ := hrel
        obtain ⟨wy, rfl⟩ : ∃ wy : World, wy = wr := ⟨_, rfl⟩
        obtain ⟨sy, esy⟩ : ∃ s, layH p g x0 nx y0 (z0 + c) b sz = s := ⟨_, rfl⟩
        rw [esy] at HI
        have ESY := hide esy
        clear esy
        by_cases hlty : b < ny
        · have hby : y0 + (b : Int) ≤ y1 := by have := FY.out; omega
          have hy2 : 0 ≤ y0 + (b : Int) := by omega
          go_wp2_with fail
          go_loopw [17, 21] (fun _ xv wr => ∃ a : Nat, a ≤ nx ∧ xv = .int .i64 (x0 + (a : Int)) ∧ Hid (InS w0 wr w0.heap.size (w0.heap.size + 1) w1.heap.size (gcells g A1 c1 A2 c2 A3 c3) [.int .i64 0, .int .i64 0] (pr (rowH p g x0 (y0 + b) (z0 + c) a sy)))) (fun _ xv _ => (x0 + (nx : Int) - intOf xv).toNat)
          case atStart => exact ⟨0, by omega, num_at x0, HI⟩
          case round =>
            clear HI
            obtain ⟨a, ha, rfl, HI⟩ := hrel
            obtain ⟨wx, rfl⟩ : ∃ wx : World, wx = wr := ⟨_, rfl⟩
            obtain ⟨s, es⟩ : ∃ s, rowH p g x0 (y0 + b) (z0 + c) a sy = s := ⟨_, rfl⟩
            rw [es] at HI
            have ES := hide es
            clear es
            by_cases hltx : a < nx
            · have hax : x0 + (a : Int) ≤ x1 := by have := FX.out; omega
              have hx2 : 0 ≤ x0 + (a : Int) := by omega
              have hs := HI.out
              have g0 := hs.g.at_ 0 _ rfl
              have g1 := hs.g.at_ 1 _ rfl
              have g2 := hs.g.at_ 2 _ rfl
              have g3 := hs.g.at_ 3 _ rfl
              have g4 := hs.g.at_ 4 _ rfl
              have g5 := hs.g.at_ 5 _ rfl
              have g6 := hs.g.at_ 6 _ rfl
              have g7 := hs.g.at_ 7 _ rfl
              have g8 := hs.g.at_ 8 _ rfl
              clear hs
              go_wp2_with fail
              refine (HE.out _ _ _ _ (HG.out.ext HI.out.bel) hx2 (by omega) hy2 (by omega) hz2 (by omega)).mono ?_
              rintro e w2 ⟨rfl, hxx⟩
              have HI := hide (HI.out.ext hxx)
              clear hxx g0 g1 g2 g3 g4 g5 g6 g7 g8
              have hs := HI.out
              have r0 := hs.r.at_ 0 _ rfl
              have r1 := hs.r.at_ 1 _ rfl
              have f0 := hs.fr.2 0
              have f1 := hs.fr.2 1
              clear hs
              obtain ⟨u, eu⟩ : ∃ u, vx p g (x0 + (a : Int)) (y0 + (b : Int)) (z0 + (c : Int)) = u := ⟨_, rfl⟩
              rw [eu]
              obtain ⟨m1, e1⟩ : ∃ m, (if u < s.1 then u else s.1) = m := ⟨_, rfl⟩
              obtain ⟨m2, e2⟩ : ∃ m, (if s.2 < u then u else s.2) = m := ⟨_, rfl⟩
              have EM := hide (show rowH p g x0 (y0 + b) (z0 + c) (a + 1) sy = (m1, m2) by
                rw [rowH, ES.out, eu, ← e1, ← e2]; unfold mm; congr 1 <;> omega)
              clear eu
              have HI2 := hide ((HI.out.setR 0 (.int .i64 m1)).setR 1 (.int .i64 m2))
              go_wp2_with fail
              go_roundw
              case rel => exact ⟨a + 1, by omega, num_next _ _, hide (by rw [EM.out]; exact HI2.out)⟩
              case measure => simp [intOf]; omega
            · obtain rfl : a = nx := by omega
              have hax : x1 < x0 + (a : Int) := by have := FX.out; omega
              go_wp2_with fail
              go_roundw
              case rel => exact ⟨b + 1, by omega, num_next _ _, hide (by rw [layH, ESY.out, ES.out]; exact HI.out)⟩
              case measure => simp [intOf]; omega
        · obtain rfl : b = ny := by omega
          have hby : y1 < y0 + (b : Int) := by have := FY.out; omega
          go_wp2_with fail
          go_roundw
          case rel => exact ⟨c + 1, by omega, num_next _ _, hide (by rw [allH, ESZ.out, ESY.out]; exact HI.out)⟩
          case measure => simp [intOf]; omega
    · obtain rfl : c = nz := by omega
      have hcz : z1 < z0 + (c : Int) := by have := FZ.out; omega
      have hs := HI.out
      have r0 := hs.r.at_ 0 _ rfl
      have r1 := hs.r.at_ 1 _ rfl
      have a0 := hs.a.at_ 0 _ rfl
      have a1 := hs.a.at_ 1 _ rfl
      have f0 := hs.fa.2 0
      have f1 := hs.fa.2 1
      clear hs
      go_wp2_with fail
      exact bodyPost_ret (v := .agg #[.int .i64 sz.1, .int .i64 sz.2]) (by simp [results, Try.results41, go_sem, a0, a1]) rfl ⟨by rw [EV.out, ESZ.out], Below.setCell (Below.setCell HI.out.bel (p := ⟨w0.heap.size + 1, 0, none⟩) (by simp) _) (p := ⟨w0.heap.size + 1, 1, none⟩) (by simp) _⟩

/-! ### The program's stretching of an interval -/
set_option maxRecDepth 100000 in
set_option maxHeartbeats 1000000 in
theorem stretch_any (b o o1 : Nat) (ho : o + 1 = o1) (lo hi n : Int) (w : World) (h0 : w.cell? ⟨b, o, none⟩ = some (.int .i64 lo)) (h1 : w.cell? ⟨b, o1, none⟩ = some (.int .i64 hi)) (f0 : w.frozen? ⟨b, o, none⟩ = false) (f1 : w.frozen? ⟨b, o1, none⟩ = false) :
    Calls Try.prog 38 #[.pointer (some ⟨b, o, none⟩), .int .i64 n] w fun e w' => e = .returned (.tuple #[]) ∧ w' = ((w.setCell ⟨b, o, none⟩ (.int .i64 (mm (lo, hi) n).1)).setCell ⟨b, o1, none⟩ (.int .i64 (mm (lo, hi) n).2)).drew := by
  subst ho
  obtain ⟨m1, e1⟩ : ∃ m, (if n < lo then n else lo) = m := ⟨_, rfl⟩
  obtain ⟨m2, e2⟩ : ∃ m, (if hi < n then n else hi) = m := ⟨_, rfl⟩
  have EM := hide (show mm (lo, hi) n = (m1, m2) by rw [← e1, ← e2]; unfold mm; congr 1 <;> simp <;> omega)
  rw [EM.out]
  go_enter Try.func38, Try.ntmps38
  go_wp2_with fail
  go_region
  go_end0
  exact ⟨rfl, rfl⟩
end Go.Proofs.Ytfgeoeipnidfhaa
