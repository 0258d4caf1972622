/- A triangle's area, which way round it goes, and which edges are upper ones. -/
import Derived.Test.YtgkidgpdgcdgnaaSide
namespace Go.Proofs.Ytgkidgpdgcdgnaa
open Go.RowKit

set_option maxRecDepth 100000 in
theorem RSide_walk (a b : Spot) (x y : Int) (ha : a.ok) (hb : b.ok) (hx : Near x) (hy : Near y) (w : World) :
    Calls Try.prog 17 #[spotV a, spotV b, .int .i64 x, .int .i64 y] w fun e w' => e = .returned (.int .i64 (side a b x y)) ∧ Below w.heap.size w w' := by
  obtain ⟨h1, h2⟩ := side_near ha hb hx hy
  have hB := ((Below.refl _ w).alloc (Nat.le_refl _) (.cells #[.int .i64 a.x, .int .i64 a.y, .int .i64 a.z, .int .i64 a.w, .int .i64 a.u, .int .i64 a.v] 23)).alloc (by simp) (.cells #[.int .i64 b.x, .int .i64 b.y, .int .i64 b.z, .int .i64 b.w, .int .i64 b.u, .int .i64 b.v] 23)
  have HB := Lib.hid hB
  clear hB
  unfold Spot.ok at ha hb
  unfold Near at hx hy
  simp only [spotV]
  go_enter Try.func17, Try.ntmps17
  go_wp2
  go_ret
  exact ⟨rfl, HB.out⟩

theorem below_trans {w w1 w2 : World} (h : Below w.heap.size w w1) (k : Below w1.heap.size w1 w2) : Below w.heap.size w w2 := h.trans (k.mono h.size)
theorem below_alloc (w : World) (o : Obj) : Below w.heap.size w (w.alloc o) := (Below.refl _ w).alloc (Nat.le_refl _) o
theorem ok_near {a : Spot} (h : a.ok) : Near a.x ∧ Near a.y := by unfold Spot.ok at h; unfold Near; omega

def triCells (a b c : Spot) : Array Value := #[.int .i64 a.x, .int .i64 a.y, .int .i64 a.z, .int .i64 a.w, .int .i64 a.u, .int .i64 a.v,
  .int .i64 b.x, .int .i64 b.y, .int .i64 b.z, .int .i64 b.w, .int .i64 b.u, .int .i64 b.v,
  .int .i64 c.x, .int .i64 c.y, .int .i64 c.z, .int .i64 c.w, .int .i64 c.u, .int .i64 c.v]

set_option maxRecDepth 100000 in
theorem Area_walk (a b c : Spot) (ha : a.ok) (hb : b.ok) (hc : c.ok) (w : World) :
    Calls Try.prog 14 #[triV a b c] w fun e w' => e = .returned (.int .i64 (area a b c)) ∧ Below w.heap.size w w' := by
  have hs := Side_walk a b c.x c.y ha hb (ok_near hc).1 (ok_near hc).2 (w.alloc (.cells (triCells a b c) 24))
  simp only [spotV, triCells] at hs
  have HS := Lib.hid hs
  have hB := below_alloc w (.cells (triCells a b c) 24)
  simp only [triCells] at hB
  have HB := Lib.hid hB
  clear hB hs ha hb hc
  simp only [triV]
  go_enter Try.func14, Try.ntmps14
  go_wp2_with fail
  refine HS.out.mono ?_
  rintro e w' ⟨rfl, hb⟩
  have H1 := Lib.hid (below_trans HB.out hb)
  clear hb HB HS
  go_wp2_with fail
  go_ret
  exact ⟨rfl, H1.out⟩
set_option maxRecDepth 100000 in
theorem RArea_walk (a b c : Spot) (ha : a.ok) (hb : b.ok) (hc : c.ok) (w : World) :
    Calls Try.prog 15 #[triV a b c] w fun e w' => e = .returned (.int .i64 (area a b c)) ∧ Below w.heap.size w w' := by
  have hs := RSide_walk a b c.x c.y ha hb (ok_near hc).1 (ok_near hc).2 (w.alloc (.cells (triCells a b c) 24))
  simp only [spotV, triCells] at hs
  have HS := Lib.hid hs
  have hB := below_alloc w (.cells (triCells a b c) 24)
  simp only [triCells] at hB
  have HB := Lib.hid hB
  clear hB hs ha hb hc
  simp only [triV]
  go_enter Try.func15, Try.ntmps15
  go_wp2_with fail
  refine HS.out.mono ?_
  rintro e w' ⟨rfl, hb⟩
  have H1 := Lib.hid (below_trans HB.out hb)
  clear hb HB HS
  go_wp2_with fail
  go_ret
  exact ⟨rfl, H1.out⟩

theorem below_two (w : World) (o1 o2 : Obj) : Below w.heap.size w ((w.alloc o1).alloc o2) := below_trans (below_alloc w o1) (below_alloc _ o2)
/-- an upper edge, or a left one -/
def upper (a b : Spot) : Bool := decide (a.y = b.y ∧ b.x > a.x ∨ b.y < a.y)
set_option maxRecDepth 100000 in
theorem upper_walk (a b : Spot) (w : World) :
    Calls Try.prog 20 #[spotV a, spotV b] w fun e w' => e = .returned (.bool (upper a b)) ∧ Below w.heap.size w w' := by
  simp only [spotV]
  by_cases h1 : a.y = b.y
  · by_cases h2 : b.x > a.x
    · have hr : upper a b = true := by unfold upper; exact decide_eq_true (by omega)
      have HR := Lib.hid hr
      clear hr
      have h1b : (a.y == b.y) = true := by simp [h1]
      have h2b : decide (a.x < b.x) = true := by simp; omega
      go_enter Try.func20, Try.ntmps20
      go_wp2
      go_ret
      exact ⟨by rw [HR.out]; simp, below_two _ _ _⟩
    · have hr : upper a b = false := by unfold upper; exact decide_eq_false (by omega)
      have HR := Lib.hid hr
      clear hr
      have h1b : (a.y == b.y) = true := by simp [h1]
      have h2b : decide (a.x < b.x) = false := by simp; omega
      have h3b : decide (b.y < a.y) = false := by simp; omega
      go_enter Try.func20, Try.ntmps20
      go_wp2
      go_ret
      exact ⟨by rw [HR.out]; simp, below_two _ _ _⟩
  · by_cases h3 : b.y < a.y
    · have hr : upper a b = true := by unfold upper; exact decide_eq_true (by omega)
      have HR := Lib.hid hr
      clear hr
      have h1b : (a.y == b.y) = false := by simp [h1]
      have h3b : decide (b.y < a.y) = true := by simp; omega
      go_enter Try.func20, Try.ntmps20
      go_wp2
      go_ret
      exact ⟨by rw [HR.out]; simp, below_two _ _ _⟩
    · have hr : upper a b = false := by unfold upper; exact decide_eq_false (by omega)
      have HR := Lib.hid hr
      clear hr
      have h1b : (a.y == b.y) = false := by simp [h1]
      have h3b : decide (b.y < a.y) = false := by simp; omega
      go_enter Try.func20, Try.ntmps20
      go_wp2
      go_ret
      exact ⟨by rw [HR.out]; simp, below_two _ _ _⟩
end Go.Proofs.Ytgkidgpdgcdgnaa
