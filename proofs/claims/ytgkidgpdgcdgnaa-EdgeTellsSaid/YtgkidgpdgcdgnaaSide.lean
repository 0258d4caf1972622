/- How far a point is on one side of an edge, and what is made of it. -/
import Derived.Test.YtgkidgpdgcdgnaaG
namespace Go.Proofs.Ytgkidgpdgcdgnaa
open Go.RowKit

theorem mixed : Try.prog.follows .mixedOrders = true := by kernel_rfl
structure Spot where
  x : Int
  y : Int
  z : Int
  w : Int
  u : Int
  v : Int
deriving DecidableEq
/-- a spot's cells -/
def spotV (a : Spot) : Value := .agg #[.int .i64 a.x, .int .i64 a.y, .int .i64 a.z, .int .i64 a.w, .int .i64 a.u, .int .i64 a.v]
def triV (a b c : Spot) : Value := .agg #[.int .i64 a.x, .int .i64 a.y, .int .i64 a.z, .int .i64 a.w, .int .i64 a.u, .int .i64 a.v,
  .int .i64 b.x, .int .i64 b.y, .int .i64 b.z, .int .i64 b.w, .int .i64 b.u, .int .i64 b.v,
  .int .i64 c.x, .int .i64 c.y, .int .i64 c.z, .int .i64 c.w, .int .i64 c.u, .int .i64 c.v]
def side (a b : Spot) (x y : Int) : Int := (b.x - a.x) * (y - a.y) - (b.y - a.y) * (x - a.x)
def area (a b c : Spot) : Int := side a b c.x c.y
/-- a place where it may be -/
def Near (v : Int) : Prop := -30000 ≤ v ∧ v ≤ 30000
def Spot.ok (a : Spot) : Prop := 0 ≤ a.x ∧ a.x ≤ 16384 ∧ 0 ≤ a.y ∧ a.y ≤ 16384

theorem mul_near {a b : Int} (ha : -60000 ≤ a ∧ a ≤ 60000) (hb : -60000 ≤ b ∧ b ≤ 60000) : -3600000000 ≤ a * b ∧ a * b ≤ 3600000000 := by
  have h1 : a * b ≤ 3600000000 := by
    by_cases h0 : 0 ≤ a
    · by_cases h2 : 0 ≤ b
      · calc a * b ≤ 60000 * b := Int.mul_le_mul_of_nonneg_right ha.2 h2
          _ ≤ 60000 * 60000 := Int.mul_le_mul_of_nonneg_left hb.2 (by omega)
      · have : a * b ≤ 0 := Int.mul_nonpos_of_nonneg_of_nonpos h0 (by omega)
        omega
    · by_cases h2 : 0 ≤ b
      · have : a * b ≤ 0 := Int.mul_nonpos_of_nonpos_of_nonneg (by omega) h2
        omega
      · calc a * b = (-a) * (-b) := by rw [Int.neg_mul_neg]
          _ ≤ 60000 * (-b) := Int.mul_le_mul_of_nonneg_right (by omega) (by omega)
          _ ≤ 60000 * 60000 := Int.mul_le_mul_of_nonneg_left (by omega) (by omega)
  have h2 : -3600000000 ≤ a * b := by
    by_cases h0 : 0 ≤ a
    · by_cases h2 : 0 ≤ b
      · have : 0 ≤ a * b := Int.mul_nonneg h0 h2
        omega
      · have h3 : a * (-b) ≤ 60000 * 60000 := by
          calc a * (-b) ≤ 60000 * (-b) := Int.mul_le_mul_of_nonneg_right ha.2 (by omega)
            _ ≤ 60000 * 60000 := Int.mul_le_mul_of_nonneg_left (by omega) (by omega)
        rw [Int.mul_neg] at h3
        omega
    · by_cases h2 : 0 ≤ b
      · have h3 : (-a) * b ≤ 60000 * 60000 := by
          calc (-a) * b ≤ 60000 * b := Int.mul_le_mul_of_nonneg_right (by omega) h2
            _ ≤ 60000 * 60000 := Int.mul_le_mul_of_nonneg_left hb.2 (by omega)
        rw [Int.neg_mul] at h3
        omega
      · have : 0 ≤ a * b := Int.mul_nonneg_of_nonpos_of_nonpos (by omega) (by omega)
        omega
  exact ⟨h2, h1⟩
theorem side_near {a b : Spot} {x y : Int} (ha : a.ok) (hb : b.ok) (hx : Near x) (hy : Near y) :
    (-3600000000 ≤ (b.x - a.x) * (y - a.y) ∧ (b.x - a.x) * (y - a.y) ≤ 3600000000) ∧ (-3600000000 ≤ (b.y - a.y) * (x - a.x) ∧ (b.y - a.y) * (x - a.x) ≤ 3600000000) := by
  unfold Spot.ok at ha hb
  unfold Near at hx hy
  exact ⟨mul_near (by omega) (by omega), mul_near (by omega) (by omega)⟩
theorem side_le {a b : Spot} {x y : Int} (ha : a.ok) (hb : b.ok) (hx : Near x) (hy : Near y) : -7200000000 ≤ side a b x y ∧ side a b x y ≤ 7200000000 := by
  obtain ⟨h1, h2⟩ := side_near ha hb hx hy
  unfold side; omega

set_option maxRecDepth 100000 in
theorem Side_walk (a b : Spot) (x y : Int) (ha : a.ok) (hb : b.ok) (hx : Near x) (hy : Near y) (w : World) :
    Calls Try.prog 16 #[spotV a, spotV b, .int .i64 x, .int .i64 y] w fun e w' => e = .returned (.int .i64 (side a b x y)) ∧ Below w.heap.size w w' := by
  obtain ⟨h1, h2⟩ := side_near ha hb hx hy
  have hB := ((Below.refl _ w).alloc (Nat.le_refl _) (.cells #[.int .i64 a.x, .int .i64 a.y, .int .i64 a.z, .int .i64 a.w, .int .i64 a.u, .int .i64 a.v] 23)).alloc (by simp) (.cells #[.int .i64 b.x, .int .i64 b.y, .int .i64 b.z, .int .i64 b.w, .int .i64 b.u, .int .i64 b.v] 23)
  have HB := Lib.hid hB
  clear hB
  unfold Spot.ok at ha hb
  unfold Near at hx hy
  simp only [spotV]
  go_enter Try.func16, Try.ntmps16
  go_wp2
  go_ret
  exact ⟨rfl, HB.out⟩
end Go.Proofs.Ytgkidgpdgcdgnaa
