/- EdgeFan, plainly: of the four triangles from a point within just one covers a pixel. -/
import Derived.Test.YtgkidgpdgcdgnaaMoveP
namespace Go.Proofs.Ytgkidgpdgcdgnaa
theorem pos_mul_iff {a b : Int} (hb : 0 < b) (ha : 0 ≤ a) : 0 < a * b ↔ 0 < a := by
  constructor
  · intro h
    by_cases h0 : a = 0
    · subst h0; simp at h
    · omega
  · intro h; exact Int.mul_pos h hb
/-- of the four triangles from a point within, which one -/
def fanP (A B C D u v : Int) : Nat → Bool
  | 0 => decide (0 < C ∧ C * u + B * v < 0 ∧ 0 ≤ C * u - A * v)
  | 1 => decide (0 < B ∧ 0 ≤ C * u + B * v ∧ (B * v - D * u < 0 ∨ B * v - D * u = 0 ∧ 0 < D))
  | 2 => decide (0 < D ∧ 0 < B * v - D * u ∧ -(A * v) - D * u ≤ 0)
  | _ => decide (0 < A ∧ 0 < -(A * v) - D * u ∧ (C * u - A * v < 0 ∨ C * u - A * v = 0 ∧ C = 0))
def b2n (b : Bool) : Nat := if b = true then 1 else 0
theorem sgn (a u : Int) (ha : 0 ≤ a) : (0 < u → 0 ≤ a * u ∧ (0 < a → 0 < a * u)) ∧ (u < 0 → a * u ≤ 0 ∧ (0 < a → a * u < 0)) ∧ (u = 0 → a * u = 0) ∧ (a = 0 → a * u = 0) := by
  refine ⟨fun h => ⟨Int.mul_nonneg ha (by omega), fun h2 => Int.mul_pos h2 h⟩, fun h => ⟨Int.mul_nonpos_of_nonneg_of_nonpos ha (by omega), fun h2 => Int.mul_neg_of_pos_of_neg h2 h⟩, fun h => by rw [h]; simp, fun h => by rw [h]; simp⟩
theorem fan_one (A B C D u v : Int) (hA : 0 ≤ A) (hB : 0 ≤ B) (hC : 0 ≤ C) (hD : 0 ≤ D) (h1 : -A < u) (h2 : u < B) (h3 : -C < v) (h4 : v < D) :
    b2n (fanP A B C D u v 0) + b2n (fanP A B C D u v 1) + b2n (fanP A B C D u v 2) + b2n (fanP A B C D u v 3) = 1 := by
  obtain ⟨c1, c2, c3, c4⟩ := sgn C u hC
  obtain ⟨a1, a2, a3, a4⟩ := sgn A v hA
  obtain ⟨b1, b2, b3, b4⟩ := sgn B v hB
  obtain ⟨d1, d2, d3, d4⟩ := sgn D u hD
  unfold fanP b2n
  simp only [decide_eq_true_eq]
  generalize C * u = cu at *
  generalize A * v = av at *
  generalize B * v = bv at *
  generalize D * u = du at *
  have hu : u < 0 ∨ u = 0 ∨ 0 < u := by omega
  have hv : v < 0 ∨ v = 0 ∨ 0 < v := by omega
  rcases hu with hu | hu | hu <;> rcases hv with hv | hv | hv
  · have := c2 hu; have := a2 hv; have := b2 hv; have := d2 hu
    by_cases h : 0 ≤ cu - av
    · rw [if_pos (by omega), if_neg (by omega), if_neg (by omega), if_neg (by omega)]
    · rw [if_neg (by omega), if_neg (by omega), if_neg (by omega), if_pos (by omega)]
  · have := c2 hu; have := a3 hv; have := b3 hv; have := d2 hu
    rw [if_neg (by omega), if_neg (by omega), if_neg (by omega), if_pos (by omega)]
  · have := c2 hu; have := a1 hv; have := b1 hv; have := d2 hu
    by_cases h : -av - du ≤ 0
    · rw [if_neg (by omega), if_neg (by omega), if_pos (by omega), if_neg (by omega)]
    · rw [if_neg (by omega), if_neg (by omega), if_neg (by omega), if_pos (by omega)]
  · have := c3 hu; have := a2 hv; have := b2 hv; have := d3 hu
    rw [if_pos (by omega), if_neg (by omega), if_neg (by omega), if_neg (by omega)]
  · have := c3 hu; have := a3 hv; have := b3 hv; have := d3 hu
    rw [if_neg (by omega), if_pos (by omega), if_neg (by omega), if_neg (by omega)]
  · have := c3 hu; have := a1 hv; have := b1 hv; have := d3 hu
    rw [if_neg (by omega), if_neg (by omega), if_pos (by omega), if_neg (by omega)]
  · have := c1 hu; have := a2 hv; have := b2 hv; have := d1 hu
    by_cases h : cu + bv < 0
    · rw [if_pos (by omega), if_neg (by omega), if_neg (by omega), if_neg (by omega)]
    · rw [if_neg (by omega), if_pos (by omega), if_neg (by omega), if_neg (by omega)]
  · have := c1 hu; have := a3 hv; have := b3 hv; have := d1 hu
    rw [if_neg (by omega), if_pos (by omega), if_neg (by omega), if_neg (by omega)]
  · have := c1 hu; have := a1 hv; have := b1 hv; have := d1 hu
    by_cases h : 0 < bv - du
    · rw [if_neg (by omega), if_neg (by omega), if_pos (by omega), if_neg (by omega)]
    · rw [if_neg (by omega), if_pos (by omega), if_neg (by omega), if_neg (by omega)]
/-- the screen's corners -/
def corner (W H : Int) : Nat → Spot
  | 0 => ⟨0, 0, 0, 0, 0, 0⟩
  | 1 => ⟨W, 0, 0, 0, 0, 0⟩
  | 2 => ⟨W, H, 0, 0, 0, 0⟩
  | _ => ⟨0, H, 0, 0, 0, 0⟩
theorem dec_iff {p : Prop} [Decidable p] {b : Bool} (h : b = true ↔ p) : b = decide p := by
  cases b
  · exact (decide_eq_false (fun hp => by have := h.2 hp; cases this)).symm
  · exact (decide_eq_true (h.1 rfl)).symm
theorem inside_iff (a b : Spot) (x y : Int) : inside a b x y = true ↔ 0 < side a b x y ∨ side a b x y = 0 ∧ (a.y = b.y ∧ b.x > a.x ∨ b.y < a.y) := by
  unfold inside upper
  rw [decide_eq_true_eq, decide_eq_false_iff_not]
  omega
theorem covered_iff (a b c : Spot) (px py : Int) : covered a b c px py = true ↔ 0 < area a b c ∧ (inside b c (256 * px + 128) (256 * py + 128) = true ∧ inside c a (256 * px + 128) (256 * py + 128) = true ∧ inside a b (256 * px + 128) (256 * py + 128) = true) := by
  unfold covered
  simp only [Bool.and_eq_true, decide_eq_true_eq]
theorem fan_at0 (m : Spot) (W H px py : Int) (hW : 0 < W) (hm : 0 ≤ m.x ∧ m.x ≤ W ∧ 0 ≤ m.y ∧ m.y ≤ H) (hy : 0 < 256 * py + 128 ∧ 256 * py + 128 < H) : covered m (corner W H 0) (corner W H 1) px py = fanP m.x (W - m.x) m.y (H - m.y) (256 * px + 128 - m.x) (256 * py + 128 - m.y) 0 := by
  unfold fanP
  refine dec_iff ?_
  rw [covered_iff, inside_iff, inside_iff, inside_iff]
  have ea : area m (corner W H 0) (corner W H 1) = m.y * W := by unfold area side corner; grind
  have eo : side (corner W H 0) (corner W H 1) (256 * px + 128) (256 * py + 128) = W * (256 * py + 128) := by unfold side corner; grind
  have e1 : side (corner W H 1) m (256 * px + 128) (256 * py + 128) = -(m.y * (256 * px + 128 - m.x) + (W - m.x) * (256 * py + 128 - m.y)) := by unfold side corner; grind
  have e0 : side m (corner W H 0) (256 * px + 128) (256 * py + 128) = m.y * (256 * px + 128 - m.x) - m.x * (256 * py + 128 - m.y) := by unfold side corner; grind
  have ho : 0 < W * (256 * py + 128) := Int.mul_pos hW hy.1
  rw [ea, eo, e1, e0, pos_mul_iff hW hm.2.2.1]
  generalize m.y * (256 * px + 128 - m.x) = cu
  generalize m.x * (256 * py + 128 - m.y) = av
  generalize (W - m.x) * (256 * py + 128 - m.y) = bv
  generalize W * (256 * py + 128) = o at *
  simp only [corner]
  omega
theorem fan_at1 (m : Spot) (W H px py : Int) (hH : 0 < H) (hm : 0 ≤ m.x ∧ m.x ≤ W ∧ 0 ≤ m.y ∧ m.y ≤ H) (hx : 0 < 256 * px + 128 ∧ 256 * px + 128 < W) : covered m (corner W H 1) (corner W H 2) px py = fanP m.x (W - m.x) m.y (H - m.y) (256 * px + 128 - m.x) (256 * py + 128 - m.y) 1 := by
  unfold fanP
  refine dec_iff ?_
  rw [covered_iff, inside_iff, inside_iff, inside_iff]
  have ea : area m (corner W H 1) (corner W H 2) = (W - m.x) * H := by unfold area side corner; grind
  have eo : side (corner W H 1) (corner W H 2) (256 * px + 128) (256 * py + 128) = H * (W - (256 * px + 128)) := by unfold side corner; grind
  have e1 : side (corner W H 2) m (256 * px + 128) (256 * py + 128) = -((W - m.x) * (256 * py + 128 - m.y) - (H - m.y) * (256 * px + 128 - m.x)) := by unfold side corner; grind
  have e0 : side m (corner W H 1) (256 * px + 128) (256 * py + 128) = m.y * (256 * px + 128 - m.x) + (W - m.x) * (256 * py + 128 - m.y) := by unfold side corner; grind
  have ho : 0 < H * (W - (256 * px + 128)) := Int.mul_pos hH (by omega)
  rw [ea, eo, e1, e0, pos_mul_iff hH (by omega)]
  generalize m.y * (256 * px + 128 - m.x) = cu
  generalize (H - m.y) * (256 * px + 128 - m.x) = du
  generalize (W - m.x) * (256 * py + 128 - m.y) = bv
  generalize H * (W - (256 * px + 128)) = o at *
  simp only [corner]
  omega
theorem fan_at2 (m : Spot) (W H px py : Int) (hW : 0 < W) (hm : 0 ≤ m.x ∧ m.x ≤ W ∧ 0 ≤ m.y ∧ m.y ≤ H) (hy : 0 < 256 * py + 128 ∧ 256 * py + 128 < H) : covered m (corner W H 2) (corner W H 3) px py = fanP m.x (W - m.x) m.y (H - m.y) (256 * px + 128 - m.x) (256 * py + 128 - m.y) 2 := by
  unfold fanP
  refine dec_iff ?_
  rw [covered_iff, inside_iff, inside_iff, inside_iff]
  have ea : area m (corner W H 2) (corner W H 3) = (H - m.y) * W := by unfold area side corner; grind
  have eo : side (corner W H 2) (corner W H 3) (256 * px + 128) (256 * py + 128) = W * (H - (256 * py + 128)) := by unfold side corner; grind
  have e1 : side (corner W H 3) m (256 * px + 128) (256 * py + 128) = -(-(m.x * (256 * py + 128 - m.y)) - (H - m.y) * (256 * px + 128 - m.x)) := by unfold side corner; grind
  have e0 : side m (corner W H 2) (256 * px + 128) (256 * py + 128) = (W - m.x) * (256 * py + 128 - m.y) - (H - m.y) * (256 * px + 128 - m.x) := by unfold side corner; grind
  have ho : 0 < W * (H - (256 * py + 128)) := Int.mul_pos hW (by omega)
  rw [ea, eo, e1, e0, pos_mul_iff hW (by omega)]
  generalize m.x * (256 * py + 128 - m.y) = av
  generalize (H - m.y) * (256 * px + 128 - m.x) = du
  generalize (W - m.x) * (256 * py + 128 - m.y) = bv
  generalize W * (H - (256 * py + 128)) = o at *
  simp only [corner]
  omega
theorem fan_at3 (m : Spot) (W H px py : Int) (hH : 0 < H) (hm : 0 ≤ m.x ∧ m.x ≤ W ∧ 0 ≤ m.y ∧ m.y ≤ H) (hx : 0 < 256 * px + 128 ∧ 256 * px + 128 < W) : covered m (corner W H 3) (corner W H 0) px py = fanP m.x (W - m.x) m.y (H - m.y) (256 * px + 128 - m.x) (256 * py + 128 - m.y) 3 := by
  unfold fanP
  refine dec_iff ?_
  rw [covered_iff, inside_iff, inside_iff, inside_iff]
  have ea : area m (corner W H 3) (corner W H 0) = m.x * H := by unfold area side corner; grind
  have eo : side (corner W H 3) (corner W H 0) (256 * px + 128) (256 * py + 128) = H * (256 * px + 128) := by unfold side corner; grind
  have e1 : side (corner W H 0) m (256 * px + 128) (256 * py + 128) = -(m.y * (256 * px + 128 - m.x) - m.x * (256 * py + 128 - m.y)) := by unfold side corner; grind
  have e0 : side m (corner W H 3) (256 * px + 128) (256 * py + 128) = -(m.x * (256 * py + 128 - m.y)) - (H - m.y) * (256 * px + 128 - m.x) := by unfold side corner; grind
  have ho : 0 < H * (256 * px + 128) := Int.mul_pos hH hx.1
  rw [ea, eo, e1, e0, pos_mul_iff hH hm.1]
  generalize m.y * (256 * px + 128 - m.x) = cu
  generalize m.x * (256 * py + 128 - m.y) = av
  generalize (H - m.y) * (256 * px + 128 - m.x) = du
  generalize H * (256 * px + 128) = o at *
  simp only [corner]
  omega
theorem fan_sum (m : Spot) (W H px py : Int) (hW : 0 < W) (hH : 0 < H) (hm : 0 ≤ m.x ∧ m.x ≤ W ∧ 0 ≤ m.y ∧ m.y ≤ H) (hx : 0 < 256 * px + 128 ∧ 256 * px + 128 < W) (hy : 0 < 256 * py + 128 ∧ 256 * py + 128 < H) : b2n (covered m (corner W H 0) (corner W H 1) px py) + b2n (covered m (corner W H 1) (corner W H 2) px py) + b2n (covered m (corner W H 2) (corner W H 3) px py) + b2n (covered m (corner W H 3) (corner W H 0) px py) = 1 := by
  rw [fan_at0 m W H px py hW hm hy, fan_at1 m W H px py hH hm hx, fan_at2 m W H px py hW hm hy, fan_at3 m W H px py hH hm hx]
  exact fan_one _ _ _ _ _ _ hm.1 (by omega) hm.2.2.1 (by omega) (by omega) (by omega) (by omega) (by omega)
end Go.Proofs.Ytgkidgpdgcdgnaa
