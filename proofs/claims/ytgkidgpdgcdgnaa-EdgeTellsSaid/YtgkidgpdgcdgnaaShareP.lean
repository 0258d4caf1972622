/- EdgeShares, plainly: a convex piece is covered as often whichever way it is cut, and once at most. -/
import Derived.Test.YtgkidgpdgcdgnaaFanP
namespace Go.Proofs.Ytgkidgpdgcdgnaa
theorem inside_anti (a b : Spot) (x y : Int) (h : a.x ≠ b.x ∨ a.y ≠ b.y) : inside b a x y = !inside a b x y := by
  have e : side b a x y = - side a b x y := by unfold side; grind
  have h1 := inside_iff a b x y
  have h2 := inside_iff b a x y
  rw [e] at h2
  cases h3 : inside a b x y
  · have : ¬ (0 < side a b x y ∨ side a b x y = 0 ∧ (a.y = b.y ∧ b.x > a.x ∨ b.y < a.y)) := fun h => by rw [h1.2 h] at h3; cases h3
    exact h2.2 (by omega)
  · have := h1.1 h3
    cases h4 : inside b a x y
    · rfl
    · have := h2.1 h4
      omega
theorem up_of {K X Y r p q r' p' q' : Int} (hK : 0 < K) (hX : 0 < X) (hY : 0 < Y) (e : K * r = X * p + Y * q) (e' : K * r' = X * p' + Y * q') (hp : p < 0 ∨ p = 0 ∧ 0 < p') (hq : q < 0 ∨ q = 0 ∧ 0 < q') : r < 0 ∨ r = 0 ∧ 0 < r' := by
  obtain ⟨p1, p2, p3, _⟩ := sgn X p (by omega)
  obtain ⟨q1, q2, q3, _⟩ := sgn Y q (by omega)
  obtain ⟨r1, r2, r3, _⟩ := sgn K r (by omega)
  obtain ⟨p1', p2', p3', _⟩ := sgn X p' (by omega)
  obtain ⟨q1', q2', q3', _⟩ := sgn Y q' (by omega)
  obtain ⟨r1', r2', r3', _⟩ := sgn K r' (by omega)
  generalize X * p = a at *
  generalize Y * q = b at *
  generalize K * r = c at *
  generalize X * p' = a' at *
  generalize Y * q' = b' at *
  generalize K * r' = c' at *
  have hr : r < 0 ∨ r = 0 ∨ 0 < r := by omega
  have hr' : r' < 0 ∨ r' = 0 ∨ 0 < r' := by omega
  rcases hp with hp | ⟨hp, hp'⟩ <;> rcases hq with hq | ⟨hq, hq'⟩ <;> rcases hr with hr | hr | hr
  · exact .inl hr
  · have := p2 hp; have := q2 hq; have := r3 hr; omega
  · have := p2 hp; have := q2 hq; have := r1 hr; omega
  · exact .inl hr
  · have := p2 hp; have := q3 hq; have := r3 hr; omega
  · have := p2 hp; have := q3 hq; have := r1 hr; omega
  · exact .inl hr
  · have := p3 hp; have := q2 hq; have := r3 hr; omega
  · have := p3 hp; have := q2 hq; have := r1 hr; omega
  · exact .inl hr
  · refine .inr ⟨hr, ?_⟩
    have := p1' hp'; have := q1' hq'
    rcases hr' with h | h | h
    · have := r2' h; omega
    · have := r3' h; omega
    · exact h
  · have := p3 hp; have := q3 hq; have := r1 hr; omega
theorem sum_zero {x y α β : Int} (hx : 0 ≤ x) (hy : 0 ≤ y) (hα : 0 < α) (hβ : 0 < β) (h : x * α + y * β = 0) : x = 0 ∧ y = 0 := by
  have h1 := Int.mul_nonneg hx (Int.le_of_lt hα)
  have h2 := Int.mul_nonneg hy (Int.le_of_lt hβ)
  have h3 : x * α = 0 := by omega
  have h4 : y * β = 0 := by omega
  rw [Int.mul_eq_zero] at h3 h4
  omega
/-- who is inside of a triangle of a convex piece is inside of the other two edges -/
theorem convex (a b c d : Spot) (x y : Int) (h1 : 0 < area a b c) (h2 : 0 < area b c d) (h3 : 0 < area c d a) (h4 : 0 < area d a b)
    (hab : inside a b x y = true) (hbc : inside b c x y = true) (hca : inside c a x y = true) : inside c d x y = true ∧ inside d a x y = true := by
  have nab := inside_nonneg hab
  have nbc := inside_nonneg hbc
  have nca := inside_nonneg hca
  have uab := (inside_iff _ _ _ _).1 hab
  have ubc := (inside_iff _ _ _ _).1 hbc
  have uca := (inside_iff _ _ _ _).1 hca
  constructor
  · have e : area a b c * side c d x y = side b c x y * area c d a + side c a x y * area b c d := by unfold area side; grind
    rw [inside_iff]
    have hn : 0 ≤ area a b c * side c d x y := by
      rw [e]
      have := Int.mul_nonneg nbc (Int.le_of_lt h3)
      have := Int.mul_nonneg nca (Int.le_of_lt h2)
      omega
    by_cases hp : 0 < side c d x y
    · exact .inl hp
    · have hz : side c d x y = 0 := by
        by_cases hz : side c d x y = 0
        · exact hz
        · have := Int.mul_neg_of_pos_of_neg h1 (show side c d x y < 0 by omega); omega
      rw [hz, Int.mul_zero] at e
      obtain ⟨z1, z2⟩ := sum_zero nbc nca h3 h2 e.symm
      refine .inr ⟨hz, ?_⟩
      have ey : area a b c * (d.y - c.y) = area c d a * (c.y - b.y) + area b c d * (a.y - c.y) := by unfold area side; grind
      have ex : area a b c * (d.x - c.x) = area c d a * (c.x - b.x) + area b c d * (a.x - c.x) := by unfold area side; grind
      have := up_of h1 h3 h2 ey ex (by omega) (by omega)
      omega
  · have e : area a b c * side d a x y = side c a x y * area d a b + side a b x y * area c d a := by unfold area side; grind
    rw [inside_iff]
    have hn : 0 ≤ area a b c * side d a x y := by
      rw [e]
      have := Int.mul_nonneg nca (Int.le_of_lt h4)
      have := Int.mul_nonneg nab (Int.le_of_lt h3)
      omega
    by_cases hp : 0 < side d a x y
    · exact .inl hp
    · have hz : side d a x y = 0 := by
        by_cases hz : side d a x y = 0
        · exact hz
        · have := Int.mul_neg_of_pos_of_neg h1 (show side d a x y < 0 by omega); omega
      rw [hz, Int.mul_zero] at e
      obtain ⟨z1, z2⟩ := sum_zero nca nab h4 h3 e.symm
      refine .inr ⟨hz, ?_⟩
      have ey : area a b c * (a.y - d.y) = area d a b * (a.y - c.y) + area c d a * (b.y - a.y) := by unfold area side; grind
      have ex : area a b c * (a.x - d.x) = area d a b * (a.x - c.x) + area c d a * (b.x - a.x) := by unfold area side; grind
      have := up_of h1 h4 h3 ey ex (by omega) (by omega)
      omega
theorem apart (a b c : Spot) (h : 0 < area a b c) : a.x ≠ c.x ∨ a.y ≠ c.y := by
  by_cases h1 : a.x = c.x
  · by_cases h2 : a.y = c.y
    · have : area a b c = 0 := by unfold area side; rw [h1, h2]; grind
      omega
    · exact .inr h2
  · exact .inl h1
/-- a convex piece is covered as often whichever way it is cut, and once at most -/
theorem share (a b c d : Spot) (px py : Int) (h1 : 0 < area a b c) (h2 : 0 < area b c d) (h3 : 0 < area c d a) (h4 : 0 < area d a b) :
    b2n (covered a b c px py) + b2n (covered a c d px py) ≤ 1 ∧ b2n (covered a b c px py) + b2n (covered a c d px py) = b2n (covered b c d px py) + b2n (covered b d a px py) := by
  have k1 := convex a b c d (256 * px + 128) (256 * py + 128) h1 h2 h3 h4
  have k2 := convex b c d a (256 * px + 128) (256 * py + 128) h2 h3 h4 h1
  have k3 := convex c d a b (256 * px + 128) (256 * py + 128) h3 h4 h1 h2
  have k4 := convex d a b c (256 * px + 128) (256 * py + 128) h4 h1 h2 h3
  have n1 := inside_anti a c (256 * px + 128) (256 * py + 128) (apart a b c h1)
  have n2 := inside_anti b d (256 * px + 128) (256 * py + 128) (apart b c d h2)
  have e3 : 0 < area a c d := by rw [← area_rot]; exact h3
  have e4 : 0 < area b d a := by rw [← area_rot]; exact h4
  unfold covered
  rw [decide_eq_true h1, decide_eq_true h2, decide_eq_true e3, decide_eq_true e4, n1, n2]
  rw [n1] at k1
  rw [n2] at k2
  clear n1 n2 h1 h2 h3 h4 e3 e4
  generalize inside a b (256 * px + 128) (256 * py + 128) = p at *
  generalize inside b c (256 * px + 128) (256 * py + 128) = q at *
  generalize inside c d (256 * px + 128) (256 * py + 128) = r at *
  generalize inside d a (256 * px + 128) (256 * py + 128) = s at *
  generalize inside a c (256 * px + 128) (256 * py + 128) = t at *
  generalize inside b d (256 * px + 128) (256 * py + 128) = u at *
  cases p <;> cases q <;> cases r <;> cases s <;> cases t <;> cases u <;> simp_all [b2n]
end Go.Proofs.Ytgkidgpdgcdgnaa
