/- EdgeMoves, plainly: a triangle that is moved by whole pixels covers the pixels that are as much moved. -/
import Derived.Test.YtgkidgpdgcdgnaaSumP
namespace Go.Proofs.Ytgkidgpdgcdgnaa
/-- moved by whole pixels -/
def Spot.mv (i k : Int) (a : Spot) : Spot := ⟨a.x + 256 * i, a.y + 256 * k, a.z, a.w, a.u, a.v⟩
def Hit.mv (i k : Int) (h : Hit) : Hit := ⟨h.x + i, h.y + k, h.e0, h.e1, h.e2⟩
theorem side_mv (a b : Spot) (x y i k : Int) : side (a.mv i k) (b.mv i k) (x + 256 * i) (y + 256 * k) = side a b x y := by
  unfold side Spot.mv; grind
theorem area_mv (a b c : Spot) (i k : Int) : area (a.mv i k) (b.mv i k) (c.mv i k) = area a b c := by
  unfold area side Spot.mv; grind
theorem upper_mv (a b : Spot) (i k : Int) : upper (a.mv i k) (b.mv i k) = upper a b := by
  unfold upper Spot.mv
  apply decide_eq_decide.2
  simp only
  omega
theorem inside_mv (a b : Spot) (x y i k : Int) : inside (a.mv i k) (b.mv i k) (x + 256 * i) (y + 256 * k) = inside a b x y := by
  unfold inside; rw [side_mv, upper_mv]
theorem center (p i : Int) : 256 * (p + i) + 128 = 256 * p + 128 + 256 * i := by omega
theorem covered_mv (a b c : Spot) (px py i k : Int) : covered (a.mv i k) (b.mv i k) (c.mv i k) (px + i) (py + k) = covered a b c px py := by
  unfold covered
  rw [area_mv, center, center, inside_mv, inside_mv, inside_mv]
def tmv (i k : Int) (t : Spot × Spot × Spot) : Spot × Spot × Spot := (t.1.mv i k, t.2.1.mv i k, t.2.2.mv i k)
theorem turned_mv (a b c : Spot) (i k : Int) : (turned (a.mv i k) (b.mv i k) (c.mv i k)).2 = (turned a b c).2 ∧ ((turned a b c).2 = true → (turned (a.mv i k) (b.mv i k) (c.mv i k)).1 = tmv i k (turned a b c).1) := by
  unfold turned
  rw [area_mv]
  split
  · exact ⟨rfl, fun _ => rfl⟩
  · split
    · exact ⟨rfl, fun _ => rfl⟩
    · exact ⟨rfl, fun h => by cases h⟩
/-- a point that is inside lies where the corners lie -/
theorem bary_x (a b c : Spot) (x y : Int) : side b c x y * a.x + side c a x y * b.x + side a b x y * c.x = area a b c * x := by
  unfold area side; grind
theorem bary_y (a b c : Spot) (x y : Int) : side b c x y * a.y + side c a x y * b.y + side a b x y * c.y = area a b c * y := by
  unfold area side; grind
theorem inside_nonneg {a b : Spot} {x y : Int} (h : inside a b x y = true) : 0 ≤ side a b x y := by
  unfold inside at h
  have := of_decide_eq_true h
  omega
theorem mean_le {A e f g p q r x m : Int} (hA : 0 < A) (hs : e + f + g = A) (h : e * p + f * q + g * r = A * x) (he : 0 ≤ e) (hf : 0 ≤ f) (hg : 0 ≤ g) (hp : m ≤ p) (hq : m ≤ q) (hr : m ≤ r) : m ≤ x := by
  have h1 : e * m ≤ e * p := Int.mul_le_mul_of_nonneg_left hp he
  have h2 : f * m ≤ f * q := Int.mul_le_mul_of_nonneg_left hq hf
  have h3 : g * m ≤ g * r := Int.mul_le_mul_of_nonneg_left hr hg
  have h4 : A * m = e * m + f * m + g * m := by rw [← hs]; grind
  exact Int.le_of_mul_le_mul_left (by omega) hA
theorem le_mean {A e f g p q r x m : Int} (hA : 0 < A) (hs : e + f + g = A) (h : e * p + f * q + g * r = A * x) (he : 0 ≤ e) (hf : 0 ≤ f) (hg : 0 ≤ g) (hp : p ≤ m) (hq : q ≤ m) (hr : r ≤ m) : x ≤ m := by
  have h1 : e * p ≤ e * m := Int.mul_le_mul_of_nonneg_left hp he
  have h2 : f * q ≤ f * m := Int.mul_le_mul_of_nonneg_left hq hf
  have h3 : g * r ≤ g * m := Int.mul_le_mul_of_nonneg_left hr hg
  have h4 : A * m = e * m + f * m + g * m := by rw [← hs]; grind
  exact Int.le_of_mul_le_mul_left (by omega) hA
theorem covered_parts {a b c : Spot} {px py : Int} (h : covered a b c px py = true) : 0 < area a b c ∧ inside b c (256 * px + 128) (256 * py + 128) = true ∧ inside c a (256 * px + 128) (256 * py + 128) = true ∧ inside a b (256 * px + 128) (256 * py + 128) = true := by
  unfold covered at h
  simp only [Bool.and_eq_true, decide_eq_true_eq] at h
  exact ⟨h.1, h.2.1, h.2.2.1, h.2.2.2⟩
theorem covered_in {a b c : Spot} {px py lx hx ly hy : Int} (h : covered a b c px py = true) (ha : lx ≤ a.x ∧ a.x ≤ hx ∧ ly ≤ a.y ∧ a.y ≤ hy) (hb : lx ≤ b.x ∧ b.x ≤ hx ∧ ly ≤ b.y ∧ b.y ≤ hy) (hc : lx ≤ c.x ∧ c.x ≤ hx ∧ ly ≤ c.y ∧ c.y ≤ hy) :
    lx ≤ 256 * px + 128 ∧ 256 * px + 128 ≤ hx ∧ ly ≤ 256 * py + 128 ∧ 256 * py + 128 ≤ hy := by
  obtain ⟨hA, h1, h2, h3⟩ := covered_parts h
  have e1 := inside_nonneg h1
  have e2 := inside_nonneg h2
  have e3 := inside_nonneg h3
  have hs := side_sum a b c (256 * px + 128) (256 * py + 128)
  have bx := bary_x a b c (256 * px + 128) (256 * py + 128)
  have by' := bary_y a b c (256 * px + 128) (256 * py + 128)
  exact ⟨mean_le hA hs bx e1 e2 e3 ha.1 hb.1 hc.1, le_mean hA hs bx e1 e2 e3 ha.2.1 hb.2.1 hc.2.1, mean_le hA hs by' e1 e2 e3 ha.2.2.1 hb.2.2.1 hc.2.2.1, le_mean hA hs by' e1 e2 e3 ha.2.2.2 hb.2.2.2 hc.2.2.2⟩
/-- two rows that rise by their keys and hold the same are the same -/
theorem sorted_ext {α : Type} (f : α → Int) : ∀ (l m : List α), l.Pairwise (fun x y => f x < f y) → m.Pairwise (fun x y => f x < f y) → (∀ x, x ∈ l ↔ x ∈ m) → l = m
  | [], [], _, _, _ => rfl
  | [], y :: m, _, _, h => by have := (h y).2 (by simp); simp at this
  | x :: l, [], _, _, h => by have := (h x).1 (by simp); simp at this
  | x :: l, y :: m, hl, hm, h => by
    rw [List.pairwise_cons] at hl hm
    have hxy : x = y := by
      have h1 := (h x).1 (by simp)
      have h2 := (h y).2 (by simp)
      rw [List.mem_cons] at h1 h2
      rcases h1 with h1 | h1
      · exact h1
      · rcases h2 with h2 | h2
        · exact h2.symm
        · have := hl.1 y h2
          have := hm.1 x h1
          omega
    subst hxy
    rw [sorted_ext f l m hl.2 hm.2 (fun z => ?_)]
    constructor
    · intro hz
      have h1 := (h z).1 (by simp [hz])
      rw [List.mem_cons] at h1
      rcases h1 with rfl | h1
      · have := hl.1 z hz; omega
      · exact h1
    · intro hz
      have h1 := (h z).2 (by simp [hz])
      rw [List.mem_cons] at h1
      rcases h1 with rfl | h1
      · have := hm.1 z hz; omega
      · exact h1
/-- a spot on the first twenty pixels -/
def Spot.near (a : Spot) : Prop := 0 ≤ a.x ∧ a.x ≤ 5120 ∧ 0 ≤ a.y ∧ a.y ≤ 5120
theorem pixel_at {t : Spot × Spot × Spot} (px py : Nat) (h1 : px < 32) : pixel t 32 (32 * py + px) = if covered t.1 t.2.1 t.2.2 (px : Int) (py : Int) = true then
    some ⟨(px : Int), (py : Int), side t.2.1 t.2.2 (256 * (px : Int) + 128) (256 * (py : Int) + 128), side t.2.2 t.1 (256 * (px : Int) + 128) (256 * (py : Int) + 128), side t.1 t.2.1 (256 * (px : Int) + 128) (256 * (py : Int) + 128)⟩ else none := by
  have e1 : (32 * py + px) % 32 = px := by omega
  have e2 : (32 * py + px) / 32 = py := by omega
  unfold pixel
  rw [e1, e2]
theorem mem_pix {t : Spot × Spot × Spot} {x : Hit} : x ∈ pixTo t 32 1024 ↔ ∃ px py : Nat, px < 32 ∧ py < 32 ∧ covered t.1 t.2.1 t.2.2 (px : Int) (py : Int) = true ∧
    x = ⟨(px : Int), (py : Int), side t.2.1 t.2.2 (256 * (px : Int) + 128) (256 * (py : Int) + 128), side t.2.2 t.1 (256 * (px : Int) + 128) (256 * (py : Int) + 128), side t.1 t.2.1 (256 * (px : Int) + 128) (256 * (py : Int) + 128)⟩ := by
  rw [mem_pixTo]
  constructor
  · rintro ⟨k, hk, h⟩
    obtain ⟨h1, h2⟩ := pixel_some h
    exact ⟨k % 32, k / 32, by omega, by omega, h1, h2⟩
  · rintro ⟨px, py, h1, h2, h3, rfl⟩
    refine ⟨32 * py + px, by omega, ?_⟩
    rw [pixel_at px py h1, if_pos h3]
theorem pix_mv (a b c : Spot) (i k : Nat) (hi : i < 8) (hk : k < 8) (ha : a.near) (hb : b.near) (hc : c.near) : pix (a.mv i k) (b.mv i k) (c.mv i k) 32 32 = (pix a b c 32 32).map (Hit.mv i k) := by
  obtain ⟨h1, h2⟩ := turned_mv a b c i k
  unfold pix
  rw [h1]
  split
  · rename_i hh
    rw [h2 hh.1]
    have hn : (turned a b c).1.1.near ∧ (turned a b c).1.2.1.near ∧ (turned a b c).1.2.2.near := by
      have h0 := hh.1
      unfold turned at h0 ⊢
      split
      · exact ⟨ha, hb, hc⟩
      · rename_i h3
        rw [if_neg h3] at h0
        split
        · exact ⟨ha, hc, hb⟩
        · rename_i h4
          rw [if_neg h4] at h0; cases h0
    show pixTo _ 32 1024 = (pixTo _ 32 1024).map _
    obtain ⟨T, hT⟩ : ∃ T, T = (turned a b c).1 := ⟨_, rfl⟩
    rw [← hT] at hn ⊢
    obtain ⟨p, q, r⟩ := T
    simp only at hn ⊢
    unfold Spot.near at hn
    refine sorted_ext keyOf _ _ (pixTo_sorted _ _) ?_ ?_
    · rw [List.pairwise_map]
      refine (pixTo_sorted (p, q, r) 1024).imp ?_
      intro x y hxy
      unfold keyOf Hit.mv at *
      simp only
      omega
    · intro x
      rw [List.mem_map, mem_pix]
      constructor
      · rintro ⟨px, py, h3, h4, h5, rfl⟩
        have hb := covered_in (lx := 256 * i) (ly := 256 * k) (hx := 8000) (hy := 8000) h5 (by simp only [tmv, Spot.mv]; omega) (by simp only [tmv, Spot.mv]; omega) (by simp only [tmv, Spot.mv]; omega)
        have e1 : (px : Int) = ((px - i : Nat) : Int) + (i : Int) := by omega
        have e2 : (py : Int) = ((py - k : Nat) : Int) + (k : Int) := by omega
        refine ⟨_, mem_pix.2 ⟨px - i, py - k, by omega, by omega, ?_, rfl⟩, ?_⟩
        · rw [e1, e2] at h5
          simp only [tmv] at h5 ⊢
          rwa [covered_mv] at h5
        · unfold Hit.mv
          simp only [tmv]
          rw [e1, e2, center, center, side_mv, side_mv, side_mv]
      · rintro ⟨y, hy, rfl⟩
        obtain ⟨px, py, h3, h4, h5, rfl⟩ := mem_pix.1 hy
        have hb := covered_in (lx := 0) (ly := 0) (hx := 5120) (hy := 5120) h5 (by simp only; omega) (by simp only; omega) (by simp only; omega)
        refine ⟨px + i, py + k, by omega, by omega, ?_, ?_⟩
        · simp only [tmv] at h5 ⊢
          rw [Int.natCast_add, Int.natCast_add, covered_mv]; exact h5
        · unfold Hit.mv
          simp only [tmv]
          rw [Int.natCast_add, Int.natCast_add, center, center, side_mv, side_mv, side_mv]
  · rfl
end Go.Proofs.Ytgkidgpdgcdgnaa
