/- How far a pixel is inside of the three edges, plainly: together the area; another corner first, the other way round: the same pixels. -/
import Derived.Test.YtgkidgpdgcdgnaaPlain
namespace Go.Proofs.Ytgkidgpdgcdgnaa
open Go.RowKit

theorem side_sum (a b c : Spot) (x y : Int) : side b c x y + side c a x y + side a b x y = area a b c := by
  unfold area side; grind
theorem area_rot (a b c : Spot) : area b c a = area a b c := by
  unfold area side; grind
theorem area_swap (a b c : Spot) : area a c b = - area a b c := by
  unfold area side; grind
def Hit.rot (h : Hit) : Hit := ⟨h.x, h.y, h.e1, h.e2, h.e0⟩
def rot3 (t : Spot × Spot × Spot) : Spot × Spot × Spot := (t.2.1, t.2.2, t.1)
theorem covered_rot (a b c : Spot) (px py : Int) : covered b c a px py = covered a b c px py := by
  unfold covered
  rw [area_rot]
  cases decide (0 < area a b c) <;> cases inside b c (256 * px + 128) (256 * py + 128) <;> cases inside c a (256 * px + 128) (256 * py + 128) <;> cases inside a b (256 * px + 128) (256 * py + 128) <;> rfl
theorem pixel_rot (t : Spot × Spot × Spot) (w k : Nat) : pixel (rot3 t) w k = (pixel t w k).map Hit.rot := by
  unfold pixel rot3
  rw [covered_rot]
  split
  · rfl
  · rfl
theorem pixTo_rot (t : Spot × Spot × Spot) (w n : Nat) : pixTo (rot3 t) w n = (pixTo t w n).map Hit.rot := by
  induction n with
  | zero => rfl
  | succ n ih =>
    rw [pixTo_succ, pixTo_succ, ih, pixel_rot, List.map_append]
    cases pixel t w n <;> rfl
theorem turned_rot (a b c : Spot) : (turned b c a).2 = (turned a b c).2 ∧ ((turned b c a).1 = rot3 (turned a b c).1 ∨ (turned b c a).1 = rot3 (rot3 (turned a b c).1)) := by
  unfold turned
  rw [area_rot]
  split
  · exact ⟨rfl, .inl rfl⟩
  · split
    · exact ⟨rfl, .inr rfl⟩
    · exact ⟨rfl, .inl rfl⟩
theorem turned_swap (a b c : Spot) : turned a c b = turned a b c := by
  unfold turned
  rw [area_swap]
  by_cases h1 : 0 < area a b c
  · rw [if_neg (by omega), if_pos (by omega), if_pos h1]
  · by_cases h2 : area a b c < 0
    · rw [if_pos (by omega), if_neg h1, if_pos h2]
    · rw [if_neg (by omega), if_neg (by omega), if_neg h1, if_neg h2]
theorem pix_swap (a b c : Spot) (w h : Int) : pix a c b w h = pix a b c w h := by unfold pix; rw [turned_swap]
theorem pix_rot (a b c : Spot) (w h : Int) : ∃ f : Hit → Hit, (∀ x, (f x).x = x.x ∧ (f x).y = x.y) ∧ pix b c a w h = (pix a b c w h).map f := by
  obtain ⟨h1, h2⟩ := turned_rot a b c
  unfold pix
  rw [h1]
  split
  · rcases h2 with h2 | h2
    · exact ⟨Hit.rot, fun x => ⟨rfl, rfl⟩, by rw [h2, pixTo_rot]⟩
    · exact ⟨fun x => x.rot.rot, fun x => ⟨rfl, rfl⟩, by rw [h2, pixTo_rot, pixTo_rot, List.map_map]; rfl⟩
  · exact ⟨id, fun x => ⟨rfl, rfl⟩, rfl⟩
/-- what is known of a pixel -/
theorem pixel_some {t : Spot × Spot × Spot} {w k : Nat} {x : Hit} (h : pixel t w k = some x) : covered t.1 t.2.1 t.2.2 ((k % w : Nat) : Int) ((k / w : Nat) : Int) = true ∧ x = ⟨((k % w : Nat) : Int), ((k / w : Nat) : Int), side t.2.1 t.2.2 (256 * ((k % w : Nat) : Int) + 128) (256 * ((k / w : Nat) : Int) + 128), side t.2.2 t.1 (256 * ((k % w : Nat) : Int) + 128) (256 * ((k / w : Nat) : Int) + 128), side t.1 t.2.1 (256 * ((k % w : Nat) : Int) + 128) (256 * ((k / w : Nat) : Int) + 128)⟩ := by
  unfold pixel at h
  split at h
  · rename_i hc
    cases h
    exact ⟨hc, rfl⟩
  · cases h
theorem pixel_none {t : Spot × Spot × Spot} {w k : Nat} : pixel t w k = none ↔ covered t.1 t.2.1 t.2.2 ((k % w : Nat) : Int) ((k / w : Nat) : Int) = false := by
  unfold pixel
  split <;> simp_all
theorem turned_area (a b c : Spot) (h : (turned a b c).2 = true) : area (turned a b c).1.1 (turned a b c).1.2.1 (turned a b c).1.2.2 = max (area a b c) (-area a b c) ∧ 0 < max (area a b c) (-area a b c) := by
  unfold turned at h ⊢
  split
  · simp only; omega
  · rename_i h1
    rw [if_neg h1] at h
    split
    · simp only; rw [area_swap]; omega
    · rename_i h2
      rw [if_neg h2] at h; cases h
/-- the pixel's number -/
def keyOf (x : Hit) : Int := 32 * x.y + x.x
theorem key_pixel {t : Spot × Spot × Spot} {k : Nat} {x : Hit} (h : pixel t 32 k = some x) : keyOf x = k := by
  obtain ⟨_, rfl⟩ := pixel_some h
  unfold keyOf
  simp only
  omega
theorem pixTo_sorted (t : Spot × Spot × Spot) (n : Nat) : (pixTo t 32 n).Pairwise (fun x y => keyOf x < keyOf y) := by
  unfold pixTo
  rw [List.pairwise_filterMap]
  refine List.Pairwise.imp ?_ List.pairwise_lt_range
  intro i j hij x hx y hy
  rw [key_pixel hx, key_pixel hy]; omega
theorem mem_pixTo {t : Spot × Spot × Spot} {w n : Nat} {x : Hit} : x ∈ pixTo t w n ↔ ∃ k, k < n ∧ pixel t w k = some x := by
  unfold pixTo
  rw [List.mem_filterMap]
  exact ⟨fun ⟨k, h1, h2⟩ => ⟨k, List.mem_range.1 h1, h2⟩, fun ⟨k, h1, h2⟩ => ⟨k, List.mem_range.2 h1, h2⟩⟩
/-- all that the law asks of the three lists -/
structure SumsOk (n : Int) (X Y Z : List Hit) : Prop where
  ly : Y.length = X.length
  lz : Z.length = X.length
  zero : n = 0 → X.length = 0
  le : X.length ≤ 1024
  at_ : ∀ i, i < X.length → ∃ x y z, X[i]? = some x ∧ Y[i]? = some y ∧ Z[i]? = some z ∧ x.e0 + x.e1 + x.e2 = n ∧ x.x = y.x ∧ x.y = y.y ∧ x.x = z.x ∧ x.y = z.y ∧ (0 ≤ x.x ∧ x.x ≤ 31 ∧ 0 ≤ x.y ∧ x.y ≤ 31) ∧ (-7200000000 ≤ x.e0 ∧ x.e0 ≤ 7200000000 ∧ -7200000000 ≤ x.e1 ∧ x.e1 ≤ 7200000000 ∧ -7200000000 ≤ x.e2 ∧ x.e2 ≤ 7200000000) ∧
    (0 < i → ∃ u, X[i - 1]? = some u ∧ 32 * u.y + u.x < 32 * x.y + x.x ∧ (0 ≤ u.x ∧ u.x ≤ 31 ∧ 0 ≤ u.y ∧ u.y ≤ 31))
theorem turned_oks {a b c : Spot} (ha : a.ok) (hb : b.ok) (hc : c.ok) : (turned a b c).1.1.ok ∧ (turned a b c).1.2.1.ok ∧ (turned a b c).1.2.2.ok := by
  unfold turned
  split
  · exact ⟨ha, hb, hc⟩
  · split
    · exact ⟨ha, hc, hb⟩
    · have : spot0.ok := by unfold spot0 Spot.ok; simp
      exact ⟨this, this, this⟩
theorem hit_bounds {t : Spot × Spot × Spot} (h1 : t.1.ok) (h2 : t.2.1.ok) (h3 : t.2.2.ok) {k : Nat} {x : Hit} (hk : k < 1024) (h : pixel t 32 k = some x) :
    (0 ≤ x.x ∧ x.x ≤ 31 ∧ 0 ≤ x.y ∧ x.y ≤ 31) ∧ (-7200000000 ≤ x.e0 ∧ x.e0 ≤ 7200000000 ∧ -7200000000 ≤ x.e1 ∧ x.e1 ≤ 7200000000 ∧ -7200000000 ≤ x.e2 ∧ x.e2 ≤ 7200000000) := by
  obtain ⟨_, rfl⟩ := pixel_some h
  have hx : Near (256 * ((k % 32 : Nat) : Int) + 128) := by unfold Near; omega
  have hy : Near (256 * ((k / 32 : Nat) : Int) + 128) := by unfold Near; omega
  have s1 := side_le h2 h3 hx hy
  have s2 := side_le h3 h1 hx hy
  have s3 := side_le h1 h2 hx hy
  refine ⟨by simp only; omega, s1.1, s1.2, s2.1, s2.2, s3.1, s3.2⟩
theorem pix_mem {a b c : Spot} {x : Hit} (h : x ∈ pix a b c 32 32) : (turned a b c).2 = true ∧ ∃ k, k < 1024 ∧ pixel (turned a b c).1 32 k = some x := by
  unfold pix at h
  split at h
  · rename_i hh
    exact ⟨hh.1, mem_pixTo.1 h⟩
  · cases h
theorem pix_sorted (a b c : Spot) : (pix a b c 32 32).Pairwise (fun x y => keyOf x < keyOf y) := by
  unfold pix
  split
  · exact pixTo_sorted _ _
  · exact List.Pairwise.nil
theorem sums_ok (a b c : Spot) (ha : a.ok) (hb : b.ok) (hc : c.ok) : SumsOk (max (area a b c) (-area a b c)) (pix a b c 32 32) (pix b c a 32 32) (pix a c b 32 32) := by
  obtain ⟨f, hf, hr⟩ := pix_rot a b c 32 32
  rw [hr, pix_swap a b c]
  have hoks := turned_oks ha hb hc
  refine ⟨by simp, rfl, ?_, pix_len _ _ _ _ _, ?_⟩
  · intro h0
    unfold pix
    split
    · rename_i hh
      have := (turned_area a b c hh.1).2
      omega
    · rfl
  · intro i hi
    obtain ⟨x, hx⟩ : ∃ x, (pix a b c 32 32)[i]? = some x := ⟨_, List.getElem?_eq_getElem hi⟩
    have hmem := List.mem_of_getElem? hx
    obtain ⟨ht, k, hk, hp⟩ := pix_mem hmem
    have hbd := hit_bounds hoks.1 hoks.2.1 hoks.2.2 hk hp
    refine ⟨x, f x, x, hx, by rw [List.getElem?_map, hx]; rfl, hx, ?_, (hf x).1.symm, (hf x).2.symm, rfl, rfl, hbd.1, hbd.2, ?_⟩
    · obtain ⟨_, rfl⟩ := pixel_some hp
      simp only
      rw [side_sum, (turned_area a b c ht).1]
    · intro h0
      obtain ⟨u, hu⟩ : ∃ u, (pix a b c 32 32)[i - 1]? = some u := ⟨_, List.getElem?_eq_getElem (by omega)⟩
      obtain ⟨_, k', hk', hp'⟩ := pix_mem (List.mem_of_getElem? hu)
      refine ⟨u, hu, ?_, (hit_bounds hoks.1 hoks.2.1 hoks.2.2 hk' hp').1⟩
      have := List.pairwise_iff_getElem.1 (pix_sorted a b c) (i - 1) i (by omega) hi (by omega)
      rw [List.getElem?_eq_getElem (by omega)] at hu
      rw [List.getElem?_eq_getElem hi] at hx
      cases hu
      cases hx
      exact this
end Go.Proofs.Ytgkidgpdgcdgnaa
