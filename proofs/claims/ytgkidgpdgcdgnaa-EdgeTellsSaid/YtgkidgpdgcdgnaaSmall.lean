/- Round, and small: are spots where they may be? -/
import Derived.Test.YtgkidgpdgcdgnaaTurn
namespace Go.Proofs.Ytgkidgpdgcdgnaa
open Go.RowKit

theorem tmod_round (k n : Int) (hn : 1 ≤ n) : -n < k.tmod n ∧ k.tmod n < n ∧ (k.tmod n + n).tmod n = k % n := by
  by_cases h : 0 ≤ k
  · have e : k.tmod n = k % n := Int.tmod_eq_emod_of_nonneg h
    have hlt := Int.emod_lt_of_pos k (show 0 < n by omega)
    have hge := Int.emod_nonneg k (show n ≠ 0 by omega)
    rw [e]
    refine ⟨by omega, hlt, ?_⟩
    rw [Int.tmod_eq_emod_of_nonneg (by omega), Int.add_emod_right, Int.emod_emod]
  · have e : k.tmod n = -((-k) % n) := by
      have h1 : (-k).tmod n = (-k) % n := Int.tmod_eq_emod_of_nonneg (by omega)
      rw [← h1, Int.neg_tmod]; omega
    have hlt := Int.emod_lt_of_pos (-k) (show 0 < n by omega)
    have hge := Int.emod_nonneg (-k) (show n ≠ 0 by omega)
    have hd := Int.mul_ediv_add_emod (-k) n
    rw [e]
    refine ⟨by omega, by omega, ?_⟩
    rw [Int.tmod_eq_emod_of_nonneg (by omega), Int.add_emod_right]
    have e2 : -(-k % n) = k + n * (-k / n) := by omega
    rw [e2, Int.add_mul_emod_self_left]
theorem Round_walk (k n : Int) (hn : 1 ≤ n) (hn2 : n ≤ 1099511627776) (w : World) :
    Calls Try.prog 19 #[.int .i64 k, .int .i64 n] w fun e w' => e = .returned (.int .i64 (k % n)) ∧ w = w' := by
  obtain ⟨h2, h3, h1⟩ := tmod_round k n hn
  go_enter Try.func19, Try.ntmps19
  go_wp2
  go_ret
  exact ⟨rfl, rfl⟩

instance (a : Spot) : Decidable a.ok := by unfold Spot.ok; infer_instance
@[irreducible] def allOk (a b c : Spot) : Bool := decide (a.ok ∧ b.ok ∧ c.ok)
theorem allOk_iff (a b c : Spot) : allOk a b c = true ↔ a.ok ∧ b.ok ∧ c.ok := by unfold allOk; exact decide_eq_true_iff
set_option maxRecDepth 100000 in
theorem small_walk (a b c : Spot) (w : World) :
    Calls Try.prog 8 #[.agg (triA a b c)] w fun e w' => e = .returned (.bool (allOk a b c)) ∧ Below w.heap.size w w' := by
  have HT := Lib.hid (TriAt.new w a b c)
  have HB := Lib.hid (below_alloc w (.cells (triA a b c) 24))
  go_enter Try.func8, Try.ntmps8
  go_wp2_with fail
  generalize w.alloc (.cells (triA a b c) 24) = w1 at *
  obtain ⟨q0, q1, q6, q7, q12, q13⟩ := HT.out.x
  go_loop [3] (fun i => ∃ k : Nat, k ≤ 3 ∧ i = .int .i64 k ∧ (0 < k → a.ok) ∧ (1 < k → b.ok) ∧ (2 < k → c.ok)) (fun i => 3 - (intOf i).toNat)
  case atStart => exact ⟨0, by omega, rfl, fun h => by omega, fun h => by omega, fun h => by omega⟩
  case round =>
    obtain ⟨k, hk, rfl, hE⟩ := hrel
    have HE := Lib.hid hE
    clear hE
    have hk3 : k = 0 ∨ k = 1 ∨ k = 2 ∨ k = 3 := by omega
    rcases hk3 with rfl | rfl | rfl | rfl
    · by_cases c1 : a.x < 0
      · have hr : allOk a b c = false := by unfold allOk; exact decide_eq_false (fun h => by have := h.1; unfold Spot.ok at this; omega)
        have HR := Lib.hid hr
        clear hr
        go_wp2_with fail
        go_ret
        exact ⟨by rw [HR.out]; rfl, HB.out⟩
      by_cases c2 : 16384 < a.x
      · have hr : allOk a b c = false := by unfold allOk; exact decide_eq_false (fun h => by have := h.1; unfold Spot.ok at this; omega)
        have HR := Lib.hid hr
        clear hr
        go_wp2_with fail
        go_ret
        exact ⟨by rw [HR.out]; rfl, HB.out⟩
      by_cases c3 : a.y < 0
      · have hr : allOk a b c = false := by unfold allOk; exact decide_eq_false (fun h => by have := h.1; unfold Spot.ok at this; omega)
        have HR := Lib.hid hr
        clear hr
        go_wp2_with fail
        go_ret
        exact ⟨by rw [HR.out]; rfl, HB.out⟩
      by_cases c4 : 16384 < a.y
      · have hr : allOk a b c = false := by unfold allOk; exact decide_eq_false (fun h => by have := h.1; unfold Spot.ok at this; omega)
        have HR := Lib.hid hr
        clear hr
        go_wp2_with fail
        go_ret
        exact ⟨by rw [HR.out]; rfl, HB.out⟩
      have hok : a.ok := by unfold Spot.ok; omega
      have HOK := Lib.hid hok
      clear hok
      go_wp2_with fail
      exact ⟨⟨1, by omega, rfl, fun _ => HOK.out, fun h => by omega, fun h => by omega⟩, by simp [intOf]⟩
    · by_cases c1 : b.x < 0
      · have hr : allOk a b c = false := by unfold allOk; exact decide_eq_false (fun h => by have := h.2.1; unfold Spot.ok at this; omega)
        have HR := Lib.hid hr
        clear hr
        go_wp2_with fail
        go_ret
        exact ⟨by rw [HR.out]; rfl, HB.out⟩
      by_cases c2 : 16384 < b.x
      · have hr : allOk a b c = false := by unfold allOk; exact decide_eq_false (fun h => by have := h.2.1; unfold Spot.ok at this; omega)
        have HR := Lib.hid hr
        clear hr
        go_wp2_with fail
        go_ret
        exact ⟨by rw [HR.out]; rfl, HB.out⟩
      by_cases c3 : b.y < 0
      · have hr : allOk a b c = false := by unfold allOk; exact decide_eq_false (fun h => by have := h.2.1; unfold Spot.ok at this; omega)
        have HR := Lib.hid hr
        clear hr
        go_wp2_with fail
        go_ret
        exact ⟨by rw [HR.out]; rfl, HB.out⟩
      by_cases c4 : 16384 < b.y
      · have hr : allOk a b c = false := by unfold allOk; exact decide_eq_false (fun h => by have := h.2.1; unfold Spot.ok at this; omega)
        have HR := Lib.hid hr
        clear hr
        go_wp2_with fail
        go_ret
        exact ⟨by rw [HR.out]; rfl, HB.out⟩
      have hok : b.ok := by unfold Spot.ok; omega
      have HOK := Lib.hid hok
      clear hok
      go_wp2_with fail
      exact ⟨⟨2, by omega, rfl, fun _ => HE.out.1 (by omega), fun _ => HOK.out, fun h => by omega⟩, by simp [intOf]⟩
    · by_cases c1 : c.x < 0
      · have hr : allOk a b c = false := by unfold allOk; exact decide_eq_false (fun h => by have := h.2.2; unfold Spot.ok at this; omega)
        have HR := Lib.hid hr
        clear hr
        go_wp2_with fail
        go_ret
        exact ⟨by rw [HR.out]; rfl, HB.out⟩
      by_cases c2 : 16384 < c.x
      · have hr : allOk a b c = false := by unfold allOk; exact decide_eq_false (fun h => by have := h.2.2; unfold Spot.ok at this; omega)
        have HR := Lib.hid hr
        clear hr
        go_wp2_with fail
        go_ret
        exact ⟨by rw [HR.out]; rfl, HB.out⟩
      by_cases c3 : c.y < 0
      · have hr : allOk a b c = false := by unfold allOk; exact decide_eq_false (fun h => by have := h.2.2; unfold Spot.ok at this; omega)
        have HR := Lib.hid hr
        clear hr
        go_wp2_with fail
        go_ret
        exact ⟨by rw [HR.out]; rfl, HB.out⟩
      by_cases c4 : 16384 < c.y
      · have hr : allOk a b c = false := by unfold allOk; exact decide_eq_false (fun h => by have := h.2.2; unfold Spot.ok at this; omega)
        have HR := Lib.hid hr
        clear hr
        go_wp2_with fail
        go_ret
        exact ⟨by rw [HR.out]; rfl, HB.out⟩
      have hok : c.ok := by unfold Spot.ok; omega
      have HOK := Lib.hid hok
      clear hok
      go_wp2_with fail
      exact ⟨⟨3, by omega, rfl, fun _ => HE.out.1 (by omega), fun _ => HE.out.2.1 (by omega), fun _ => HOK.out⟩, by simp [intOf]⟩
    · have hr : allOk a b c = true := (allOk_iff a b c).2 ⟨HE.out.1 (by omega), HE.out.2.1 (by omega), HE.out.2.2 (by omega)⟩
      have HR := Lib.hid hr
      clear hr
      go_wp2_with fail
      go_ret
      exact ⟨by rw [HR.out]; rfl, HB.out⟩
end Go.Proofs.Ytgkidgpdgcdgnaa
