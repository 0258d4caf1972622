/- The sums, plainly: table and bits agree; exclusive or goes through; parts go on. -/
import Derived.Test.YtccdciokokcomaaBase
namespace Go.Proofs.Ytccdciokokcomaa

theorem xor_div2 (a b : Nat) : (a ^^^ b) / 2 = (a / 2) ^^^ (b / 2) := by
  apply Nat.eq_of_testBit_eq
  intro i
  simp only [Nat.testBit_xor, Nat.testBit_div_two]
theorem xor_mod2 (a b : Nat) : (a ^^^ b) % 2 = (a % 2 + b % 2) % 2 := by
  have h := Nat.testBit_xor a b 0
  simp only [Nat.testBit_zero] at h
  have ha : a % 2 = 0 ∨ a % 2 = 1 := by omega
  have hb : b % 2 = 0 ∨ b % 2 = 1 := by omega
  have hc : (a ^^^ b) % 2 = 0 ∨ (a ^^^ b) % 2 = 1 := by omega
  rcases ha with ha | ha <;> rcases hb with hb | hb <;> rcases hc with hc | hc <;> simp [ha, hb, hc] at h ⊢

theorem xor_right_comm (a b c : Nat) : a ^^^ b ^^^ c = a ^^^ c ^^^ b := by rw [Nat.xor_assoc, Nat.xor_comm b c, Nat.xor_assoc]

theorem bitStep_xor (a b : Nat) : bitStep (a ^^^ b) = bitStep a ^^^ bitStep b := by
  unfold bitStep
  rw [xor_mod2, xor_div2]
  have ha : a % 2 = 0 ∨ a % 2 = 1 := by omega
  have hb : b % 2 = 0 ∨ b % 2 = 1 := by omega
  rcases ha with ha | ha <;> rcases hb with hb | hb <;> simp only [ha, hb]
  · simp
  · simp [Nat.xor_assoc]
  · simp only [Nat.zero_ne_one, if_true, if_false]
    rw [xor_right_comm]
  · simp only [Nat.reduceAdd, Nat.reduceMod, if_true]
    rw [if_neg (by omega)]
    rw [Nat.xor_assoc, Nat.xor_comm (3988292384) _, Nat.xor_assoc, Nat.xor_self, Nat.xor_zero]
theorem bitSteps_xor (n : Nat) : ∀ a b, bitSteps n (a ^^^ b) = bitSteps n a ^^^ bitSteps n b := by
  induction n with
  | zero => intro a b; rfl
  | succ n ih => intro a b; simp only [bitSteps, bitStep_xor, ih]
theorem bitStep_two (x : Nat) : bitStep (2 * x) = x := by
  unfold bitStep
  rw [if_neg (by omega)]; omega
theorem bitSteps_pow (n : Nat) : ∀ x, bitSteps n (2 ^ n * x) = x := by
  induction n with
  | zero => intro x; simp [bitSteps]
  | succ n ih =>
    intro x
    rw [bitSteps, show 2 ^ (n + 1) * x = 2 * (2 ^ n * x) by rw [Nat.pow_succ]; rw [Nat.mul_comm (2 ^ n) 2, Nat.mul_assoc], bitStep_two, ih]
theorem split_low (s c : Nat) : s ^^^ c = ((s % 256) ^^^ c) ^^^ (256 * (s / 256)) := by
  have h : s = (s % 256) ^^^ (256 * (s / 256)) := by
    apply Nat.eq_of_testBit_eq
    intro i
    rw [Nat.testBit_xor, show (256 : Nat) = 2 ^ 8 from rfl, Nat.testBit_mod_two_pow, Nat.testBit_two_pow_mul, Nat.testBit_div_two_pow]
    by_cases hi : i < 8
    · simp [hi, show ¬ 8 ≤ i by omega]
    · simp [hi, show 8 ≤ i by omega]
  conv => lhs; rw [h]
  rw [xor_right_comm]
theorem step_same_ref (s c : Nat) : crcStep s c = refStep s c := by
  unfold refStep crcStep tab
  conv => rhs; rw [split_low s c, bitSteps_xor, show 256 * (s / 256) = 2 ^ 8 * (s / 256) from rfl, bitSteps_pow]
theorem raw_same_ref (l : List Nat) : ∀ s, crcRaw s l = refRaw s l := by
  induction l with
  | nil => intro s; rfl
  | cons c l ih => intro s; simp only [crcRaw, refRaw, List.foldl_cons, step_same_ref]; exact ih _
theorem on_same_ref (s : Nat) (l : List Nat) : crcOn s l = refOn s l := by unfold crcOn refOn; rw [raw_same_ref]
theorem xor_twice (m x : Nat) : m ^^^ (m ^^^ x) = x := by rw [← Nat.xor_assoc, Nat.xor_self, Nat.zero_xor]
theorem on_parts (s : Nat) (l1 l2 : List Nat) : crcOn (crcOn s l1) l2 = crcOn s (l1 ++ l2) := by
  unfold crcOn
  rw [xor_twice]
  simp [crcRaw]
theorem crcStep_xor (s t a b : Nat) : crcStep (s ^^^ t) (a ^^^ b) = crcStep s a ^^^ crcStep t b := by
  simp only [step_same_ref, refStep]
  rw [show s ^^^ t ^^^ (a ^^^ b) = (s ^^^ a) ^^^ (t ^^^ b) by
    rw [Nat.xor_assoc, Nat.xor_assoc]; congr 1; rw [← Nat.xor_assoc, Nat.xor_comm t a, Nat.xor_assoc], bitSteps_xor]
def xorL (a b : List Nat) : List Nat := List.zipWith (· ^^^ ·) a b
theorem raw_xor : ∀ (a b : List Nat), a.length = b.length → ∀ s t, crcRaw (s ^^^ t) (xorL a b) = crcRaw s a ^^^ crcRaw t b
  | [], [], _, s, t => rfl
  | x :: a, y :: b, h, s, t => by
    have := raw_xor a b (by simpa using h) (crcStep s x) (crcStep t y)
    simp only [xorL, List.zipWith_cons_cons, crcRaw, List.foldl_cons, crcStep_xor] at this ⊢
    exact this
  | [], _ :: _, h, _, _ => by simp at h
  | _ :: _, [], h, _, _ => by simp at h
theorem xorL_zero : ∀ (a : List Nat), xorL a (List.replicate a.length 0) = a
  | [] => rfl
  | x :: a => by
    have := xorL_zero a
    simp only [xorL, List.length_cons, List.replicate_succ, List.zipWith_cons_cons, Nat.xor_zero] at this ⊢
    rw [this]
theorem xorL_length (a b : List Nat) (h : a.length = b.length) : (xorL a b).length = a.length := by simp [xorL, h]
/-- three rows as long as each other -/
theorem of_sums (a b : List Nat) (h : a.length = b.length) : crcOn 0 (xorL a b) = crcOn 0 a ^^^ crcOn 0 b ^^^ crcOn 0 (List.replicate a.length 0) := by
  unfold crcOn
  simp only [Nat.xor_zero]
  have hl := xorL_length a b h
  have e1 : xorL (xorL a b) (List.replicate a.length 0) = xorL a b := by rw [← hl]; exact xorL_zero _
  have h0 := raw_xor a b h 4294967295 4294967295
  rw [Nat.xor_self] at h0
  have h1 := raw_xor (xorL a b) (List.replicate a.length 0) (by rw [hl]; simp) 0 4294967295
  rw [e1, h0, Nat.zero_xor] at h1
  rw [h1]
  generalize crcRaw 4294967295 a = A
  generalize crcRaw 4294967295 b = B
  generalize crcRaw 4294967295 (List.replicate a.length 0) = Z
  apply Nat.eq_of_testBit_eq
  intro i
  simp only [Nat.testBit_xor]
  cases (4294967295 : Nat).testBit i <;> cases A.testBit i <;> cases B.testBit i <;> cases Z.testBit i <;> rfl
/-- each place of the table is the exclusive or of those of its bits -/
def tabBits (k : Nat) : Nat → Nat
  | 0 => 0
  | i + 1 => if (k / 2 ^ i) % 2 = 1 then tabBits k i ^^^ tab (2 ^ i) else tabBits k i
theorem tab_bits : ∀ k, k < 256 → tabBits k 8 = tab k := by decide +kernel
end Go.Proofs.Ytccdciokokcomaa
