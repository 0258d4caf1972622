/- One, two or three turned bits turn the sum: plainly. -/
import Derived.Test.YtccdciokokcomaaDist
namespace Go.Proofs.Ytccdciokokcomaa

theorem xor_zero_eq {a b : Nat} (h : a ^^^ b = 0) : a = b := by
  have := xor_twice a b
  rw [h, Nat.xor_zero] at this
  exact this
theorem bitSteps_add (i k : Nat) : ∀ c, bitSteps (i + k) c = bitSteps i (bitSteps k c) := by
  induction k with
  | zero => intro c; rfl
  | succ k ih => intro c; rw [← Nat.add_assoc]; exact ih _
theorem bitStep_ne (x : Nat) (hx : x < 4294967296) (h : x ≠ 0) : bitStep x ≠ 0 := by
  unfold bitStep
  split
  · intro e
    have := xor_zero_eq e
    omega
  · omega
theorem bitSteps_ne (n : Nat) : ∀ x, x < 4294967296 → x ≠ 0 → bitSteps n x ≠ 0 := by
  induction n with
  | zero => intro x _ h; exact h
  | succ n ih => intro x hx h; exact ih _ (bitStep_lt x hx) (bitStep_ne x hx h)
theorem pw_lt (k : Nat) : pw k < 4294967296 := bitSteps_lt k 1 (by omega)
theorem pw_ne (k : Nat) : pw k ≠ 0 := bitSteps_ne k 1 (by omega) (by omega)
theorem pw_add (i k : Nat) : pw (i + k) = bitSteps i (pw k) := bitSteps_add i k 1
theorem inner_ne (j k : Nat) (_hj : 0 < j) (hjk : j < k) (hk : k < 16000) : 1 ^^^ pw j ^^^ pw k ≠ 0 := by
  intro h
  have h2 : (1 ^^^ pw j ^^^ pw k) / 2 = 0 := by rw [h]
  rw [xor_div2, xor_div2] at h2
  have h3 : (1 : Nat) / 2 = 0 := rfl
  rw [h3, Nat.zero_xor] at h2
  exact pw_unlike j k hjk hk (xor_zero_eq h2)
theorem three_sorted (a b c : Nat) (hab : a < b) (hbc : b < c) (hc : c < a + 16000) : pw a ^^^ pw b ^^^ pw c ≠ 0 := by
  have hi := inner_ne (b - a) (c - a) (by omega) (by omega) (by omega)
  have e1 : pw a = bitSteps a 1 := rfl
  have e2 : pw b = bitSteps a (pw (b - a)) := by rw [← pw_add]; congr 1; omega
  have e3 : pw c = bitSteps a (pw (c - a)) := by rw [← pw_add]; congr 1; omega
  rw [e1, e2, e3, ← bitSteps_xor, ← bitSteps_xor]
  exact bitSteps_ne a _ (xor_lt32 (xor_lt32 (by omega) (pw_lt _)) (pw_lt _)) hi
theorem xor_swap (a b c : Nat) : a ^^^ b ^^^ c = b ^^^ a ^^^ c := by rw [Nat.xor_comm a b]
theorem three_ne (a b c : Nat) (ha : 1 ≤ a) (hb : 1 ≤ b) (hc : 1 ≤ c) (ha' : a ≤ 16000) (hb' : b ≤ 16000) (hc' : c ≤ 16000) : pw a ^^^ pw b ^^^ pw c ≠ 0 := by
  by_cases h1 : a = b
  · subst h1; rw [Nat.xor_self, Nat.zero_xor]; exact pw_ne c
  by_cases h2 : b = c
  · subst h2; rw [Nat.xor_assoc, Nat.xor_self, Nat.xor_zero]; exact pw_ne a
  by_cases h3 : a = c
  · subst h3; rw [xor_right_comm, Nat.xor_self, Nat.zero_xor]; exact pw_ne b
  rcases Nat.lt_or_gt_of_ne h1 with x | x <;> rcases Nat.lt_or_gt_of_ne h2 with y | y <;> rcases Nat.lt_or_gt_of_ne h3 with z | z
  · exact three_sorted a b c x y (by omega)
  · omega
  · rw [xor_right_comm]; exact three_sorted a c b z y (by omega)
  · rw [xor_right_comm, xor_swap]; exact three_sorted c a b z x (by omega)
  · rw [xor_swap]; exact three_sorted b a c x z (by omega)
  · rw [xor_swap, xor_right_comm]; exact three_sorted b c a y z (by omega)
  · omega
  · rw [xor_right_comm, xor_swap, xor_right_comm]; exact three_sorted c b a y x (by omega)

/-- a row with one bit turned -/
def flip (l : List Nat) (i : Nat) : List Nat := l.set (i / 8) (l.getD (i / 8) 0 ^^^ 2 ^ (i % 8))
def unit (n i : Nat) : List Nat := (List.replicate n 0).set (i / 8) (2 ^ (i % 8))
theorem flip_length (l : List Nat) (i : Nat) : (flip l i).length = l.length := by simp [flip]
theorem flip_xor : ∀ (l : List Nat) (i : Nat), flip l i = xorL l (unit l.length i) := by
  intro l i
  apply List.ext_getElem
  · rw [flip_length, xorL_length _ _ (by simp [unit])]
  · intro j h1 h2
    rw [flip_length] at h1
    simp only [flip, xorL, unit, List.getElem_zipWith, List.getElem_set, List.getElem_replicate]
    by_cases h : i / 8 = j
    · subst h
      simp [List.getD_eq_getElem?_getD, h1]
    · simp [h]
theorem flip_byte (l : List Nat) (i : Nat) (hl : ∀ x ∈ l, x < 256) : ∀ x ∈ flip l i, x < 256 := by
  intro x hx
  rcases List.mem_or_eq_of_mem_set hx with h | h
  · exact hl x h
  · subst h
    have h1 : l.getD (i / 8) 0 < 256 := by
      rw [List.getD_eq_getElem?_getD]
      cases h' : l[i / 8]? with
      | none => simp
      | some y => simp; exact hl y (List.mem_of_getElem? h')
    have h2 : 2 ^ (i % 8) < 256 := by
      have : 2 ^ (i % 8) ≤ 2 ^ 7 := Nat.pow_le_pow_right (by omega) (by omega)
      omega
    exact xor_lt8 h1 h2
theorem raw_zeros (n : Nat) : ∀ s, crcRaw s (List.replicate n 0) = bitSteps (8 * n) s := by
  induction n with
  | zero => intro s; rfl
  | succ n ih =>
    intro s
    have e : crcRaw s (List.replicate (n + 1) 0) = crcRaw (crcStep s 0) (List.replicate n 0) := rfl
    rw [e, ih, step_same_ref, refStep, Nat.xor_zero, ← bitSteps_add]
    congr 1
theorem raw_unit (n : Nat) : ∀ i, i < 8 * n → crcRaw 0 (unit n i) = pw (8 * n - i) := by
  induction n with
  | zero => intro i h; omega
  | succ n ih =>
    intro i h
    by_cases hi : i < 8
    · have e : unit (n + 1) i = 2 ^ i :: List.replicate n 0 := by
        unfold unit
        rw [show i / 8 = 0 by omega, show i % 8 = i by omega]; rfl
      have e2 : crcRaw 0 (unit (n + 1) i) = crcRaw (crcStep 0 (2 ^ i)) (List.replicate n 0) := by rw [e]; rfl
      rw [e2, raw_zeros, step_same_ref, refStep, Nat.zero_xor]
      have e3 : bitSteps i (2 ^ i) = 1 := by have := bitSteps_pow i 1; rwa [Nat.mul_one] at this
      have e4 : bitSteps 8 (2 ^ i) = bitSteps (8 - i) 1 := by
        rw [show (8 : Nat) = (8 - i) + i by omega, bitSteps_add, e3]; congr 1; omega
      rw [e4, ← bitSteps_add]
      unfold pw; congr 1; omega
    · have e : unit (n + 1) i = 0 :: unit n (i - 8) := by
        unfold unit
        rw [show i / 8 = (i - 8) / 8 + 1 by omega, show (i - 8) % 8 = i % 8 by omega]; rfl
      have e2 : crcRaw 0 (unit (n + 1) i) = crcRaw (crcStep 0 0) (unit n (i - 8)) := by rw [e]; rfl
      have e3 : crcStep 0 0 = 0 := by decide
      rw [e2, e3, ih _ (by omega)]
      congr 1; omega
theorem on_flip (l : List Nat) (i : Nat) (hi : i < 8 * l.length) : crcOn 0 (flip l i) = crcOn 0 l ^^^ pw (8 * l.length - i) := by
  unfold crcOn
  have h := raw_xor l (unit l.length i) (by simp [unit]) 4294967295 0
  simp only [Nat.xor_zero] at h ⊢
  rw [flip_xor, h, raw_unit _ i hi, Nat.xor_assoc]
theorem on_three (l : List Nat) (i j k : Nat) (hn : l.length ≤ 2000) (hi : i < 8 * l.length) (hj : j < 8 * l.length) (hk : k < 8 * l.length) : crcOn 0 (flip (flip (flip l i) j) k) ≠ crcOn 0 l := by
  have l1 := flip_length l i
  have l2 := flip_length (flip l i) j
  rw [on_flip _ k (by omega), on_flip _ j (by omega), on_flip _ i hi, l2, l1]
  intro h
  have h2 := three_ne (8 * l.length - i) (8 * l.length - j) (8 * l.length - k) (by omega) (by omega) (by omega) (by omega) (by omega) (by omega)
  apply h2
  generalize pw (8 * l.length - i) = A at *
  generalize pw (8 * l.length - j) = B at *
  generalize pw (8 * l.length - k) = C at *
  generalize crcOn 0 l = X at *
  have h3 : X ^^^ (X ^^^ A ^^^ B ^^^ C) = 0 := by rw [h, Nat.xor_self]
  rw [← Nat.xor_assoc, ← Nat.xor_assoc, ← Nat.xor_assoc, Nat.xor_self, Nat.zero_xor] at h3
  exact h3

/-! which bits are turned -/
def mlook (es : List (Int × Bool)) (k : Int) : Bool := match es with
  | [] => false
  | (k', v) :: r => if k = k' then v else mlook r k
def mset (es : List (Int × Bool)) (k : Int) (v : Bool) : List (Int × Bool) := match es with
  | [] => [(k, v)]
  | (k', v') :: r => if k = k' then (k, v) :: r else (k', v') :: mset r k v
def toggle (es : List (Int × Bool)) (k : Int) : List (Int × Bool) := mset es k (!mlook es k)
theorem three_toggles (x y z : Int) : (toggle (toggle (toggle [] x) y) z).all (fun p => !p.2) = false := by
  by_cases h1 : y = x
  · subst h1
    by_cases h2 : z = y
    · subst h2; simp [toggle, mset, mlook]
    · simp [toggle, mset, mlook, h2]
  · by_cases h2 : z = x
    · subst h2; simp [toggle, mset, mlook, h1]
    · by_cases h3 : z = y
      · subst h3; simp [toggle, mset, mlook, h1]
      · simp [toggle, mset, mlook, h1, h2, h3]
theorem mset_length (es : List (Int × Bool)) (k : Int) (v : Bool) : (mset es k v).length ≤ es.length + 1 := by
  induction es with
  | nil => simp [mset]
  | cons p r ih => obtain ⟨k', v'⟩ := p; unfold mset; split <;> simp; exact ih
end Go.Proofs.Ytccdciokokcomaa
