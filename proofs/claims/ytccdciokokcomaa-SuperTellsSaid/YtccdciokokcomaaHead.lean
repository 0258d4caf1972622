/- Heads of disks, plainly: a block's bytes, what is read of bytes, and which bits may be turned. -/
import Derived.Test.YtccdciokokcomaaThreeP
namespace Go.Proofs.Ytccdciokokcomaa

structure Blk where
  gen : Int
  d : Int
  wrap : Bool
  start : Int
  len : Int
  sum : Nat
def blk0 : Blk := ⟨0, 0, false, 0, 0, 0⟩
/-- a number's bytes, the high one first -/
def be (size n : Nat) : List Nat := (List.range size).map fun j => n / 256 ^ (size - 1 - j) % 256
/-- the number of bytes -/
def val (l : List Nat) : Nat := l.foldl (fun n c => n * 256 + c) 0
theorem be_length (s n : Nat) : (be s n).length = s := by simp [be]
theorem be_byte (s n : Nat) : ∀ x ∈ be s n, x < 256 := fun x hx => by
  simp only [be, List.mem_map] at hx
  obtain ⟨j, _, rfl⟩ := hx
  omega
theorem be_take_succ (s n k : Nat) (h : k < s) : (be s n).take (k + 1) = (be s n).take k ++ [n / 256 ^ (s - 1 - k) % 256] := by
  rw [List.take_succ_eq_append_getElem (by rw [be_length]; exact h)]
  simp [be]
theorem be4 (n : Nat) : be 4 n = [n / 16777216 % 256, n / 65536 % 256, n / 256 % 256, n % 256] := by
  simp [be, List.range_succ]
theorem be2 (n : Nat) : be 2 n = [n / 256 % 256, n % 256] := by
  simp [be, List.range_succ]
theorem val4 (a b c d : Nat) : val [a, b, c, d] = ((a * 256 + b) * 256 + c) * 256 + d := by simp [val]
theorem val2 (a b : Nat) : val [a, b] = a * 256 + b := by simp [val]
theorem val_be4 (n : Nat) (h : n < 4294967296) : val (be 4 n) = n := by rw [be4, val4]; omega
theorem val_be2 (n : Nat) (h : n < 65536) : val (be 2 n) = n := by rw [be2, val2]; omega
theorem val_le (l : List Nat) (hl : ∀ x ∈ l, x < 256) : val l < 256 ^ l.length := by
  have h : ∀ (l : List Nat) (n : Nat), (∀ x ∈ l, x < 256) → l.foldl (fun n c => n * 256 + c) n < (n + 1) * 256 ^ l.length := by
    intro l
    induction l with
    | nil => intro n _; simp
    | cons c l ih =>
      intro n hl
      have h1 := ih (n * 256 + c) (fun x hx => hl x (by simp [hx]))
      have h2 := hl c (by simp)
      rw [List.foldl_cons, List.length_cons, Nat.pow_succ, Nat.mul_comm (256 ^ l.length) 256, ← Nat.mul_assoc]
      exact Nat.lt_of_lt_of_le h1 (Nat.mul_le_mul_right _ (by omega))
  simpa [val] using h l 0 hl
theorem val_take_succ (l : List Nat) (k : Nat) (h : k < l.length) : val (l.take (k + 1)) = val (l.take k) * 256 + l.getD k 0 := by
  rw [take_succ' l k h]; simp [val]

/-- may a block have bytes? -/
def okB (x : Blk) : Bool := decide ((0 ≤ x.gen ∧ x.gen ≤ 4294967295) ∧ (0 ≤ x.d ∧ x.d ≤ 3) ∧ (0 ≤ x.start ∧ x.start ≤ 65535) ∧ 0 ≤ x.len ∧ x.len ≤ 65535)
theorem okB_iff (x : Blk) : okB x = true ↔ (0 ≤ x.gen ∧ x.gen ≤ 4294967295) ∧ (0 ≤ x.d ∧ x.d ≤ 3) ∧ (0 ≤ x.start ∧ x.start ≤ 65535) ∧ 0 ≤ x.len ∧ x.len ≤ 65535 := by
  unfold okB; simp
def h1 (x : Blk) : List Nat := [87, 65, 73, 78] ++ be 4 x.gen.toNat
def h2 (x : Blk) : List Nat := h1 x ++ [x.d.toNat, if x.wrap then 1 else 0]
def h3 (x : Blk) : List Nat := h2 x ++ be 2 x.start.toNat
def h4 (x : Blk) : List Nat := h3 x ++ be 2 x.len.toNat
def h5 (x : Blk) : List Nat := h4 x ++ be 4 x.sum
/-- the bytes that are summed -/
def head (x : Blk) : List Nat := h5 x ++ List.replicate 10 0
/-- a block's bytes -/
def enc (x : Blk) : List Nat := head x ++ be 4 (crcOn 0 (head x))
theorem h1_length (x : Blk) : (h1 x).length = 8 := by simp [h1, be_length]
theorem h2_length (x : Blk) : (h2 x).length = 10 := by simp [h2, h1_length]
theorem h3_length (x : Blk) : (h3 x).length = 12 := by simp [h3, h2_length, be_length]
theorem h4_length (x : Blk) : (h4 x).length = 14 := by simp [h4, h3_length, be_length]
theorem h5_length (x : Blk) : (h5 x).length = 18 := by simp [h5, h4_length, be_length]
theorem head_length (x : Blk) : (head x).length = 28 := by simp [head, h5_length]
theorem enc_length (x : Blk) : (enc x).length = 32 := by simp [enc, head_length, be_length]
theorem app_byte {a b : List Nat} (ha : ∀ x ∈ a, x < 256) (hb : ∀ x ∈ b, x < 256) : ∀ x ∈ a ++ b, x < 256 := fun x hx => by
  rcases List.mem_append.1 hx with h | h
  · exact ha x h
  · exact hb x h
theorem h1_byte (x : Blk) : ∀ c ∈ h1 x, c < 256 := app_byte (by simp) (be_byte _ _)
theorem h2_byte (x : Blk) (hx : okB x = true) : ∀ c ∈ h2 x, c < 256 := app_byte (h1_byte x) (by
  have := (okB_iff x).1 hx
  cases x.wrap <;> simp <;> omega)
theorem h3_byte (x : Blk) (hx : okB x = true) : ∀ c ∈ h3 x, c < 256 := app_byte (h2_byte x hx) (be_byte _ _)
theorem h4_byte (x : Blk) (hx : okB x = true) : ∀ c ∈ h4 x, c < 256 := app_byte (h3_byte x hx) (be_byte _ _)
theorem h5_byte (x : Blk) (hx : okB x = true) : ∀ c ∈ h5 x, c < 256 := app_byte (h4_byte x hx) (be_byte _ _)
theorem head_byte (x : Blk) (hx : okB x = true) : ∀ c ∈ head x, c < 256 := app_byte (h5_byte x hx) (by simp)
theorem enc_byte (x : Blk) (hx : okB x = true) : ∀ c ∈ enc x, c < 256 := app_byte (head_byte x hx) (be_byte _ _)

/-- what is read of 32 bytes -/
def read (l : List Nat) : Blk := ⟨val ((l.take 8).drop 4), l.getD 8 0, l.getD 9 0 == 1, val ((l.take 12).drop 10), val ((l.take 14).drop 12), val ((l.take 18).drop 14)⟩
def decOk (l : List Nat) : Bool := decide (l.length = 32) && okB (read l) && decide (enc (read l) = l)
def dec (l : List Nat) : Blk := if decOk l then read l else blk0
theorem crc_lt (l : List Nat) (hl : ∀ x ∈ l, x < 256) : crcOn 0 l < 4294967296 := crcOn_lt 0 l (by omega) hl
theorem read_enc (x : Blk) (hx : okB x = true) (hs : x.sum < 4294967296) : read (enc x) = x := by
  obtain ⟨hg, hd, hst, hl⟩ := (okB_iff x).1 hx
  have e : enc x = [87, 65, 73, 78] ++ (be 4 x.gen.toNat ++ ([x.d.toNat, if x.wrap then 1 else 0] ++ (be 2 x.start.toNat ++ (be 2 x.len.toNat ++ (be 4 x.sum ++ (List.replicate 10 0 ++ be 4 (crcOn 0 (head x)))))))) := by
    simp only [enc, head, h5, h4, h3, h2, h1, List.append_assoc]
  have v1 := val_be4 x.gen.toNat (by omega)
  have v2 := val_be2 x.start.toNat (by omega)
  have v3 := val_be2 x.len.toNat (by omega)
  have v4 := val_be4 x.sum hs
  unfold read
  rw [e]
  generalize be 4 (crcOn 0 (head x)) = z
  obtain ⟨gen, d, wrap, start, len, sum⟩ := x
  simp only at *
  rw [be4] at v1 v4
  rw [be2] at v2 v3
  simp only [be4, be2, List.cons_append, List.nil_append, List.take_succ_cons, List.take_zero, List.drop_succ_cons, List.drop_zero, List.getD_cons_succ, List.getD_cons_zero, v1, v2, v3, v4]
  cases wrap <;> simp <;> omega
theorem decOk_enc (x : Blk) (hx : okB x = true) (hs : x.sum < 4294967296) : decOk (enc x) = true := by
  unfold decOk
  rw [read_enc x hx hs, hx]
  simp [enc_length]

/-- what is left of a row of 32 bytes that ought to be nought -/
def syn (l : List Nat) : Nat := crcOn 0 (l.take 28) ^^^ val (l.drop 28)
theorem syn_enc (x : Blk) (hx : okB x = true) : syn (enc x) = 0 := by
  unfold syn enc
  rw [List.take_left' (head_length x), List.drop_left' (head_length x), val_be4 _ (crc_lt _ (head_byte x hx)), Nat.xor_self]
theorem mul_xor (n p c q : Nat) (hc : c < 256) (hq : q < 256) : (n * 256 + c) ^^^ (p * 256 + q) = (n ^^^ p) * 256 + (c ^^^ q) := by
  have hx := xor_lt8 hc hq
  have t : ∀ (n c : Nat), c < 256 → ∀ i, (n * 256 + c).testBit i = if i < 8 then c.testBit i else n.testBit (i - 8) := fun n c hc i => by
    have := Nat.testBit_two_pow_mul_add (i := 8) n (b := c) (by omega) i
    rw [show n * 256 + c = 2 ^ 8 * n + c by omega]
    exact this
  apply Nat.eq_of_testBit_eq
  intro i
  rw [Nat.testBit_xor, t n c hc, t p q hq, t _ _ hx]
  by_cases h : i < 8 <;> simp [h, Nat.testBit_xor]
theorem val_xor : ∀ (a b : List Nat), a.length = b.length → (∀ x ∈ a, x < 256) → (∀ x ∈ b, x < 256) → val (xorL a b) = val a ^^^ val b := by
  have h : ∀ (a b : List Nat) (n p : Nat), a.length = b.length → (∀ x ∈ a, x < 256) → (∀ x ∈ b, x < 256) →
      (xorL a b).foldl (fun n c => n * 256 + c) (n ^^^ p) = a.foldl (fun n c => n * 256 + c) n ^^^ b.foldl (fun n c => n * 256 + c) p := by
    intro a
    induction a with
    | nil => intro b n p hl _ _; cases b with
      | nil => rfl
      | cons => simp at hl
    | cons x a ih =>
      intro b n p hl ha hb
      cases b with
      | nil => simp at hl
      | cons y b =>
        have := ih b (n * 256 + x) (p * 256 + y) (by simpa using hl) (fun x hx => ha x (by simp [hx])) (fun x hx => hb x (by simp [hx]))
        rw [mul_xor n p x y (ha x (by simp)) (hb y (by simp))] at this
        simpa [xorL] using this
  intro a b hl ha hb
  have := h a b 0 0 hl ha hb
  simpa [val] using this
theorem unit_byte (n i : Nat) : ∀ x ∈ unit n i, x < 256 := fun x hx => by
  rcases List.mem_or_eq_of_mem_set hx with h | h
  · rw [List.mem_replicate] at h; omega
  · subst h
    have : 2 ^ (i % 8) ≤ 2 ^ 7 := Nat.pow_le_pow_right (by omega) (by omega)
    omega
theorem val_unit : ∀ m, m < 32 → val (unit 4 m) = 2 ^ (8 * (3 - m / 8) + m % 8) := by decide
theorem back_pow : ∀ t, t < 32 → bitSteps 32 (2 ^ t) = pw (32 - t) := by decide
/-- what one turned bit adds -/
def wt (i : Nat) : Nat := if i < 224 then pw (224 - i) else 2 ^ (8 * (3 - (i - 224) / 8) + (i - 224) % 8)
def wx (i : Nat) : Nat := if i < 224 then 256 - i else 32 - (8 * (3 - (i - 224) / 8) + (i - 224) % 8)
theorem wx_le (i : Nat) (h : i < 256) : 1 ≤ wx i ∧ wx i ≤ 256 := by unfold wx; split <;> omega
theorem wt_wx (i : Nat) (h : i < 256) : bitSteps 32 (wt i) = pw (wx i) := by
  unfold wt wx
  by_cases hi : i < 224
  · rw [if_pos hi, if_pos hi, ← pw_add]; congr 1; omega
  · rw [if_neg hi, if_neg hi, back_pow _ (by omega)]
theorem flip_app_l (a b : List Nat) (i : Nat) (h : i < 8 * a.length) : flip (a ++ b) i = flip a i ++ b := by
  unfold flip
  rw [List.set_append_left _ _ (by omega)]
  congr 2
  rw [List.getD_eq_getElem?_getD, List.getD_eq_getElem?_getD, List.getElem?_append_left (by omega)]
theorem flip_app_r (a b : List Nat) (i : Nat) (h : 8 * a.length ≤ i) : flip (a ++ b) i = a ++ flip b (i - 8 * a.length) := by
  unfold flip
  have e1 : (i - 8 * a.length) / 8 = i / 8 - a.length := by omega
  have e2 : (i - 8 * a.length) % 8 = i % 8 := by omega
  rw [List.set_append_right _ _ (by omega), e1, e2]
  congr 2
  rw [List.getD_eq_getElem?_getD, List.getD_eq_getElem?_getD, List.getElem?_append_right (by omega)]
theorem syn_flip (l : List Nat) (i : Nat) (hl : l.length = 32) (hb : ∀ x ∈ l, x < 256) (hi : i < 256) : syn (flip l i) = syn l ^^^ wt i := by
  obtain ⟨a, b, rfl, ha, hb4⟩ : ∃ a b, l = a ++ b ∧ a.length = 28 ∧ b.length = 4 := ⟨l.take 28, l.drop 28, (List.take_append_drop 28 l).symm, by simp; omega, by simp; omega⟩
  unfold syn
  have hbb : ∀ x ∈ b, x < 256 := fun x hx => hb x (by simp [hx])
  by_cases h : i < 224
  · rw [flip_app_l a b i (by omega), List.take_left' (by rw [flip_length]; exact ha), List.drop_left' (by rw [flip_length]; exact ha), List.take_left' ha, List.drop_left' ha, on_flip a i (by omega), ha]
    unfold wt
    rw [if_pos h, Nat.xor_assoc, Nat.xor_comm (pw _), Nat.xor_assoc]
  · rw [flip_app_r a b i (by omega), List.take_left' ha, List.drop_left' ha, List.take_left' ha, List.drop_left' ha, flip_xor, val_xor _ _ (by simp [unit]) hbb (unit_byte _ _), hb4, ha, val_unit _ (by omega)]
    unfold wt
    rw [if_neg h, Nat.xor_assoc]
theorem bits_zero (n : Nat) : bitSteps n 0 = 0 := by
  induction n with
  | zero => rfl
  | succ n ih => rw [bitSteps]; exact ih
/-- with three bits turned it is none (two of them may be one) -/
theorem turned_none (x : Blk) (hx : okB x = true) (i j k : Nat) (hi : i < 256) (hj : j < 256) (hk : k < 256) : decOk (flip (flip (flip (enc x) i) j) k) = false := by
  have hb := enc_byte x hx
  have hl := enc_length x
  cases h : decOk (flip (flip (flip (enc x) i) j) k) with
  | false => rfl
  | true =>
    exfalso
    unfold decOk at h
    simp only [Bool.and_eq_true, decide_eq_true_eq] at h
    obtain ⟨⟨_, hy⟩, he⟩ := h
    have hs := syn_enc _ hy
    have b1 := flip_byte _ i hb
    have b2 := flip_byte _ j b1
    rw [he, syn_flip _ k (by rw [flip_length, flip_length, hl]) b2 hk, syn_flip _ j (by rw [flip_length, hl]) b1 hj, syn_flip _ i hl hb hi, syn_enc x hx, Nat.zero_xor] at hs
    have h2 := congrArg (bitSteps 32) hs
    rw [bitSteps_xor, bitSteps_xor, wt_wx i hi, wt_wx j hj, wt_wx k hk, bits_zero] at h2
    have w1 := wx_le i hi
    have w2 := wx_le j hj
    have w3 := wx_le k hk
    exact three_ne (wx i) (wx j) (wx k) (by omega) (by omega) (by omega) (by omega) (by omega) (by omega) h2
theorem flips_ne (x : Blk) (hx : okB x = true) (hs : x.sum < 4294967296) (i j k : Nat) (hi : i < 256) (hj : j < 256) (hk : k < 256) : flip (flip (flip (enc x) i) j) k ≠ enc x := fun h => by
  have h1 := turned_none x hx i j k hi hj hk
  rw [h, decOk_enc x hx hs] at h1
  cases h1
/-- which one is the newer one -/
def newer (a b : Blk) (p q : Bool) : Int := if p && (!q || decide (b.gen ≤ a.gen)) then 0 else if q then 1 else -1
end Go.Proofs.Ytccdciokokcomaa
