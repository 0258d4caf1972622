/- A number's bytes and the number of bytes: the program's and the reference's. -/
import Derived.Test.YtccdciokokcomaaRow
namespace Go.Proofs.Ytccdciokokcomaa
open Go.RowKit

theorem be_snoc (s n k : Nat) (h : k < s) (B : Nat) (w : World) (v : Value) (hv : Own w B v ((be s n).take k ++ [n / 256 ^ (s - 1 - k) % 256])) : Own w B v ((be s n).take (k + 1)) := by
  rw [be_take_succ s n k h]; exact hv
theorem byte_at (n j : Nat) : (n : Int) / 2 ^ (8 * j) % 256 = ((n / 256 ^ j % 256 : Nat) : Int) := by
  have h3 : (2 : Nat) ^ (8 * j) = 256 ^ j := Nat.pow_mul 2 8 j
  rw [← h3]
  simp
/-- a row of bytes that has been made -/
def Made (w : World) (l : List Nat) (e : Ending) (w' : World) : Prop := ∃ v, e = .returned v ∧ Own w' w.heap.size v l ∧ Below w.heap.size w w'

set_option maxRecDepth 100000 in
theorem number_walk (n s : Nat) (hs : s = 2 ∨ s = 4) (w : World) :
    Calls Try.prog 20 #[.int .i64 (n : Int), .int .i64 (s : Int)] w fun e w' => Made w (be s n) e w' := by
  have hs4 : (s : Int) ≤ 4 := by omega
  have hs2 : 2 ≤ (s : Int) := by omega
  go_enter Try.func20, Try.ntmps20
  go_wp2_with fail
  go_loopw [4, 5] (fun v i wr => ∃ (k : Nat) (u : Value), k ≤ s ∧ i = .int .i64 ((s : Int) - 1 - (k : Int)) ∧ u = v ∧ Own wr w.heap.size u ((be s n).take k) ∧ Below w.heap.size w wr) (fun _ i _ => (intOf i + 1).toNat)
  case atStart => exact ⟨0, _, by omega, by simp, rfl, Own.nil _ _, Below.refl _ _⟩
  case round =>
    obtain ⟨k, v, hk, rfl, rfl, hv, hb⟩ := hrel
    by_cases hlt : k < s
    · have hle : (k : Int) ≤ (s : Int) - 1 := by omega
      have hsz := hb.size
      have hc : (n : Int) / 2 ^ (8 * (s - 1 - k)) % 256 = ((n / 256 ^ (s - 1 - k) % 256 : Nat) : Int) := byte_at n (s - 1 - k)
      obtain ⟨c, hc0⟩ : ∃ c, c = n / 256 ^ (s - 1 - k) % 256 := ⟨_, rfl⟩
      have hcl : c < 256 := by omega
      have HO := Lib.hid (fun (v' : Value) (w' : World) (h : Own w' w.heap.size v' ((be s n).take k ++ [c])) => be_snoc s n k hlt w.heap.size w' v' (hc0 ▸ h))
      rw [← hc0] at hc
      have HV := Lib.hid (And.intro hv hb)
      have HC := Lib.hid hc
      have hlen : ((be s n).take k).length ≤ 100 := by rw [List.length_take, be_length]; omega
      clear hv hb hc hc0
      go_wp2_with (at_builtin; (refine arm_append1 rfl (.tmp 12) (.tmp 18) rfl w.heap.size v ((be s n).take k) _ c HC.out hcl rfl rfl HV.out.1 hlen hsz ?_))
      intro v1 w1 hv1 hb1
      have HZ := Lib.hid (And.intro (HO.out v1 w1 hv1) (HV.out.2.trans hb1))
      clear hv1 hb1 HV HO HC
      go_wp2_with fail
      go_roundw
      case rel => exact ⟨k + 1, _, by omega, by simp; omega, rfl, HZ.out.1, HZ.out.2⟩
      case measure =>
        simp [intOf]
        omega
    · have e : k = s := by omega
      subst e
      have ht : (be k n).take k = be k n := List.take_of_length_le (by rw [be_length]; exact Nat.le_refl _)
      rw [ht] at hv
      have HV := Lib.hid (And.intro hv hb)
      clear hv hb ht
      go_wp2_with fail
      go_ret
      exact ⟨_, rfl, HV.out.1, HV.out.2⟩

set_option maxRecDepth 100000 in
theorem big_walk (n s : Nat) (hs : s = 2 ∨ s = 4) (w : World) :
    Calls Try.prog 23 #[.int .i64 (n : Int), .int .i64 (s : Int)] w fun e w' => Made w (be s n) e w' := by
  have hs4 : (s : Int) ≤ 4 := by omega
  have hs2 : 2 ≤ (s : Int) := by omega
  go_enter Try.func23, Try.ntmps23
  go_wp2_with fail
  go_loopw [5, 6] (fun v i wr => ∃ (k : Nat) (u : Value), k ≤ s ∧ i = .int .i64 ((s : Int) - 1 - (k : Int)) ∧ u = v ∧ Own wr w.heap.size u ((be s n).take k) ∧ Below w.heap.size w wr) (fun _ i _ => (intOf i + 1).toNat)
  case atStart => exact ⟨0, _, by omega, by simp, rfl, Own.nil _ _, Below.refl _ _⟩
  case round =>
    obtain ⟨k, v, hk, rfl, rfl, hv, hb⟩ := hrel
    by_cases hlt : k < s
    · have hle : (k : Int) ≤ (s : Int) - 1 := by omega
      have hsz := hb.size
      have hc : (n : Int) / 2 ^ (8 * (s - 1 - k)) % 256 = ((n / 256 ^ (s - 1 - k) % 256 : Nat) : Int) := byte_at n (s - 1 - k)
      obtain ⟨c, hc0⟩ : ∃ c, c = n / 256 ^ (s - 1 - k) % 256 := ⟨_, rfl⟩
      have hcl : c < 256 := by omega
      have HO := Lib.hid (fun (v' : Value) (w' : World) (h : Own w' w.heap.size v' ((be s n).take k ++ [c])) => be_snoc s n k hlt w.heap.size w' v' (hc0 ▸ h))
      rw [← hc0] at hc
      have HV := Lib.hid (And.intro hv hb)
      have HC := Lib.hid hc
      have hlen : ((be s n).take k).length ≤ 100 := by rw [List.length_take, be_length]; omega
      clear hv hb hc hc0
      go_wp2_with (at_builtin; (refine arm_append1 rfl (.tmp 13) (.tmp 19) rfl w.heap.size v ((be s n).take k) _ c HC.out hcl rfl rfl HV.out.1 hlen hsz ?_))
      intro v1 w1 hv1 hb1
      have HZ := Lib.hid (And.intro (HO.out v1 w1 hv1) (HV.out.2.trans hb1))
      clear hv1 hb1 HV HO HC
      go_wp2_with fail
      go_roundw
      case rel => exact ⟨k + 1, _, by omega, by simp; omega, rfl, HZ.out.1, HZ.out.2⟩
      case measure =>
        simp [intOf]
        omega
    · have e : k = s := by omega
      subst e
      have ht : (be k n).take k = be k n := List.take_of_length_le (by rw [be_length]; exact Nat.le_refl _)
      rw [ht] at hv
      have HV := Lib.hid (And.intro hv hb)
      clear hv hb ht
      go_wp2_with fail
      go_ret
      exact ⟨_, rfl, HV.out.1, HV.out.2⟩

theorem ofInt_i64 (a : Nat) (ha : a < 18446744073709551616) : (BitVec.ofInt 64 (a : Int)).toNat = a := by
  rw [BitVec.ofInt_natCast, BitVec.toNat_ofNat]; exact Nat.mod_eq_of_lt (by omega)
theorem i64_or_nat (a b : Nat) (ha : a < 4611686018427387904) (hb : b < 4611686018427387904) : bits .or .i64 (a : Int) (b : Int) = ((a ||| b : Nat) : Int) := by
  have hx : a ||| b < 2 ^ 62 := Nat.or_lt_two_pow (by omega) (by omega)
  show IntKind.i64.wrap ((BitVec.ofInt 64 (a : Int) ||| BitVec.ofInt 64 (b : Int)).toNat : Int) = _
  rw [BitVec.toNat_or, ofInt_i64 a (by omega), ofInt_i64 b (by omega), IntWalk.i64_in _ (by omega)]
theorem or_low (n c : Nat) (hc : c < 256) : n * 256 ||| c = n * 256 + c := by
  have := Nat.two_pow_add_eq_or_of_lt (i := 8) (b := c) (by omega) n
  rw [show n * 256 = 2 ^ 8 * n by omega, this]
theorem or_step (n c : Nat) (hn : n < 16777216) (hc : c < 256) : bits .or .i64 ((n : Int) * 256) (c : Int) = ((n * 256 + c : Nat) : Int) := by
  rw [show (n : Int) * 256 = ((n * 256 : Nat) : Int) by simp, i64_or_nat _ _ (by omega) (by omega), or_low n c hc]
theorem val_small (l : List Nat) (hl : ∀ x ∈ l, x < 256) (h : l.length ≤ 3) : val l < 16777216 := by
  have h1 := val_le l hl
  have h2 : 256 ^ l.length ≤ 256 ^ 3 := Nat.pow_le_pow_right (by omega) h
  omega

set_option maxRecDepth 100000 in
theorem back_walk (A : Option Addr) (cap B : Nat) (l : List Nat) (hl : l.length ≤ 4) (w : World) (hr : Bytes w B A l) :
    Calls Try.prog 24 #[.slice A l.length cap] w fun e w' => e = .returned (.int .i64 (val l : Nat)) ∧ w = w' := by
  have hli : (l.length : Int) ≤ 4 := by omega
  go_enter Try.func24, Try.ntmps24
  go_wp2
  go_loop [2, 4, 7] (fun n _ i => ∃ k : Nat, k ≤ l.length ∧ i = .int .i64 k ∧ n = .int .i64 (val (l.take k) : Nat)) (fun _ _ i => l.length - (intOf i).toNat)
  case atStart => exact ⟨0, Nat.zero_le _, rfl, rfl⟩
  case round =>
    obtain ⟨k, hk, rfl, rfl⟩ := hrel
    by_cases hlt : k < l.length
    · obtain ⟨b, off, rfl, hbB, hck⟩ := hr.cell k hlt
      have hC := hr.lt k hlt
      have hV := val_small (l.take k) (getD_take_lt l hr.byte k) (by simp; omega)
      have hsucc := val_take_succ l k hlt
      generalize val (l.take k) = S at *
      generalize l.getD k 0 = c at *
      have hor := or_step S c hV hC
      have HSU := Lib.hid hsucc
      clear hsucc hr
      go_wp2
      go_round
      case rel => exact ⟨k + 1, by omega, by go_num, by rw [HSU.out]; simp⟩
      case measure => simp [intOf]; omega
    · have e : k = l.length := by omega
      subst e
      rw [List.take_of_length_le (Nat.le_refl _)]
      clear hr
      go_wp2
      go_ret
      exact ⟨rfl, rfl⟩

set_option maxRecDepth 100000 in
theorem num_walk (A : Option Addr) (cap B : Nat) (l : List Nat) (hl : l.length ≤ 4) (w : World) (hr : Bytes w B A l) :
    Calls Try.prog 26 #[.slice A l.length cap] w fun e w' => e = .returned (.int .i64 (val l : Nat)) ∧ w = w' := by
  have hli : (l.length : Int) ≤ 4 := by omega
  go_enter Try.func26, Try.ntmps26
  go_wp2
  go_loop [3, 4] (fun n i => ∃ k : Nat, k ≤ l.length ∧ i = .int .i64 k ∧ n = .int .i64 (val (l.take k) : Nat)) (fun _ i => l.length - (intOf i).toNat)
  case atStart => exact ⟨0, Nat.zero_le _, rfl, rfl⟩
  case round =>
    obtain ⟨k, hk, rfl, rfl⟩ := hrel
    by_cases hlt : k < l.length
    · obtain ⟨b, off, rfl, hbB, hck⟩ := hr.cell k hlt
      have hC := hr.lt k hlt
      have hV := val_small (l.take k) (getD_take_lt l hr.byte k) (by simp; omega)
      have hsucc := val_take_succ l k hlt
      generalize val (l.take k) = S at *
      generalize l.getD k 0 = c at *
      have hor := or_step S c hV hC
      have HSU := Lib.hid hsucc
      clear hsucc hr
      go_wp2
      go_round
      case rel => exact ⟨k + 1, by omega, by go_num, by rw [HSU.out]; simp⟩
      case measure => simp [intOf]; omega
    · have e : k = l.length := by omega
      subst e
      rw [List.take_of_length_le (Nat.le_refl _)]
      clear hr
      go_wp2
      go_ret
      exact ⟨rfl, rfl⟩
end Go.Proofs.Ytccdciokokcomaa
