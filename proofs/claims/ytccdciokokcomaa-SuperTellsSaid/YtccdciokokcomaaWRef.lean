/- What the reference's CrcOn and Crc come to; and Round. -/
import Derived.Test.YtccdciokokcomaaBase
namespace Go.Proofs.Ytccdciokokcomaa
open Go.RowKit

set_option maxRecDepth 100000 in
theorem CrcOn_walk (s : Nat) (hs : s < 4294967296) (A : Option Addr) (len cap B : Nat) (l : List Nat) (hl : l.length = len) (w : World) (hr : Bytes w B A l)
    (hlen : len ≤ 140737488351232) :
    Calls Try.prog 18 #[.int .u32 (s : Int), .slice A len cap] w fun e w' =>
      e = .returned (.int .u32 (refOn s l : Nat)) ∧ w = w' := by
  have hx1 := unary_xor_u32 s hs
  have hs0 : (4294967295 ^^^ s) < 4294967296 := xor_lt32 (by omega) hs
  go_enter Try.func18, Try.ntmps18
  go_wp2
  go_loop [5, 6, 7] (fun c i _ => ∃ k : Nat, k ≤ len ∧ i = .int .i64 k ∧ c = .int .u32 (refRaw (4294967295 ^^^ s) (l.take k) : Nat)) (fun _ i _ => len - (intOf i).toNat)
  case atStart => exact ⟨0, Nat.zero_le _, rfl, rfl⟩
  case round =>
    obtain ⟨k, hk, rfl, rfl⟩ := hrel
    clear hx1
    have hS := refRaw_lt (l.take k) (getD_take_lt l hr.byte k) _ hs0
    by_cases hlt : k < len
    · obtain ⟨b, off, rfl, hbB, hck⟩ := hr.cell k (by omega)
      have hC := hr.lt k (by omega)
      have hsucc := refRaw_succ (4294967295 ^^^ s) l k (by omega)
      generalize refRaw (4294967295 ^^^ s) (l.take k) = S at *
      generalize l.getD k 0 = c at *
      have HSU := Lib.hid hsucc; clear hsucc hr
      have hx2 : bits .xor .u32 (S : Int) (c : Int) = ((S ^^^ c : Nat) : Int) := u32_xor_nat S c hS (by omega)
      have hX : S ^^^ c < 4294967296 := xor_lt32 hS (by omega)
      have hst : refStep S c = bitSteps 8 (S ^^^ c) := rfl
      rw [hst] at HSU
      clear hst
      generalize S ^^^ c = X at *
      go_wp2
      go_loop [5, 7] (fun c i => ∃ (j : Nat) (Y : Nat), j ≤ 8 ∧ i = .int .i64 j ∧ c = .int .u32 (Y : Nat) ∧ Y < 4294967296 ∧ bitSteps (8 - j) Y = bitSteps 8 X) (fun _ i => 8 - (intOf i).toNat)
      case atStart => exact ⟨0, X, by omega, rfl, rfl, hX, rfl⟩
      case round =>
        obtain ⟨j, Y, hj, rfl, rfl, hY, hYX⟩ := hrel
        clear hx2
        by_cases hj8 : j < 8
        · have ej : 8 - j = (8 - (j + 1)) + 1 := by omega
          rw [ej] at hYX
          have hYX2 : bitSteps (8 - (j + 1)) (bitStep Y) = bitSteps 8 X := hYX
          have HYX := Lib.hid hYX2; clear hYX hYX2 ej
          have ha : bits .and .u32 (Y : Int) 1 = ((Y % 2 : Nat) : Int) := by
            have := u32_and_nat Y 1 hY (by omega)
            rw [Nat.and_one_is_mod] at this
            exact this
          by_cases ho : Y % 2 = 1
          · have hb : ((Y % 2 : Nat) : Int) == 1 := by rw [ho]; rfl
            have hx4 : bits .xor .u32 ((Y : Int) / 2) 3988292384 = ((bitStep Y : Nat) : Int) := by
              have := u32_xor_nat (Y / 2) 3988292384 (by omega) (by omega)
              unfold bitStep; rw [if_pos ho, ← this]; simp
            have hBl := bitStep_lt Y hY
            generalize bitStep Y = Z at *
            go_wp2
            go_round
            case rel => exact ⟨j + 1, Z, by omega, by go_num, rfl, hBl, HYX.out⟩
            case measure => simp [intOf]; omega
          · have hx4 : (Y : Int) / 2 = ((bitStep Y : Nat) : Int) := by
              unfold bitStep; rw [if_neg ho]; simp
            have hBl := bitStep_lt Y hY
            generalize bitStep Y = Z at *
            go_wp2
            go_round
            case rel => exact ⟨j + 1, Z, by omega, by go_num, rfl, hBl, HYX.out⟩
            case measure => simp [intOf]; omega
        · have e : j = 8 := by omega
          subst e
          have hY2 : Y = bitSteps 8 X := hYX
          have HY := Lib.hid hY2
          clear hY2 hYX
          go_wp2
          go_round
          case rel => exact ⟨k + 1, by omega, by go_num, by rw [HSU.out, HY.out]⟩
          case measure => simp [intOf]; omega
    · have e : k = len := by omega
      subst e
      have hx3 := unary_xor_u32 _ hS
      clear hr
      go_wp2
      go_ret
      exact ⟨by rw [List.take_of_length_le (by omega)]; rfl, rfl⟩

set_option maxRecDepth 100000 in
theorem Crc_walk (A : Option Addr) (len cap B : Nat) (l : List Nat) (hl : l.length = len) (w : World) (hr : Bytes w B A l)
    (hlen : len ≤ 140737488351232) :
    Calls Try.prog 8 #[.slice A len cap] w fun e w' =>
      e = .returned (.int .u32 (refOn 0 l : Nat)) ∧ w = w' := by
  have hon := CrcOn_walk 0 (by omega) A len cap B l hl w hr hlen
  have HON := Lib.hid hon
  clear hr hon hl
  go_enter Try.func8, Try.ntmps8
  go_wp2_with fail
  refine HON.out.mono ?_
  rintro e w' ⟨rfl, rfl⟩
  go_wp2_with fail
  go_ret
  exact ⟨rfl, rfl⟩

theorem tmod_round (k n : Int) (hn : 1 ≤ n) : -n < k.tmod n ∧ k.tmod n < n ∧ (k.tmod n + n).tmod n = k % n := by
  by_cases h : 0 ≤ k
  · have e : k.tmod n = k % n := Int.tmod_eq_emod_of_nonneg h
    have hlt := Int.emod_lt_of_pos k (show 0 < n by omega)
    have hge := Int.emod_nonneg k (show n ≠ 0 by omega)
    rw [e]
    refine ⟨by omega, hlt, ?_⟩
    rw [Int.tmod_eq_emod_of_nonneg (by omega), Int.add_emod_right, Int.emod_emod]
  · have e : k.tmod n = -((-k) % n) := by
      have h1 : (-k).tmod n = (-k) % n := Int.tmod_eq_emod_of_nonneg (by omega)
      rw [← h1, Int.neg_tmod]; omega
    have hlt := Int.emod_lt_of_pos (-k) (show 0 < n by omega)
    have hge := Int.emod_nonneg (-k) (show n ≠ 0 by omega)
    have hd := Int.mul_ediv_add_emod (-k) n
    rw [e]
    refine ⟨by omega, by omega, ?_⟩
    rw [Int.tmod_eq_emod_of_nonneg (by omega), Int.add_emod_right]
    have e2 : -(-k % n) = k + n * (-k / n) := by omega
    rw [e2, Int.add_mul_emod_self_left]

/-- wainscotalike.Round: a number from 0 to ahead of n -/
theorem Round_walk (k n : Int) (hn : 1 ≤ n) (hn2 : n ≤ 1099511627776) (w : World) :
    Calls Try.prog 17 #[.int .i64 k, .int .i64 n] w fun e w' => e = .returned (.int .i64 (k % n)) ∧ w = w' := by
  obtain ⟨h2, h3, h1⟩ := tmod_round k n hn
  go_enter Try.func17, Try.ntmps17
  go_wp2
  go_ret
  exact ⟨rfl, rfl⟩
end Go.Proofs.Ytccdciokokcomaa
