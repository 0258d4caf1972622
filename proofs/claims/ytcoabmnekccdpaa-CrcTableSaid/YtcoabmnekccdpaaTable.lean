/- 'CrcTable' returns true for every input: each place of the table is the exclusive or of those of its bits. -/
import Derived.Test.YtcoabmnekccdpaaSl
import Derived.Test.YtcoabmnekccdpaaPlain
import Derived.ProofKit
import Derived.OpenShut
import Derived.ShutString
import Derived.ChangeOld
namespace Go.Proofs.Ytcoabmnekccdpaa.crcTable
open Go.ChangeShapes Go.WideShapes Go.ChangeAt Go.RowKit
open Go.ChangeMaps (open_string shut_string)
set_option linter.unusedVariables false      -- a walk need not use every 'w<i>' (that an integer argument fits its kind)

theorem own : ownKnob Try.prog.godebug = none := by kernel_rfl

theorem and1_i64 (x : Nat) (hx : x < 9223372036854775808) : bits .and .i64 (x : Int) 1 = ((x % 2 : Nat) : Int) := by
  show IntKind.i64.wrap (((BitVec.ofInt 64 (x : Int)) &&& (BitVec.ofInt 64 1)).toNat : Int) = _
  have h1 : (BitVec.ofInt 64 (x : Int)).toNat = x := by
    rw [BitVec.ofInt_natCast, BitVec.toNat_ofNat]; exact Nat.mod_eq_of_lt (by omega)
  rw [BitVec.toNat_and, h1, show (BitVec.ofInt 64 1).toNat = 1 from rfl, Nat.and_one_is_mod, IntKind.wrap_i64]
  omega
theorem tabBits_lt (j : Nat) : ∀ i, i ≤ 8 → tabBits j i < 4294967296
  | 0, _ => by simp [tabBits]
  | i + 1, h => by
    have ih := tabBits_lt j i (by omega)
    unfold tabBits
    split
    · refine xor_lt32 ih (tab_lt _ ?_)
      have : 2 ^ i ≤ 2 ^ 8 := Nat.pow_le_pow_right (by omega) (by omega)
      omega
    · exact ih

set_option maxRecDepth 100000 in
theorem walk (a0 : Int) (w : World) (w0 : (Lit.int .i64 a0).wf = true) :
    Calls Try.prog 5 #[.int .i64 a0] w fun e w' => e = .returned (.bool true) ∧ Below w.heap.size w w' := by
  have hjl := Int.emod_lt_of_pos a0 (show (0 : Int) < 256 by omega)
  have hjg := Int.emod_nonneg a0 (show (256 : Int) ≠ 0 by omega)
  have hround := Round_walk a0 256 (by omega) (by omega)
  obtain ⟨j, hj⟩ := Int.eq_ofNat_of_zero_le hjg
  rw [hj] at hround hjl
  have HR := Lib.hid hround
  clear hround hj hjg w0
  have hj8 : j < 256 := by omega
  clear hjl
  go_enter Try.func5, Try.ntmps5
  go_wp2_with fail
  refine (Make_walk _).mono ?_
  rintro e w' ⟨rfl, rfl⟩
  go_wp2_with (first
    | (refine wpList_alloc26 rfl rfl ?_)
    | refine wpList_store_row rfl 26 (.tmp 3) (.tmp 7) rfl (tabCells (fun _ => 0)) (tabCells tab) _ (by simp) rfl rfl size26 (tabCells_same _ _) (tabCells_one tab) ?_)
  refine (HR.out _).mono ?_
  rintro e w' ⟨rfl, rfl⟩
  go_wp2_with fail
  generalize hWW : (w.alloc (.cells (tabCells tab) 26)).alloc (.cells (tabCells tab) 26) = W
  have hW : Below w.heap.size w W := by subst hWW; exact ((Below.refl _ _).alloc (Nat.le_refl _) _).alloc (by simp) _
  have hB1 : W.heap[w.heap.size + 1]? = some (.cells (tabCells tab) 26 (0, 0)) := by
    subst hWW
    have := heap_alloc_new (w.alloc (.cells (tabCells tab) 26)) (.cells (tabCells tab) 26)
    simpa using this
  clear hWW
  generalize w.heap.size + 1 = B1 at *
  have hcell : ∀ i, i < 256 → W.cell? ⟨B1, i, none⟩ = some (.int .u32 (tab i : Nat)) := fun i hi => by
    rw [cell_of_row W B1 i _ _ _ hB1, tabCells_get _ i hi]
  clear hB1
  go_loop [5, 6] (fun x i => ∃ k : Nat, k ≤ 8 ∧ i = .int .i64 k ∧ x = .int .u32 (tabBits j k : Nat)) (fun _ i => 8 - (intOf i).toNat)
  case atStart => exact ⟨0, by omega, rfl, rfl⟩
  case round =>
    obtain ⟨k, hk, rfl, rfl⟩ := hrel
    by_cases hlt : k < 8
    · clear HR
      have hX := tabBits_lt j k hk
      have hp8 : 2 ^ k < 256 := by
        have : 2 ^ k ≤ 2 ^ 7 := Nat.pow_le_pow_right (by omega) (by omega)
        omega
      have hpow : (2 : Int) ^ k = ((2 ^ k : Nat) : Int) := by simp
      have hsucc : tabBits j (k + 1) = if (j / 2 ^ k) % 2 = 1 then tabBits j k ^^^ tab (2 ^ k) else tabBits j k := rfl
      have hc := hcell (2 ^ k) hp8
      have ht := tab_lt (2 ^ k) (by omega)
      clear hcell
      generalize 2 ^ k = p at *
      have hand := and1_i64 (j / p) (by have := Nat.div_le_self j p; omega)
      rw [Int.natCast_ediv] at hand
      generalize tab p = t at *
      generalize tabBits j k = X at *
      by_cases ho : j / p % 2 = 1
      · rw [if_pos ho] at hsucc
        rw [ho] at hand
        have HS := Lib.hid hsucc; clear hsucc ho
        have hx := u32_xor_nat X t hX ht
        go_wp2_with fail
        go_round
        case rel => exact ⟨k + 1, by omega, by go_num, by rw [HS.out]⟩
        case measure => simp [intOf]; omega
      · rw [if_neg ho] at hsucc
        rw [show j / p % 2 = 0 by omega] at hand
        have HS := Lib.hid hsucc; clear hsucc ho
        go_wp2_with fail
        go_round
        case rel => exact ⟨k + 1, by omega, by go_num, by rw [HS.out]⟩
        case measure => simp [intOf]; omega
    · have e : k = 8 := by omega
      subst e
      have hc := hcell j hj8
      have hc0 := hcell 0 (by omega)
      have hb8 := tab_bits j hj8
      have haw := awake_walk W
      rw [hb8]
      have h00 : tab 0 = 0 := by decide
      rw [h00] at hc0
      have HAW := Lib.hid haw; clear haw hcell HR hb8 h00
      go_wp2_with fail
      refine HAW.out.mono ?_
      rintro e w' ⟨rfl, hbw⟩
      go_wp2_with fail
      go_ret
      exact ⟨rfl, hW.trans (hbw.mono hW.size)⟩

/-! ### THE ROW's STEP: WRITTEN OUT: LEAVE IT -/
set_option maxRecDepth 100000 in
theorem lifted (os : Os) (started : os.Started) (H : Type) (enc : TypeId × Value → H) :
    ReturnsInHanded {} Try.checked os 5 .any (Rows.crcTableSpec.pre6 enc Try.prog Try.f5 Rows.crcTableRow.domain false) (Rows.crcTableSpec.post enc Try.prog Try.f5 false true false false) := by
  refine returnsInHanded_of_change (C := Try.checked) own started (by kernel_rfl) Try.func5
    (ChangeSpec.witness6 (enc := enc) (C := Try.checked) false ⟨#[], #[.int .i64 0], []⟩ 8 (by kernel_rfl) (by kernel_rfl) (by kernel_rfl) (by kernel_rfl)) ?_
  intro W base args ds gs before hval0 hW hcnd _
  have hval : ∀ (j : Nat) t v, Try.f5.params[j]? = some t → args[j]? = some v → Value.okWide Try.prog W .any base t v := hval0
  have hW' := hW
  obtain ⟨p, q, hA0, hV, rfl, hfz, hnd⟩ := hW
  have hA : DataW.TrodAll enc Try.prog W 0 (fun _ => true) true Try.f5.params.toList args.toList ds p := hA0
  rw [Try.params5] at hA hval
  obtain ⟨v0, vs0, d0, ds0, p0, q0, hargs, rfl, rfl, h0, r0⟩ := trodAll_cons hA
  obtain ⟨rfl, rfl, rfl⟩ := trodAll_nil r0
  obtain rfl : args = #[v0] := by cases args; simp_all
  obtain ⟨rfl, rfl⟩ := trodVars_none hV
  obtain ⟨a0, rfl, rfl, rfl, w0⟩ := open_int Try.underlying3 (hval 0 3 v0 rfl rfl) h0
  clear hA0 hval0
  simp only [List.append_nil] at hW'
  refine (walk a0 W w0).mono fun e W' ⟨he, bel⟩ => ?_
  subst he
  exact ⟨_, rfl, _, _, _, [], _, [], hW', trodAll_mk1 (shut_bool Try.underlying4 _), (trodAll_cons_mk (shut_int Try.underlying3 w0) trodAll_mk0), rfl, bel.frame _, fun h => by cases h⟩

theorem over : Rows.crcTableRow.holds Try.pinned (OpenSpec.ofChange Rows.crcTableSpec) :=
  OpenClaim.holds_of_wide 5 Try.f5 rfl rfl rfl rfl rfl rfl rfl ⟨rfl, rfl, rfl, rfl, rfl⟩ rfl rfl rfl rfl rfl (by kernel_rfl) Try.func5 (by kernel_rfl)
    (of_decide_eq_true (by kernel_rfl)) (by unfold Func.isWrapper; first | (rw [if_pos (by decide +kernel)]; kernel_rfl) | (rw [if_neg (by decide +kernel)]; exact ⟨rfl, rfl⟩))
    (fun os started H enc _ => lifted os started H enc)

/-- ████ THE STATEMENT ████ -/
theorem proved : Rows.CrcTableSaid :=
  over
end Go.Proofs.Ytcoabmnekccdpaa.crcTable
