/- What crc.Make comes to: the table. -/
import Derived.Test.YtccdciokokcomaaBase
namespace Go.Proofs.Ytccdciokokcomaa
open Go.RowKit

def tabTo (k : Nat) (i : Nat) : Nat := if i < k then tab i else 0
theorem tabTo_set (k : Nat) (_h : k < 256) : (tabCells (tabTo k)).setIfInBounds k (.int .u32 (tab k : Int)) = tabCells (tabTo (k + 1)) := by
  rw [tabCells_set]
  congr 1
  funext i
  unfold tabTo
  by_cases e : i = k
  · subst e; simp
  · simp only [e, if_false]
    by_cases hk : i < k
    · rw [if_pos hk, if_pos (by omega)]
    · rw [if_neg hk, if_neg (by omega)]
theorem tabCells_congr (S T : Nat → Nat) (h : ∀ i, i < 256 → S i = T i) : tabCells S = tabCells T := by
  apply Array.ext_getElem?
  intro i
  by_cases hi : i < 256
  · rw [tabCells_get _ i hi, tabCells_get _ i hi, h i hi]
  · rw [Array.getElem?_eq_none (by simp [tabCells_size]; omega), Array.getElem?_eq_none (by simp [tabCells_size]; omega)]
theorem tabCells_same (S T : Nat → Nat) : (tabCells S).size = (tabCells T).size := by rw [tabCells_size, tabCells_size]
theorem tabTo_all : tabCells (tabTo 256) = tabCells tab := tabCells_congr _ _ fun i hi => by unfold tabTo; rw [if_pos hi]
theorem tabTo_zero : tabCells (tabTo 0) = tabCells (fun _ => 0) := tabCells_congr _ _ fun i _ => by unfold tabTo; rw [if_neg (by omega)]
theorem alloc28 (w : World) : (Instr.alloc 28 true (.tuple #[])).run Try.prog w = .ok (.pointer (some ⟨w.heap.size, 0, none⟩)) (w.alloc (.cells (tabCells (fun _ => 0)) 28)) := by kernel_rfl
theorem alloc28' (w : World) : (Instr.alloc 28 true (.tuple #[])).run Try.prog w = .ok (.pointer (some ⟨w.heap.size, 0, none⟩)) (w.alloc (.cells (tabCells (tabTo 0)) 28)) := by rw [tabTo_zero]; exact alloc28 w

theorem wpList_run_value {P : Program} {ops : Array Oper} {rest : List Oper} {o : Oper} {a : Act} {w w' : World} {Q : Exit → Act → World → Prop} (hgd : o.guard = none) (v : Value)
    (hr : (execOp a.eval o).run P w = .ok (.value v) w') (h : wpList P ops Q rest (a.put o.dst v) w') : wpList P ops Q (o :: rest) a w :=
  wpList_plain hgd fun K hK => by
    unfold Oper.wp
    rw [hr]
    exact hK _ _ h

theorem wpList_run_skip {P : Program} {ops : Array Oper} {rest : List Oper} {o : Oper} {a : Act} {w w' : World} {Q : Exit → Act → World → Prop} (hgd : o.guard = none)
    (hr : (execOp a.eval o).run P w = .ok .skip w') (h : wpList P ops Q rest (a.put o.dst undef) w') : wpList P ops Q (o :: rest) a w :=
  wpList_plain hgd fun K hK => by
    unfold Oper.wp
    rw [hr]
    exact hK _ _ h
theorem wpList_store_row {P : Program} {ops : Array Oper} {rest : List Oper} {o : Oper} {a : Act} {w : World} {Q : Exit → Act → World → Prop} (hgd : o.guard = none) (ty : TypeId) (x y : Operand) (ho : o.op = .store ty x y)
    (c c' : Array Value) (g : Nat) (hg : w.heap.size = g) (hx : a.eval x = .pointer (some ⟨g, 0, none⟩)) (hy : a.eval y = .agg c') (hi : (P.info? ty).map (·.size) = some c'.size) (hsz : c.size = c'.size) (h1 : c'.all (·.oneCell') = true)
    (h : wpList P ops Q rest (a.put o.dst undef) (w.alloc (.cells c' ty))) : wpList P ops Q (o :: rest) a (w.alloc (.cells c ty)) :=
  wpList_run_skip hgd (by
    subst hg
    simp only [execOp, ho, hx, hy, Sem.run_bind, run_storeAt_new (P := P) w ty c c' hi hsz h1]; rfl) h

theorem wpList_alloc28 {ops : Array Oper} {rest : List Oper} {o : Oper} {a : Act} {w : World} {Q : Exit → Act → World → Prop} (hgd : o.guard = none) (ho : o.op = .alloc 28)
    (h : wpList Try.prog ops Q rest (a.put o.dst (.pointer (some ⟨w.heap.size, 0, none⟩))) (w.alloc (.cells (tabCells (fun _ => 0)) 28))) : wpList Try.prog ops Q (o :: rest) a w :=
  wpList_run_value hgd _ (by simp only [execOp, ho, Sem.run_bind, alloc28]; rfl) h

set_option maxRecDepth 100000 in
theorem Make_walk (w : World) :
    Calls Try.prog 7 #[] w fun e w' => e = .returned (.agg (tabCells tab)) ∧ w.alloc (.cells (tabCells tab) 28) = w' := by
  go_enter Try.func7, Try.ntmps7
  have ha : (execOp (Act.eval { tmps := Array.replicate 25 undef, defers := [] }) { dst := some 0, op := Op.alloc 28, type := 28, pos := "crc.go:13", after := #[], guard := none }).run Try.prog w = .ok (.value (.pointer (some ⟨w.heap.size, 0, none⟩))) (w.alloc (.cells (tabCells (tabTo 0)) 28)) := by
    simp only [execOp, Sem.run_bind, alloc28']; rfl
  go_wp2_with (refine wpList_run_value rfl _ ha ?_)
  go_loopw [1, 2, 3, 4, 9] (fun _ _ _ i _ wr => ∃ k : Nat, k ≤ 256 ∧ i = .int .i64 k ∧ wr = w.alloc (.cells (tabCells (tabTo k)) 28)) (fun _ _ _ i _ _ => 256 - (intOf i).toNat)
  case atStart => exact ⟨0, by omega, rfl, rfl⟩
  case round =>
    obtain ⟨k, hk, rfl, rfl⟩ := hrel
    by_cases hlt : k < 256
    · have hset := tabTo_set k hlt
      have hgetk := tabCells_get (tabTo k) k hlt
      have hst : tab k = bitSteps 8 k := rfl
      rw [hst] at hset
      generalize tabCells (tabTo k) = C at *
      generalize tabTo k k = old at *
      have HSET := Lib.hid hset; clear hset hst
      go_wp2
      go_loop [2, 3, 9] (fun n _ i => ∃ (j : Nat) (Y : Nat), j ≤ 8 ∧ i = .int .i64 j ∧ n = .int .u32 (Y : Nat) ∧ Y < 4294967296 ∧ bitSteps (8 - j) Y = bitSteps 8 k) (fun _ _ i => 8 - (intOf i).toNat)
      case atStart => exact ⟨0, k, by omega, rfl, rfl, by omega, rfl⟩
      case round =>
        obtain ⟨j, Y, hj, rfl, rfl, hY, hYX⟩ := hrel
        by_cases hj8 : j < 8
        · have ej : 8 - j = (8 - (j + 1)) + 1 := by omega
          rw [ej] at hYX
          have hYX2 : bitSteps (8 - (j + 1)) (bitStep Y) = bitSteps 8 k := hYX
          have HYX := Lib.hid hYX2; clear hYX hYX2 ej
          have hBl := bitStep_lt Y hY
          by_cases ho : Y % 2 = 1
          · have hx4 : bits .xor .u32 ((Y : Int) / 2) 3988292384 = ((bitStep Y : Nat) : Int) := by
              have := u32_xor_nat (Y / 2) 3988292384 (by omega) (by omega)
              unfold bitStep; rw [if_pos ho, ← this]; simp
            generalize bitStep Y = Z at *
            have hand : bits .and .u32 (Y : Int) 1 = 1 := by
              have := u32_and_nat Y 1 hY (by omega)
              rw [Nat.and_one_is_mod, ho] at this
              exact this
            clear ho
            go_wp2
            go_round
            case rel => exact ⟨j + 1, Z, by omega, by go_num, rfl, hBl, HYX.out⟩
            case measure => simp [intOf]; omega
          · have hx4 : (Y : Int) / 2 = ((bitStep Y : Nat) : Int) := by
              unfold bitStep; rw [if_neg ho]; simp
            generalize bitStep Y = Z at *
            have hand : bits .and .u32 (Y : Int) 1 = 0 := by
              have := u32_and_nat Y 1 hY (by omega)
              rw [Nat.and_one_is_mod, show Y % 2 = 0 by omega] at this
              exact this
            clear ho
            go_wp2
            go_round
            case rel => exact ⟨j + 1, Z, by omega, by go_num, rfl, hBl, HYX.out⟩
            case measure => simp [intOf]; omega
        · have e : j = 8 := by omega
          subst e
          have hY2 : Y = bitSteps 8 k := hYX
          have HY := Lib.hid hY2
          clear hY2 hYX
          go_wp2
          go_roundw
          case rel => exact ⟨k + 1, by omega, by go_num, by rw [HY.out, HSET.out]⟩
          case measure => simp [intOf]; omega
    · have e : k = 256 := by omega
      subst e
      rw [tabTo_all]
      have hg := heap_alloc_new w (.cells (tabCells tab) 28)
      have hi : (Try.prog.info? 28).map (·.size) = some (tabCells tab).size := by rw [tabCells_size]; kernel_rfl
      have h1 := tabCells_one tab
      have HG := Lib.hid hg; have HI := Lib.hid hi; have H1 := Lib.hid h1; clear hg hi h1 ha
      go_wp2_with (first
        | refine wpList_load_row rfl 28 (.tmp 0) rfl w.heap.size rfl 28 (tabCells tab) (0, 0) _ HG.out Try.underlying28 rfl HI.out ?_
        | refine wpList_store_row rfl 28 (.tmp 0) (.tmp 24) rfl (tabCells tab) (tabCells tab) _ rfl rfl rfl HI.out rfl H1.out ?_)
      exact bodyPost_ret (results_cell_row rfl _ _ w.heap.size 28 (tabCells tab) (0, 0) _ rfl HG.out Try.underlying28 rfl HI.out) rfl ⟨rfl, rfl⟩
end Go.Proofs.Ytccdciokokcomaa
