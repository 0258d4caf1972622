/- What New, NewLru and the reference's Touch come to. -/
import Derived.Test.YtnedpmibmldbfaaRef
import Derived.Test.YtnedpmibmldbfaaTouch
import Derived.Deep.AppendLies
import Derived.Deep.CutRange
namespace Go.Proofs.Ytnedpmibmldbfaa
open Go.RowKit

theorem info3 : (Try.prog.info? 3).map (fun i => (i.zero, i.size, i.bytes)) = some (some (.int .i64 0), 1, 8) := by kernel_rfl
theorem info4 : (Try.prog.info? 4).map (fun i => (i.zero, i.size, i.bytes)) = some (some (.bool false), 1, 1) := by kernel_rfl
@[irreducible] def zInts (n : Nat) : Array Value := (List.replicate n (Value.int .i64 0)).toArray
@[irreducible] def zBools (n : Nat) : Array Value := (List.replicate n (Value.bool false)).toArray
theorem zInts_get (n i : Nat) (h : i < n) : (zInts n)[i]? = some (.int .i64 0) := by simp [zInts, h]
theorem zBools_get (n i : Nat) (h : i < n) : (zBools n)[i]? = some (.bool false) := by simp [zBools, h]
theorem madeCells_one (z : Value) (hz : z.cells = #[z]) (n : Nat) : madeCells z.cells n = (List.replicate n z).toArray := by
  rw [hz]
  unfold madeCells
  apply Array.ext_getElem?
  intro i
  by_cases h : i < n
  · have : i % 1 = 0 := Nat.mod_one i
    simp [h, this]
  · simp [h]
theorem make38 (n : Nat) (h : n ≤ 1000) (w : World) : (Instr.makeSlice 38 (.int .i64 (n : Int)) (.int .i64 (n : Int))).run Try.prog w = .ok (.slice (some ⟨w.heap.size, 0, none⟩) n n) (w.alloc (.cells (zInts n) 3)) := by
  obtain ⟨i, hi, hz, hs, hb⟩ := info_parts info3
  have := run_make (P := Try.prog) w 38 3 i (.int .i64 0) Try.underlying38 hi hz .i64 .i64 n n (by omega) (by omega) (by rw [hb]; omega) (by omega)
  rw [this, hs]
  simp only [Int.toNat_natCast, Nat.mul_one]
  rw [madeCells_one _ (by rfl)]
  unfold zInts; rfl
theorem make40 (n : Nat) (h : n ≤ 1000) (w : World) : (Instr.makeSlice 40 (.int .i64 (n : Int)) (.int .i64 (n : Int))).run Try.prog w = .ok (.slice (some ⟨w.heap.size, 0, none⟩) n n) (w.alloc (.cells (zBools n) 4)) := by
  obtain ⟨i, hi, hz, hs, hb⟩ := info_parts info4
  have := run_make (P := Try.prog) w 40 4 i (.bool false) Try.underlying40 hi hz .i64 .i64 n n (by omega) (by omega) (by rw [hb]; omega) (by omega)
  rw [this, hs]
  simp only [Int.toNat_natCast, Nat.mul_one]
  rw [madeCells_one _ (by rfl)]
  unfold zBools; rfl

theorem New_not (a : Int) (h : a < 1 ∨ 128 < a) (w : World) :
    Calls Try.prog 8 #[.int .i64 a] w fun r w' => r = .returned (.tuple #[.pointer none, .int .i64 1]) ∧ w = w' := by
  by_cases h1 : a < 1
  · go_enter Try.func8, Try.ntmps8
    go_wp2
    go_ret2
    exact ⟨rfl, rfl⟩
  · go_enter Try.func8, Try.ntmps8
    go_wp2
    go_ret2
    exact ⟨rfl, rfl⟩

theorem lst_new {w : World} {k bE bY bP n : Nat} {t : TypeId} (hk : w.heap[k]? = some (.cells #[.slice (some ⟨bE, 0, none⟩) (n + 1) (n + 1), .slice (some ⟨bY, 0, none⟩) (n + 1) (n + 1), .slice (some ⟨bP, 0, none⟩) n n] t (0, 0)))
    (hE : w.heap[bE]? = some (.cells (zInts (n + 1)) 3 (0, 0))) (hY : w.heap[bY]? = some (.cells (zInts (n + 1)) 3 (0, 0))) (hP : w.heap[bP]? = some (.cells (zBools n) 4 (0, 0)))
    (d1 : bE ≠ bY) (d2 : bE ≠ bP) (d3 : bY ≠ bP) (d4 : k ≠ bE) (d5 : k ≠ bY) (d6 : k ≠ bP) (pos : 0 < n) (top : n ≤ 128) : Lst w k bE bY bP n (fun _ => 0) (fun _ => 0) (fun _ => false) :=
  ⟨by rw [cell_of_row _ _ _ _ _ _ hk]; rfl, by rw [cell_of_row _ _ _ _ _ _ hk]; rfl, by rw [cell_of_row _ _ _ _ _ _ hk]; rfl,
    ⟨fun i hi => by rw [cell_of_row _ _ _ _ _ _ hE]; exact zInts_get _ _ hi, fun i => frozen_of_row _ _ _ _ _ hE⟩,
    ⟨fun i hi => by rw [cell_of_row _ _ _ _ _ _ hY]; exact zInts_get _ _ hi, fun i => frozen_of_row _ _ _ _ _ hY⟩,
    ⟨fun i hi => by rw [cell_of_row _ _ _ _ _ _ hP]; exact zBools_get _ _ hi, fun i => frozen_of_row _ _ _ _ _ hP⟩, d1, d2, d3, d4, d5, d6, pos, top⟩

theorem belowAlloc4 (w : World) (a b c d : Obj) : Below w.heap.size w ((((w.alloc a).alloc b).alloc c).alloc d) :=
  ((((Below.refl _ _).alloc (Nat.le_refl _) _).alloc (by simp) _).alloc (by simp; omega) _).alloc (by simp; omega) _
theorem four_blocks (w : World) (a b c d : Obj) : ((((w.alloc a).alloc b).alloc c).alloc d).heap[w.heap.size]? = some a ∧ ((((w.alloc a).alloc b).alloc c).alloc d).heap[w.heap.size + 1]? = some b ∧
    ((((w.alloc a).alloc b).alloc c).alloc d).heap[w.heap.size + 1 + 1]? = some c ∧ ((((w.alloc a).alloc b).alloc c).alloc d).heap[w.heap.size + 1 + 1 + 1]? = some d := by
  have h4 := heap_alloc_new (((w.alloc a).alloc b).alloc c) d
  have h3 := heap_alloc_new ((w.alloc a).alloc b) c
  have h2 := heap_alloc_new (w.alloc a) b
  have h1 := heap_alloc_new w a
  simp only [World.size_alloc] at h4 h3 h2 h1
  refine ⟨?_, ?_, ?_, h4⟩
  · rw [Below.heap_alloc _ _ _ (by simp only [World.size_alloc]; omega), Below.heap_alloc _ _ _ (by simp only [World.size_alloc]; omega), Below.heap_alloc _ _ _ (by simp only [World.size_alloc]; omega)]; exact h1
  · rw [Below.heap_alloc _ _ _ (by simp only [World.size_alloc]; omega), Below.heap_alloc _ _ _ (by simp only [World.size_alloc]; omega)]; exact h2
  · rw [Below.heap_alloc _ _ _ (by simp only [World.size_alloc]; omega)]; exact h3

set_option maxRecDepth 100000 in
set_option maxHeartbeats 1000000 in
theorem New_walk (n : Nat) (h1 : 1 ≤ n) (h2 : n ≤ 128) (w : World) :
    Calls Try.prog 8 #[.int .i64 (n : Int)] w fun r w' => ∃ k bE bY bP, r = .returned (.tuple #[.pointer (some ⟨k, 0, none⟩), .int .i64 0]) ∧ IsX w' k bE bY bP n (List.range n) (fun _ => false) ∧
      Below w.heap.size w w' ∧ w.heap.size ≤ k ∧ w.heap.size ≤ bE ∧ w.heap.size ≤ bY ∧ w.heap.size ≤ bP := by
  have hm := make38 (n + 1) (by omega)
  have hm4 := make40 n (by omega)
  rw [show ((n + 1 : Nat) : Int) = (n : Int) + 1 by omega] at hm
  have hnn : (0 : Int) ≤ (n : Int) + 1 := by omega
  go_enter Try.func8, Try.ntmps8
  go_upto_region 3 with fail
  go_cut [4] from 12 to 51 (fun l wx => ∃ k bE bY bP, l = .pointer (some ⟨k, 0, none⟩) ∧ Lst wx k bE bY bP n (fun _ => 0) (fun _ => 0) (fun _ => false) ∧ Below w.heap.size w wx ∧ w.heap.size ≤ k ∧ w.heap.size ≤ bE ∧ w.heap.size ≤ bY ∧ w.heap.size ≤ bP)
  case first =>
    go_region
    all_goals (
      have hx := fun b c d e => four_blocks w b c d e
      have hbl := fun b c d e => belowAlloc4 w b c d e
      go_wp2_with fail
      go_meet
      refine ⟨_, _, _, _, rfl, (lst_new (t := 48) (hx _ _ _ _).2.2.2 ?_ ?_ ?_ (by omega) (by omega) (by omega) (by omega) (by omega) (by omega) (by omega) h2).drew, below_drew (hbl _ _ _ _), by omega, by omega, by omega, by omega⟩
      all_goals first
        | exact (hx _ _ _ _).1
        | exact (hx _ _ _ _).2.1
        | exact (hx _ _ _ _).2.2.1)
  case rest =>
    obtain ⟨k, bE, bY, bP, rfl, hL, hB, hk, hE, hY, hP⟩ := hcut
    have HQ := Lib.hid (And.intro hk (And.intro hE (And.intro hY hP)))
    clear hk hE hY hP hm hm4
    go_wp2_with fail
    go_loopw [24] (fun i wr => ∃ (j : Nat) (e y : Nat → Nat), j ≤ n + 1 ∧ i = .int .i64 j ∧ (∀ t, t < j → e t = (t + n) % (n + 1) ∧ y t = (t + 1) % (n + 1)) ∧ Lst wr k bE bY bP n e y (fun _ => false) ∧ Below w.heap.size w wr) (fun i _ => n + 1 - (intOf i).toNat)
    case atStart => exact ⟨0, _, _, by omega, rfl, fun t ht => by omega, hL, hB⟩
    case round =>
      obtain ⟨j, e, y, hj, rfl, hey, hl, hb⟩ := hrel
      clear hL hB
      by_cases hlt : j < n + 1
      · have h0 := hl.f0
        have h1' := hl.f1
        have hce := hl.ce.cell j hlt
        have hcy := hl.cy.cell j hlt
        have hfe := hl.ce.free j
        have hfy := hl.cy.free j
        have hm1 : ((j : Int) + (n : Int)).tmod ((n : Int) + 1) = (((j + n) % (n + 1) : Nat) : Int) := by
          rw [Int.tmod_eq_emod_of_nonneg (by omega)]; simp
        have hm2 : ((j : Int) + 1).tmod ((n : Int) + 1) = (((j + 1) % (n + 1) : Nat) : Int) := by
          rw [Int.tmod_eq_emod_of_nonneg (by omega)]; simp
        have hs := (hl.setE j ((j + n) % (n + 1)) (by omega)).setY j ((j + 1) % (n + 1)) (by omega)
        have hnx : ∀ t, t < j + 1 → put e j ((j + n) % (n + 1)) t = (t + n) % (n + 1) ∧ put y j ((j + 1) % (n + 1)) t = (t + 1) % (n + 1) := fun t ht => by
          by_cases e1 : t = j
          · subst e1; simp [put]
          · simp only [put, e1, if_false]; exact hey t (by omega)
        have hbb := (hb.setCell (p := ⟨bE, j, none⟩) HQ.out.2.1 (.int .i64 (((j + n) % (n + 1) : Nat) : Int))).setCell (p := ⟨bY, j, none⟩) HQ.out.2.2.1 (.int .i64 (((j + 1) % (n + 1) : Nat) : Int))
        have hv1 : (j + n) % (n + 1) < n + 1 := Nat.mod_lt _ (by omega)
        have hv2 : (j + 1) % (n + 1) < n + 1 := Nat.mod_lt _ (by omega)
        have hne := hl.d1
        have hne1 := hl.d4
        have hne2 := hl.d5
        have HN := Lib.hid (And.intro hs (And.intro hnx hbb))
        clear hs hnx hbb hey hl hb
        generalize (j + n) % (n + 1) = v1 at *
        generalize (j + 1) % (n + 1) = v2 at *
        go_wp2_with fail
        go_region
        go_wp2_with fail
        go_roundw
        case rel => exact ⟨j + 1, _, _, by omega, by go_num, HN.out.2.1, HN.out.1.drew, below_drew HN.out.2.2⟩
        case measure => simp [intOf]; omega
      · have ej : j = n + 1 := by omega
        subst ej
        have hring := ring_new n e y (fun i hi => (hey i (by omega)).1) (fun i hi => (hey i (by omega)).2)
        have HN := Lib.hid (And.intro hl (And.intro hring hb))
        clear hey hl hring hb
        go_wp2_with fail
        go_ret2
        exact ⟨k, bE, bY, bP, rfl, ⟨⟨_, _, HN.out.1, HN.out.2.1⟩, okOrd_range n⟩, HN.out.2.2, HQ.out.1, HQ.out.2.1, HQ.out.2.2.1, HQ.out.2.2.2⟩
end Go.Proofs.Ytnedpmibmldbfaa
