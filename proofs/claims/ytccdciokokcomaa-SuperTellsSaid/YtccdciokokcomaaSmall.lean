/- The newer of two; flat, same; blocks compared. -/
import Derived.Test.YtccdciokokcomaaDec
import Derived.Laws.StructEq
import Derived.Laws.Small
namespace Go.Proofs.Ytccdciokokcomaa
open Go.RowKit

set_option maxRecDepth 100000 in
theorem newer_walk (a b : Blk) (p q : Bool) (w : World) : Calls Try.prog 15 #[.agg (blkA a), .agg (blkA b), .bool p, .bool q] w fun e w' => e = .returned (.int .i64 (newer a b p q)) ∧ Below w.heap.size w w' := by
  have hb := below_trans (below_alloc w (.cells a.cells 24)) (below_alloc _ (.cells b.cells 24))
  rw [blkA_eq, blkA_eq]
  obtain ⟨g1, d1, r1, s1, l1, u1⟩ := a
  obtain ⟨g2, d2, r2, s2, l2, u2⟩ := b
  unfold newer
  simp only [Blk.cells] at hb ⊢
  have HB := Lib.hid hb
  clear hb
  by_cases hg : g2 ≤ g1
  · have hd : decide (g2 ≤ g1) = true := by simpa using hg
    rw [hd]
    cases p <;> cases q
    all_goals
      go_enter Try.func15, Try.ntmps15
      go_wp2
      go_ret
      exact ⟨rfl, HB.out⟩
  · have hd : decide (g2 ≤ g1) = false := by simpa using hg
    rw [hd]
    cases p <;> cases q
    all_goals
      go_enter Try.func15, Try.ntmps15
      go_wp2
      go_ret
      exact ⟨rfl, HB.out⟩
set_option maxRecDepth 100000 in
theorem rnewer_walk (a b : Blk) (p q : Bool) (w : World) : Calls Try.prog 16 #[.agg (blkA a), .agg (blkA b), .bool p, .bool q] w fun e w' => e = .returned (.int .i64 (newer a b p q)) ∧ Below w.heap.size w w' := by
  have hb := below_trans (below_alloc w (.cells a.cells 37)) (below_alloc _ (.cells b.cells 37))
  rw [blkA_eq, blkA_eq]
  obtain ⟨g1, d1, r1, s1, l1, u1⟩ := a
  obtain ⟨g2, d2, r2, s2, l2, u2⟩ := b
  unfold newer
  simp only [Blk.cells] at hb ⊢
  have HB := Lib.hid hb
  clear hb
  by_cases hg : g2 ≤ g1
  · have hd : decide (g2 ≤ g1) = true := by simpa using hg
    rw [hd]
    cases p <;> cases q
    all_goals
      go_enter Try.func16, Try.ntmps16
      go_wp2
      go_ret
      exact ⟨rfl, HB.out⟩
  · have hd : decide (g2 ≤ g1) = false := by simpa using hg
    rw [hd]
    cases p <;> cases q
    all_goals
      go_enter Try.func16, Try.ntmps16
      go_wp2
      go_ret
      exact ⟨rfl, HB.out⟩
set_option maxRecDepth 100000 in
theorem flat_walk (a : Blk) (w : World) : Calls Try.prog 11 #[.agg (blkA a)] w fun e w' => e = .returned (.agg (blkA a)) ∧ Below w.heap.size w w' := by
  have hb := below_trans (below_alloc w (.cells a.cells 24)) (below_alloc _ (.cells a.cells 37))
  rw [blkA_eq]
  obtain ⟨g1, d1, r1, s1, l1, u1⟩ := a
  simp only [Blk.cells] at hb ⊢
  have HB := Lib.hid hb
  clear hb
  go_enter Try.func11, Try.ntmps11
  go_wp2
  exact bodyPost_ret (v := .agg #[.int .i64 g1, .int .i64 d1, .bool r1, .int .i64 s1, .int .i64 l1, .int .u32 u1]) (by simp [results, Try.results11, go_sem]) rfl ⟨rfl, HB.out⟩
set_option maxRecDepth 100000 in
theorem same_walk (a : Blk) (w : World) : Calls Try.prog 14 #[.agg (blkA a), .agg (blkA a)] w fun e w' => e = .returned (.bool true) ∧ Below w.heap.size w w' := by
  have hb := below_trans (below_alloc w (.cells a.cells 24)) (below_alloc _ (.cells a.cells 37))
  rw [blkA_eq]
  obtain ⟨g1, d1, r1, s1, l1, u1⟩ := a
  simp only [Blk.cells] at hb ⊢
  have HB := Lib.hid hb
  clear hb
  go_enter Try.func14, Try.ntmps14
  go_wp2
  go_ret
  exact ⟨rfl, HB.out⟩
theorem eqIn24 (d : Nat) (x : Blk) (w : World) : (Op.equalIn (d + 2) 24 (.agg (blkA x)) (.agg (blkA x))).run Try.prog w = .ok true w := by
  have u3 := Try.underlying3
  have u4 := Try.underlying4
  have u22 := Try.underlying22
  unfold blkA Blk.cells
  rw [show d + 2 = (d + 1) + 1 from rfl, Op.equalIn]
  simp only [Sem.run_bind, run_underlying Try.underlying24, Result.andThen_ok]
  go_simp
theorem run_eql24 (x : Blk) (W : World) : (binOp .eql 24 (.agg (blkA x)) (.agg (blkA x))).run Try.prog W = .ok (.bool true) W := by
  rw [run_eql_struct, show (10000 : Nat) = 9998 + 2 from rfl, eqIn24]; rfl
theorem guard_eql24 (x y : Operand) (p q : Blk) (W : World) : (eqGuard .eql 24 x y (.agg (blkA p)) (.agg (blkA q))).run Try.prog W = .ok () W := by
  unfold blkA; simp [go_sem, eqGuard]
theorem step_eql24 {ops : Array Oper} {I : Cls} {a0 : Act} {sp : Nat → Spec} {k : Nat} {o : Oper} (hg : Goes ops sp k o) (x y : Operand) (ho : o.op = .binOp .eql 24 x y 24) (p : Blk) (hx : OpIs ops I a0 sp k x (is (.agg (blkA p)))) (hy : OpIs ops I a0 sp k y (is (.agg (blkA p)))) :
    StepOk Try.prog ops I a0 sp k o (is (.bool true)) :=
  step_two hg x y _ _ _ hx hy fun ρ w h1 h2 => by
    simp only [execOp, ho, h1, h2, Sem.run_bind, guard_eql24, run_eql24, Result.andThen]; rfl
end Go.Proofs.Ytccdciokokcomaa
