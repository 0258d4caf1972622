/- What single operations yield, at symbolic numbers; rows of hits, cell by cell. -/
import Derived.Test.YtgkidgpdgcdgnaaAwake
import Derived.Test.YtgkidgpdgcdgnaaText
namespace Go.Proofs.Ytgkidgpdgcdgnaa
open Go.RowKit

section
variable {P : Program}
theorem run_add3 (a b : Int) (h : -9000000000000000000 ≤ a + b ∧ a + b ≤ 9000000000000000000) (W : World) : (binOp .add 3 (.int .i64 a) (.int .i64 b)).run P W = .ok (.int .i64 (a + b)) W := by
  have e : IntKind.i64.wrap (a + b) = a + b := by rw [IntKind.wrap_i64]; omega
  simp only [binOp]
  simp [go_sem, e]
theorem run_sub3 (a b : Int) (h : -9000000000000000000 ≤ a - b ∧ a - b ≤ 9000000000000000000) (W : World) : (binOp .sub 3 (.int .i64 a) (.int .i64 b)).run P W = .ok (.int .i64 (a - b)) W := by
  have e : IntKind.i64.wrap (a - b) = a - b := by rw [IntKind.wrap_i64]; omega
  simp only [binOp]
  simp [go_sem, e]
theorem run_mul3 (a b : Int) (h : -9000000000000000000 ≤ a * b ∧ a * b ≤ 9000000000000000000) (W : World) : (binOp .mul 3 (.int .i64 a) (.int .i64 b)).run P W = .ok (.int .i64 (a * b)) W := by
  have e : IntKind.i64.wrap (a * b) = a * b := by rw [IntKind.wrap_i64]; omega
  simp only [binOp]
  simp [go_sem, e]
theorem run_neq3 (a b : Int) (c : Bool) (h : (a != b) = c) (W : World) : (binOp .neq 3 (.int .i64 a) (.int .i64 b)).run P W = .ok (.bool c) W := by
  subst h; simp [binOp, Op.intCmp]
theorem run_eql3 (a b : Int) (c : Bool) (h : (a == b) = c) (W : World) : (binOp .eql 3 (.int .i64 a) (.int .i64 b)).run P W = .ok (.bool c) W := by
  subst h; simp [binOp, Op.intCmp]
theorem run_lss3 (a b : Int) (c : Bool) (h : decide (a < b) = c) (W : World) : (binOp .lss 3 (.int .i64 a) (.int .i64 b)).run P W = .ok (.bool c) W := by
  subst h; simp [binOp, Op.intCmp]
theorem run_leq3 (a b : Int) (c : Bool) (h : decide (a ≤ b) = c) (W : World) : (binOp .leq 3 (.int .i64 a) (.int .i64 b)).run P W = .ok (.bool c) W := by
  subst h; simp [binOp, Op.intCmp]
theorem run_gtr3 (a b : Int) (c : Bool) (h : decide (a > b) = c) (W : World) : (binOp .gtr 3 (.int .i64 a) (.int .i64 b)).run P W = .ok (.bool c) W := by
  subst h; simp [binOp, Op.intCmp]
theorem run_geq3 (a b : Int) (c : Bool) (h : decide (a ≥ b) = c) (W : World) : (binOp .geq 3 (.int .i64 a) (.int .i64 b)).run P W = .ok (.bool c) W := by
  subst h; simp [binOp, Op.intCmp]
end
theorem run_idx38 (b n cap i : Nat) (hi : i < n) (W : World) : (Instr.indexAt 38 (.slice (some ⟨b, 0, none⟩) n cap) (.int .i64 (i : Nat))).run Try.prog W = .ok (.pointer (some ⟨b, i * 5, none⟩)) W := by
  have h1 : ¬ (n ≤ i) := by omega
  simp [go_sem, h1]
theorem run_f31_0 (b o : Nat) (W : World) : (Instr.fieldAt 31 (.pointer (some ⟨b, o, none⟩)) 0).run Try.prog W = .ok (.pointer (some ⟨b, o, none⟩)) W := by simp [go_sem]
theorem run_f31_1 (b o : Nat) (W : World) : (Instr.fieldAt 31 (.pointer (some ⟨b, o, none⟩)) 1).run Try.prog W = .ok (.pointer (some ⟨b, o + 1, none⟩)) W := by simp [go_sem]
theorem run_f31_2 (b o : Nat) (W : World) : (Instr.fieldAt 31 (.pointer (some ⟨b, o, none⟩)) 2).run Try.prog W = .ok (.pointer (some ⟨b, o + 2, none⟩)) W := by simp [go_sem]
theorem run_i29_0 (b o : Nat) (W : World) : (Instr.indexAt 29 (.pointer (some ⟨b, o, none⟩)) (.int .i64 0)).run Try.prog W = .ok (.pointer (some ⟨b, o, none⟩)) W := by simp [go_sem]
theorem run_i29_1 (b o : Nat) (W : World) : (Instr.indexAt 29 (.pointer (some ⟨b, o, none⟩)) (.int .i64 1)).run Try.prog W = .ok (.pointer (some ⟨b, o + 1, none⟩)) W := by simp [go_sem]
theorem run_i29_2 (b o : Nat) (W : World) : (Instr.indexAt 29 (.pointer (some ⟨b, o, none⟩)) (.int .i64 2)).run Try.prog W = .ok (.pointer (some ⟨b, o + 2, none⟩)) W := by simp [go_sem]
section
variable {P : Program} {ops : Array Oper} {I : Cls} {a0 : Act} {sp : Nat → Spec} {k : Nat} {o : Oper}
theorem step_field (hg : Goes ops sp k o) (s : TypeId) (f : Nat) (x : Operand) (ho : o.op = .fieldAddr s x f) (u v : Value) (hx : OpIs ops I a0 sp k x (is u)) (hr : ∀ w, (Instr.fieldAt s u f).run P w = .ok v w) : StepOk P ops I a0 sp k o (is v) :=
  step_one hg x _ _ hx fun ρ w h => by simp only [execOp, ho, h, Sem.run_bind, hr, Result.andThen]; rfl
end
theorem cellUp {w W : World} {p : Addr} {v : Value} (h : Below w.heap.size w W) (hc : w.cell? p = some v) : W.cell? p = some v := (h.cell (block_lt_of_cell hc)).trans hc
theorem Hit.at (x : Hit) : x.cells[0]? = some (.int .i64 x.x) ∧ x.cells[1]? = some (.int .i64 x.y) ∧ x.cells[2]? = some (.int .i64 x.e0) ∧ x.cells[3]? = some (.int .i64 x.e1) ∧ x.cells[4]? = some (.int .i64 x.e2) := by
  unfold Hit.cells hitA; exact ⟨rfl, rfl, rfl, rfl, rfl⟩
theorem HRow.get {w : World} {A : Option Addr} {l : List Hit} (h : HRow w A l) {i : Nat} {x : Hit} (hx : l[i]? = some x) : ∃ b, A = some ⟨b, 0, none⟩ ∧ w.cell? ⟨b, i * 5, none⟩ = some (.int .i64 x.x) ∧ w.cell? ⟨b, i * 5 + 1, none⟩ = some (.int .i64 x.y) ∧
    w.cell? ⟨b, i * 5 + 2, none⟩ = some (.int .i64 x.e0) ∧ w.cell? ⟨b, i * 5 + 2 + 1, none⟩ = some (.int .i64 x.e1) ∧ w.cell? ⟨b, i * 5 + 2 + 2, none⟩ = some (.int .i64 x.e2) := by
  obtain ⟨b, hb, hr⟩ := h.at_ i (List.getElem?_eq_some_iff.1 hx).1
  have g : ∀ j, j < 5 → ∀ v, x.cells[j]? = some v → w.cell? ⟨b, i * 5 + j, none⟩ = some v := fun j hj v hv => by
    have := hr (i * 5 + j) v ((cellsOf_at l i x hx j hj).trans hv)
    rwa [Nat.zero_add] at this
  obtain ⟨h0, h1, h2, h3, h4⟩ := x.at
  exact ⟨b, hb, g 0 (by omega) _ h0, g 1 (by omega) _ h1, g 2 (by omega) _ h2, g 3 (by omega) _ h3, g 4 (by omega) _ h4⟩
end Go.Proofs.Ytgkidgpdgcdgnaa
