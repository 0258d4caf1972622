/- More of single operations: a triangle's place stored, a row of three compared, the law's awake in a region. -/
import Derived.Test.YtgkidgpdgcdgnaaOps
import Derived.Laws.StructEq
import Derived.Laws.Small
namespace Go.Proofs.Ytgkidgpdgcdgnaa
open Go.RowKit

theorem setCells_other (g : Nat) : ∀ (l : List Value) (o : Nat) (w : World) (k : Nat), k ≠ g → (w.setCells g o l).heap[k]? = w.heap[k]?
  | [], _, _, _, _ => rfl
  | v :: r, o, w, k, hk => by
    rw [World.setCells, setCells_other g r (o + 1) _ k hk]
    exact setCell_other w ⟨g, o, none⟩ v k hk
theorem setCells_size (g : Nat) : ∀ (l : List Value) (o : Nat) (w : World), (w.setCells g o l).heap.size = w.heap.size
  | [], _, _ => rfl
  | v :: r, o, w => by rw [World.setCells, setCells_size g r (o + 1)]; simp [World.setCell]
theorem setCells_os (g : Nat) : ∀ (l : List Value) (o : Nat) (w : World), (w.setCells g o l).os = w.os ∧ (w.setCells g o l).tape = w.tape ∧ (w.setCells g o l).output = w.output
  | [], _, _ => ⟨rfl, rfl, rfl⟩
  | v :: r, o, w => by rw [World.setCells]; exact setCells_os g r (o + 1) _
theorem below_setCells (g o : Nat) (l : List Value) (w : World) (B : Nat) (hB : B ≤ g) : Below B w (w.setCells g o l) :=
  ⟨(setCells_os g l o w).1, (setCells_os g l o w).2.1, (setCells_os g l o w).2.2, by rw [setCells_size]; exact Nat.le_refl _, fun k hk => setCells_other g l o w k (by omega)⟩
theorem TriAt.put {w : World} {g : Nat} {a b c : Spot} (h : TriAt w g a b c) (p : Spot) : TriAt (w.setCells g 0 (spotA p).toList) g p b c ∧ TriAt (w.setCells g 6 (spotA p).toList) g a p c ∧ TriAt (w.setCells g 12 (spotA p).toList) g a b p := by
  unfold TriAt at *
  refine ⟨?_, ?_, ?_⟩ <;>
  · simp only [spotA, World.setCells]
    rw [setCell_row _ g _ _ _ _ (setCell_row _ g _ _ _ _ (setCell_row _ g _ _ _ _ (setCell_row _ g _ _ _ _ (setCell_row _ g _ _ _ _ (setCell_row _ g _ _ _ _ h)))))]
    unfold triA triCells
    rfl
theorem TriAt.setx {w : World} {g : Nat} {a b c : Spot} (h : TriAt w g a b c) (x y : Int) : TriAt ((w.setCell ⟨g, 0, none⟩ (.int .i64 x)).setCell ⟨g, 1, none⟩ (.int .i64 y)) g ⟨x, y, a.z, a.w, a.u, a.v⟩ b c ∧
    TriAt ((w.setCell ⟨g, 6, none⟩ (.int .i64 x)).setCell ⟨g, 7, none⟩ (.int .i64 y)) g a ⟨x, y, b.z, b.w, b.u, b.v⟩ c ∧ TriAt ((w.setCell ⟨g, 12, none⟩ (.int .i64 x)).setCell ⟨g, 13, none⟩ (.int .i64 y)) g a b ⟨x, y, c.z, c.w, c.u, c.v⟩ := by
  unfold TriAt at *
  refine ⟨?_, ?_, ?_⟩ <;>
  · rw [setCell_row _ g _ _ _ _ (setCell_row _ g _ _ _ _ h)]
    unfold triA triCells
    rfl
theorem TriAt.free {w : World} {g : Nat} {a b c : Spot} (h : TriAt w g a b c) (i : Nat) : w.frozen? ⟨g, i, none⟩ = false := frozen_of_row _ _ _ _ _ h
theorem TriAt.there {w : World} {g : Nat} {a b c : Spot} (h : TriAt w g a b c) (o : Nat) (ho : o + 6 ≤ 18) (p : Spot) : w.there g o (spotA p).size := fun j hj => by
  rw [spotA_size] at hj
  refine ⟨?_, h.free _⟩
  rw [h.cell, Array.getElem?_eq_getElem (by rw [triA_size]; omega)]; rfl
section
variable {ops : Array Oper} {rest : List Oper} {o : Oper} {a : Act} {w : World} {Q : Exit → Act → World → Prop}
theorem arm_store23m (hgd : o.guard = none) (x y : Operand) (ho : o.op = .store 23 x y) (g f : Nat) (p q r s : Spot) (hx : a.eval x = .pointer (some ⟨g, f, none⟩)) (hy : a.eval y = .agg (spotA p)) (hg : TriAt w g q r s) (hf : f + 6 ≤ 18)
    (h : ∀ w', w' = w.setCells g f (spotA p).toList → wpList Try.prog ops Q rest (a.put o.dst undef) w') : wpList Try.prog ops Q (o :: rest) a w :=
  wpList_store_mid hgd 23 x y ho g f (spotA p) hx hy (hg.there f hf p) (size23 p) (spotA_one p) (h _ rfl)
end
theorem e_range {w : World} {b o : Nat} {e0 e1 e2 : Int} (h0 : w.cell? ⟨b, o, none⟩ = some (.int .i64 e0)) (h1 : w.cell? ⟨b, o + 1, none⟩ = some (.int .i64 e1)) (h2 : w.cell? ⟨b, o + 2, none⟩ = some (.int .i64 e2)) : w.rangeAt b o (eA e0 e1 e2).toList := fun j v hv => by
  have hj := (List.getElem?_eq_some_iff.1 hv).1
  rw [Array.length_toList, eA_size] at hj
  unfold eA at hv
  have : j = 0 ∨ j = 1 ∨ j = 2 := by omega
  rcases this with rfl | rfl | rfl
  · rw [Nat.add_zero, h0]; simpa using hv
  · rw [h1]; simpa using hv
  · rw [h2]; simpa using hv
theorem eqIn29 (d : Nat) (a b c : Int) (w : World) : (Op.equalIn (d + 2) 29 (.agg (eA a b c)) (.agg (eA a b c))).run Try.prog w = .ok true w := by
  have u3 := Try.underlying3
  have a3 := Try.isAgg3
  have z3 := Try.sizeOf3
  unfold eA
  rw [show d + 2 = (d + 1) + 1 from rfl, Op.equalIn]
  simp only [Sem.run_bind, run_underlying Try.underlying29, Result.andThen_ok]
  simp only [Std.Legacy.Range.forIn_eq_forIn_range', Std.Legacy.Range.size, Nat.sub_zero, Nat.add_sub_cancel, Nat.div_one, List.range'_succ, List.range'_zero, List.forIn_cons, List.forIn_nil]
  go_simp
theorem run_neq29 (a b c : Int) (W : World) : (binOp .neq 29 (.agg (eA a b c)) (.agg (eA a b c))).run Try.prog W = .ok (.bool false) W := by
  rw [run_neq_struct, show (10000 : Nat) = 9998 + 2 from rfl, eqIn29]; rfl
theorem guard_neq29 (x y : Operand) (a b c : Int) (W : World) : (eqGuard .neq 29 x y (.agg (eA a b c)) (.agg (eA a b c))).run Try.prog W = .ok () W := by
  unfold eA; simp [go_sem, eqGuard]
theorem exec_neq29 (ρ : Operand → Value) (o : Oper) {x y : Operand} (ho : o.op = .binOp .neq 29 x y 29) (a b c : Int) (h1 : ρ x = .agg (eA a b c)) (h2 : ρ y = .agg (eA a b c)) (W : World) : (execOp ρ o).run Try.prog W = .ok (.value (.bool false)) W := by
  simp only [execOp, ho, h1, h2, Sem.run_bind, guard_neq29, run_neq29, Result.andThen]; rfl
section
variable {ops : Array Oper} {I : Cls} {a0 : Act} {sp : Nat → Spec} {k : Nat} {o : Oper}
theorem step_load29 (hg : Goes ops sp k o) (x : Operand) (ho : o.op = .load 29 x) (g f : Nat) (e0 e1 e2 : Int) (hx : OpIs ops I a0 sp k x (is (.pointer (some ⟨g, f, none⟩)))) (hI : ∀ w, I w → w.rangeAt g f (eA e0 e1 e2).toList) : StepOk Try.prog ops I a0 sp k o (is (.agg (eA e0 e1 e2))) :=
  step_same hg fun a w K => ⟨.agg (eA e0 e1 e2), by
    have h1 : a.eval x = .pointer (some ⟨g, f, none⟩) := hx a w K
    have hl := run_loadAt_mid (P := Try.prog) w g f 29 (eA e0 e1 e2).toList _ (hI w K.inv) Try.underlying29 rfl (by rw [Array.length_toList]; exact size29 e0 e1 e2)
    rw [Array.toArray_toList] at hl
    simp only [execOp, ho, h1, Sem.run_bind, hl, Result.andThen]; rfl, rfl⟩
theorem enter9 (args : Array Value) (w : World) : (callFunc 9 args).run Try.prog w = .ok (.enter 9 args) w := run_callFunc_enter Try.func9 (by kernel_rfl) (by kernel_rfl) args w
theorem step_awake {w0 : World} (hg : Goes ops sp k o) (ho : o.op = .call { callee := .value (.func 9), args := #[], argTypes := #[] }) : StepOk Try.prog ops (UpC w0) a0 sp k o (is (.bool true)) :=
  step_call0 hg 9 #[] ho enter9 (fun w h => (awake_walk w).mono fun _ _ ⟨he, hb⟩ => ⟨_, he, (UpC.step h hb).1, hb, rfl⟩)
end
end Go.Proofs.Ytgkidgpdgcdgnaa
