/- Spots and triangles as whole rows of cells, and the operations on them. -/
import Derived.Test.YtgkidgpdgcdgnaaArea
import Derived.Deep.MidRow
namespace Go.Proofs.Ytgkidgpdgcdgnaa
open Go.RowKit

@[irreducible] def spotA (a : Spot) : Array Value := #[.int .i64 a.x, .int .i64 a.y, .int .i64 a.z, .int .i64 a.w, .int .i64 a.u, .int .i64 a.v]
@[irreducible] def triA (a b c : Spot) : Array Value := triCells a b c
theorem spotV_A (a : Spot) : spotV a = .agg (spotA a) := by unfold spotV spotA; rfl
theorem triV_A (a b c : Spot) : triV a b c = .agg (triA a b c) := by unfold triV triA triCells; rfl
theorem spotA_size (a : Spot) : (spotA a).size = 6 := by unfold spotA; rfl
theorem triA_size (a b c : Spot) : (triA a b c).size = 18 := by unfold triA triCells; rfl
theorem size23 (a : Spot) : (Try.prog.info? 23).map (·.size) = some (spotA a).size := by rw [spotA_size]; kernel_rfl
theorem size24 (a b c : Spot) : (Try.prog.info? 24).map (·.size) = some (triA a b c).size := by rw [triA_size]; kernel_rfl
theorem spotA_one (a : Spot) : (spotA a).all (·.oneCell') = true := by unfold spotA; simp [Value.oneCell']
theorem triA_one (a b c : Spot) : (triA a b c).all (·.oneCell') = true := by unfold triA triCells; simp [Value.oneCell']
theorem spotA_x (a : Spot) : (spotA a)[0]? = some (.int .i64 a.x) ∧ (spotA a)[1]? = some (.int .i64 a.y) := by unfold spotA; exact ⟨rfl, rfl⟩
def spot0 : Spot := ⟨0, 0, 0, 0, 0, 0⟩
theorem alloc24 (w : World) : (Instr.alloc 24 true (.tuple #[])).run Try.prog w = .ok (.pointer (some ⟨w.heap.size, 0, none⟩)) (w.alloc (.cells (triA spot0 spot0 spot0) 24)) := by
  unfold triA triCells spot0; kernel_rfl
theorem alloc23 (w : World) : (Instr.alloc 23 true (.tuple #[])).run Try.prog w = .ok (.pointer (some ⟨w.heap.size, 0, none⟩)) (w.alloc (.cells (spotA spot0) 23)) := by
  unfold spotA spot0; kernel_rfl
theorem built24 (a b c : Spot) : Try.prog.built 24 [(0, .agg (spotA a)), (1, .agg (spotA b)), (2, .agg (spotA c))] = some (triA a b c) := by
  unfold spotA triA triCells; kernel_rfl
theorem built24z : Try.prog.built 24 [] = some (triA spot0 spot0 spot0) := by
  unfold triA triCells spot0; kernel_rfl
/-- block b holds the triangle -/
def TriAt (w : World) (g : Nat) (a b c : Spot) : Prop := w.heap[g]? = some (.cells (triA a b c) 24 (0, 0))
def SpotAt (w : World) (g : Nat) (a : Spot) : Prop := w.heap[g]? = some (.cells (spotA a) 23 (0, 0))
theorem TriAt.cell {w : World} {g : Nat} {a b c : Spot} (h : TriAt w g a b c) (i : Nat) : w.cell? ⟨g, i, none⟩ = (triA a b c)[i]? := cell_of_row _ _ _ _ _ _ h
theorem SpotAt.cell {w : World} {g : Nat} {a : Spot} (h : SpotAt w g a) (i : Nat) : w.cell? ⟨g, i, none⟩ = (spotA a)[i]? := cell_of_row _ _ _ _ _ _ h
theorem TriAt.x {w : World} {g : Nat} {a b c : Spot} (h : TriAt w g a b c) : w.cell? ⟨g, 0, none⟩ = some (.int .i64 a.x) ∧ w.cell? ⟨g, 1, none⟩ = some (.int .i64 a.y) ∧ w.cell? ⟨g, 6, none⟩ = some (.int .i64 b.x) ∧ w.cell? ⟨g, 7, none⟩ = some (.int .i64 b.y) ∧ w.cell? ⟨g, 12, none⟩ = some (.int .i64 c.x) ∧ w.cell? ⟨g, 13, none⟩ = some (.int .i64 c.y) := by
  refine ⟨?_, ?_, ?_, ?_, ?_, ?_⟩ <;> (rw [h.cell]; unfold triA triCells; rfl)
theorem SpotAt.x {w : World} {g : Nat} {a : Spot} (h : SpotAt w g a) : w.cell? ⟨g, 0, none⟩ = some (.int .i64 a.x) ∧ w.cell? ⟨g, 1, none⟩ = some (.int .i64 a.y) := by
  rw [h.cell, h.cell]; exact spotA_x a
theorem TriAt.below {w w' : World} {g : Nat} {a b c : Spot} (h : TriAt w g a b c) (hb : Below w.heap.size w w') : TriAt w' g a b c := (hb.block g (Array.getElem?_eq_some_iff.1 h).1).trans h
theorem SpotAt.below {w w' : World} {g : Nat} {a : Spot} (h : SpotAt w g a) (hb : Below w.heap.size w w') : SpotAt w' g a := (hb.block g (Array.getElem?_eq_some_iff.1 h).1).trans h
theorem TriAt.new (w : World) (a b c : Spot) : TriAt (w.alloc (.cells (triA a b c) 24)) w.heap.size a b c := heap_alloc_new w _
theorem SpotAt.new (w : World) (a : Spot) : SpotAt (w.alloc (.cells (spotA a) 23)) w.heap.size a := heap_alloc_new w _
theorem TriAt.r0 {w : World} {g : Nat} {a b c : Spot} (h : TriAt w g a b c) : w.rangeAt g 0 (spotA a).toList := fun j v hv => by
  have hj := (List.getElem?_eq_some_iff.1 hv).1
  rw [Array.length_toList, spotA_size] at hj
  rw [h.cell, ← hv]; unfold spotA triA triCells
  have : j = 0 ∨ j = 1 ∨ j = 2 ∨ j = 3 ∨ j = 4 ∨ j = 5 := by omega
  rcases this with rfl | rfl | rfl | rfl | rfl | rfl <;> rfl
theorem TriAt.r1 {w : World} {g : Nat} {a b c : Spot} (h : TriAt w g a b c) : w.rangeAt g 6 (spotA b).toList := fun j v hv => by
  have hj := (List.getElem?_eq_some_iff.1 hv).1
  rw [Array.length_toList, spotA_size] at hj
  rw [h.cell, ← hv]; unfold spotA triA triCells
  have : j = 0 ∨ j = 1 ∨ j = 2 ∨ j = 3 ∨ j = 4 ∨ j = 5 := by omega
  rcases this with rfl | rfl | rfl | rfl | rfl | rfl <;> rfl
theorem TriAt.r2 {w : World} {g : Nat} {a b c : Spot} (h : TriAt w g a b c) : w.rangeAt g 12 (spotA c).toList := fun j v hv => by
  have hj := (List.getElem?_eq_some_iff.1 hv).1
  rw [Array.length_toList, spotA_size] at hj
  rw [h.cell, ← hv]; unfold spotA triA triCells
  have : j = 0 ∨ j = 1 ∨ j = 2 ∨ j = 3 ∨ j = 4 ∨ j = 5 := by omega
  rcases this with rfl | rfl | rfl | rfl | rfl | rfl <;> rfl
theorem SpotAt.r {w : World} {g : Nat} {a : Spot} (h : SpotAt w g a) : w.rangeAt g 0 (spotA a).toList := fun j v hv => by
  rw [h.cell, ← hv, Nat.zero_add, Array.getElem?_toList]

section
variable {ops : Array Oper} {rest : List Oper} {o : Oper} {a : Act} {w : World} {Q : Exit → Act → World → Prop}
theorem arm_load24 (hgd : o.guard = none) (x : Operand) (ho : o.op = .load 24 x) (g : Nat) (p q r : Spot) (hx : a.eval x = .pointer (some ⟨g, 0, none⟩)) (hg : TriAt w g p q r)
    (h : wpList Try.prog ops Q rest (a.put o.dst (.agg (triA p q r))) w) : wpList Try.prog ops Q (o :: rest) a w :=
  wpList_load_row hgd 24 x ho g hx 24 (triA p q r) (0, 0) _ hg Try.underlying24 rfl (size24 p q r) h
theorem arm_load23 (hgd : o.guard = none) (x : Operand) (ho : o.op = .load 23 x) (g k : Nat) (p : Spot) (hx : a.eval x = .pointer (some ⟨g, k, none⟩)) (hg : w.rangeAt g k (spotA p).toList)
    (h : wpList Try.prog ops Q rest (a.put o.dst (.agg (spotA p))) w) : wpList Try.prog ops Q (o :: rest) a w := by
  refine wpList_load_mid hgd 23 x ho g k hx (spotA p).toList _ hg Try.underlying23 rfl (by rw [Array.length_toList]; exact size23 p) ?_
  rw [Array.toArray_toList]; exact h
theorem arm_alloc24 (hgd : o.guard = none) (ho : o.op = .alloc 24)
    (h : wpList Try.prog ops Q rest (a.put o.dst (.pointer (some ⟨w.heap.size, 0, none⟩))) (w.alloc (.cells (triA spot0 spot0 spot0) 24))) : wpList Try.prog ops Q (o :: rest) a w :=
  wpList_plain hgd fun K hK => by
    unfold Oper.wp
    simp only [execOp, ho, Sem.run_bind, alloc24]
    exact hK _ _ h
theorem arm_alloc23 (hgd : o.guard = none) (ho : o.op = .alloc 23)
    (h : wpList Try.prog ops Q rest (a.put o.dst (.pointer (some ⟨w.heap.size, 0, none⟩))) (w.alloc (.cells (spotA spot0) 23))) : wpList Try.prog ops Q (o :: rest) a w :=
  wpList_plain hgd fun K hK => by
    unfold Oper.wp
    simp only [execOp, ho, Sem.run_bind, alloc23]
    exact hK _ _ h
theorem arm_store24 (hgd : o.guard = none) (x y : Operand) (ho : o.op = .store 24 x y) (g : Nat) (p q r p' q' r' : Spot) (hx : a.eval x = .pointer (some ⟨g, 0, none⟩)) (hy : a.eval y = .agg (triA p' q' r')) (hg : TriAt w g p q r)
    (h : TriAt (w.setRow g (triA p' q' r')) g p' q' r' → (∀ B, B ≤ g → Below B w (w.setRow g (triA p' q' r'))) → wpList Try.prog ops Q rest (a.put o.dst undef) (w.setRow g (triA p' q' r'))) : wpList Try.prog ops Q (o :: rest) a w :=
  wpList_plain hgd fun K hK => wp_store_row 24 x y ho g (triA p' q' r') hx hy 24 (triA p q r) hg (size24 _ _ _) (by rw [triA_size, triA_size]) (triA_one _ _ _)
    (hK _ _ (h (setRow_heap w g _ _ 24 _ hg) (fun B hB => ⟨rfl, rfl, rfl, by simp [World.setRow], fun k hk => setRow_other w g k _ (by omega)⟩)))
theorem arm_build24 (hgd : o.guard = none) (x y z : Operand) (ho : o.op = .build 24 #[(0, x), (1, y), (2, z)]) (p q r : Spot) (hx : a.eval x = .agg (spotA p)) (hy : a.eval y = .agg (spotA q)) (hz : a.eval z = .agg (spotA r))
    (h : wpList Try.prog ops Q rest (a.put o.dst (.agg (triA p q r))) w) : wpList Try.prog ops Q (o :: rest) a w := by
  have e : Try.prog.built 24 ((#[(0, x), (1, y), (2, z)] : Array (Nat × Operand)).map fun (i, x) => (i, a.eval x)).toList = some (triA p q r) := by
    simp only [List.map_toArray, List.map_cons, List.map_nil, hx, hy, hz]; exact built24 p q r
  refine wpList_build hgd 24 _ ho (by rw [e]; rfl) ?_
  rw [e]; exact h
theorem arm_build24z (hgd : o.guard = none) (ho : o.op = .build 24 #[])
    (h : wpList Try.prog ops Q rest (a.put o.dst (.agg (triA spot0 spot0 spot0))) w) : wpList Try.prog ops Q (o :: rest) a w := by
  have e : Try.prog.built 24 ((#[] : Array (Nat × Operand)).map fun (i, x) => (i, a.eval x)).toList = some (triA spot0 spot0 spot0) := by rw [Array.map_empty]; exact built24z
  refine wpList_build hgd 24 _ ho (by rw [e]; rfl) ?_
  rw [e]; exact h
end
/-- results in a cell and a slot -/
theorem results_ct {fn : Func} {p u : Tmp} {ty : TypeId} (h : fn.results = #[.cell p ty, .tmp u]) (tmps : Array Value) (w : World) (q : Addr) (v : Value)
    (hp : tmps.getD p undef = .pointer (some q)) (hl : (loadVar ty q).run Try.prog w = .ok v w) :
    (results fn tmps).run Try.prog w = .ok (.tuple #[v, tmps.getD u undef]) w := by
  have hp' : tmps[p]?.getD undef = .pointer (some q) := by simpa using hp
  simp [results, h, hp', asAddr, hl]
theorem TriAt.load {w : World} {g : Nat} {a b c : Spot} (h : TriAt w g a b c) : (loadVar 24 ⟨g, 0, none⟩).run Try.prog w = .ok (.agg (triA a b c)) w :=
  run_loadVar_row w g 24 24 (triA a b c) (0, 0) _ h Try.underlying24 rfl (size24 a b c)
end Go.Proofs.Ytgkidgpdgcdgnaa
