/- EdgeTells: equal triangles and hits compared; a row of hits that the law lengthens; what lies there. -/
import Derived.Test.YtgkidgpdgcdgnaaRCov
import Derived.Test.YtgkidgpdgcdgnaaOps2
import Derived.Test.YtgkidgpdgcdgnaaFan
import Derived.Deep.Cut
namespace Go.Proofs.Ytgkidgpdgcdgnaa
open Go.RowKit

theorem tel_op {P : Program} {ops : Array Oper} {Q : Exit → Act → World → Prop} {a : Act} {w : World} {d : Option Tmp} {ty : TypeId} {ps : String} {af : Array Edge} {rest : List Oper} (op : Op)
    (h : wpList P ops Q ({ dst := d, op := op, type := ty, pos := ps, after := af, guard := none } :: rest) a w) : wpList P ops Q ({ dst := d, op := op, type := ty, pos := ps, after := af, guard := none } :: rest) a w := h
/-- what lies there: whole blocks -/
structure Pk (w0 : World) (L : List (Nat × Obj)) (W : World) : Prop where
  blks : ∀ e ∈ L, W.heap[e.1]? = some e.2
  below : Below w0.heap.size w0 W
theorem Pk.up {w0 W W' : World} {L : List (Nat × Obj)} (h : Pk w0 L W) (hb : Below W.heap.size W W') : Pk w0 L W' :=
  ⟨fun e he => (hb.block _ (Array.getElem?_eq_some_iff.1 (h.blks e he)).1).trans (h.blks e he), below_trans h.below hb⟩
theorem Pk.add {w0 W : World} {L : List (Nat × Obj)} (h : Pk w0 L W) {b : Nat} {o : Obj} (hx : W.heap[b]? = some o) : Pk w0 ((b, o) :: L) W :=
  ⟨fun e he => by
    rcases List.mem_cons.1 he with rfl | he
    · exact hx
    · exact h.blks e he, h.below⟩
def triO (a b c : Spot) : Obj := .cells (triA a b c) 24 (0, 0)
def eO (e0 e1 e2 : Int) : Obj := .cells (eA e0 e1 e2) 29 (0, 0)
def hitO (x : Hit) : Obj := .cells x.cells 31 (0, 0)
theorem eqIn23 (d : Nat) (a : Spot) (w : World) : (Op.equalIn (d + 2) 23 (.agg (spotA a)) (.agg (spotA a))).run Try.prog w = .ok true w := by
  have u3 := Try.underlying3
  unfold spotA
  rw [show d + 2 = (d + 1) + 1 from rfl, Op.equalIn]
  simp only [Sem.run_bind, run_underlying Try.underlying23, Result.andThen_ok]
  go_simp
theorem eqIn24 (d : Nat) (a b c : Spot) (w : World) : (Op.equalIn (d + 3) 24 (.agg (triA a b c)) (.agg (triA a b c))).run Try.prog w = .ok true w := by
  have z23 : (sizeOf 23).run Try.prog w = .ok 6 w := by kernel_rfl
  have p0 : (part 23 (triA a b c) 0).run Try.prog w = .ok (.agg (spotA a)) w := by unfold triA triCells spotA; kernel_rfl
  have p1 : (part 23 (triA a b c) 6).run Try.prog w = .ok (.agg (spotA b)) w := by unfold triA triCells spotA; kernel_rfl
  have p2 : (part 23 (triA a b c) 12).run Try.prog w = .ok (.agg (spotA c)) w := by unfold triA triCells spotA; kernel_rfl
  have e0 := eqIn23 d a w
  have e1 := eqIn23 d b w
  have e2 := eqIn23 d c w
  rw [show d + 3 = (d + 2) + 1 from rfl, Op.equalIn]
  simp only [Sem.run_bind, run_underlying Try.underlying24, Result.andThen_ok]
  simp only [Std.Legacy.Range.forIn_eq_forIn_range', Std.Legacy.Range.size, Nat.sub_zero, Nat.add_sub_cancel, Nat.div_one, List.range'_succ, List.range'_zero, List.forIn_cons, List.forIn_nil]
  simp [z23, p0, p1, p2, e0, e1, e2]
theorem run_neq24 (a b c : Spot) (W : World) : (binOp .neq 24 (.agg (triA a b c)) (.agg (triA a b c))).run Try.prog W = .ok (.bool false) W := by
  rw [run_neq_struct, show (10000 : Nat) = 9997 + 3 from rfl, eqIn24]; rfl
theorem eqIn31 (d : Nat) (x : Hit) (w : World) : (Op.equalIn (d + 3) 31 (.agg x.cells) (.agg x.cells)).run Try.prog w = .ok true w := by
  have u3 := Try.underlying3
  have p2 : (part 29 x.cells 2).run Try.prog w = .ok (.agg (eA x.e0 x.e1 x.e2)) w := by unfold Hit.cells hitA eA; kernel_rfl
  have p0 : (part 3 x.cells 0).run Try.prog w = .ok (.int .i64 x.x) w := by unfold Hit.cells hitA; kernel_rfl
  have p1 : (part 3 x.cells 1).run Try.prog w = .ok (.int .i64 x.y) w := by unfold Hit.cells hitA; kernel_rfl
  have e2 := eqIn29 d x.e0 x.e1 x.e2 w
  have e0 : (Op.equalIn (d + 2) 3 (.int .i64 x.x) (.int .i64 x.x)).run Try.prog w = .ok true w := by rw [show d + 2 = (d + 1) + 1 from rfl, Op.equalIn]; simp [run_underlying u3]
  have e1 : (Op.equalIn (d + 2) 3 (.int .i64 x.y) (.int .i64 x.y)).run Try.prog w = .ok true w := by rw [show d + 2 = (d + 1) + 1 from rfl, Op.equalIn]; simp [run_underlying u3]
  have hs : (Program.stoodInHeld Try.prog 31) = false := by kernel_rfl
  rw [show d + 3 = (d + 2) + 1 from rfl, Op.equalIn]
  simp only [Sem.run_bind, run_underlying Try.underlying31, Result.andThen_ok]
  simp [program, hs, p0, p1, p2, e0, e1, e2, Sem.run]
theorem run_neq31 (x : Hit) (W : World) : (binOp .neq 31 (.agg x.cells) (.agg x.cells)).run Try.prog W = .ok (.bool false) W := by
  rw [run_neq_struct, show (10000 : Nat) = 9997 + 3 from rfl, eqIn31]; rfl
theorem guard_neq24 (x y : Operand) (a b c : Spot) (W : World) : (eqGuard .neq 24 x y (.agg (triA a b c)) (.agg (triA a b c))).run Try.prog W = .ok () W := by
  unfold triA; simp [go_sem, eqGuard]
theorem guard_neq31 (x y : Operand) (h : Hit) (W : World) : (eqGuard .neq 31 x y (.agg h.cells) (.agg h.cells)).run Try.prog W = .ok () W := by
  unfold Hit.cells hitA; simp [go_sem, eqGuard]
section
variable {ops : Array Oper} {I : Cls} {a0 : Act} {sp : Nat → Spec} {k : Nat} {o : Oper}
theorem step_neq24 (hg : Goes ops sp k o) (x y : Operand) (ho : o.op = .binOp .neq 24 x y 24) (a b c : Spot) (hx : OpIs ops I a0 sp k x (is (.agg (triA a b c)))) (hy : OpIs ops I a0 sp k y (is (.agg (triA a b c)))) : StepOk Try.prog ops I a0 sp k o (is (.bool false)) :=
  step_two hg x y _ _ _ hx hy fun ρ w h1 h2 => by simp only [execOp, ho, h1, h2, Sem.run_bind, guard_neq24, run_neq24, Result.andThen]; rfl
theorem step_neq31 (hg : Goes ops sp k o) (x y : Operand) (ho : o.op = .binOp .neq 31 x y 31) (h : Hit) (hx : OpIs ops I a0 sp k x (is (.agg h.cells))) (hy : OpIs ops I a0 sp k y (is (.agg h.cells))) : StepOk Try.prog ops I a0 sp k o (is (.bool false)) :=
  step_two hg x y _ _ _ hx hy fun ρ w h1 h2 => by simp only [execOp, ho, h1, h2, Sem.run_bind, guard_neq31, run_neq31, Result.andThen]; rfl
theorem step_neq29 (hg : Goes ops sp k o) (x y : Operand) (ho : o.op = .binOp .neq 29 x y 29) (a b c : Int) (hx : OpIs ops I a0 sp k x (is (.agg (eA a b c)))) (hy : OpIs ops I a0 sp k y (is (.agg (eA a b c)))) : StepOk Try.prog ops I a0 sp k o (is (.bool false)) :=
  step_two hg x y _ _ _ hx hy fun ρ w h1 h2 => exec_neq29 ρ o ho a b c h1 h2 w
theorem step_neqb (hg : Goes ops sp k o) (x y : Operand) (ho : o.op = .binOp .neq 4 x y 4) (c : Bool) (hx : OpIs ops I a0 sp k x (is (.bool c))) (hy : OpIs ops I a0 sp k y (is (.bool c))) : StepOk Try.prog ops I a0 sp k o (is (.bool false)) :=
  step_two hg x y _ _ _ hx hy fun ρ w h1 h2 => by
    have hr : (binOp .neq 4 (.bool c) (.bool c)).run Try.prog w = .ok (.bool false) w := by cases c <;> kernel_rfl
    simp only [execOp, ho, h1, h2, Sem.run_bind, run_eqGuard_bool, hr, Result.andThen]; rfl
theorem step_load31m (hg : Goes ops sp k o) (x : Operand) (ho : o.op = .load 31 x) (g f : Nat) (h : Hit) (hx : OpIs ops I a0 sp k x (is (.pointer (some ⟨g, f, none⟩)))) (hI : ∀ w, I w → w.rangeAt g f h.cells.toList) : StepOk Try.prog ops I a0 sp k o (is (.agg h.cells)) :=
  step_same hg fun a w K => ⟨.agg h.cells, by
    have h1 : a.eval x = .pointer (some ⟨g, f, none⟩) := hx a w K
    have hl := run_loadAt_mid (P := Try.prog) w g f 31 h.cells.toList _ (hI w K.inv) Try.underlying31 rfl (by rw [Array.length_toList]; exact size31 _ _ _ _ _)
    rw [Array.toArray_toList] at hl
    simp only [execOp, ho, h1, Sem.run_bind, hl, Result.andThen]; rfl, rfl⟩
theorem step_build31z {I : Cls} (hg : Goes ops sp k o) (ho : o.op = .build 31 #[]) : StepOk Try.prog ops I a0 sp k o (is (.agg (Hit.cells ⟨0, 0, 0, 0, 0⟩))) :=
  fun a w K => .inl ⟨hg.wanted K, fun K' Q hK => by
    have e : Try.prog.built 31 ((#[] : Array (Nat × Operand)).map fun (i, x) => (i, a.eval x)).toList = some (Hit.cells ⟨0, 0, 0, 0, 0⟩) := by rw [Array.map_empty]; exact built31z
    exact wp_build 31 _ ho (by rw [e]; rfl) (by rw [e]; exact hK _ _ K.inv (I.refl _) rfl)⟩
end
theorem hit_range {w : World} {b : Nat} {x : Hit} (h : w.heap[b]? = some (hitO x)) : w.rangeAt b 0 x.cells.toList := fun j v hv => by
  rw [cell_of_row _ _ _ _ _ _ h, Nat.zero_add, ← Array.getElem?_toList]; exact hv
theorem hit_e {w : World} {b : Nat} {x : Hit} (h : w.heap[b]? = some (hitO x)) : w.rangeAt b 2 (eA x.e0 x.e1 x.e2).toList := by
  have hc := fun i => cell_of_row _ _ i _ _ _ h
  exact e_range ((hc 2).trans x.at.2.2.1) ((hc 3).trans x.at.2.2.2.1) ((hc 4).trans x.at.2.2.2.2)
theorem hit_xy {w : World} {b : Nat} {x : Hit} (h : w.heap[b]? = some (hitO x)) : w.cell? ⟨b, 0, none⟩ = some (.int .i64 x.x) ∧ w.cell? ⟨b, 1, none⟩ = some (.int .i64 x.y) :=
  ⟨(cell_of_row _ _ 0 _ _ _ h).trans x.at.1, (cell_of_row _ _ 1 _ _ _ h).trans x.at.2.1⟩
theorem e_row {w : World} {b : Nat} {e0 e1 e2 : Int} (h : w.heap[b]? = some (eO e0 e1 e2)) : w.rangeAt b 0 (eA e0 e1 e2).toList := fun j v hv => by
  rw [cell_of_row _ _ _ _ _ _ h, Nat.zero_add, ← Array.getElem?_toList]; exact hv
theorem HRow.range {w : World} {A : Option Addr} {l : List Hit} (h : HRow w A l) {i : Nat} {x : Hit} (hx : l[i]? = some x) : ∃ b, A = some ⟨b, 0, none⟩ ∧ w.rangeAt b (i * 5) x.cells.toList := by
  obtain ⟨b, h1, h2⟩ := h.at_ i (List.getElem?_eq_some_iff.1 hx).1
  refine ⟨b, h1, fun j v hv => ?_⟩
  have hj := (List.getElem?_eq_some_iff.1 hv).1
  rw [Array.length_toList, Hit.cells_size] at hj
  have := h2 (i * 5 + j) v (by rw [cellsOf_at l i x hx j hj, ← Array.getElem?_toList]; exact hv)
  rwa [Nat.zero_add] at this
/-- a row of hits of the law's own -/
def HOwn (w : World) (B : Nat) (v : Value) (l : List Hit) : Prop := w.ownsRow B 31 5 v l.length (cellsOf l)
theorem HOwn.nil (w : World) (B : Nat) : HOwn w B (.slice none 0 0) [] := World.ownsRow_nil _ _ _ _
theorem HOwn.below {w w' : World} {B : Nat} {v : Value} {l : List Hit} (h : HOwn w B v l) (hb : Below w.heap.size w w') : HOwn w' B v l := by
  refine ⟨h.1, ?_⟩
  rcases h.2 with h2 | ⟨g, cap, cur, h1, h2, h3, h4⟩
  · exact .inl h2
  · exact .inr ⟨g, cap, cur, h1, h2, (hb.block g (Array.getElem?_eq_some_iff.1 h3).1).trans h3, h4⟩
theorem HOwn.row {w : World} {B : Nat} {v : Value} {l : List Hit} (h : HOwn w B v l) : ∃ A cap, v = .slice A l.length cap ∧ HRow w A l ∧ l.length ≤ cap := by
  obtain ⟨A, cap, h1, h2, h3, _⟩ := own_hits h
  exact ⟨A, cap, h1, h2, h3⟩
section
variable {ops : Array Oper} {rest : List Oper} {o : Oper} {a : Act} {w : World} {Q : Exit → Act → World → Prop}
theorem arm_build31e (hgd : o.guard = none) (x y z : Operand) (ho : o.op = .build 31 #[(0, x), (1, y), (2, z)]) (h : Hit) (hx : a.eval x = .int .i64 h.x) (hy : a.eval y = .int .i64 h.y) (hz : a.eval z = .agg (eA h.e0 h.e1 h.e2))
    (hh : wpList Try.prog ops Q rest (a.put o.dst (.agg h.cells)) w) : wpList Try.prog ops Q (o :: rest) a w := by
  have e : Try.prog.built 31 ((#[(0, x), (1, y), (2, z)] : Array (Nat × Operand)).map fun (i, x) => (i, a.eval x)).toList = some h.cells := by
    simp only [List.map_toArray, List.map_cons, List.map_nil, hx, hy, hz]
    unfold Hit.cells hitA eA
    kernel_rfl
  refine wpList_build hgd 31 _ ho (by rw [e]; rfl) ?_
  rw [e]; exact hh
theorem arm_slice38 (hgd : o.guard = none) (x : Operand) (ho : o.op = .buildSlice 38 1 #[(0, x)]) (h : Hit) (hx : a.eval x = .agg h.cells)
    (hh : wpList Try.prog ops Q rest (a.put o.dst (.slice (some ⟨w.heap.size, 0, none⟩) 1 1)) (w.alloc (.cells h.cells 31))) : wpList Try.prog ops Q (o :: rest) a w :=
  wpList_plain hgd fun K hK => by
    unfold Oper.wp
    simp only [execOp, ho, List.map_toArray, List.map_cons, List.map_nil, hx, Sem.run_bind, run_build38]
    exact hK _ _ hh
theorem arm_hit (hgd : o.guard = none) (x y : Operand) (ho : o.op = .call { callee := .builtin .append, args := #[x, y], argTypes := #[38, 38] }) (B : Nat) (v : Value) (l : List Hit) (h : Hit) (hx : a.eval x = v) (hy : a.eval y = .slice (some ⟨w.heap.size, 0, none⟩) 1 1) (hv : HOwn w B v l)
    (hn : l.length ≤ 2000) (hB : B ≤ w.heap.size)
    (hh : ∀ v' w', HOwn w' B v' (l ++ [h]) → Below B w w' → wpList Try.prog ops Q rest (a.put o.dst v') w') : wpList Try.prog ops Q (o :: rest) a (w.alloc (.cells h.cells 31)) := by
  obtain ⟨i0, hi, hz0, hz1, hz2⟩ := info_parts info31
  have hb1 := below_alloc w (.cells h.cells 31)
  have hv1 := hv.below hb1
  have hnew := heap_alloc_new w (.cells h.cells 31)
  refine wpList_append_own (w.alloc (.cells h.cells 31)) hgd x y 38 ho B 31 i0 (.agg (hitA 0 0 0 0 0)) 5 40 Try.underlying38 hi hz0 hz1 hz2 (by show (hitA 0 0 0 0 0).size = 5; exact hitA_size _ _ _ _ _) (by decide) v l.length (cellsOf l) hx hv1 ⟨w.heap.size, 0, none⟩ 1 1 h.cells.toList hy (by rw [Array.length_toList, Hit.cells_size]) (fun j u hu => ?_) h.one (by unfold maxLen; omega) (by omega) (Nat.le_trans hB hb1.size) ?_
  · have hadd : (⟨w.heap.size, 0, none⟩ : Addr).add j = ⟨w.heap.size, j, none⟩ := by unfold Addr.add; split <;> simp_all
    rw [hadd, cell_of_row _ _ _ _ _ _ hnew, ← Array.getElem?_toList]; exact hu
  · intro v' w' hrow hgrow _
    refine hh v' w' ?_ (((Below.refl _ _).alloc hB _).trans ((Below.refl _ _).grown hgrow (Nat.le_trans hB hb1.size) (fun k hk => (hv1.lt k hk).1)))
    unfold HOwn
    have e : cellsOf (l ++ [h]) = cellsOf l ++ h.cells.toList := by simp [cellsOf]
    rw [List.length_append, List.length_singleton, e]; exact hrow
end
/-- the reference's answer of a pixel -/
theorem rcover_cases (p q r : Spot) (w k : Nat) : ∃ (x : Hit) (b : Bool), rcoverV p q r ((k % w : Nat) : Int) ((k / w : Nat) : Int) = .tuple #[.agg (eA x.e0 x.e1 x.e2), .bool b] ∧ pixel (p, q, r) w k = (if b = true then some x else none) ∧ (b = true → x.x = ((k % w : Nat) : Int) ∧ x.y = ((k / w : Nat) : Int)) := by
  by_cases h : covered p q r ((k % w : Nat) : Int) ((k / w : Nat) : Int) = true
  · refine ⟨⟨((k % w : Nat) : Int), ((k / w : Nat) : Int), side q r (256 * ((k % w : Nat) : Int) + 128) (256 * ((k / w : Nat) : Int) + 128), side r p (256 * ((k % w : Nat) : Int) + 128) (256 * ((k / w : Nat) : Int) + 128), side p q (256 * ((k % w : Nat) : Int) + 128) (256 * ((k / w : Nat) : Int) + 128)⟩, true, ?_, ?_, fun _ => ⟨rfl, rfl⟩⟩
    · unfold rcoverV; rw [if_pos h]
    · unfold pixel; rw [if_pos h, if_pos rfl]
  · refine ⟨⟨0, 0, 0, 0, 0⟩, false, ?_, ?_, (fun h => by cases h)⟩
    · unfold rcoverV; rw [if_neg h]
    · unfold pixel; rw [if_neg h]; rfl
/-- both answers of any pixel -/
theorem both_cases (p q r : Spot) (x y : Int) : ∃ (h : Hit) (b : Bool), coverV p q r x y = .tuple #[.agg h.cells, .bool b] ∧ rcoverV p q r x y = .tuple #[.agg (eA h.e0 h.e1 h.e2), .bool b] ∧ (b = true → h.x = x ∧ h.y = y) ∧ (b = false → h = ⟨0, 0, 0, 0, 0⟩) := by
  by_cases h : covered p q r x y = true
  · refine ⟨⟨x, y, side q r (256 * x + 128) (256 * y + 128), side r p (256 * x + 128) (256 * y + 128), side p q (256 * x + 128) (256 * y + 128)⟩, true, ?_, ?_, fun _ => ⟨rfl, rfl⟩, fun h => by cases h⟩
    · unfold coverV; rw [if_pos h]; rfl
    · unfold rcoverV; rw [if_pos h]
  · refine ⟨⟨0, 0, 0, 0, 0⟩, false, ?_, ?_, (fun h => by cases h), fun _ => rfl⟩
    · unfold coverV; rw [if_neg h]; rfl
    · unfold rcoverV; rw [if_neg h]
theorem allR_take (k : Nat) (l : List Hit) : allR (k : Int) l = l.take k := by
  unfold allR
  rw [if_neg (by omega)]; simp
theorem pixTo_zero (t : Spot × Spot × Spot) (w : Nat) : pixTo t w 0 = [] := rfl
end Go.Proofs.Ytgkidgpdgcdgnaa
