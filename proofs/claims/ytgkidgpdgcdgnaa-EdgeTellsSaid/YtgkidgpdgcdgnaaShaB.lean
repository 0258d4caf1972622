/- EdgeShares: four triangles, rows of counts, and what is counted. -/
import Derived.Test.YtgkidgpdgcdgnaaFan
namespace Go.Proofs.Ytgkidgpdgcdgnaa
open Go.RowKit

@[irreducible] def tri4A (a b c d : Spot) : Array Value := ((triCells a b c).toList ++ ((triCells a c d).toList ++ ((triCells b c d).toList ++ (triCells b d a).toList))).toArray
theorem tri4A_size (a b c d : Spot) : (tri4A a b c d).size = 72 := by unfold tri4A triCells; rfl
theorem tri4A_one (a b c d : Spot) : (tri4A a b c d).all (·.oneCell') = true := by unfold tri4A triCells; simp [Value.oneCell']
theorem size44 (a b c d : Spot) : (Try.prog.info? 44).map (·.size) = some (tri4A a b c d).size := by rw [tri4A_size]; kernel_rfl
theorem built44 (a b c d : Spot) : Try.prog.built 44 [(0, .agg (triA a b c)), (1, .agg (triA a c d)), (2, .agg (triA b c d)), (3, .agg (triA b d a))] = some (tri4A a b c d) := by unfold triA tri4A triCells; kernel_rfl
theorem alloc44 (w : World) : (Instr.alloc 44 true (.tuple #[])).run Try.prog w = .ok (.pointer (some ⟨w.heap.size, 0, none⟩)) (w.alloc (.cells (tri4A spot0 spot0 spot0 spot0) 44)) := by unfold tri4A triCells spot0; kernel_rfl
theorem alloc43 (w : World) : (Instr.alloc 43 true (.tuple #[])).run Try.prog w = .ok (.pointer (some ⟨w.heap.size, 0, none⟩)) (w.alloc (.cells (numA 1024 (fun _ => 0)) 43)) := by unfold numA; kernel_rfl
def Tri4At (w : World) (g : Nat) (a b c d : Spot) : Prop := w.heap[g]? = some (.cells (tri4A a b c d) 44 (0, 0))
def nthTri (a b c d : Spot) : Nat → Spot × Spot × Spot
  | 0 => (a, b, c)
  | 1 => (a, c, d)
  | 2 => (b, c, d)
  | _ => (b, d, a)
theorem Tri4At.r {w : World} {g : Nat} {a b c d : Spot} (h : Tri4At w g a b c d) (i : Nat) (hi : i < 4) : w.rangeAt g (i * 18) (triA (nthTri a b c d i).1 (nthTri a b c d i).2.1 (nthTri a b c d i).2.2).toList := fun j v hv => by
  have hj := (List.getElem?_eq_some_iff.1 hv).1
  rw [Array.length_toList, triA_size] at hj
  rw [cell_of_row _ _ _ _ _ _ h, ← hv]
  unfold triA tri4A
  have hl : ∀ p q r : Spot, (triCells p q r).toList.length = 18 := fun _ _ _ => rfl
  rw [List.getElem?_toArray]
  have h1 : i = 0 ∨ i = 1 ∨ i = 2 ∨ i = 3 := by omega
  rcases h1 with rfl | rfl | rfl | rfl
  · rw [List.getElem?_append_left (by rw [hl]; omega)]; simp [nthTri]
  · rw [List.getElem?_append_right (by rw [hl]; omega), List.getElem?_append_left (by rw [hl, hl]; omega), hl, show 1 * 18 + j - 18 = j by omega]; simp [nthTri]
  · rw [List.getElem?_append_right (by rw [hl]; omega), List.getElem?_append_right (by rw [hl, hl]; omega), List.getElem?_append_left (by rw [hl, hl, hl]; omega), hl, hl, show 2 * 18 + j - 18 - 18 = j by omega]; simp [nthTri]
  · rw [List.getElem?_append_right (by rw [hl]; omega), List.getElem?_append_right (by rw [hl, hl]; omega), List.getElem?_append_right (by rw [hl, hl, hl]; omega), hl, hl, hl, show 3 * 18 + j - 18 - 18 - 18 = j by omega]; simp [nthTri]
theorem run_idx43 (b i : Nat) (hi : i < 1024) (W : World) : (Instr.indexAt 43 (.pointer (some ⟨b, 0, none⟩)) (.int .i64 (i : Nat))).run Try.prog W = .ok (.pointer (some ⟨b, i, none⟩)) W := by
  have h1 : ¬ ((1024 : Int) ≤ (i : Int)) := by omega
  simp [go_sem, h1]
section
variable {ops : Array Oper} {rest : List Oper} {o : Oper} {a : Act} {w : World} {Q : Exit → Act → World → Prop}
theorem arm_alloc43 (hgd : o.guard = none) (ho : o.op = .alloc 43)
    (h : wpList Try.prog ops Q rest (a.put o.dst (.pointer (some ⟨w.heap.size, 0, none⟩))) (w.alloc (.cells (numA 1024 (fun _ => 0)) 43))) : wpList Try.prog ops Q (o :: rest) a w :=
  wpList_plain hgd fun K hK => by
    unfold Oper.wp
    simp only [execOp, ho, Sem.run_bind, alloc43]
    exact hK _ _ h
theorem arm_alloc44 (hgd : o.guard = none) (ho : o.op = .alloc 44)
    (h : wpList Try.prog ops Q rest (a.put o.dst (.pointer (some ⟨w.heap.size, 0, none⟩))) (w.alloc (.cells (tri4A spot0 spot0 spot0 spot0) 44))) : wpList Try.prog ops Q (o :: rest) a w :=
  wpList_plain hgd fun K hK => by
    unfold Oper.wp
    simp only [execOp, ho, Sem.run_bind, alloc44]
    exact hK _ _ h
theorem arm_build44 (hgd : o.guard = none) (x y z u : Operand) (ho : o.op = .build 44 #[(0, x), (1, y), (2, z), (3, u)]) (p q r s : Spot) (hx : a.eval x = .agg (triA p q r)) (hy : a.eval y = .agg (triA p r s)) (hz : a.eval z = .agg (triA q r s)) (hu : a.eval u = .agg (triA q s p))
    (h : wpList Try.prog ops Q rest (a.put o.dst (.agg (tri4A p q r s))) w) : wpList Try.prog ops Q (o :: rest) a w := by
  have e : Try.prog.built 44 ((#[(0, x), (1, y), (2, z), (3, u)] : Array (Nat × Operand)).map fun (i, x) => (i, a.eval x)).toList = some (tri4A p q r s) := by
    simp only [List.map_toArray, List.map_cons, List.map_nil, hx, hy, hz, hu]; exact built44 p q r s
  refine wpList_build hgd 44 _ ho (by rw [e]; rfl) ?_
  rw [e]; exact h
theorem arm_store44 (hgd : o.guard = none) (x y : Operand) (ho : o.op = .store 44 x y) (g : Nat) (p q r s p' q' r' s' : Spot) (hx : a.eval x = .pointer (some ⟨g, 0, none⟩)) (hy : a.eval y = .agg (tri4A p' q' r' s')) (hg : Tri4At w g p q r s)
    (h : ∀ w', Tri4At w' g p' q' r' s' → (∀ B, B ≤ g → Below B w w') → wpList Try.prog ops Q rest (a.put o.dst undef) w') : wpList Try.prog ops Q (o :: rest) a w :=
  wpList_plain hgd fun K hK => wp_store_row 44 x y ho g (tri4A p' q' r' s') hx hy 44 (tri4A p q r s) hg (size44 _ _ _ _) (by rw [tri4A_size, tri4A_size]) (tri4A_one _ _ _ _)
    (hK _ _ (h _ (setRow_heap w g _ _ 44 _ hg) (fun B hB => ⟨rfl, rfl, rfl, by simp [World.setRow], fun k hk => setRow_other w g k _ (by omega)⟩)))
theorem arm_load24m (hgd : o.guard = none) (x : Operand) (ho : o.op = .load 24 x) (g k : Nat) (p q r : Spot) (hx : a.eval x = .pointer (some ⟨g, k, none⟩)) (hg : w.rangeAt g k (triA p q r).toList)
    (h : wpList Try.prog ops Q rest (a.put o.dst (.agg (triA p q r))) w) : wpList Try.prog ops Q (o :: rest) a w := by
  refine wpList_load_mid hgd 24 x ho g k hx (triA p q r).toList _ hg Try.underlying24 rfl (by rw [Array.length_toList]; exact size24 p q r) ?_
  rw [Array.toArray_toList]; exact h
end
section
variable {ops : Array Oper} {a0 : Act} {sp : Nat → Spec} {k : Nat} {o : Oper} {w0 : World}
theorem enter8 (args : Array Value) (w : World) : (callFunc 8 args).run Try.prog w = .ok (.enter 8 args) w := run_callFunc_enter Try.func8 (by kernel_rfl) (by kernel_rfl) args w
theorem enter15 (args : Array Value) (w : World) : (callFunc 15 args).run Try.prog w = .ok (.enter 15 args) w := run_callFunc_enter Try.func15 (by kernel_rfl) (by kernel_rfl) args w
theorem step_small (hg : Goes ops sp k o) (x : Operand) (ts : Array TypeId) (ho : o.op = .call { callee := .value (.func 8), args := #[x], argTypes := ts })
    (a b c : Spot) (e : Bool) (he : allOk a b c = e) (hx : OpIs ops (UpC w0) a0 sp k x (is (.agg (triA a b c)))) : StepOk Try.prog ops (UpC w0) a0 sp k o (is (.bool e)) :=
  step_call1 hg 8 x ts ho enter8 hx (fun v1 w h h1 => by
    obtain rfl : v1 = _ := h1
    subst he
    exact (small_walk a b c w).mono fun _ _ ⟨he, hb⟩ => ⟨_, he, (UpC.step h hb).1, hb, rfl⟩)
theorem step_rarea (hg : Goes ops sp k o) (x : Operand) (ts : Array TypeId) (ho : o.op = .call { callee := .value (.func 15), args := #[x], argTypes := ts })
    (a b c : Spot) (ha : a.ok) (hb : b.ok) (hc : c.ok) (hx : OpIs ops (UpC w0) a0 sp k x (is (.agg (triA a b c)))) : StepOk Try.prog ops (UpC w0) a0 sp k o (is (.int .i64 (area a b c))) :=
  step_call1 hg 15 x ts ho enter15 hx (fun v1 w h h1 => by
    obtain rfl : v1 = _ := h1
    have hs := RArea_walk a b c ha hb hc w
    rw [triV_A] at hs
    exact hs.mono fun _ _ ⟨he, hb⟩ => ⟨_, he, (UpC.step h hb).1, hb, rfl⟩)
end
def SharesA (w0 w : World) (a b c d : Spot) : Prop := Below w0.heap.size w0 w ∧ (SpotAt w w0.heap.size a ∧ SpotAt w (w0.heap.size + 1) b ∧ SpotAt w (w0.heap.size + 1 + 1) c ∧ SpotAt w (w0.heap.size + 1 + 1 + 1) d) ∧ QuadAt w (w0.heap.size + 1 + 1 + 1 + 1) a b c d
theorem SharesA.below {w0 w w' : World} {a b c d : Spot} (h : SharesA w0 w a b c d) (hb : Below w.heap.size w w') : SharesA w0 w' a b c d :=
  ⟨below_trans h.1 hb, ⟨h.2.1.1.below hb, h.2.1.2.1.below hb, h.2.1.2.2.1.below hb, h.2.1.2.2.2.below hb⟩, h.2.2.below hb⟩
/-- this corner is right -/
def Good (a b c d : Spot) (i : Nat) : Prop := ((nth4 a b c d i).ok ∧ (nth4 a b c d ((i + 1) % 4)).ok ∧ (nth4 a b c d ((i + 2) % 4)).ok) ∧ 0 < area (nth4 a b c d i) (nth4 a b c d ((i + 1) % 4)) (nth4 a b c d ((i + 2) % 4))
theorem good_all {a b c d : Spot} (h : ∀ j, j < 4 → Good a b c d j) : (a.ok ∧ b.ok ∧ c.ok ∧ d.ok) ∧ 0 < area a b c ∧ 0 < area b c d ∧ 0 < area c d a ∧ 0 < area d a b :=
  ⟨⟨(h 0 (by omega)).1.1, (h 1 (by omega)).1.1, (h 2 (by omega)).1.1, (h 3 (by omega)).1.1⟩, (h 0 (by omega)).2, (h 1 (by omega)).2, (h 2 (by omega)).2, (h 3 (by omega)).2⟩
/-- how often the first triangles of each cut cover a pixel -/
def shN (a b c d : Spot) : Nat → Nat → Nat
  | 0, _ => 0
  | i + 1, k => shN a b c d i k + if i < 2 then b2n (covered (nthTri a b c d i).1 (nthTri a b c d i).2.1 (nthTri a b c d i).2.2 ((k % 32 : Nat) : Int) ((k / 32 : Nat) : Int)) else 0
def shM (a b c d : Spot) : Nat → Nat → Nat
  | 0, _ => 0
  | i + 1, k => shM a b c d i k + if i < 2 then 0 else b2n (covered (nthTri a b c d i).1 (nthTri a b c d i).2.1 (nthTri a b c d i).2.2 ((k % 32 : Nat) : Int) ((k / 32 : Nat) : Int))
theorem shN_le (a b c d : Spot) : ∀ i k, shN a b c d i k ≤ i
  | 0, _ => Nat.le_refl _
  | i + 1, k => by
    have h1 := shN_le a b c d i k
    have h2 := b2n_le (covered (nthTri a b c d i).1 (nthTri a b c d i).2.1 (nthTri a b c d i).2.2 ((k % 32 : Nat) : Int) ((k / 32 : Nat) : Int))
    unfold shN; split <;> omega
theorem shM_le (a b c d : Spot) : ∀ i k, shM a b c d i k ≤ i
  | 0, _ => Nat.le_refl _
  | i + 1, k => by
    have h1 := shM_le a b c d i k
    have h2 := b2n_le (covered (nthTri a b c d i).1 (nthTri a b c d i).2.1 (nthTri a b c d i).2.2 ((k % 32 : Nat) : Int) ((k / 32 : Nat) : Int))
    unfold shM; split <;> omega
theorem share_at {a b c d : Spot} (h : 0 < area a b c ∧ 0 < area b c d ∧ 0 < area c d a ∧ 0 < area d a b) (k : Nat) : shN a b c d 4 k ≤ 1 ∧ shN a b c d 4 k = shM a b c d 4 k := by
  have := share a b c d ((k % 32 : Nat) : Int) ((k / 32 : Nat) : Int) h.1 h.2.1 h.2.2.1 h.2.2.2
  simp [shN, shM, nthTri] at this ⊢
  omega
/-- what lies there as the triangles are gone through -/
structure ShAt (w0 wo w : World) (a b c d : Spot) (N M : Nat → Nat) : Prop where
  tri : Tri4At w (wo.heap.size + 1 + 1) a b c d
  cn : CntAt w 43 wo.heap.size 1024 N
  cm : CntAt w 43 (wo.heap.size + 1) 1024 M
  below_ : Below w0.heap.size w0 w
  le : w0.heap.size ≤ wo.heap.size
theorem ShAt.below {w0 wo w w' : World} {a b c d : Spot} {N M : Nat → Nat} (h : ShAt w0 wo w a b c d N M) (hb : Below w.heap.size w w') : ShAt w0 wo w' a b c d N M :=
  ⟨(hb.block _ (Array.getElem?_eq_some_iff.1 h.tri).1).trans h.tri, h.cn.below hb, h.cm.below hb, below_trans h.below_ hb, h.le⟩
theorem ShAt.congr {w0 wo w : World} {a b c d : Spot} {N M N' M' : Nat → Nat} (h : ShAt w0 wo w a b c d N M) (hn : ∀ i, i < 1024 → N i = N' i) (hm : ∀ i, i < 1024 → M i = M' i) : ShAt w0 wo w a b c d N' M' := ⟨h.tri, h.cn.congr hn, h.cm.congr hm, h.below_, h.le⟩
theorem ShAt.setN {w0 wo w : World} {a b c d : Spot} {N M N' : Nat → Nat} (h : ShAt w0 wo w a b c d N M) (hn : CntAt w 43 wo.heap.size 1024 N') (c' v : Nat) : ShAt w0 wo (w.setCell ⟨wo.heap.size, c', none⟩ (.int .i64 (v : Int))) a b c d (fun i => if i = c' then v else N' i) M :=
  ⟨(setCell_other _ _ _ _ (by simp only; omega)).trans h.tri, hn.set c' v, (setCell_other _ _ _ _ (by simp only; omega)).trans h.cm, h.below_.setCell (p := ⟨wo.heap.size, c', none⟩) h.le _, h.le⟩
theorem ShAt.setM {w0 wo w : World} {a b c d : Spot} {N M M' : Nat → Nat} (h : ShAt w0 wo w a b c d N M) (hn : CntAt w 43 (wo.heap.size + 1) 1024 M') (c' v : Nat) : ShAt w0 wo (w.setCell ⟨wo.heap.size + 1, c', none⟩ (.int .i64 (v : Int))) a b c d N (fun i => if i = c' then v else M' i) :=
  ⟨(setCell_other _ _ _ _ (by simp only; omega)).trans h.tri, (setCell_other _ _ _ _ (by simp only; omega)).trans h.cn, hn.set c' v, h.below_.setCell (p := ⟨wo.heap.size + 1, c', none⟩) (Nat.le_trans h.le (by simp)) _, h.le⟩
theorem share_start {w0 wo w5 : World} {a b c d : Spot} (h : SharesA w0 wo a b c d) (h1 : (wo.alloc (.cells (numA 1024 (fun _ => 0)) 43)).heap[wo.heap.size]? = some (.cells (numA 1024 (fun _ => 0)) 43))
    (h2 : ((wo.alloc (.cells (numA 1024 (fun _ => 0)) 43)).alloc (.cells (numA 1024 (fun _ => 0)) 43)).heap[(wo.alloc (.cells (numA 1024 (fun _ => 0)) 43)).heap.size]? = some (.cells (numA 1024 (fun _ => 0)) 43))
    (h3 : Tri4At w5 ((wo.alloc (.cells (numA 1024 (fun _ => 0)) 43)).alloc (.cells (numA 1024 (fun _ => 0)) 43)).heap.size a b c d)
    (h4 : Below ((wo.alloc (.cells (numA 1024 (fun _ => 0)) 43)).alloc (.cells (numA 1024 (fun _ => 0)) 43)).heap.size ((wo.alloc (.cells (numA 1024 (fun _ => 0)) 43)).alloc (.cells (numA 1024 (fun _ => 0)) 43)) w5) : ShAt w0 wo w5 a b c d (shN a b c d 0) (shM a b c d 0) := by
  rw [World.size_alloc, World.size_alloc] at h3
  refine ⟨h3, ?_, ?_, below_trans h.1 (below_trans (below_two wo _ _) h4), h.1.size⟩
  · have := (h4.block wo.heap.size (by simp; omega)).trans ((Below.heap_alloc _ _ _ (by simp)).trans h1)
    exact CntAt.congr (f := fun _ => 0) this (fun _ _ => by simp only [shN])
  · rw [World.size_alloc] at h2
    have := (h4.block (wo.heap.size + 1) (by simp)).trans h2
    exact CntAt.congr (f := fun _ => 0) this (fun _ _ => by simp only [shM])
theorem tri_of {a b c d : Spot} (ho : a.ok ∧ b.ok ∧ c.ok ∧ d.ok) (h : 0 < area a b c ∧ 0 < area b c d ∧ 0 < area c d a ∧ 0 < area d a b) (i : Nat) (hi : i < 4) : ∃ p q r, nthTri a b c d i = (p, q, r) ∧ (p.ok ∧ q.ok ∧ r.ok) ∧ 0 ≤ area p q r := by
  have e3 : area a c d = area c d a := (area_rot a c d).symm
  have e4 : area b d a = area d a b := (area_rot b d a).symm
  have h1 : i = 0 ∨ i = 1 ∨ i = 2 ∨ i = 3 := by omega
  rcases h1 with rfl | rfl | rfl | rfl
  · exact ⟨_, _, _, rfl, ⟨ho.1, ho.2.1, ho.2.2.1⟩, by omega⟩
  · exact ⟨_, _, _, rfl, ⟨ho.1, ho.2.2.1, ho.2.2.2⟩, by rw [e3]; omega⟩
  · exact ⟨_, _, _, rfl, ⟨ho.2.1, ho.2.2.1, ho.2.2.2⟩, by omega⟩
  · exact ⟨_, _, _, rfl, ⟨ho.2.1, ho.2.2.2, ho.1⟩, by rw [e4]; omega⟩
end Go.Proofs.Ytgkidgpdgcdgnaa
