/- How far a point is inside of the three edges, by the document. -/
import Derived.Test.YtgkidgpdgcdgnaaTurn
namespace Go.Proofs.Ytgkidgpdgcdgnaa
open Go.RowKit

@[irreducible] def eA (e0 e1 e2 : Int) : Array Value := #[.int .i64 e0, .int .i64 e1, .int .i64 e2]
theorem eA_size (e0 e1 e2 : Int) : (eA e0 e1 e2).size = 3 := by unfold eA; rfl
theorem eA_one (e0 e1 e2 : Int) : (eA e0 e1 e2).all (·.oneCell') = true := by unfold eA; simp [Value.oneCell']
theorem size29 (e0 e1 e2 : Int) : (Try.prog.info? 29).map (·.size) = some (eA e0 e1 e2).size := by rw [eA_size]; kernel_rfl
theorem alloc29 (w : World) : (Instr.alloc 29 true (.tuple #[])).run Try.prog w = .ok (.pointer (some ⟨w.heap.size, 0, none⟩)) (w.alloc (.cells (eA 0 0 0) 29)) := by
  unfold eA; kernel_rfl
theorem built29 (e0 e1 e2 : Int) : Try.prog.built 29 [(0, .int .i64 e0), (1, .int .i64 e1), (2, .int .i64 e2)] = some (eA e0 e1 e2) := by
  unfold eA; kernel_rfl
theorem built29z : Try.prog.built 29 [] = some (eA 0 0 0) := by
  unfold eA; kernel_rfl
def EAt (w : World) (g : Nat) (e0 e1 e2 : Int) : Prop := w.heap[g]? = some (.cells (eA e0 e1 e2) 29 (0, 0))
theorem EAt.below {w w' : World} {g : Nat} {e0 e1 e2 : Int} (h : EAt w g e0 e1 e2) (hb : Below w.heap.size w w') : EAt w' g e0 e1 e2 := (hb.block g (Array.getElem?_eq_some_iff.1 h).1).trans h
theorem EAt.new (w : World) (e0 e1 e2 : Int) : EAt (w.alloc (.cells (eA e0 e1 e2) 29)) w.heap.size e0 e1 e2 := heap_alloc_new w _
theorem EAt.load {w : World} {g : Nat} {e0 e1 e2 : Int} (h : EAt w g e0 e1 e2) : (loadVar 29 ⟨g, 0, none⟩).run Try.prog w = .ok (.agg (eA e0 e1 e2)) w :=
  run_loadVar_row w g 29 29 (eA e0 e1 e2) (0, 0) _ h Try.underlying29 rfl (size29 e0 e1 e2)
theorem run_it0 (s : Nat) (w : World) : (Instr.indexAt 24 (.pointer (some ⟨s, 0, none⟩)) (.int .i64 0)).run Try.prog w = .ok (.pointer (some ⟨s, 0, none⟩)) w := by simp [go_sem]
theorem run_it1 (s : Nat) (w : World) : (Instr.indexAt 24 (.pointer (some ⟨s, 0, none⟩)) (.int .i64 1)).run Try.prog w = .ok (.pointer (some ⟨s, 6, none⟩)) w := by simp [go_sem]
theorem run_it2 (s : Nat) (w : World) : (Instr.indexAt 24 (.pointer (some ⟨s, 0, none⟩)) (.int .i64 2)).run Try.prog w = .ok (.pointer (some ⟨s, 12, none⟩)) w := by simp [go_sem]
/-- the class of worlds: the triangle lies at s, the answer's block g holds nought or the answer -/
def EC (w0 : World) (B s g : Nat) (a b c : Spot) (e0 e1 e2 : Int) : Cls where
  inv := fun w => TriAt w s a b c ∧ (EAt w g 0 0 0 ∨ EAt w g e0 e1 e2) ∧ Below B w0 w ∧ B ≤ g ∧ s ≠ g
  rel := fun w w' => EAt w g e0 e1 e2 → EAt w' g e0 e1 e2
  refl := fun _ h => h
  trans := fun _ _ _ h k x => k (h x)
theorem enter17 (args : Array Value) (w : World) : (callFunc 17 args).run Try.prog w = .ok (.enter 17 args) w := run_callFunc_enter Try.func17 (by kernel_rfl) (by kernel_rfl) args w
theorem side_ok {w0 : World} {B s g : Nat} {a b c : Spot} {e0 e1 e2 : Int} (p q : Spot) (x y : Int) (hp : p.ok) (hq : q.ok) (hx : Near x) (hy : Near y) {w : World} (h : EC w0 B s g a b c e0 e1 e2 w) :
    CallOk Try.prog (EC w0 B s g a b c e0 e1 e2) 17 #[.agg (spotA p), .agg (spotA q), .int .i64 x, .int .i64 y] w (is (.int .i64 (side p q x y))) := by
  have hs := RSide_walk p q x y hp hq hx hy w
  rw [spotV_A, spotV_A] at hs
  exact hs.mono fun e w' ⟨he, hb⟩ => ⟨_, he, ⟨h.1.below hb, h.2.1.imp (fun k => k.below hb) (fun k => k.below hb), h.2.2.1.trans (hb.mono (Nat.le_trans h.2.2.2.1 (Nat.le_of_lt (by
    rcases h.2.1 with k | k
    · exact (Array.getElem?_eq_some_iff.1 k).1
    · exact (Array.getElem?_eq_some_iff.1 k).1)))), h.2.2.2⟩, fun k => k.below hb, rfl⟩
section
variable {P : Program} {ops : Array Oper} {I : Cls} {a0 : Act} {sp : Nat → Spec} {k : Nat} {o : Oper} {Φ Φ1 Φ2 Φ3 Φ4 : Spec}
theorem step_call4 (hg : Goes ops sp k o) (f : FuncId) (x y z u : Operand) (ts : Array TypeId) (ho : o.op = .call { callee := .value (.func f), args := #[x, y, z, u], argTypes := ts })
    (he : ∀ args w, (callFunc f args).run P w = .ok (.enter f args) w) (hx : OpIs ops I a0 sp k x Φ1) (hy : OpIs ops I a0 sp k y Φ2) (hz : OpIs ops I a0 sp k z Φ3) (hu : OpIs ops I a0 sp k u Φ4)
    (hc : ∀ v1 v2 v3 v4 w, I w → Φ1 v1 w → Φ2 v2 w → Φ3 v3 w → Φ4 v4 w → CallOk P I f #[v1, v2, v3, v4] w Φ) : StepOk P ops I a0 sp k o Φ :=
  step_enter hg f fun a w K => ⟨_, run_call o a.eval f _ ts ho rfl he w, by simpa using hc _ _ _ _ w K.inv (hx a w K) (hy a w K) (hz a w K) (hu a w K)⟩
theorem step_load23 (hg : Goes ops sp k o) (x : Operand) (ho : o.op = .load 23 x) (g f : Nat) (p : Spot) (hx : OpIs ops I a0 sp k x (is (.pointer (some ⟨g, f, none⟩)))) (hI : ∀ w, I w → w.rangeAt g f (spotA p).toList) : StepOk Try.prog ops I a0 sp k o (is (.agg (spotA p))) :=
  step_same hg fun a w K => ⟨.agg (spotA p), by
    have h1 : a.eval x = .pointer (some ⟨g, f, none⟩) := hx a w K
    have hl := run_loadAt_mid (P := Try.prog) w g f 23 (spotA p).toList _ (hI w K.inv) Try.underlying23 rfl (by rw [Array.length_toList]; exact size23 p)
    rw [Array.toArray_toList] at hl
    simp only [execOp, ho, h1, Sem.run_bind, hl, Result.andThen]; rfl, rfl⟩
theorem step_build29 (hg : Goes ops sp k o) (x y z : Operand) (ho : o.op = .build 29 #[(0, x), (1, y), (2, z)]) (p q r : Int) (hx : OpIs ops I a0 sp k x (is (.int .i64 p))) (hy : OpIs ops I a0 sp k y (is (.int .i64 q))) (hz : OpIs ops I a0 sp k z (is (.int .i64 r))) :
    StepOk Try.prog ops I a0 sp k o (is (.agg (eA p q r))) :=
  step_same hg fun a w K => ⟨.agg (eA p q r), by
    have h1 : a.eval x = .int .i64 p := hx a w K
    have h2 : a.eval y = .int .i64 q := hy a w K
    have h3 : a.eval z = .int .i64 r := hz a w K
    have hb : (Instr.build 29 #[(0, .int .i64 p), (1, .int .i64 q), (2, .int .i64 r)]).run Try.prog w = .ok (.agg (eA p q r)) w := by unfold eA; kernel_rfl
    simp [execOp, ho, h1, h2, h3, hb, Result.andThen], rfl⟩
end
theorem step_store29 {ops : Array Oper} {a0 : Act} {sp : Nat → Spec} {k : Nat} {o : Oper} {w0 : World} {B s g : Nat} {a b c : Spot} {e0 e1 e2 : Int} (hg : Goes ops sp k o) (x y : Operand) (ho : o.op = .store 29 x y)
    (hx : OpIs ops (EC w0 B s g a b c e0 e1 e2) a0 sp k x (is (.pointer (some ⟨g, 0, none⟩)))) (hy : OpIs ops (EC w0 B s g a b c e0 e1 e2) a0 sp k y (is (.agg (eA e0 e1 e2)))) :
    StepOk Try.prog ops (EC w0 B s g a b c e0 e1 e2) a0 sp k o (fun _ W => EAt W g e0 e1 e2) :=
  step_skip hg fun ac w K => by
    have h1 : ac.eval x = .pointer (some ⟨g, 0, none⟩) := hx ac w K
    have h2 : ac.eval y = .agg (eA e0 e1 e2) := hy ac w K
    obtain ⟨i1, i2, i3, i4, i5⟩ := K.inv
    obtain ⟨o0, o1, o2, hold⟩ : ∃ o0 o1 o2, EAt w g o0 o1 o2 := by
      rcases i2 with h | h
      · exact ⟨_, _, _, h⟩
      · exact ⟨_, _, _, h⟩
    have hr := run_storeVar_row (P := Try.prog) w g 29 29 (eA o0 o1 o2) (eA e0 e1 e2) hold (size29 _ _ _) (by rw [eA_size, eA_size]) (eA_one _ _ _)
    have hn : EAt (w.setRow g (eA e0 e1 e2)) g e0 e1 e2 := setRow_heap w g _ _ 29 _ hold
    refine ⟨w.setRow g (eA e0 e1 e2), ?_, ⟨(setRow_other w g s _ i5).trans i1, .inr hn, i3.trans ⟨rfl, rfl, rfl, by simp [World.setRow], fun q hq => setRow_other w g q _ (by omega)⟩, i4, i5⟩, fun _ => hn, hn⟩
    simp only [execOp, ho, h1, h2, Instr.storeAt, Instr.sureAddr, Sem.run_bind, Sem.run_pure, Result.andThen_ok, hr]
section
variable {ops : Array Oper} {rest : List Oper} {o : Oper} {a : Act} {w : World} {Q : Exit → Act → World → Prop}
theorem arm_alloc29 (hgd : o.guard = none) (ho : o.op = .alloc 29)
    (h : wpList Try.prog ops Q rest (a.put o.dst (.pointer (some ⟨w.heap.size, 0, none⟩))) (w.alloc (.cells (eA 0 0 0) 29))) : wpList Try.prog ops Q (o :: rest) a w :=
  wpList_plain hgd fun K hK => by
    unfold Oper.wp
    simp only [execOp, ho, Sem.run_bind, alloc29]
    exact hK _ _ h
end
set_option maxRecDepth 100000 in
set_option maxHeartbeats 1000000 in
theorem Edges_walk (a b c : Spot) (x y : Int) (ha : a.ok) (hb : b.ok) (hc : c.ok) (hx : Near x) (hy : Near y) (w : World) :
    Calls Try.prog 21 #[.agg (triA a b c), .int .i64 x, .int .i64 y] w fun e w' => e = .returned (.agg (eA (side b c x y) (side c a x y) (side a b x y))) ∧ Below w.heap.size w w' := by
  have hz := EAt.new (w.alloc (.cells (triA a b c) 24)) 0 0 0
  rw [World.size_alloc] at hz
  have HZ := Lib.hid hz
  have HB0 := Lib.hid (below_two w (.cells (triA a b c) 24) (.cells (eA 0 0 0) 29))
  have HT2 := Lib.hid ((TriAt.new w a b c).below (below_alloc _ (.cells (eA 0 0 0) 29)))
  clear hz
  go_enter Try.func21, Try.ntmps21
  go_wp2_with (first
    | refine arm_alloc29 rfl rfl ?_)
  rw [World.size_alloc]
  refine wp_region_inv3 29 mixed (by kernel_rfl) (by rfl) (EC w w.heap.size w.heap.size (w.heap.size + 1) a b c (side b c x y) (side c a x y) (side a b x y)) ⟨HT2.out, .inl HZ.out, ⟨HB0.out.os, HB0.out.tape, HB0.out.output, HB0.out.size, HB0.out.block⟩, by omega, by omega⟩ ?_
  refine wpI_cons (is (.pointer (some ⟨w.heap.size, 6, none⟩))) (stable_is _) (step_idx (go0 rfl) 24 (.tmp 3) (.const (.int .i64 1)) rfl _ _ _ (opO' 3 (.pointer (some ⟨w.heap.size, 0, none⟩)) rfl rfl) (opC _) (fun W => run_it1 _ W)) ?_
  refine wpI_cons (is (.agg (spotA b))) (stable_is _) (step_load23 (go0 rfl) (.tmp 7) rfl _ _ b (opT' 7 0 rfl rfl) (fun W h => h.1.r1)) ?_
  refine wpI_cons (is (.pointer (some ⟨w.heap.size, 12, none⟩))) (stable_is _) (step_idx (go0 rfl) 24 (.tmp 3) (.const (.int .i64 2)) rfl _ _ _ (opO' 3 (.pointer (some ⟨w.heap.size, 0, none⟩)) rfl rfl) (opC _) (fun W => run_it2 _ W)) ?_
  refine wpI_cons (is (.agg (spotA c))) (stable_is _) (step_load23 (go0 rfl) (.tmp 9) rfl _ _ c (opT' 9 2 rfl rfl) (fun W h => h.1.r2)) ?_
  refine wpI_cons (is (.int .i64 x)) (stable_is _) (step_move (go0 rfl) (.tmp 1) rfl (opO' 1 (.int .i64 x) rfl rfl)) ?_
  refine wpI_cons (is (.int .i64 y)) (stable_is _) (step_move (go0 rfl) (.tmp 2) rfl (opO' 2 (.int .i64 y) rfl rfl)) ?_
  refine wpI_cons (is (.int .i64 (side b c x y))) (stable_is _) (step_call4 (go0 rfl) 17 (.tmp 8) (.tmp 10) (.tmp 11) (.tmp 12) _ rfl enter17 (opT' 8 1 rfl rfl) (opT' 10 3 rfl rfl) (opT' 11 4 rfl rfl) (opT' 12 5 rfl rfl) (fun u1 u2 u3 u4 W h h1 h2 h3 h4 => by obtain rfl : u1 = _ := h1; obtain rfl : u2 = _ := h2; obtain rfl : u3 = _ := h3; obtain rfl : u4 = _ := h4; exact side_ok b c x y hb hc hx hy h)) ?_
  refine wpI_cons (is (.pointer (some ⟨w.heap.size, 12, none⟩))) (stable_is _) (step_idx (go0 rfl) 24 (.tmp 3) (.const (.int .i64 2)) rfl _ _ _ (opO' 3 (.pointer (some ⟨w.heap.size, 0, none⟩)) rfl rfl) (opC _) (fun W => run_it2 _ W)) ?_
  refine wpI_cons (is (.agg (spotA c))) (stable_is _) (step_load23 (go0 rfl) (.tmp 14) rfl _ _ c (opT' 14 7 rfl rfl) (fun W h => h.1.r2)) ?_
  refine wpI_cons (is (.pointer (some ⟨w.heap.size, 0, none⟩))) (stable_is _) (step_idx (go0 rfl) 24 (.tmp 3) (.const (.int .i64 0)) rfl _ _ _ (opO' 3 (.pointer (some ⟨w.heap.size, 0, none⟩)) rfl rfl) (opC _) (fun W => run_it0 _ W)) ?_
  refine wpI_cons (is (.agg (spotA a))) (stable_is _) (step_load23 (go0 rfl) (.tmp 16) rfl _ _ a (opT' 16 9 rfl rfl) (fun W h => h.1.r0)) ?_
  refine wpI_cons (is (.int .i64 x)) (stable_is _) (step_move (go0 rfl) (.tmp 1) rfl (opO' 1 (.int .i64 x) rfl rfl)) ?_
  refine wpI_cons (is (.int .i64 y)) (stable_is _) (step_move (go0 rfl) (.tmp 2) rfl (opO' 2 (.int .i64 y) rfl rfl)) ?_
  refine wpI_cons (is (.int .i64 (side c a x y))) (stable_is _) (step_call4 (go0 rfl) 17 (.tmp 15) (.tmp 17) (.tmp 18) (.tmp 19) _ rfl enter17 (opT' 15 8 rfl rfl) (opT' 17 10 rfl rfl) (opT' 18 11 rfl rfl) (opT' 19 12 rfl rfl) (fun u1 u2 u3 u4 W h h1 h2 h3 h4 => by obtain rfl : u1 = _ := h1; obtain rfl : u2 = _ := h2; obtain rfl : u3 = _ := h3; obtain rfl : u4 = _ := h4; exact side_ok c a x y hc ha hx hy h)) ?_
  refine wpI_cons (is (.pointer (some ⟨w.heap.size, 0, none⟩))) (stable_is _) (step_idx (go0 rfl) 24 (.tmp 3) (.const (.int .i64 0)) rfl _ _ _ (opO' 3 (.pointer (some ⟨w.heap.size, 0, none⟩)) rfl rfl) (opC _) (fun W => run_it0 _ W)) ?_
  refine wpI_cons (is (.agg (spotA a))) (stable_is _) (step_load23 (go0 rfl) (.tmp 21) rfl _ _ a (opT' 21 14 rfl rfl) (fun W h => h.1.r0)) ?_
  refine wpI_cons (is (.pointer (some ⟨w.heap.size, 6, none⟩))) (stable_is _) (step_idx (go0 rfl) 24 (.tmp 3) (.const (.int .i64 1)) rfl _ _ _ (opO' 3 (.pointer (some ⟨w.heap.size, 0, none⟩)) rfl rfl) (opC _) (fun W => run_it1 _ W)) ?_
  refine wpI_cons (is (.agg (spotA b))) (stable_is _) (step_load23 (go0 rfl) (.tmp 23) rfl _ _ b (opT' 23 16 rfl rfl) (fun W h => h.1.r1)) ?_
  refine wpI_cons (is (.int .i64 x)) (stable_is _) (step_move (go0 rfl) (.tmp 1) rfl (opO' 1 (.int .i64 x) rfl rfl)) ?_
  refine wpI_cons (is (.int .i64 y)) (stable_is _) (step_move (go0 rfl) (.tmp 2) rfl (opO' 2 (.int .i64 y) rfl rfl)) ?_
  refine wpI_cons (is (.int .i64 (side a b x y))) (stable_is _) (step_call4 (go0 rfl) 17 (.tmp 22) (.tmp 24) (.tmp 25) (.tmp 26) _ rfl enter17 (opT' 22 15 rfl rfl) (opT' 24 17 rfl rfl) (opT' 25 18 rfl rfl) (opT' 26 19 rfl rfl) (fun u1 u2 u3 u4 W h h1 h2 h3 h4 => by obtain rfl : u1 = _ := h1; obtain rfl : u2 = _ := h2; obtain rfl : u3 = _ := h3; obtain rfl : u4 = _ := h4; exact side_ok a b x y ha hb hx hy h)) ?_
  refine wpI_cons (is (.agg (eA (side b c x y) (side c a x y) (side a b x y)))) (stable_is _) (step_build29 (go0 rfl) (.tmp 13) (.tmp 20) (.tmp 27) rfl _ _ _ (opT' 13 6 rfl rfl) (opT' 20 13 rfl rfl) (opT' 27 20 rfl rfl)) ?_
  refine wpI_cons (fun _ W => EAt W (w.heap.size + 1) (side b c x y) (side c a x y) (side a b x y)) (fun v w1 w2 h e => h e) (step_store29 (go0 rfl) (.tmp 6) (.tmp 28) rfl (opO' 6 (.pointer (some ⟨w.heap.size + 1, 0, none⟩)) rfl rfl) (opT' 28 21 rfl rfl)) ?_
  refine wpI_nil ?_
  intro v w' hI _ hdone hsome
  obtain ⟨_, hE⟩ := hsome 22 (by decide)
  have hE : EAt w' (w.heap.size + 1) (side b c x y) (side c a x y) (side a b x y) := hE
  have HF := Lib.hid (And.intro hE hI.2.2.1)
  clear hdone hsome hI hE
  simp only [putAll, Act.put, List.setIfInBounds_toArray, List.set_cons_zero, List.set_cons_succ, Nat.zero_add, Nat.reduceAdd]
  go_wp2_with fail
  refine bodyPost_ret (results_cell_row rfl _ _ (w.heap.size + 1) 29 (eA (side b c x y) (side c a x y) (side a b x y)) (0, 0) _ rfl HF.out.1 Try.underlying29 rfl (size29 _ _ _)) rfl ?_
  exact ⟨rfl, HF.out.2⟩
end Go.Proofs.Ytgkidgpdgcdgnaa
