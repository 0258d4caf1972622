/- The law's awake says yes. -/
import Derived.Test.YtgkidgpdgcdgnaaAll
import Derived.Test.YtgkidgpdgcdgnaaEdges
import Derived.Test.YtgkidgpdgcdgnaaText
import Derived.Test.YtgkidgpdgcdgnaaText
namespace Go.Proofs.Ytgkidgpdgcdgnaa
open Go.RowKit

/-- worlds that have grown since w0 -/
def UpC (w0 : World) : Cls where
  inv := fun W => Below w0.heap.size w0 W
  rel := fun W W' => Below W.heap.size W W'
  refl := fun _ => Below.refl _ _
  trans := fun _ _ _ h k => below_trans h k
theorem UpC.start (w : World) : UpC w w.drew := ⟨rfl, rfl, rfl, Nat.le_refl _, fun _ _ => rfl⟩
theorem UpC.step {w0 W W' : World} (h : UpC w0 W) (hb : Below W.heap.size W W') : UpC w0 W' ∧ (UpC w0).rel W W' := ⟨below_trans h hb, hb⟩
theorem HRow.below {w w' : World} {A : Option Addr} {l : List Hit} (h : HRow w A l) (hb : Below w.heap.size w w') : HRow w' A l :=
  ⟨fun i hi => by
    obtain ⟨b, h1, h2⟩ := h.at_ i hi
    refine ⟨b, h1, fun j v hv => ?_⟩
    have hc := h2 j v hv
    rw [hb.cell (block_lt_of_cell hc)]; exact hc⟩
/-- a slice of hits -/
def IsHits (l : List Hit) : Spec := fun v W => ∃ A cap, v = .slice A l.length cap ∧ HRow W A l ∧ l.length ≤ cap
theorem isHits_stable {w0 : World} (l : List Hit) : Stable (UpC w0) (IsHits l) := fun _ _ _ hr ⟨A, cap, h1, h2, h3⟩ => ⟨A, cap, h1, h2.below hr, h3⟩
theorem enter18 (args : Array Value) (w : World) : (callFunc 18 args).run Try.prog w = .ok (.enter 18 args) w := run_callFunc_enter Try.func18 (by kernel_rfl) (by kernel_rfl) args w
theorem enter14 (args : Array Value) (w : World) : (callFunc 14 args).run Try.prog w = .ok (.enter 14 args) w := run_callFunc_enter Try.func14 (by kernel_rfl) (by kernel_rfl) args w
theorem all_ok {w0 : World} (a b c : Spot) (ha : a.ok) (hb : b.ok) (hc : c.ok) (wd ht most : Int) {w : World} (h : UpC w0 w) :
    CallOk Try.prog (UpC w0) 18 #[.agg (triA a b c), .int .i64 wd, .int .i64 ht, .int .i64 most] w (IsHits (allR most (pix a b c wd ht))) :=
  (All_walk a b c ha hb hc wd ht most w).mono fun _ _ ⟨A, cap, he, hR, hcap, hb, _⟩ => ⟨_, he, (UpC.step h hb).1, hb, A, cap, rfl, hR, hcap⟩
theorem area_ok {w0 : World} (a b c : Spot) (ha : a.ok) (hb : b.ok) (hc : c.ok) {w : World} (h : UpC w0 w) :
    CallOk Try.prog (UpC w0) 14 #[.agg (triA a b c)] w (is (.int .i64 (area a b c))) := by
  have hs := Area_walk a b c ha hb hc w
  rw [triV_A] at hs
  exact hs.mono fun _ _ ⟨he, hb⟩ => ⟨_, he, (UpC.step h hb).1, hb, rfl⟩
section
variable {P : Program} {ops : Array Oper} {I : Cls} {a0 : Act} {sp : Nat → Spec} {k : Nat} {o : Oper} {Φ : Spec}
theorem step_loadS (hg : Goes ops sp k o) (x : Operand) (ho : o.op = .load 23 x) (g f : Nat) (p : Spot) (hx : OpIs ops I a0 sp k x (is (.pointer (some ⟨g, f, none⟩)))) (hI : ∀ w, I w → w.rangeAt g f (spotA p).toList) : StepOk Try.prog ops I a0 sp k o (is (.agg (spotA p))) :=
  step_load23 hg x ho g f p hx hI
theorem step_build24 (hg : Goes ops sp k o) (x y z : Operand) (ho : o.op = .build 24 #[(0, x), (1, y), (2, z)]) (p q r : Spot) (hx : OpIs ops I a0 sp k x (is (.agg (spotA p)))) (hy : OpIs ops I a0 sp k y (is (.agg (spotA q)))) (hz : OpIs ops I a0 sp k z (is (.agg (spotA r)))) :
    StepOk Try.prog ops I a0 sp k o (is (.agg (triA p q r))) :=
  step_same hg fun a w K => ⟨.agg (triA p q r), by
    have h1 : a.eval x = .agg (spotA p) := hx a w K
    have h2 : a.eval y = .agg (spotA q) := hy a w K
    have h3 : a.eval z = .agg (spotA r) := hz a w K
    have hb : (Instr.build 24 #[(0, .agg (spotA p)), (1, .agg (spotA q)), (2, .agg (spotA r))]).run Try.prog w = .ok (.agg (triA p q r)) w := by unfold spotA triA triCells; kernel_rfl
    simp [execOp, ho, h1, h2, h3, hb, Result.andThen], rfl⟩
/-- all of a triangle, in a region -/
theorem step_all {w0 : World} (hg : Goes ops sp k o) (x y z u : Operand) (ts : Array TypeId) (ho : o.op = .call { callee := .value (.func 18), args := #[x, y, z, u], argTypes := ts })
    (a b c : Spot) (ha : a.ok) (hb : b.ok) (hc : c.ok) (wd ht most : Int) (hx : OpIs ops (UpC w0) a0 sp k x (is (.agg (triA a b c)))) (hy : OpIs ops (UpC w0) a0 sp k y (is (.int .i64 wd))) (hz : OpIs ops (UpC w0) a0 sp k z (is (.int .i64 ht))) (hu : OpIs ops (UpC w0) a0 sp k u (is (.int .i64 most))) :
    StepOk Try.prog ops (UpC w0) a0 sp k o (IsHits (allR most (pix a b c wd ht))) :=
  step_call4 hg 18 x y z u ts ho enter18 hx hy hz hu (fun v1 v2 v3 v4 w h h1 h2 h3 h4 => by
    obtain rfl : v1 = _ := h1
    obtain rfl : v2 = _ := h2
    obtain rfl : v3 = _ := h3
    obtain rfl : v4 = _ := h4
    exact all_ok a b c ha hb hc wd ht most h)
theorem step_area {w0 : World} (hg : Goes ops sp k o) (x : Operand) (ts : Array TypeId) (ho : o.op = .call { callee := .value (.func 14), args := #[x], argTypes := ts })
    (a b c : Spot) (ha : a.ok) (hb : b.ok) (hc : c.ok) (hx : OpIs ops (UpC w0) a0 sp k x (is (.agg (triA a b c)))) :
    StepOk Try.prog ops (UpC w0) a0 sp k o (is (.int .i64 (area a b c))) :=
  step_call1 hg 14 x ts ho enter14 hx (fun v1 w h h1 => by
    obtain rfl : v1 = _ := h1
    exact area_ok a b c ha hb hc h)
end
section
variable {ops : Array Oper} {rest : List Oper} {o : Oper} {a : Act} {w : World} {Q : Exit → Act → World → Prop}
theorem arm_store23 (hgd : o.guard = none) (x y : Operand) (ho : o.op = .store 23 x y) (g : Nat) (p p' : Spot) (hx : a.eval x = .pointer (some ⟨g, 0, none⟩)) (hy : a.eval y = .agg (spotA p')) (hg : SpotAt w g p)
    (h : ∀ w', SpotAt w' g p' → (∀ B, B ≤ g → Below B w w') → (∀ c, c ≠ g → w'.heap[c]? = w.heap[c]?) → wpList Try.prog ops Q rest (a.put o.dst undef) w') : wpList Try.prog ops Q (o :: rest) a w :=
  wpList_plain hgd fun K hK => wp_store_row 23 x y ho g (spotA p') hx hy 23 (spotA p) hg (size23 _) (by rw [spotA_size, spotA_size]) (spotA_one _)
    (hK _ _ (h _ (setRow_heap w g _ _ 23 _ hg) (fun B hB => ⟨rfl, rfl, rfl, by simp [World.setRow], fun k hk => setRow_other w g k _ (by omega)⟩) (fun c hc => setRow_other w g c _ hc)))
theorem arm_build23 (hgd : o.guard = none) (ps : Array (Nat × Operand)) (ho : o.op = .build 23 ps) (p : Spot) (hb : Try.prog.built 23 (ps.map fun (i, x) => (i, a.eval x)).toList = some (spotA p))
    (h : wpList Try.prog ops Q rest (a.put o.dst (.agg (spotA p))) w) : wpList Try.prog ops Q (o :: rest) a w := by
  refine wpList_build hgd 23 _ ho (by rw [hb]; rfl) ?_
  rw [hb]; exact h
end
section
variable {ops : Array Oper} {rest : List Oper} {o : Oper} {a : Act} {w : World} {Q : Exit → Act → World → Prop}
theorem arm_load24g (hw : Region.wanted o (yielded ops a.tmps) = true) (x : Operand) (ho : o.op = .load 24 x) (g : Nat) (p q r : Spot) (hx : a.eval x = .pointer (some ⟨g, 0, none⟩)) (hg : TriAt w g p q r)
    (h : wpList Try.prog ops Q rest (a.put o.dst (.agg (triA p q r))) w) : wpList Try.prog ops Q (o :: rest) a w :=
  wpList_step fun K hK => by
    simp only [hw, if_true]
    unfold Oper.wp
    simp only [execOp, ho, hx, Instr.loadAt, Instr.sureAddr, Sem.run_bind, Sem.run_pure, Result.andThen_ok, hg.load]
    exact hK _ _ h
theorem arm_build24g (hw : Region.wanted o (yielded ops a.tmps) = true) (x y z : Operand) (ho : o.op = .build 24 #[(0, x), (1, y), (2, z)]) (p q r : Spot) (hx : a.eval x = .agg (spotA p)) (hy : a.eval y = .agg (spotA q)) (hz : a.eval z = .agg (spotA r))
    (h : wpList Try.prog ops Q rest (a.put o.dst (.agg (triA p q r))) w) : wpList Try.prog ops Q (o :: rest) a w :=
  wpList_step fun K hK => by
    have hb : (Instr.build 24 #[(0, .agg (spotA p)), (1, .agg (spotA q)), (2, .agg (spotA r))]).run Try.prog w = .ok (.agg (triA p q r)) w := by unfold spotA triA triCells; kernel_rfl
    simp only [hw, if_true]
    unfold Oper.wp
    simp [execOp, ho, hx, hy, hz, hb, Result.andThen]
    exact hK _ _ h
end
theorem step_area' {ops : Array Oper} {a0 : Act} {sp : Nat → Spec} {k : Nat} {o : Oper} {w0 : World} (hg : Goes ops sp k o) (x : Operand) (ts : Array TypeId) (ho : o.op = .call { callee := .value (.func 14), args := #[x], argTypes := ts })
    (a b c : Spot) (ha : a.ok) (hb : b.ok) (hc : c.ok) (n : Int) (hn : area a b c = n) (hx : OpIs ops (UpC w0) a0 sp k x (is (.agg (triA a b c)))) :
    StepOk Try.prog ops (UpC w0) a0 sp k o (is (.int .i64 n)) := by
  subst hn; exact step_area hg x ts ho a b c ha hb hc hx
theorem enter16 (args : Array Value) (w : World) : (callFunc 16 args).run Try.prog w = .ok (.enter 16 args) w := run_callFunc_enter Try.func16 (by kernel_rfl) (by kernel_rfl) args w
theorem step_side {ops : Array Oper} {a0 : Act} {sp : Nat → Spec} {k : Nat} {o : Oper} {w0 : World} (hg : Goes ops sp k o) (x y z u : Operand) (ts : Array TypeId) (ho : o.op = .call { callee := .value (.func 16), args := #[x, y, z, u], argTypes := ts })
    (p q : Spot) (m n : Int) (hp : p.ok) (hq : q.ok) (hm : Near m) (hn : Near n) (hx : OpIs ops (UpC w0) a0 sp k x (is (.agg (spotA p)))) (hy : OpIs ops (UpC w0) a0 sp k y (is (.agg (spotA q)))) (hz : OpIs ops (UpC w0) a0 sp k z (is (.int .i64 m))) (hu : OpIs ops (UpC w0) a0 sp k u (is (.int .i64 n))) :
    StepOk Try.prog ops (UpC w0) a0 sp k o (is (.int .i64 (side p q m n))) :=
  step_call4 hg 16 x y z u ts ho enter16 hx hy hz hu (fun v1 v2 v3 v4 w h h1 h2 h3 h4 => by
    obtain rfl : v1 = _ := h1
    obtain rfl : v2 = _ := h2
    obtain rfl : v3 = _ := h3
    obtain rfl : v4 = _ := h4
    have hs := Side_walk p q m n hp hq hm hn w
    rw [spotV_A, spotV_A] at hs
    exact hs.mono fun _ _ ⟨he, hb⟩ => ⟨_, he, (UpC.step h hb).1, hb, rfl⟩)
theorem step_side' {ops : Array Oper} {a0 : Act} {sp : Nat → Spec} {k : Nat} {o : Oper} {w0 : World} (hg : Goes ops sp k o) (x y z u : Operand) (ts : Array TypeId) (ho : o.op = .call { callee := .value (.func 16), args := #[x, y, z, u], argTypes := ts })
    (p q : Spot) (m n : Int) (hp : p.ok) (hq : q.ok) (hm : Near m) (hn : Near n) (e : Int) (he : side p q m n = e) (hx : OpIs ops (UpC w0) a0 sp k x (is (.agg (spotA p)))) (hy : OpIs ops (UpC w0) a0 sp k y (is (.agg (spotA q)))) (hz : OpIs ops (UpC w0) a0 sp k z (is (.int .i64 m))) (hu : OpIs ops (UpC w0) a0 sp k u (is (.int .i64 n))) :
    StepOk Try.prog ops (UpC w0) a0 sp k o (is (.int .i64 e)) := by
  subst he; exact step_side hg x y z u ts ho p q m n hp hq hm hn hx hy hz hu
section
variable {P : Program} {ops : Array Oper} {I : Cls} {a0 : Act} {sp : Nat → Spec} {k : Nat} {o : Oper}
theorem step_not (hg : Goes ops sp k o) (t : TypeId) (x : Operand) (ho : o.op = .unOp .not t x) (b : Bool) (hx : OpIs ops I a0 sp k x (is (.bool b))) : StepOk P ops I a0 sp k o (is (.bool (!b))) :=
  step_one hg x _ _ hx fun ρ w h => by simp only [execOp, ho, h]; rfl
theorem step_len (hg : Goes ops sp k o) (x : Operand) (t : TypeId) (ho : o.op = .call { callee := .builtin .len, args := #[x], argTypes := #[t] }) (u v : Value) (hx : OpIs ops I a0 sp k x (is u))
    (hr : ∀ w, (Builtin.len_ #[t] o.type #[u]).run P w = .ok v w) : StepOk P ops I a0 sp k o (is v) :=
  step_one hg x _ _ hx fun ρ w h => by
    simp [execOp, ho, h, resolve, invoke, builtin, Result.andThen, go_sem, hr]
end
def s1 : Spot := ⟨256, 0, 0, 0, 0, 0⟩
def s2 : Spot := ⟨256, 256, 0, 0, 0, 0⟩
def s3 : Spot := ⟨0, 256, 0, 0, 0, 0⟩
theorem l1 : (allR (-1) (pix spot0 s1 s2 1 1)).length = 1 := by decide
theorem l2 : (allR (-1) (pix spot0 s2 s3 1 1)).length = 0 := by decide
theorem turn1 : turnV spot0 s3 s2 = .tuple #[.agg (triA spot0 s2 s3), .bool true] := by
  unfold turnV; rw [show turned spot0 s3 s2 = ((spot0, s2, s3), true) from by decide]
theorem turn2 : turnV spot0 spot0 s2 = .tuple #[.agg (triA spot0 spot0 spot0), .bool false] := by
  unfold turnV; rw [show turned spot0 spot0 s2 = ((spot0, spot0, spot0), false) from by decide]
theorem area1 : area spot0 s1 s2 = 65536 := by decide
theorem side1 : side spot0 s1 5 3 = 768 := by decide
theorem run_eq24 (W : World) : (binOp .eql 24 (.agg (triA spot0 s2 s3)) (.agg (triA spot0 s2 s3))).run Try.prog W = .ok (.bool true) W := by unfold triA triCells spot0 s2 s3; kernel_rfl
theorem exec_eq24 (ρ : Operand → Value) (o : Oper) {x y : Operand} (ho : o.op = .binOp .eql 24 x y 24) (h1 : ρ x = .agg (triA spot0 s2 s3)) (h2 : ρ y = .agg (triA spot0 s2 s3)) (W : World) : (execOp ρ o).run Try.prog W = .ok (.value (.bool true)) W := by
  have he : (eqGuard .eql 24 x y (.agg (triA spot0 s2 s3)) (.agg (triA spot0 s2 s3))).run Try.prog W = .ok () W := by unfold triA triCells spot0 s2 s3; kernel_rfl
  simp only [execOp, ho, h1, h2, Sem.run_bind, he, run_eq24, Result.andThen]; rfl
theorem s_ok : s1.ok ∧ s2.ok ∧ s3.ok := by unfold s1 s2 s3 Spot.ok; simp
theorem spot_lit (x y : Int) : (#[.int .i64 x, .int .i64 y, .int .i64 0, .int .i64 0, .int .i64 0, .int .i64 0] : Array Value) = spotA ⟨x, y, 0, 0, 0, 0⟩ := by unfold spotA; rfl
theorem four_new (w : World) (p q r s : Spot) : Below w.heap.size w (((((w.alloc (.cells (spotA p) 23)).alloc (.cells (spotA q) 23)).alloc (.cells (spotA r) 23)).alloc (.cells (spotA s) 23))) ∧
    (SpotAt (((((w.alloc (.cells (spotA p) 23)).alloc (.cells (spotA q) 23)).alloc (.cells (spotA r) 23)).alloc (.cells (spotA s) 23))) w.heap.size p ∧
     SpotAt (((((w.alloc (.cells (spotA p) 23)).alloc (.cells (spotA q) 23)).alloc (.cells (spotA r) 23)).alloc (.cells (spotA s) 23))) (w.heap.size + 1) q ∧
     SpotAt (((((w.alloc (.cells (spotA p) 23)).alloc (.cells (spotA q) 23)).alloc (.cells (spotA r) 23)).alloc (.cells (spotA s) 23))) (w.heap.size + 1 + 1) r ∧
     SpotAt (((((w.alloc (.cells (spotA p) 23)).alloc (.cells (spotA q) 23)).alloc (.cells (spotA r) 23)).alloc (.cells (spotA s) 23))) (w.heap.size + 1 + 1 + 1) s) := by
  refine ⟨below_trans (below_two w _ _) (below_two _ _ _), ?_, ?_, ?_, ?_⟩
  · exact ((((SpotAt.new w p).below (below_alloc _ _)).below (below_alloc _ _)).below (below_alloc _ _))
  · have := (((SpotAt.new (w.alloc (.cells (spotA p) 23)) q).below (below_alloc _ (.cells (spotA r) 23))).below (below_alloc _ (.cells (spotA s) 23)))
    rw [World.size_alloc] at this; exact this
  · have := ((SpotAt.new ((w.alloc (.cells (spotA p) 23)).alloc (.cells (spotA q) 23)) r).below (below_alloc _ (.cells (spotA s) 23)))
    rw [World.size_alloc, World.size_alloc] at this; exact this
  · have := (SpotAt.new (((w.alloc (.cells (spotA p) 23)).alloc (.cells (spotA q) 23)).alloc (.cells (spotA r) 23)) s)
    rw [World.size_alloc, World.size_alloc, World.size_alloc] at this; exact this
set_option maxRecDepth 100000 in
set_option maxHeartbeats 8000000 in
theorem awake_walk (w : World) : Calls Try.prog 9 #[] w fun e w' => e = .returned (.bool true) ∧ Below w.heap.size w w' := by
  obtain ⟨hB3, hq0, hq1, hq2, hq3⟩ := four_new w spot0 s1 s2 s3
  go_enter Try.func9, Try.ntmps9
  go_wp2_with fail
  simp only [spot_lit]
  rw [show (⟨0, 0, 0, 0, 0, 0⟩ : Spot) = spot0 from rfl, show (⟨256, 0, 0, 0, 0, 0⟩ : Spot) = s1 from rfl, show (⟨256, 256, 0, 0, 0, 0⟩ : Spot) = s2 from rfl, show (⟨0, 256, 0, 0, 0, 0⟩ : Spot) = s3 from rfl]
  generalize ((((w.alloc (.cells (spotA spot0) 23)).alloc (.cells (spotA s1) 23)).alloc (.cells (spotA s2) 23)).alloc (.cells (spotA s3) 23)) = wa at *
  have HQ := Lib.hid (And.intro hB3 (And.intro hq0 (And.intro hq1 (And.intro hq2 hq3))))
  refine wp_region_link 76 mixed (by kernel_rfl) (by rfl) (UpC wa) (UpC.start wa) ?_
  refine wpL_cons (is (.agg (spotA spot0))) (stable_is _) (step_load23 (go0 rfl) (.tmp 1) rfl (w.heap.size) 0 spot0 (opO' 1 (.pointer (some ⟨w.heap.size, 0, none⟩)) rfl rfl) (fun W h => (HQ.out.2.1.below h).r)) ?_
  refine wpL_cons (is (.agg (spotA s1))) (stable_is _) (step_load23 (go0 rfl) (.tmp 2) rfl (w.heap.size + 1) 0 s1 (opO' 2 (.pointer (some ⟨w.heap.size + 1, 0, none⟩)) rfl rfl) (fun W h => (HQ.out.2.2.1.below h).r)) ?_
  refine wpL_cons (is (.agg (spotA s2))) (stable_is _) (step_load23 (go0 rfl) (.tmp 3) rfl (w.heap.size + 1 + 1) 0 s2 (opO' 3 (.pointer (some ⟨w.heap.size + 1 + 1, 0, none⟩)) rfl rfl) (fun W h => (HQ.out.2.2.2.1.below h).r)) ?_
  refine wpL_cons (is (.agg (triA spot0 s1 s2))) (stable_is _) (step_build24 (go0 rfl) (.tmp 15) (.tmp 16) (.tmp 17) rfl spot0 s1 s2 (opT' 15 0 rfl rfl) (opT' 16 1 rfl rfl) (opT' 17 2 rfl rfl)) ?_
  refine wpL_cons (IsHits (allR (-1) (pix spot0 s1 s2 1 1))) (isHits_stable _) (step_all (go0 rfl) (.tmp 18) (.const (.int .i64 1)) (.const (.int .i64 1)) (.const (.int IntKind.i64 (-1))) _ rfl spot0 s1 s2 spot0_ok s_ok.1 s_ok.2.1 1 1 (-1) (opT' 18 3 rfl rfl) (opC _) (opC _) (opC _)) ?_
  refine wpL_cons (is (.agg (spotA spot0))) (stable_is _) (step_load23 (go0 rfl) (.tmp 1) rfl (w.heap.size) 0 spot0 (opO' 1 (.pointer (some ⟨w.heap.size, 0, none⟩)) rfl rfl) (fun W h => (HQ.out.2.1.below h).r)) ?_
  refine wpL_cons (is (.agg (spotA s2))) (stable_is _) (step_load23 (go0 rfl) (.tmp 3) rfl (w.heap.size + 1 + 1) 0 s2 (opO' 3 (.pointer (some ⟨w.heap.size + 1 + 1, 0, none⟩)) rfl rfl) (fun W h => (HQ.out.2.2.2.1.below h).r)) ?_
  refine wpL_cons (is (.agg (spotA s3))) (stable_is _) (step_load23 (go0 rfl) (.tmp 4) rfl (w.heap.size + 1 + 1 + 1) 0 s3 (opO' 4 (.pointer (some ⟨w.heap.size + 1 + 1 + 1, 0, none⟩)) rfl rfl) (fun W h => (HQ.out.2.2.2.2.below h).r)) ?_
  refine wpL_cons (is (.agg (triA spot0 s2 s3))) (stable_is _) (step_build24 (go0 rfl) (.tmp 20) (.tmp 21) (.tmp 22) rfl spot0 s2 s3 (opT' 20 5 rfl rfl) (opT' 21 6 rfl rfl) (opT' 22 7 rfl rfl)) ?_
  refine wpL_cons (IsHits (allR (-1) (pix spot0 s2 s3 1 1))) (isHits_stable _) (step_all (go0 rfl) (.tmp 23) (.const (.int .i64 1)) (.const (.int .i64 1)) (.const (.int IntKind.i64 (-1))) _ rfl spot0 s2 s3 spot0_ok s_ok.2.1 s_ok.2.2 1 1 (-1) (opT' 23 8 rfl rfl) (opC _) (opC _) (opC _)) ?_
  refine wpL_cons (IsHits (allR (-1) (pix spot0 s1 s2 1 1))) (isHits_stable _) (step_assign (go0 rfl) (.tmp 19) rfl (opT' 19 4 rfl rfl)) ?_
  refine wpL_cons (IsHits (allR (-1) (pix spot0 s2 s3 1 1))) (isHits_stable _) (step_assign (go0 rfl) (.tmp 24) rfl (opT' 24 9 rfl rfl)) ?_
  refine wpL_nil ?_
  intro v wb hI _ hdone _
  obtain ⟨A1, cap1, e1, _⟩ := hdone 10 5 rfl
  obtain ⟨A2, cap2, e2, _⟩ := hdone 11 6 rfl
  have hI : Below wa.heap.size wa wb := hI
  have HB := Lib.hid (And.intro (HQ.out.1.trans (hI.mono HQ.out.1.size)) (And.intro (HQ.out.2.1.below hI) (And.intro (HQ.out.2.2.1.below hI) (And.intro (HQ.out.2.2.2.1.below hI) (HQ.out.2.2.2.2.below hI)))))
  clear hdone hI
  simp only [putAll, Act.put, List.setIfInBounds_toArray, List.set_cons_zero, List.set_cons_succ, Nat.zero_add, Nat.reduceAdd, e1, e2]
  rw [l1, l2]
  clear e1 e2 hB3 hq0 hq1 hq2 hq3
  have ht1 := Turned_walk spot0 s3 s2 spot0_ok s_ok.2.2 s_ok.2.1
  have ht2 := Turned_walk spot0 spot0 s2 spot0_ok spot0_ok s_ok.2.1
  have ht3 := Area_walk spot0 s1 s2 spot0_ok s_ok.1 s_ok.2.1
  have ht4 := Side_walk spot0 s1 5 3 spot0_ok s_ok.1 (by unfold Near; omega) (by unfold Near; omega)
  rw [turn1] at ht1
  rw [turn2] at ht2
  rw [area1] at ht3
  rw [side1] at ht4
  simp only [triV_A, spotV_A] at ht3 ht4
  have HT := Lib.hid (And.intro ht1 (And.intro ht2 (And.intro ht3 ht4)))
  clear ht1 ht2 ht3 ht4
  go_wp2_with (first
    | refine arm_load23 rfl (.tmp 1) rfl w.heap.size 0 spot0 rfl HB.out.2.1.r ?_
    | refine arm_load23 rfl (.tmp 4) rfl (w.heap.size + 1 + 1 + 1) 0 s3 rfl HB.out.2.2.2.2.r ?_
    | refine arm_load23 rfl (.tmp 3) rfl (w.heap.size + 1 + 1) 0 s2 rfl HB.out.2.2.2.1.r ?_
    | refine arm_build24 rfl (.tmp 26) (.tmp 27) (.tmp 28) rfl spot0 s3 s2 rfl rfl rfl ?_)
  refine (HT.out.1 _).mono ?_
  rintro e wc ⟨rfl, hb⟩
  have hz := TriAt.new wc spot0 spot0 spot0
  have HZ := Lib.hid hz
  have hb2 := below_trans (show Below wb.heap.size wb wc from hb) (below_alloc wc (.cells (triA spot0 spot0 spot0) 24))
  have HC := Lib.hid (And.intro (HB.out.1.trans (hb2.mono HB.out.1.size)) (And.intro (HB.out.2.1.below hb2) (And.intro (HB.out.2.2.1.below hb2) (And.intro (HB.out.2.2.2.1.below hb2) (And.intro (HB.out.2.2.2.2.below hb2) hb.size)))))
  have hlt := Lib.hid (Array.getElem?_eq_some_iff.1 HB.out.2.2.2.2).1
  clear hz hb hb2
  go_wp2_with (first
    | refine arm_alloc24 rfl rfl ?_
    | (refine arm_store24 rfl (.tmp 7) (.tmp 31) rfl wc.heap.size spot0 spot0 spot0 spot0 s2 s3 rfl rfl HZ.out ?_
       intro hn hbn
       have hb3 := hbn (w.heap.size + 1 + 1 + 1 + 1) (by have := HC.out.2.2.2.2.2; have := hlt.out; omega)
       have HD := Lib.hid (And.intro (HC.out.1.trans (hb3.mono (by omega))) (And.intro ((hb3.block w.heap.size (by omega)).trans HC.out.2.1) (And.intro ((hb3.block (w.heap.size + 1) (by omega)).trans HC.out.2.2.1) (And.intro ((hb3.block (w.heap.size + 1 + 1) (by omega)).trans HC.out.2.2.2.1) (And.intro ((hb3.block (w.heap.size + 1 + 1 + 1) (by omega)).trans HC.out.2.2.2.2.1) hn)))))
       clear hn hbn hb3
       generalize ((wc.alloc (.cells (triA spot0 spot0 spot0) 24)).setRow wc.heap.size (triA spot0 s2 s3)) = wd at *)
    | refine arm_load23 rfl (.tmp 1) rfl w.heap.size 0 spot0 rfl (SpotAt.r HD.out.2.1) ?_
    | refine arm_load23 rfl (.tmp 3) rfl (w.heap.size + 1 + 1) 0 s2 rfl (SpotAt.r HD.out.2.2.2.1) ?_
    | refine arm_build24 rfl (.tmp 34) (.tmp 35) (.tmp 36) rfl spot0 spot0 s2 rfl rfl rfl ?_)
  refine (HT.out.2.1 _).mono ?_
  rintro e we ⟨rfl, hb⟩
  rename_i K1 hK1 K2 hK2
  have HK := Lib.hid hK1
  clear hK1
  have hz := TriAt.new we spot0 spot0 spot0
  have HZ2 := Lib.hid hz
  have hb2 := below_trans (show Below wd.heap.size wd we from hb) (below_alloc we (.cells (triA spot0 spot0 spot0) 24))
  have hlt2 := (Array.getElem?_eq_some_iff.1 HD.out.2.2.2.2.2).1
  have hlt3 := (Array.getElem?_eq_some_iff.1 HD.out.2.2.2.2.1).1
  have HE := Lib.hid (And.intro (HD.out.1.trans (hb2.mono HD.out.1.size)) (And.intro (SpotAt.below HD.out.2.1 hb2) (And.intro (SpotAt.below HD.out.2.2.1 hb2) (And.intro (SpotAt.below HD.out.2.2.2.1 hb2) (And.intro (SpotAt.below HD.out.2.2.2.2.1 hb2) (And.intro (TriAt.below HD.out.2.2.2.2.2 hb2) hb.size))))))
  have hlt := Lib.hid (And.intro hlt2 hlt3)
  clear hz hb hb2 hlt2 hlt3
  have hre := run_eq24
  go_wp2_with (first
    | refine arm_alloc24 rfl rfl ?_
    | (refine arm_store24 rfl (.tmp 9) (.tmp 39) rfl we.heap.size spot0 spot0 spot0 spot0 spot0 spot0 rfl rfl HZ2.out ?_
       intro hn hbn
       have hb3 := hbn wd.heap.size HE.out.2.2.2.2.2.2
       have HF := Lib.hid (And.intro (HE.out.1.trans (hb3.mono HD.out.1.size)) (And.intro ((hb3.block w.heap.size (by have := hlt.out; omega)).trans HE.out.2.1) (And.intro ((hb3.block (w.heap.size + 1) (by have := hlt.out; omega)).trans HE.out.2.2.1) (And.intro ((hb3.block (w.heap.size + 1 + 1) (by have := hlt.out; omega)).trans HE.out.2.2.2.1) (And.intro ((hb3.block (w.heap.size + 1 + 1 + 1) (by have := hlt.out; omega)).trans HE.out.2.2.2.2.1) ((hb3.block wc.heap.size (by have := hlt.out; omega)).trans HE.out.2.2.2.2.2.1))))))
       clear hn hbn hb3
       generalize ((we.alloc (.cells (triA spot0 spot0 spot0) 24)).setRow we.heap.size (triA spot0 spot0 spot0)) = wf at *))
  clear hre
  refine HK.out _ _ (wp_seq ?_)
  refine wp_region_text 76 (by kernel_rfl) (by rfl) (UpC wf) (show Below wf.heap.size wf wf from Below.refl _ _) ?_
  refine wpL_cons (is (.slice A1 1 cap1)) (stable_is _) (step_move (go0 rfl) (.tmp 5) rfl (opO' 5 (.slice A1 1 cap1) rfl rfl)) ?_
  refine wpL_cons (is (.int .i64 1)) (stable_is _) (step_len (go0 rfl) (.tmp 41) _ rfl _ _ (opT' 41 0 rfl rfl) (fun W => by kernel_rfl)) ?_
  refine wpL_cons (is (.slice A2 0 cap2)) (stable_is _) (step_move (go0 rfl) (.tmp 6) rfl (opO' 6 (.slice A2 0 cap2) rfl rfl)) ?_
  refine wpL_cons (is (.int .i64 0)) (stable_is _) (step_len (go0 rfl) (.tmp 43) _ rfl _ _ (opT' 43 2 rfl rfl) (fun W => by kernel_rfl)) ?_
  refine wpL_cons (is (.int .i64 1)) (stable_is _) (step_int (go0 rfl) .add 3 3 (.tmp 42) (.tmp 44) rfl .i64 .i64 _ _ _ (opT' 42 1 rfl rfl) (opT' 44 3 rfl rfl) (fun W => by kernel_rfl)) ?_
  refine wpL_cons (is (.bool true)) (stable_is _) (step_int (go0 rfl) .eql 3 3 (.tmp 45) (.const (.int .i64 1)) rfl .i64 .i64 _ _ _ (opT' 45 4 rfl rfl) (opC _) (fun W => by kernel_rfl)) ?_
  refine wpL_cons (is (.bool true)) (stable_is _) (step_move (go0 rfl) (.tmp 46) rfl (opT' 46 5 rfl rfl)) ?_
  refine wpL_cons (is (.bool true)) (stable_is _) (step_move (go1 6 true 47 rfl rfl rfl rfl) (.tmp 8) rfl (opO' 8 (.bool true) rfl rfl)) ?_
  refine wpL_cons (is (.bool true)) (stable_is _) (step_pickT (go0 rfl) (.tmp 47) (.tmp 48) (.const (.bool false)) rfl (opT' 47 6 rfl rfl) (opT' 48 7 rfl rfl)) ?_
  refine wpL_cons (is (.bool true)) (stable_is _) (step_move (go0 rfl) (.tmp 49) rfl (opT' 49 8 rfl rfl)) ?_
  refine wpL_cons (is (.agg (triA spot0 s2 s3))) (stable_is _) (step_loadRow (go1 9 true 50 rfl rfl rfl rfl) 24 (.tmp 7) rfl (wc.heap.size) 24 (triA spot0 s2 s3) (0, 0) _ (opO' 7 (.pointer (some ⟨wc.heap.size, 0, none⟩)) rfl rfl) (fun W h => (TriAt.below HF.out.2.2.2.2.2 h)) Try.underlying24 rfl (size24 spot0 s2 s3)) ?_
  refine wpL_cons (is (.agg (spotA spot0))) (stable_is _) (step_load23 (go1 9 true 50 rfl rfl rfl rfl) (.tmp 1) rfl (w.heap.size) 0 spot0 (opO' 1 (.pointer (some ⟨w.heap.size, 0, none⟩)) rfl rfl) (fun W h => (SpotAt.below HF.out.2.1 h).r)) ?_
  refine wpL_cons (is (.agg (spotA s2))) (stable_is _) (step_load23 (go1 9 true 50 rfl rfl rfl rfl) (.tmp 3) rfl (w.heap.size + 1 + 1) 0 s2 (opO' 3 (.pointer (some ⟨w.heap.size + 1 + 1, 0, none⟩)) rfl rfl) (fun W h => (SpotAt.below HF.out.2.2.2.1 h).r)) ?_
  refine wpL_cons (is (.agg (spotA s3))) (stable_is _) (step_load23 (go1 9 true 50 rfl rfl rfl rfl) (.tmp 4) rfl (w.heap.size + 1 + 1 + 1) 0 s3 (opO' 4 (.pointer (some ⟨w.heap.size + 1 + 1 + 1, 0, none⟩)) rfl rfl) (fun W h => (SpotAt.below HF.out.2.2.2.2.1 h).r)) ?_
  refine wpL_cons (is (.agg (triA spot0 s2 s3))) (stable_is _) (step_build24 (go1 9 true 50 rfl rfl rfl rfl) (.tmp 52) (.tmp 53) (.tmp 54) rfl spot0 s2 s3 (opT' 52 11 rfl rfl) (opT' 53 12 rfl rfl) (opT' 54 13 rfl rfl)) ?_
  refine wpL_cons (is (.bool true)) (stable_is _) (step_two (go1 9 true 50 rfl rfl rfl rfl) (.tmp 51) (.tmp 55) _ _ _ (opT' 51 10 rfl rfl) (opT' 55 14 rfl rfl) (fun ρ W h1 h2 => exec_eq24 ρ _ rfl h1 h2 W)) ?_
  refine wpL_cons (is (.bool true)) (stable_is _) (step_pickT (go0 rfl) (.tmp 50) (.tmp 56) (.const (.bool false)) rfl (opT' 50 9 rfl rfl) (opT' 56 15 rfl rfl)) ?_
  refine wpL_cons (is (.bool true)) (stable_is _) (step_move (go0 rfl) (.tmp 57) rfl (opT' 57 16 rfl rfl)) ?_
  refine wpL_cons (is (.bool false)) (stable_is _) (step_move (go1 17 true 58 rfl rfl rfl rfl) (.tmp 10) rfl (opO' 10 (.bool false) rfl rfl)) ?_
  refine wpL_cons (is (.bool true)) (stable_is _) (step_not (go1 17 true 58 rfl rfl rfl rfl) 4 (.tmp 59) rfl false (opT' 59 18 rfl rfl)) ?_
  refine wpL_cons (is (.bool true)) (stable_is _) (step_pickT (go0 rfl) (.tmp 58) (.tmp 60) (.const (.bool false)) rfl (opT' 58 17 rfl rfl) (opT' 60 19 rfl rfl)) ?_
  refine wpL_cons (is (.bool true)) (stable_is _) (step_move (go0 rfl) (.tmp 61) rfl (opT' 61 20 rfl rfl)) ?_
  refine wpL_cons (is (.agg (spotA spot0))) (stable_is _) (step_load23 (go1 21 true 62 rfl rfl rfl rfl) (.tmp 1) rfl (w.heap.size) 0 spot0 (opO' 1 (.pointer (some ⟨w.heap.size, 0, none⟩)) rfl rfl) (fun W h => (SpotAt.below HF.out.2.1 h).r)) ?_
  refine wpL_cons (is (.agg (spotA s1))) (stable_is _) (step_load23 (go1 21 true 62 rfl rfl rfl rfl) (.tmp 2) rfl (w.heap.size + 1) 0 s1 (opO' 2 (.pointer (some ⟨w.heap.size + 1, 0, none⟩)) rfl rfl) (fun W h => (SpotAt.below HF.out.2.2.1 h).r)) ?_
  refine wpL_cons (is (.agg (spotA s2))) (stable_is _) (step_load23 (go1 21 true 62 rfl rfl rfl rfl) (.tmp 3) rfl (w.heap.size + 1 + 1) 0 s2 (opO' 3 (.pointer (some ⟨w.heap.size + 1 + 1, 0, none⟩)) rfl rfl) (fun W h => (SpotAt.below HF.out.2.2.2.1 h).r)) ?_
  refine wpL_cons (is (.agg (triA spot0 s1 s2))) (stable_is _) (step_build24 (go1 21 true 62 rfl rfl rfl rfl) (.tmp 63) (.tmp 64) (.tmp 65) rfl spot0 s1 s2 (opT' 63 22 rfl rfl) (opT' 64 23 rfl rfl) (opT' 65 24 rfl rfl)) ?_
  refine wpL_cons (is (.int .i64 65536)) (stable_is _) (step_area' (go1 21 true 62 rfl rfl rfl rfl) (.tmp 66) _ rfl spot0 s1 s2 spot0_ok s_ok.1 s_ok.2.1 _ area1 (opT' 66 25 rfl rfl)) ?_
  refine wpL_cons (is (.bool true)) (stable_is _) (step_int (go1 21 true 62 rfl rfl rfl rfl) .eql 3 3 (.tmp 67) (.const (.int .i64 65536)) rfl .i64 .i64 _ _ _ (opT' 67 26 rfl rfl) (opC _) (fun W => by kernel_rfl)) ?_
  refine wpL_cons (is (.bool true)) (stable_is _) (step_pickT (go0 rfl) (.tmp 62) (.tmp 68) (.const (.bool false)) rfl (opT' 62 21 rfl rfl) (opT' 68 27 rfl rfl)) ?_
  refine wpL_cons (is (.bool true)) (stable_is _) (step_move (go0 rfl) (.tmp 69) rfl (opT' 69 28 rfl rfl)) ?_
  refine wpL_cons (is (.agg (spotA spot0))) (stable_is _) (step_load23 (go1 29 true 70 rfl rfl rfl rfl) (.tmp 1) rfl (w.heap.size) 0 spot0 (opO' 1 (.pointer (some ⟨w.heap.size, 0, none⟩)) rfl rfl) (fun W h => (SpotAt.below HF.out.2.1 h).r)) ?_
  refine wpL_cons (is (.agg (spotA s1))) (stable_is _) (step_load23 (go1 29 true 70 rfl rfl rfl rfl) (.tmp 2) rfl (w.heap.size + 1) 0 s1 (opO' 2 (.pointer (some ⟨w.heap.size + 1, 0, none⟩)) rfl rfl) (fun W h => (SpotAt.below HF.out.2.2.1 h).r)) ?_
  refine wpL_cons (is (.int .i64 768)) (stable_is _) (step_side' (go1 29 true 70 rfl rfl rfl rfl) (.tmp 71) (.tmp 72) (.const (.int .i64 5)) (.const (.int .i64 3)) _ rfl spot0 s1 5 3 spot0_ok s_ok.1 (by unfold Near; omega) (by unfold Near; omega) _ side1 (opT' 71 30 rfl rfl) (opT' 72 31 rfl rfl) (opC _) (opC _)) ?_
  refine wpL_cons (is (.bool true)) (stable_is _) (step_int (go1 29 true 70 rfl rfl rfl rfl) .eql 3 3 (.tmp 73) (.const (.int .i64 768)) rfl .i64 .i64 _ _ _ (opT' 73 32 rfl rfl) (opC _) (fun W => by kernel_rfl)) ?_
  refine wpL_cons (is (.bool true)) (stable_is _) (step_pickT (go0 rfl) (.tmp 70) (.tmp 74) (.const (.bool false)) rfl (opT' 70 29 rfl rfl) (opT' 74 33 rfl rfl)) ?_
  refine wpL_cons (is (.bool true)) (stable_is _) (step_assign (go0 rfl) (.tmp 75) rfl (opT' 75 34 rfl rfl)) ?_
  refine wpL_nil ?_
  intro v5 wg hI _ hdone _
  have e0 : v5 35 = .bool true := hdone 35 0 rfl
  have hI : Below wf.heap.size wf wg := hI
  have HG := Lib.hid (HF.out.1.trans (hI.mono HF.out.1.size))
  clear hdone hI
  simp only [putAll, Act.put, List.setIfInBounds_toArray, List.set_cons_zero, List.set_cons_succ, Nat.zero_add, Nat.reduceAdd, e0]
  go_wp2_with fail
  go_ret
  exact ⟨rfl, HG.out⟩
end Go.Proofs.Ytgkidgpdgcdgnaa
