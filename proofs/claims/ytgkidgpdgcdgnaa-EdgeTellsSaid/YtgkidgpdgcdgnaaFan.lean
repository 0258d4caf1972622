/- EdgeFan: a screen that is cut in triangles from a point within covers each pixel once, wherever the point is. At every input the law says true. -/
import Derived.Test.YtgkidgpdgcdgnaaCnt
import Derived.Test.YtgkidgpdgcdgnaaSmall
import Derived.Test.YtgkidgpdgcdgnaaArgs
import Derived.BigQuiet
import Derived.ProofKit
import Derived.OpenShut
import Derived.ShutString
import Derived.ChangeOld
import Derived.Below
namespace Go.Proofs.Ytgkidgpdgcdgnaa
open Go.RowKit

theorem built42 (p q r s : Spot) : Try.prog.built 42 [(0, .agg (spotA p)), (1, .agg (spotA q)), (2, .agg (spotA r)), (3, .agg (spotA s))] = some (quadA p q r s) := by unfold spotA quadA; kernel_rfl
theorem alloc42 (w : World) : (Instr.alloc 42 true (.tuple #[])).run Try.prog w = .ok (.pointer (some ⟨w.heap.size, 0, none⟩)) (w.alloc (.cells (quadA spot0 spot0 spot0 spot0) 42)) := by unfold quadA spot0; kernel_rfl
theorem quadA_size (p q r s : Spot) : (quadA p q r s).size = 24 := by unfold quadA; rfl
theorem quadA_one (p q r s : Spot) : (quadA p q r s).all (·.oneCell') = true := by unfold quadA; simp [Value.oneCell']
theorem size42 (p q r s : Spot) : (Try.prog.info? 42).map (·.size) = some (quadA p q r s).size := by rw [quadA_size]; kernel_rfl
section
variable {ops : Array Oper} {rest : List Oper} {o : Oper} {a : Act} {w : World} {Q : Exit → Act → World → Prop}
theorem list_value {w' : World} (hgd : o.guard = none) (v : Value) (hr : (execOp a.eval o).run Try.prog w = .ok (.value v) w') (h : wpList Try.prog ops Q rest (a.put o.dst v) w') : wpList Try.prog ops Q (o :: rest) a w :=
  wpList_plain hgd fun K hK => by
    unfold Oper.wp
    rw [hr]
    exact hK _ _ h
theorem list_move (hgd : o.guard = none) (x : Operand) (ho : o.op = .move x) (v : Value) (hx : a.eval x = v) (h : wpList Try.prog ops Q rest (a.put o.dst v) w) : wpList Try.prog ops Q (o :: rest) a w :=
  list_value hgd v (by simp only [execOp, ho, hx]; rfl) h
theorem list_mul (hgd : o.guard = none) (x y : Operand) (ho : o.op = .binOp .mul 3 x y 3) (m n k : Int) (hx : a.eval x = .int .i64 m) (hy : a.eval y = .int .i64 n) (hk : m * n = k) (hb : -9000000000000000000 ≤ k ∧ k ≤ 9000000000000000000) (h : wpList Try.prog ops Q rest (a.put o.dst (.int .i64 k)) w) : wpList Try.prog ops Q (o :: rest) a w :=
  list_value hgd _ (by subst hk; simp only [execOp, ho, hx, hy, Sem.run_bind, run_eqGuard_int, run_mul3 m n hb, Result.andThen]; rfl) h
theorem arm_build42 (hgd : o.guard = none) (x y z u : Operand) (ho : o.op = .build 42 #[(0, x), (1, y), (2, z), (3, u)]) (p q r s : Spot) (hx : a.eval x = .agg (spotA p)) (hy : a.eval y = .agg (spotA q)) (hz : a.eval z = .agg (spotA r)) (hu : a.eval u = .agg (spotA s))
    (h : wpList Try.prog ops Q rest (a.put o.dst (.agg (quadA p q r s))) w) : wpList Try.prog ops Q (o :: rest) a w := by
  have e : Try.prog.built 42 ((#[(0, x), (1, y), (2, z), (3, u)] : Array (Nat × Operand)).map fun (i, x) => (i, a.eval x)).toList = some (quadA p q r s) := by
    simp only [List.map_toArray, List.map_cons, List.map_nil, hx, hy, hz, hu]; exact built42 p q r s
  refine wpList_build hgd 42 _ ho (by rw [e]; rfl) ?_
  rw [e]; exact h
theorem arm_alloc42 (hgd : o.guard = none) (ho : o.op = .alloc 42)
    (h : wpList Try.prog ops Q rest (a.put o.dst (.pointer (some ⟨w.heap.size, 0, none⟩))) (w.alloc (.cells (quadA spot0 spot0 spot0 spot0) 42))) : wpList Try.prog ops Q (o :: rest) a w :=
  wpList_plain hgd fun K hK => by
    unfold Oper.wp
    simp only [execOp, ho, Sem.run_bind, alloc42]
    exact hK _ _ h
theorem arm_store42 (hgd : o.guard = none) (x y : Operand) (ho : o.op = .store 42 x y) (g : Nat) (p q r s p' q' r' s' : Spot) (hx : a.eval x = .pointer (some ⟨g, 0, none⟩)) (hy : a.eval y = .agg (quadA p' q' r' s')) (hg : QuadAt w g p q r s)
    (h : ∀ w', QuadAt w' g p' q' r' s' → w'.heap.size = w.heap.size → (∀ B, B ≤ g → Below B w w') → wpList Try.prog ops Q rest (a.put o.dst undef) w') : wpList Try.prog ops Q (o :: rest) a w :=
  wpList_plain hgd fun K hK => wp_store_row 42 x y ho g (quadA p' q' r' s') hx hy 42 (quadA p q r s) hg (size42 _ _ _ _) (by rw [quadA_size, quadA_size]) (quadA_one _ _ _ _)
    (hK _ _ (h _ (setRow_heap w g _ _ 42 _ hg) (by simp [World.setRow]) (fun B hB => ⟨rfl, rfl, rfl, by simp [World.setRow], fun k hk => setRow_other w g k _ (by omega)⟩)))
end
/-- how often the first triangles cover a pixel -/
def fanCnt (m p q r s : Spot) (w : Nat) : Nat → Nat → Nat
  | 0, _ => 0
  | i + 1, k => fanCnt m p q r s w i k + b2n (covered m (nth4 p q r s i) (nth4 p q r s ((i + 1) % 4)) ((k % w : Nat) : Int) ((k / w : Nat) : Int))
theorem fanCnt_succ (m p q r s : Spot) (w i k : Nat) : fanCnt m p q r s w (i + 1) k = fanCnt m p q r s w i k + b2n (covered m (nth4 p q r s i) (nth4 p q r s ((i + 1) % 4)) ((k % w : Nat) : Int) ((k / w : Nat) : Int)) := by simp only [fanCnt]
theorem fanCnt_zero (m p q r s : Spot) (w k : Nat) : 0 = fanCnt m p q r s w 0 k := by simp only [fanCnt]
theorem b2n_le (b : Bool) : b2n b ≤ 1 := by unfold b2n; split <;> omega
theorem fanCnt_le (m p q r s : Spot) (w : Nat) : ∀ i k, fanCnt m p q r s w i k ≤ i
  | 0, _ => Nat.le_refl _
  | i + 1, k => by
    have h1 := fanCnt_le m p q r s w i k
    have h2 := b2n_le (covered m (nth4 p q r s i) (nth4 p q r s ((i + 1) % 4)) ((k % w : Nat) : Int) ((k / w : Nat) : Int))
    unfold fanCnt; omega
/-- what lies there as the triangles are gone through -/
def FanAt (w0 w : World) (wd ht : Int) (m : Spot) (n : Nat) (f : Nat → Nat) : Prop :=
  SpotAt w w0.heap.size m ∧ QuadAt w (w0.heap.size + 1) (corner (256 * wd) (256 * ht) 0) (corner (256 * wd) (256 * ht) 1) (corner (256 * wd) (256 * ht) 2) (corner (256 * wd) (256 * ht) 3) ∧ CntAt w 3 (w0.heap.size + 1 + 1) n f ∧ Below w0.heap.size w0 w
theorem fan_start {w w2 : World} {wd ht : Int} {m : Spot} (n : Nat) (h1 : SpotAt w2 w.heap.size m) (h2 : QuadAt w2 (w.heap.size + 1) (corner (256 * wd) (256 * ht) 0) (corner (256 * wd) (256 * ht) 1) (corner (256 * wd) (256 * ht) 2) (corner (256 * wd) (256 * ht) 3)) (h3 : Below w.heap.size w w2) (h4 : w2.heap.size = w.heap.size + 1 + 1) : FanAt w (w2.alloc (.cells (numA n (fun _ => 0)) 3)) wd ht m n (fun _ => 0) := by
  refine ⟨h1.below (below_alloc _ _), h2.below (below_alloc _ _), ?_, below_trans h3 (below_alloc _ _)⟩
  have := heap_alloc_new w2 (.cells (numA n (fun _ => 0)) 3)
  rw [h4] at this; exact this
theorem FanAt.below {w0 w w' : World} {wd ht : Int} {m : Spot} {n : Nat} {f : Nat → Nat} (h : FanAt w0 w wd ht m n f) (hb : Below w.heap.size w w') : FanAt w0 w' wd ht m n f :=
  ⟨h.1.below hb, h.2.1.below hb, h.2.2.1.below hb, below_trans h.2.2.2 hb⟩
theorem FanAt.congr {w0 w : World} {wd ht : Int} {m : Spot} {n : Nat} {f f' : Nat → Nat} (h : FanAt w0 w wd ht m n f) (he : ∀ i, i < n → f i = f' i) : FanAt w0 w wd ht m n f' := ⟨h.1, h.2.1, h.2.2.1.congr he, h.2.2.2⟩
theorem FanAt.set {w0 w : World} {wd ht : Int} {m : Spot} {n : Nat} {f : Nat → Nat} (h : FanAt w0 w wd ht m n f) (c v : Nat) : FanAt w0 (w.setCell ⟨w0.heap.size + 1 + 1, c, none⟩ (.int .i64 (v : Int))) wd ht m n (fun i => if i = c then v else f i) :=
  ⟨(setCell_other _ _ _ _ (by simp only; omega)).trans h.1, (setCell_other _ _ _ _ (by simp only; omega)).trans h.2.1, h.2.2.1.set c v, h.2.2.2.setCell (p := ⟨w0.heap.size + 1 + 1, c, none⟩) (by simp; omega) _⟩
theorem HRow.other {w W' : World} {A : Option Addr} {l : List Hit} {g : Nat} (h : HRow w A l) (hne : ∀ b off, A = some ⟨b, off, none⟩ → g < b) (hk : ∀ k, k < w.heap.size → k ≠ g → W'.heap[k]? = w.heap[k]?) : HRow W' A l :=
  ⟨fun i hi => by
    obtain ⟨b, h1, h2⟩ := h.at_ i hi
    refine ⟨b, h1, fun j v hv => ?_⟩
    have hc := h2 j v hv
    have hb := block_lt_of_cell hc
    have hn : b ≠ g := fun e => by have := hne b 0 h1; omega
    rw [World.cell?_of_block (w := w) (a := ⟨b, 0 + j, none⟩) (hk b hb hn)]; exact hc⟩
def IsHitsN (B : Nat) (l : List Hit) : Spec := fun v W => ∃ A cap, v = .slice A l.length cap ∧ HRow W A l ∧ l.length ≤ cap ∧ ∀ b off, A = some ⟨b, off, none⟩ → B ≤ b
theorem isHitsN_stable {w0 : World} (B : Nat) (l : List Hit) : Stable (UpC w0) (IsHitsN B l) := fun _ _ _ hr ⟨A, cap, h1, h2, h3, h4⟩ => ⟨A, cap, h1, h2.below hr, h3, h4⟩
theorem step_allN {ops : Array Oper} {a0 : Act} {sp : Nat → Spec} {k : Nat} {o : Oper} {w0 : World} (hg : Goes ops sp k o) (x y z u : Operand) (ts : Array TypeId) (ho : o.op = .call { callee := .value (.func 18), args := #[x, y, z, u], argTypes := ts })
    (a b c : Spot) (ha : a.ok) (hb : b.ok) (hc : c.ok) (wd ht : Int) (L : List Hit) (hL : pix a b c wd ht = L) (hx : OpIs ops (UpC w0) a0 sp k x (is (.agg (triA a b c)))) (hy : OpIs ops (UpC w0) a0 sp k y (is (.int .i64 wd))) (hz : OpIs ops (UpC w0) a0 sp k z (is (.int .i64 ht))) (hu : OpIs ops (UpC w0) a0 sp k u (is (.int .i64 (-1)))) :
    StepOk Try.prog ops (UpC w0) a0 sp k o (IsHitsN w0.heap.size L) :=
  step_call4 hg 18 x y z u ts ho enter18 hx hy hz hu (fun v1 v2 v3 v4 w h h1 h2 h3 h4 => by
    obtain rfl : v1 = _ := h1
    obtain rfl : v2 = _ := h2
    obtain rfl : v3 = _ := h3
    obtain rfl : v4 = _ := h4
    subst hL
    exact (All_walk a b c ha hb hc wd ht (-1) w).mono fun _ _ ⟨A, cap, he, hR, hcap, hb, hf⟩ => ⟨_, he, (UpC.step h hb).1, hb, A, cap, rfl, hR, hcap, fun b off e => Nat.le_trans (Below.size h) (hf b off e)⟩)
/-- the pixels of a triangle that goes round the right way, or is none -/
theorem pix_right (a b c : Spot) (w h : Nat) (hw : 1 ≤ w ∧ w ≤ 32) (hh : 1 ≤ h ∧ h ≤ 32) (ha : 0 ≤ area a b c) : pix a b c w h = pixTo (a, b, c) w (w * h) := by
  unfold pix
  by_cases h1 : 0 < area a b c
  · have ht : turned a b c = ((a, b, c), true) := by unfold turned; rw [if_pos h1]
    rw [ht, if_pos ⟨rfl, by omega⟩, Int.toNat_natCast, Int.toNat_natCast]
  · have ht : turned a b c = ((spot0, spot0, spot0), false) := by unfold turned; rw [if_neg h1, if_neg (by omega)]
    rw [ht, if_neg (fun hx => by cases hx.1)]
    symm
    unfold pixTo
    rw [List.filterMap_eq_nil_iff]
    intro k _
    rw [pixel_none]
    unfold covered
    rw [decide_eq_false h1]; rfl
theorem fan_area (m : Spot) (W H : Int) (hW : 0 ≤ W) (hH : 0 ≤ H) (hm : 0 ≤ m.x ∧ m.x ≤ W ∧ 0 ≤ m.y ∧ m.y ≤ H) (i : Nat) (hi : i < 4) : 0 ≤ area m (nth4 (corner W H 0) (corner W H 1) (corner W H 2) (corner W H 3) i) (nth4 (corner W H 0) (corner W H 1) (corner W H 2) (corner W H 3) ((i + 1) % 4)) := by
  have h : i = 0 ∨ i = 1 ∨ i = 2 ∨ i = 3 := by omega
  rcases h with rfl | rfl | rfl | rfl
  · have : area m (corner W H 0) (corner W H 1) = m.y * W := by unfold area side corner; grind
    simp only [nth4, Nat.reduceMod, Nat.zero_add]
    rw [this]; exact Int.mul_nonneg hm.2.2.1 hW
  · have : area m (corner W H 1) (corner W H 2) = (W - m.x) * H := by unfold area side corner; grind
    simp only [nth4, Nat.reduceAdd, Nat.reduceMod]
    rw [this]; exact Int.mul_nonneg (by omega) hH
  · have : area m (corner W H 2) (corner W H 3) = (H - m.y) * W := by unfold area side corner; grind
    simp only [nth4, Nat.reduceAdd, Nat.reduceMod]
    rw [this]; exact Int.mul_nonneg (by omega) hW
  · have : area m (corner W H 3) (corner W H 0) = m.x * H := by unfold area side corner; grind
    simp only [nth4, Nat.reduceAdd, Nat.reduceMod]
    rw [this]; exact Int.mul_nonneg hm.1 hH
theorem fanCnt_four (m p q r s : Spot) (w k : Nat) : fanCnt m p q r s w 4 k = b2n (covered m p q ((k % w : Nat) : Int) ((k / w : Nat) : Int)) + b2n (covered m q r ((k % w : Nat) : Int) ((k / w : Nat) : Int)) + b2n (covered m r s ((k % w : Nat) : Int) ((k / w : Nat) : Int)) + b2n (covered m s p ((k % w : Nat) : Int) ((k / w : Nat) : Int)) := by
  simp only [fanCnt, nth4, Nat.reduceAdd, Nat.reduceMod, Nat.zero_add]
theorem fan_all (m : Spot) (w h : Nat) (hw : 1 ≤ w) (hm : 0 ≤ m.x ∧ m.x ≤ 256 * (w : Int) ∧ 0 ≤ m.y ∧ m.y ≤ 256 * (h : Int)) (k : Nat) (hk : k < w * h) :
    fanCnt m (corner (256 * (w : Int)) (256 * (h : Int)) 0) (corner (256 * (w : Int)) (256 * (h : Int)) 1) (corner (256 * (w : Int)) (256 * (h : Int)) 2) (corner (256 * (w : Int)) (256 * (h : Int)) 3) w 4 k = 1 := by
  have h1 : k % w < w := Nat.mod_lt _ hw
  have h2 : k / w < h := Nat.div_lt_of_lt_mul hk
  generalize hpx : k % w = px at *
  generalize hpy : k / w = py at *
  have := fan_sum m (256 * (w : Int)) (256 * (h : Int)) (px : Int) (py : Int) (by omega) (by omega) hm (by omega) (by omega)
  rw [fanCnt_four, hpx, hpy]
  exact this
theorem fan_one_at {m : Spot} {wd ht : Int} {wN hN n j : Nat} (hw : wd = wN) (hh : ht = hN) (hn : n = wN * hN) (h1 : 1 ≤ wd) (hm : 0 ≤ m.x ∧ m.x ≤ 256 * wd ∧ 0 ≤ m.y ∧ m.y ≤ 256 * ht) (hj : j < n) : fanCnt m (corner (256 * wd) (256 * ht) 0) (corner (256 * wd) (256 * ht) 1) (corner (256 * wd) (256 * ht) 2) (corner (256 * wd) (256 * ht) 3) wN 4 j = 1 := by
  subst hw hh hn
  exact fan_all m wN hN (by omega) hm j hj
theorem fan_list {m : Spot} {wd ht : Int} {wN hN n : Nat} (hw : wd = wN) (hh : ht = hN) (hn : n = wN * hN) (h1 : 1 ≤ wd) (h2 : wd ≤ 32) (h3 : 1 ≤ ht) (h4 : ht ≤ 32) (hm : 0 ≤ m.x ∧ m.x ≤ 256 * wd ∧ 0 ≤ m.y ∧ m.y ≤ 256 * ht) (i : Nat) (hi : i < 4) :
    (m.ok ∧ (nth4 (corner (256 * wd) (256 * ht) 0) (corner (256 * wd) (256 * ht) 1) (corner (256 * wd) (256 * ht) 2) (corner (256 * wd) (256 * ht) 3) i).ok ∧ (nth4 (corner (256 * wd) (256 * ht) 0) (corner (256 * wd) (256 * ht) 1) (corner (256 * wd) (256 * ht) 2) (corner (256 * wd) (256 * ht) 3) ((i + 1) % 4)).ok) ∧ pix m (nth4 (corner (256 * wd) (256 * ht) 0) (corner (256 * wd) (256 * ht) 1) (corner (256 * wd) (256 * ht) 2) (corner (256 * wd) (256 * ht) 3) i) (nth4 (corner (256 * wd) (256 * ht) 0) (corner (256 * wd) (256 * ht) 1) (corner (256 * wd) (256 * ht) 2) (corner (256 * wd) (256 * ht) 3) ((i + 1) % 4)) wd ht = pixTo (m, nth4 (corner (256 * wd) (256 * ht) 0) (corner (256 * wd) (256 * ht) 1) (corner (256 * wd) (256 * ht) 2) (corner (256 * wd) (256 * ht) 3) i, nth4 (corner (256 * wd) (256 * ht) 0) (corner (256 * wd) (256 * ht) 1) (corner (256 * wd) (256 * ht) 2) (corner (256 * wd) (256 * ht) 3) ((i + 1) % 4)) wN n := by
  have hok : ∀ j, (nth4 (corner (256 * wd) (256 * ht) 0) (corner (256 * wd) (256 * ht) 1) (corner (256 * wd) (256 * ht) 2) (corner (256 * wd) (256 * ht) 3) j).ok := fun j => by
    unfold nth4 Spot.ok
    split <;> (simp only [corner]; omega)
  refine ⟨⟨by unfold Spot.ok; omega, hok _, hok _⟩, ?_⟩
  have ha := fan_area m (256 * wd) (256 * ht) (by omega) (by omega) hm i hi
  subst hw hh hn
  exact pix_right _ _ _ wN hN (by omega) (by omega) ha
theorem fan_hit {t : Spot × Spot × Spot} {wd ht : Int} {wN hN n k : Nat} {L : List Hit} {x : Hit} (hw : wd = wN) (hh : ht = hN) (hn : n = wN * hN) (h1 : 1 ≤ wd) (hL : L = pixTo t wN n) (hx : L[k]? = some x) :
    ∃ c, c < n ∧ keyW wN x = c ∧ x.y * wd + x.x = (c : Int) ∧ 0 ≤ x.x ∧ x.x < wd ∧ 0 ≤ x.y ∧ x.y < ht := by
  subst hL
  obtain ⟨c, hc, hp⟩ := mem_pixTo.1 (List.mem_of_getElem? hx)
  obtain ⟨k1, k2, k3, k4⟩ := key_at hp
  refine ⟨c, hc, k1, by rw [hw]; exact k4, k2, ?_, k3, ?_⟩
  · obtain ⟨_, rfl⟩ := pixel_some hp
    have := Nat.mod_lt c (show 0 < wN by omega)
    rw [hw]; exact Int.ofNat_lt.2 this
  · obtain ⟨_, rfl⟩ := pixel_some hp
    have := Nat.div_lt_of_lt_mul (show c < wN * hN by omega)
    rw [hh]; exact Int.ofNat_lt.2 this
set_option maxRecDepth 100000 in
set_option maxHeartbeats 8000000 in
theorem Fan_walk (x y wd ht : Int) (w : World) : Calls Try.prog 6 #[.int .i64 x, .int .i64 y, .int .i64 wd, .int .i64 ht] w fun e w' => e = .returned (.bool true) ∧ Below w.heap.size w w' := by
  by_cases c1 : wd < 1
  · go_enter Try.func6, Try.ntmps6
    go_wp2_with fail
    refine (awake_walk _).mono ?_
    rintro e wb ⟨rfl, hb⟩
    have HX := Lib.hid hb
    clear hb
    go_wp2_with fail
    go_ret
    exact ⟨rfl, HX.out⟩
  by_cases c2 : 32 < wd
  · go_enter Try.func6, Try.ntmps6
    go_wp2_with fail
    refine (awake_walk _).mono ?_
    rintro e wb ⟨rfl, hb⟩
    have HX := Lib.hid hb
    clear hb
    go_wp2_with fail
    go_ret
    exact ⟨rfl, HX.out⟩
  by_cases c3 : ht < 1
  · go_enter Try.func6, Try.ntmps6
    go_wp2_with fail
    refine (awake_walk _).mono ?_
    rintro e wb ⟨rfl, hb⟩
    have HX := Lib.hid hb
    clear hb
    go_wp2_with fail
    go_ret
    exact ⟨rfl, HX.out⟩
  by_cases c4 : 32 < ht
  · go_enter Try.func6, Try.ntmps6
    go_wp2_with fail
    refine (awake_walk _).mono ?_
    rintro e wb ⟨rfl, hb⟩
    have HX := Lib.hid hb
    clear hb
    go_wp2_with fail
    go_ret
    exact ⟨rfl, HX.out⟩
  obtain ⟨mx, hmx⟩ : ∃ mx, mx = x % (256 * wd + 1) := ⟨_, rfl⟩
  obtain ⟨my, hmy⟩ : ∃ my, my = y % (256 * ht + 1) := ⟨_, rfl⟩
  have hr1 := fun W => Round_walk x (256 * wd + 1) (by omega) (by omega) W
  have hr2 := fun W => Round_walk y (256 * ht + 1) (by omega) (by omega) W
  rw [← hmx] at hr1
  rw [← hmy] at hr2
  have hmx2 : 0 ≤ mx ∧ mx ≤ 256 * wd := by
    have h1 := Int.emod_nonneg x (show 256 * wd + 1 ≠ 0 by omega)
    have h2 := Int.emod_lt_of_pos x (show 0 < 256 * wd + 1 by omega)
    omega
  have hmy2 : 0 ≤ my ∧ my ≤ 256 * ht := by
    have h1 := Int.emod_nonneg y (show 256 * ht + 1 ≠ 0 by omega)
    have h2 := Int.emod_lt_of_pos y (show 0 < 256 * ht + 1 by omega)
    omega
  clear hmx hmy
  have HR := Lib.hid (And.intro hr1 hr2)
  clear hr1 hr2
  obtain ⟨wN, hwN⟩ : ∃ wN : Nat, wd = wN := ⟨wd.toNat, by omega⟩
  obtain ⟨hN, hhN⟩ : ∃ hN : Nat, ht = hN := ⟨ht.toNat, by omega⟩
  have hmi : wd * ht = ((wN * hN : Nat) : Int) := by rw [hwN, hhN]; simp
  have hmul : wN * hN ≤ 32 * 32 := Nat.mul_le_mul (by omega) (by omega)
  obtain ⟨n, hn0⟩ : ∃ n, n = wN * hN := ⟨_, rfl⟩
  rw [← hn0] at hmul hmi
  have e1 : decide (wd < 1) = false := decide_eq_false c1
  have e2 : decide (32 < wd) = false := decide_eq_false c2
  have e3 : decide (ht < 1) = false := decide_eq_false c3
  have e4 : decide (32 < ht) = false := decide_eq_false c4
  have hm2 : 0 ≤ wd * ht ∧ wd * ht ≤ 1024 := by omega
  have HD := Lib.hid (And.intro hwN (And.intro hhN (And.intro hn0 (And.intro hmi (show n ≤ 1024 from hmul)))))
  clear hwN hhN hn0 hmul
  obtain ⟨m, hm⟩ : ∃ m : Spot, m = ⟨mx, my, 0, 0, 0, 0⟩ := ⟨_, rfl⟩
  have hmB : 0 ≤ m.x ∧ m.x ≤ 256 * wd ∧ 0 ≤ m.y ∧ m.y ≤ 256 * ht := by rw [hm]; exact ⟨hmx2.1, hmx2.2, hmy2.1, hmy2.2⟩
  have HM := Lib.hid hmB
  clear hmB
  go_enter Try.func6, Try.ntmps6
  go_wp2_with fail
  refine (HR.out.1 _).mono ?_
  rintro e wb ⟨rfl, rfl⟩
  go_wp2_with fail
  refine (HR.out.2 _).mono ?_
  rintro e wb ⟨rfl, rfl⟩
  clear HR
  have hmk := fun W => make46 n (show n ≤ 1024 from HD.out.2.2.2.2) W
  rw [← hmi] at hmk
  clear hmi
  rename_i K1 hK1 K2 hK2
  have HK := Lib.hid hK1
  clear hK1
  have hsp := SpotAt.new w m
  have HSP := Lib.hid (And.intro (hsp.below (below_alloc _ (.cells (quadA spot0 spot0 spot0 spot0) 42))) (below_two w (.cells (spotA m) 23) (.cells (quadA spot0 spot0 spot0 spot0) 42)))
  have hq0 := QuadAt.new (w.alloc (.cells (spotA m) 23)) spot0 spot0 spot0 spot0
  have HQ0 := Lib.hid hq0
  clear hsp hq0
  go_wp2_with fail
  simp only [spot_lit]
  rw [← hm]
  clear hm e1 e2 e3 e4
  refine HK.out _ _ (wp_seq ?_)
  go_wp2_with (first
    | refine arm_build23 rfl #[] rfl ⟨0, 0, 0, 0, 0, 0⟩ (by unfold spotA; kernel_rfl) ?_
    | refine arm_build23 rfl #[(0, .tmp 44)] rfl ⟨256 * wd, 0, 0, 0, 0, 0⟩ (by unfold spotA; kernel_rfl) ?_
    | refine arm_build23 rfl #[(0, .tmp 47), (1, .tmp 49)] rfl ⟨256 * wd, 256 * ht, 0, 0, 0, 0⟩ (by unfold spotA; kernel_rfl) ?_
    | refine arm_build23 rfl #[(1, .tmp 52)] rfl ⟨0, 256 * ht, 0, 0, 0, 0⟩ (by unfold spotA; kernel_rfl) ?_
    | refine arm_build42 rfl (.tmp 42) (.tmp 45) (.tmp 50) (.tmp 53) rfl ⟨0, 0, 0, 0, 0, 0⟩ ⟨256 * wd, 0, 0, 0, 0, 0⟩ ⟨256 * wd, 256 * ht, 0, 0, 0, 0⟩ ⟨0, 256 * ht, 0, 0, 0, 0⟩ rfl rfl rfl rfl ?_
    | refine arm_alloc42 rfl rfl ?_
    | (refine arm_store42 rfl (.tmp 10) (.tmp 54) rfl (w.alloc (.cells (spotA m) 23)).heap.size spot0 spot0 spot0 spot0 ⟨0, 0, 0, 0, 0, 0⟩ ⟨256 * wd, 0, 0, 0, 0, 0⟩ ⟨256 * wd, 256 * ht, 0, 0, 0, 0⟩ ⟨0, 256 * ht, 0, 0, 0, 0⟩ rfl rfl HQ0.out ?_
       intro w2 hq hsz hbn
       rw [World.size_alloc] at hq hbn ⊢
       rw [World.size_alloc, World.size_alloc] at hsz
       have hb2 := hbn (w.heap.size + 1) (Nat.le_refl _)
       have hs2 : SpotAt w2 w.heap.size m := (hb2.block w.heap.size (by omega)).trans HSP.out.1
       have hbw : Below w.heap.size w w2 := HSP.out.2.trans (hb2.mono (by omega))
       have HS := Lib.hid (And.intro (fan_start n hs2 hq hbw hsz) hsz)
       clear hs2 hbw hq hbn hb2 hsz))
  try generalize Value.agg (spotA m) = v41
  try generalize Value.agg (spotA ⟨0, 0, 0, 0, 0, 0⟩) = v42
  try generalize Value.agg (spotA ⟨256 * wd, 0, 0, 0, 0, 0⟩) = v45
  try generalize Value.agg (spotA ⟨256 * wd, 256 * ht, 0, 0, 0, 0⟩) = v50
  try generalize Value.agg (spotA ⟨0, 256 * ht, 0, 0, 0, 0⟩) = v53
  try generalize Value.agg (quadA ⟨0, 0, 0, 0, 0, 0⟩ ⟨256 * wd, 0, 0, 0, 0, 0⟩ ⟨256 * wd, 256 * ht, 0, 0, 0, 0⟩ ⟨0, 256 * ht, 0, 0, 0, 0⟩) = v54
  rw [HD.out.2.2.2.1, HS.out.2]
  clear hmk
  replace HS := Lib.hid HS.out.1
  generalize w2.alloc (.cells (numA n (fun _ => 0)) 3) = w1 at *
  go_loopw [12] (fun v wr => ∃ i : Nat, i ≤ 4 ∧ v = .int .i64 i ∧ FanAt w wr wd ht m n (fanCnt m (corner (256 * wd) (256 * ht) 0) (corner (256 * wd) (256 * ht) 1) (corner (256 * wd) (256 * ht) 2) (corner (256 * wd) (256 * ht) 3) wN i)) (fun v _ => 4 - (intOf v).toNat)
  case atStart => exact ⟨0, by omega, rfl, HS.out.congr (fun _ _ => fanCnt_zero _ _ _ _ _ _ _)⟩
  case round =>
    obtain ⟨i, hi, rfl, hFF⟩ := hrel
    obtain ⟨wo, rfl⟩ : ∃ wo, wo = wr := ⟨_, rfl⟩
    clear HS
    have HO := Lib.hid hFF
    clear hFF
    by_cases hi4 : i = 4
    · subst hi4
      go_wp2_with fail
      go_loop [15] (fun v => ∃ j : Nat, j ≤ n ∧ v = .int .i64 j) (fun v => n - (intOf v).toNat)
      case atStart => exact ⟨0, by omega, rfl⟩
      case round =>
        obtain ⟨j, hj, rfl⟩ := hrel
        by_cases hlt : j = n
        · subst hlt
          have hl1 : ¬ ((j : Nat) : Int) < ((j : Nat) : Int) := by omega
          go_wp2_with fail
          refine (awake_walk _).mono ?_
          rintro e wb ⟨rfl, hb⟩
          have HX := Lib.hid (below_trans HO.out.2.2.2 hb)
          clear hb
          go_wp2_with fail
          go_ret
          exact ⟨rfl, HX.out⟩
        · have hjn : j < n := by omega
          have hc := HO.out.2.2.1.cell j hjn
          have hone := fan_one_at HD.out.1 HD.out.2.1 HD.out.2.2.1 (by omega) HM.out hjn
          rw [hone] at hc
          have hlt2 : ((j : Nat) : Int) < ((n : Nat) : Int) := by omega
          have hn24 : n ≤ 1024 := HD.out.2.2.2.2
          clear hone
          go_wp2_with fail
          exact ⟨⟨j + 1, by omega, by simp⟩, by simp [intOf]; omega⟩
    have hi4 : i < 4 := by omega
    have hi4i : ((i : Nat) : Int) < 4 := by omega
    have hj4 : (i + 1) % 4 < 4 := Nat.mod_lt _ (by omega)
    obtain ⟨q, hq⟩ : ∃ q, q = nth4 (corner (256 * wd) (256 * ht) 0) (corner (256 * wd) (256 * ht) 1) (corner (256 * wd) (256 * ht) 2) (corner (256 * wd) (256 * ht) 3) i := ⟨_, rfl⟩
    obtain ⟨q', hq'⟩ : ∃ q', q' = nth4 (corner (256 * wd) (256 * ht) 0) (corner (256 * wd) (256 * ht) 1) (corner (256 * wd) (256 * ht) 2) (corner (256 * wd) (256 * ht) 3) ((i + 1) % 4) := ⟨_, rfl⟩
    have hqr : ∀ W, QuadAt W (w.heap.size + 1) (corner (256 * wd) (256 * ht) 0) (corner (256 * wd) (256 * ht) 1) (corner (256 * wd) (256 * ht) 2) (corner (256 * wd) (256 * ht) 3) → W.rangeAt (w.heap.size + 1) (i * 6) (spotA q).toList ∧ W.rangeAt (w.heap.size + 1) ((i + 1) % 4 * 6) (spotA q').toList := fun W h => by rw [hq, hq']; exact ⟨h.r i hi4, h.r _ hj4⟩
    have HQR := Lib.hid hqr
    have hpl := fan_list HD.out.1 HD.out.2.1 HD.out.2.2.1 (by omega) (by omega) (by omega) (by omega) HM.out i hi4
    rw [← hq, ← hq'] at hpl
    obtain ⟨L, hL⟩ : ∃ L, L = pixTo (m, q, q') wN n := ⟨_, rfl⟩
    have HL := Lib.hid (hpl.2.trans hL.symm)
    have HOK := Lib.hid hpl.1
    have hLl : L.length ≤ 1024 := by rw [hL]; exact Nat.le_trans (pixTo_len _ _ _) HD.out.2.2.2.2
    have HLL := Lib.hid hL
    have HQQ := Lib.hid (And.intro hq hq')
    clear hqr hpl hL hq hq'
    go_wp2_with fail
    refine wp_region_link 144 mixed (by kernel_rfl) (by rfl) (UpC wo) (UpC.start wo) ?_
    refine wpL_cons (is (.agg (spotA m))) (stable_is _) (step_load23 (go0 rfl) (.tmp 9) rfl (w.heap.size) 0 m (opO' 9 (.pointer (some ⟨w.heap.size, 0, none⟩)) rfl rfl) (fun W h => (SpotAt.below HO.out.1 h).r)) ?_
    refine wpL_cons (is (.int .i64 ((i : Nat) : Int))) (stable_is _) (step_move (go0 rfl) (.tmp 12) rfl (opO' 12 (.int .i64 ((i : Nat) : Int)) rfl rfl)) ?_
    refine wpL_cons (is (.pointer (some ⟨w.heap.size + 1, i * 6, none⟩))) (stable_is _) (step_idx (go0 rfl) 42 (.tmp 10) (.tmp 64) rfl _ _ _ (opO' 10 (.pointer (some ⟨w.heap.size + 1, 0, none⟩)) rfl rfl) (opT' 64 1 rfl rfl) (fun W => run_idx42 _ _ hi4 W)) ?_
    refine wpL_cons (is (.agg (spotA q))) (stable_is _) (step_load23 (go0 rfl) (.tmp 65) rfl (w.heap.size + 1) (i * 6) q (opT' 65 2 rfl rfl) (fun W h => (HQR.out W (QuadAt.below HO.out.2.1 h)).1)) ?_
    refine wpL_cons (is (.int .i64 ((i : Nat) : Int))) (stable_is _) (step_move (go0 rfl) (.tmp 12) rfl (opO' 12 (.int .i64 ((i : Nat) : Int)) rfl rfl)) ?_
    refine wpL_cons (is (.int .i64 ((i + 1 : Nat) : Int))) (stable_is _) (step_int (go0 rfl) .add 3 3 (.tmp 67) (.const (.int .i64 1)) rfl .i64 .i64 _ _ _ (opT' 67 4 rfl rfl) (opC _) (fun W => (run_add3 _ _ (by omega) W).trans (by simp))) ?_
    refine wpL_cons (is (.int .i64 (((i + 1) % 4 : Nat) : Int))) (stable_is _) (step_int (go0 rfl) .rem 3 3 (.tmp 68) (.const (.int .i64 4)) rfl .i64 .i64 _ _ _ (opT' 68 5 rfl rfl) (opC _) (fun W => run_rem4 _ W)) ?_
    refine wpL_cons (is (.pointer (some ⟨w.heap.size + 1, ((i + 1) % 4) * 6, none⟩))) (stable_is _) (step_idx (go0 rfl) 42 (.tmp 10) (.tmp 69) rfl _ _ _ (opO' 10 (.pointer (some ⟨w.heap.size + 1, 0, none⟩)) rfl rfl) (opT' 69 6 rfl rfl) (fun W => run_idx42 _ _ hj4 W)) ?_
    refine wpL_cons (is (.agg (spotA q'))) (stable_is _) (step_load23 (go0 rfl) (.tmp 70) rfl (w.heap.size + 1) (((i + 1) % 4) * 6) q' (opT' 70 7 rfl rfl) (fun W h => (HQR.out W (QuadAt.below HO.out.2.1 h)).2)) ?_
    refine wpL_cons (is (.agg (triA m q q'))) (stable_is _) (step_build24 (go0 rfl) (.tmp 63) (.tmp 66) (.tmp 71) rfl m q q' (opT' 63 0 rfl rfl) (opT' 66 3 rfl rfl) (opT' 71 8 rfl rfl)) ?_
    refine wpL_cons (is (.int .i64 wd)) (stable_is _) (step_move (go0 rfl) (.tmp 2) rfl (opO' 2 (.int .i64 wd) rfl rfl)) ?_
    refine wpL_cons (is (.int .i64 ht)) (stable_is _) (step_move (go0 rfl) (.tmp 3) rfl (opO' 3 (.int .i64 ht) rfl rfl)) ?_
    refine wpL_cons (IsHitsN wo.heap.size L) (isHitsN_stable _ _) (step_allN (go0 rfl) (.tmp 72) (.tmp 73) (.tmp 74) (.const (.int .i64 (-1))) _ rfl m q q' HOK.out.1 HOK.out.2.1 HOK.out.2.2 wd ht L HL.out (opT' 72 9 rfl rfl) (opT' 73 10 rfl rfl) (opT' 74 11 rfl rfl) (opC _)) ?_
    refine wpL_cons (IsHitsN wo.heap.size L) (isHitsN_stable _ _) (step_assign (go0 rfl) (.tmp 75) rfl (opT' 75 12 rfl rfl)) ?_
    refine wpL_nil ?_
    intro v w3 hI3 _ hdone _
    obtain ⟨A1, cap, e13, hrow, hcap, hfr⟩ := hdone 13 13 rfl
    have hI3 : Below wo.heap.size wo w3 := hI3
    have hAg : ∀ b off, A1 = some ⟨b, off, none⟩ → w.heap.size + 1 + 1 < b := fun b off e => by
      have h1 := hfr b off e
      have h2 := (Array.getElem?_eq_some_iff.1 HO.out.2.2.1).1
      omega
    have HP := Lib.hid (And.intro (HO.out.below hI3) hrow)
    have HAG := Lib.hid hAg
    clear hdone hI3 hrow hAg hfr HO
    simp only [putAll, Act.put, List.setIfInBounds_toArray, List.set_cons_zero, List.set_cons_succ, Nat.zero_add, Nat.reduceAdd, e13]
    clear e13
    go_wp2_with fail
    go_loopw [14] (fun v wr => ∃ k : Nat, k ≤ L.length ∧ v = .int .i64 k ∧ FanAt w wr wd ht m n (fun p => fanCnt m (corner (256 * wd) (256 * ht) 0) (corner (256 * wd) (256 * ht) 1) (corner (256 * wd) (256 * ht) 2) (corner (256 * wd) (256 * ht) 3) wN i p + ((keysOf wN L).take k).count p) ∧ HRow wr A1 L) (fun v _ => L.length - (intOf v).toNat)
    case atStart => exact ⟨0, by omega, rfl, HP.out.1.congr (fun _ _ => by simp), HP.out.2⟩
    case round =>
      obtain ⟨k, hk, rfl, hFk, hRk⟩ := hrel
      clear HP
      by_cases hlt : k = L.length
      · subst hlt
        have hl1 : ¬ ((L.length : Nat) : Int) < ((L.length : Nat) : Int) := by omega
        have HK := Lib.hid hFk
        clear hFk hRk
        go_wp2_with fail
        go_roundw
        case rel =>
          refine ⟨i + 1, by omega, by simp, HK.out.congr (fun p hp => ?_)⟩
          rw [List.take_of_length_le (by unfold keysOf; simp), HLL.out, count_keys _ _ _ _ hp, HQQ.out.1, HQQ.out.2, fanCnt_succ]
        case measure =>
          simp [intOf]
          omega
      have hlt : k < L.length := by omega
      obtain ⟨x, gx⟩ : ∃ x, L[k]? = some x := ⟨_, List.getElem?_eq_getElem hlt⟩
      obtain ⟨b1, rfl, p0, p1, _⟩ := hRk.get gx
      obtain ⟨c, hcn, hkw, hkey, hx0, hx1, hy0, hy1⟩ := fan_hit HD.out.1 HD.out.2.1 HD.out.2.2.1 (by omega) HLL.out gx
      have pc := hFk.2.2.1.cell c hcn
      obtain ⟨N, hN0⟩ : ∃ N : Nat → Nat, N = fun p => fanCnt m (corner (256 * wd) (256 * ht) 0) (corner (256 * wd) (256 * ht) 1) (corner (256 * wd) (256 * ht) 2) (corner (256 * wd) (256 * ht) 3) wN i p + ((keysOf wN L).take k).count p := ⟨_, rfl⟩
      have hNc : N c ≤ 2000 := by
        rw [hN0]
        have h1 := fanCnt_le m (corner (256 * wd) (256 * ht) 0) (corner (256 * wd) (256 * ht) 1) (corner (256 * wd) (256 * ht) 2) (corner (256 * wd) (256 * ht) 3) wN i c
        have h2 : ((keysOf wN L).take k).count c ≤ ((keysOf wN L).take k).length := List.count_le_length
        have h3 : ((keysOf wN L).take k).length ≤ k := by simp; omega
        simp only
        omega
      have hNn : ∀ p, (if p = c then N c + 1 else N p) = fanCnt m (corner (256 * wd) (256 * ht) 0) (corner (256 * wd) (256 * ht) 1) (corner (256 * wd) (256 * ht) 2) (corner (256 * wd) (256 * ht) 3) wN i p + ((keysOf wN L).take (k + 1)).count p := fun p => by
        have e : (keysOf wN L).take (k + 1) = (keysOf wN L).take k ++ [c] := by
          rw [List.take_add_one]
          unfold keysOf
          rw [List.getElem?_map, gx, ← hkw]; rfl
        rw [e, List.count_append, hN0]
        by_cases h : p = c
        · subst h; simp; omega
        · rw [if_neg h]
          simp [Ne.symm h]
      rw [← hN0] at hFk
      replace pc : wr.cell? ⟨w.heap.size + 1 + 1, c, none⟩ = some (.int .i64 ((N c : Nat) : Int)) := hFk.2.2.1.cell c hcn
      have HNN := Lib.hid hNn
      have HK := Lib.hid (And.intro hFk hRk)
      have hlt2 : ((k : Nat) : Int) < ((L.length : Nat) : Int) := by omega
      have hn24 : n ≤ 1024 := HD.out.2.2.2.2
      clear hFk hRk hN0 hNn hkw gx
      go_wp2_with fail
      refine wp_region_store 144 rfl mixed (by kernel_rfl) (by rfl) (UpC wr) (UpC.start wr) (fun W' => ∃ W, Below wr.heap.size wr W ∧ W' = W.setCell ⟨w.heap.size + 1 + 1, c, none⟩ (.int .i64 ((N c + 1 : Nat) : Int))) rfl rfl (by kernel_rfl) ?_
      refine wpI_cons (is (.slice (some ⟨w.heap.size + 1 + 1, 0, none⟩) n n)) (stable_is _) (step_move (go0 rfl) (.tmp 11) rfl (opO' 11 (.slice (some ⟨w.heap.size + 1 + 1, 0, none⟩) n n) rfl rfl)) ?_
      refine wpI_cons (is (.slice (some ⟨b1, 0, none⟩) L.length cap)) (stable_is _) (step_move (go0 rfl) (.tmp 13) rfl (opO' 13 (.slice (some ⟨b1, 0, none⟩) L.length cap) rfl rfl)) ?_
      refine wpI_cons (is (.int .i64 ((k : Nat) : Int))) (stable_is _) (step_move (go0 rfl) (.tmp 14) rfl (opO' 14 (.int .i64 ((k : Nat) : Int)) rfl rfl)) ?_
      refine wpI_cons (is (.pointer (some ⟨b1, k * 5, none⟩))) (stable_is _) (step_idx (go0 rfl) 38 (.tmp 115) (.tmp 116) rfl _ _ _ (opT' 115 1 rfl rfl) (opT' 116 2 rfl rfl) (fun W => run_idx38 b1 (L.length) cap k hlt W)) ?_
      refine wpI_cons (is (.pointer (some ⟨b1, k * 5 + 1, none⟩))) (stable_is _) (step_field (go0 rfl) 31 1 (.tmp 117) rfl _ _ (opT' 117 3 rfl rfl) (fun W => run_f31_1 _ _ W)) ?_
      refine wpI_cons (is (.int .i64 x.y)) (stable_is _) (step_cell (go0 rfl) 3 (.tmp 118) rfl ⟨b1, k * 5 + 1, none⟩ _ (opT' 118 4 rfl rfl) (fun W h => cellUp h p1) (fun W => by kernel_rfl)) ?_
      refine wpI_cons (is (.int .i64 wd)) (stable_is _) (step_move (go0 rfl) (.tmp 2) rfl (opO' 2 (.int .i64 wd) rfl rfl)) ?_
      refine wpI_cons (is (.int .i64 (x.y * wd))) (stable_is _) (step_int (go0 rfl) .mul 3 3 (.tmp 119) (.tmp 120) rfl .i64 .i64 _ _ _ (opT' 119 5 rfl rfl) (opT' 120 6 rfl rfl) (fun W => run_mul3 _ _ (by omega) W)) ?_
      refine wpI_cons (is (.slice (some ⟨b1, 0, none⟩) L.length cap)) (stable_is _) (step_move (go0 rfl) (.tmp 13) rfl (opO' 13 (.slice (some ⟨b1, 0, none⟩) L.length cap) rfl rfl)) ?_
      refine wpI_cons (is (.int .i64 ((k : Nat) : Int))) (stable_is _) (step_move (go0 rfl) (.tmp 14) rfl (opO' 14 (.int .i64 ((k : Nat) : Int)) rfl rfl)) ?_
      refine wpI_cons (is (.pointer (some ⟨b1, k * 5, none⟩))) (stable_is _) (step_idx (go0 rfl) 38 (.tmp 122) (.tmp 123) rfl _ _ _ (opT' 122 8 rfl rfl) (opT' 123 9 rfl rfl) (fun W => run_idx38 b1 (L.length) cap k hlt W)) ?_
      refine wpI_cons (is (.pointer (some ⟨b1, k * 5, none⟩))) (stable_is _) (step_field (go0 rfl) 31 0 (.tmp 124) rfl _ _ (opT' 124 10 rfl rfl) (fun W => run_f31_0 _ _ W)) ?_
      refine wpI_cons (is (.int .i64 x.x)) (stable_is _) (step_cell (go0 rfl) 3 (.tmp 125) rfl ⟨b1, k * 5, none⟩ _ (opT' 125 11 rfl rfl) (fun W h => cellUp h p0) (fun W => by kernel_rfl)) ?_
      refine wpI_cons (is (.int .i64 ((c : Nat) : Int))) (stable_is _) (step_int (go0 rfl) .add 3 3 (.tmp 121) (.tmp 126) rfl .i64 .i64 _ _ _ (opT' 121 7 rfl rfl) (opT' 126 12 rfl rfl) (fun W => (run_add3 _ _ (by omega) W).trans (by rw [hkey]))) ?_
      refine wpI_cons (is (.pointer (some ⟨w.heap.size + 1 + 1, c, none⟩))) (stable_is _) (step_idx (go0 rfl) 46 (.tmp 114) (.tmp 127) rfl _ _ _ (opT' 114 0 rfl rfl) (opT' 127 13 rfl rfl) (fun W => run_idx46 _ n n c hcn W)) ?_
      refine wpI_cons (is (.int .i64 ((N c : Nat) : Int))) (stable_is _) (step_cell (go0 rfl) 3 (.tmp 128) rfl ⟨w.heap.size + 1 + 1, c, none⟩ _ (opT' 128 14 rfl rfl) (fun W h => cellUp h pc) (fun W => by kernel_rfl)) ?_
      refine wpI_cons (is (.int .i64 ((N c + 1 : Nat) : Int))) (stable_is _) (step_int (go0 rfl) .add 3 3 (.tmp 129) (.const (.int .i64 1)) rfl .i64 .i64 _ _ _ (opT' 129 15 rfl rfl) (opC _) (fun W => (run_add3 _ _ (by omega) W).trans (by simp))) ?_
      refine wpI_cons (is (.pointer (some ⟨w.heap.size + 1 + 1, c, none⟩))) (stable_is _) (step_idx (go0 rfl) 46 (.tmp 114) (.tmp 127) rfl _ _ _ (opT' 114 0 rfl rfl) (opT' 127 13 rfl rfl) (fun W => run_idx46 _ n n c hcn W)) ?_
      refine wpI_nil ?_
      refine ⟨?_, ?_, ?_⟩
      · repeat (first | exact pure_base | refine pure_upd _ _ ?_)
      · intro a W K
        have k1 : a.tmps.getD 131 undef = .pointer (some ⟨w.heap.size + 1 + 1, c, none⟩) := K.got 131 17 rfl
        have k2 : a.tmps.getD 130 undef = .int .i64 ((N c + 1 : Nat) : Int) := K.got 130 16 rfl
        have hW : Below wr.heap.size wr W := K.inv
        exact ⟨_, exec_store3 _ _ rfl ⟨w.heap.size + 1 + 1, c, none⟩ _ _ k1 k2 W (cellUp hW pc) ((HK.out.1.2.2.1.below hW).free c), W, hW, rfl⟩
      · rintro v4 w4 ⟨W, hW, rfl⟩ _
        have HZ := Lib.hid (And.intro (((HK.out.1.below hW).set c (N c + 1)).congr (fun p _ => HNN.out p)) (HK.out.2.other (W' := W.setCell ⟨w.heap.size + 1 + 1, c, none⟩ (.int .i64 ((N c + 1 : Nat) : Int))) HAG.out (fun j hj hne => (setCell_other W ⟨w.heap.size + 1 + 1, c, none⟩ _ j hne).trans (hW.block j hj))))
        clear hW
        simp only [putAll, Act.put, List.setIfInBounds_toArray, List.set_cons_zero, List.set_cons_succ, Nat.zero_add, Nat.reduceAdd]
        generalize W.setCell ⟨w.heap.size + 1 + 1, c, none⟩ (.int .i64 ((N c + 1 : Nat) : Int)) = w5 at *
        go_wp2_with fail
        go_roundw
        case rel => exact ⟨k + 1, by omega, by simp, HZ.out.1, HZ.out.2⟩
        case measure =>
          simp [intOf]
          omega

namespace edgeFan
open Go.ChangeShapes Go.WideShapes Go.ChangeAt Go.RowKit
set_option linter.unusedVariables false

theorem own : ownKnob Try.prog.godebug = none := by kernel_rfl
theorem laidOut : laidOutB Try.prog = true := by kernel_rfl
/-! ### THE ROW's STEP -/
set_option maxRecDepth 100000 in
theorem lifted (os : Os) (started : os.Started) (H : Type) (enc : TypeId × Value → H) :
    ReturnsInHanded {} Try.checked os 6 .any (Rows.edgeFanSpec.pre6 enc Try.prog Try.f6 Rows.edgeFanRow.domain false) (Rows.edgeFanSpec.post enc Try.prog Try.f6 false true false false) := by
  refine returnsInHanded_of_change (C := Try.checked) own started (by kernel_rfl) Try.func6
    (ChangeSpec.witness6 (enc := enc) (C := Try.checked) false ⟨#[], #[.int .i64 0, .int .i64 0, .int .i64 0, .int .i64 0], []⟩ 8 (by kernel_rfl) (by kernel_rfl) (by kernel_rfl) (by kernel_rfl)) ?_
  intro W base args ds gs before hval0 hW hcnd _
  have hval : ∀ (j : Nat) t v, Try.f6.params[j]? = some t → args[j]? = some v → Value.okWide Try.prog W .any base t v := hval0
  have hW' := hW
  obtain ⟨p, q, hA0, hV, rfl, hfz, hnd⟩ := hW
  have hA : DataW.TrodAll enc Try.prog W 0 (fun _ => true) true Try.f6.params.toList args.toList ds p := hA0
  rw [Try.params6] at hA hval
  obtain ⟨v0, vs0, d0, ds0, p0, q0, hargs, rfl, rfl, h0, r0⟩ := trodAll_cons hA
  obtain ⟨v1, vs1, d1, ds1, p1, q1, rfl, rfl, rfl, h1, r1⟩ := trodAll_cons r0
  obtain ⟨v2, vs2, d2, ds2, p2, q2, rfl, rfl, rfl, h2, r2⟩ := trodAll_cons r1
  obtain ⟨v3, vs3, d3, ds3, p3, q3, rfl, rfl, rfl, h3, r3⟩ := trodAll_cons r2
  obtain ⟨rfl, rfl, rfl⟩ := trodAll_nil r3
  obtain rfl : args = #[v0, v1, v2, v3] := by cases args; simp_all
  obtain ⟨rfl, rfl⟩ := trodVars_none hV
  obtain ⟨a0, rfl, rfl, rfl, w0⟩ := open_int Try.underlying3 (hval 0 3 v0 rfl rfl) h0
  obtain ⟨a1, rfl, rfl, rfl, w1⟩ := open_int Try.underlying3 (hval 1 3 v1 rfl rfl) h1
  obtain ⟨a2, rfl, rfl, rfl, w2⟩ := open_int Try.underlying3 (hval 2 3 v2 rfl rfl) h2
  obtain ⟨a3, rfl, rfl, rfl, w3⟩ := open_int Try.underlying3 (hval 3 3 v3 rfl rfl) h3
  clear hA0 hval0
  refine (Fan_walk a0 a1 a2 a3 W).mono fun e W' ⟨he, bel⟩ => ?_
  subst he
  exact ⟨_, rfl, _, _, _, [], _, [], hW', trodAll_mk1 (shut_bool Try.underlying4 _), (trodAll_cons_mk (shut_int Try.underlying3 w0) (trodAll_cons_mk (shut_int Try.underlying3 w1) (trodAll_cons_mk (shut_int Try.underlying3 w2) (trodAll_cons_mk (shut_int Try.underlying3 w3) trodAll_mk0)))), rfl, bel.frame _, fun h => by cases h⟩

theorem over : Rows.edgeFanRow.holds Try.pinned (OpenSpec.ofChange Rows.edgeFanSpec) :=
  OpenClaim.holds_of_wide 6 Try.f6 rfl rfl rfl rfl rfl rfl rfl ⟨rfl, rfl, rfl, rfl, rfl⟩ rfl rfl rfl rfl rfl (by kernel_rfl) Try.func6 (by kernel_rfl)
    (of_decide_eq_true (by kernel_rfl)) (by unfold Func.isWrapper; first | (rw [if_pos (by decide +kernel)]; kernel_rfl) | (rw [if_neg (by decide +kernel)]; exact ⟨rfl, rfl⟩))
    (fun os started H enc _ => lifted os started H enc)

/-- THE STATEMENT -/
theorem proved : Rows.EdgeFanSaid := over
end edgeFan
end Go.Proofs.Ytgkidgpdgcdgnaa
