/- All pixels, one after another: the iterator. -/
import Derived.RangeFuncNested
import Derived.RangeFuncBound
import Derived.RangeFuncCalls
import Derived.RangeFuncLeaves
import Derived.RangeFuncBox
import Derived.Shelf.Abstract
import Derived.Shelf.RegionOpen
import Derived.OwnWalkIn
import Derived.TacticsInMore
import Derived.LoopNIn
import Derived.LoopIn
import Derived.Maps.AppendAt
import Derived.Test.YtgkidgpdgcdgnaaPlain
import Derived.Test.YtgkidgpdgcdgnaaLink
namespace Go.Proofs.Ytgkidgpdgcdgnaa
open Go.RowKit Go.Shelf

attribute [local go_sem] Oper.semAt_some

theorem wpListIn_loadV {F : Fence} {n : Nat} {P : Program} {ops : Array Oper} {Q : Exit → Act → World → Prop} {a : Act} {w : World} {rest : List Oper} {o : Oper} (hw : Region.wanted o (yielded ops a.tmps) = true) (ty : TypeId) (x : Operand) (ho : o.op = .load ty x)
    (p : Addr) (v : Value) (hx : a.eval x = .pointer (some p)) (hl : (loadVar ty p).run P w = .ok v w) (h : wpListIn F n P ops Q rest (a.put o.dst v) w) : wpListIn F n P ops Q (o :: rest) a w :=
  wpListIn_step fun K hK => by
    simp only [hw, if_true]
    unfold Oper.wpIn
    refine ⟨by simp [Oper.about, ho], ?_⟩
    rw [Oper.semAt_plain F _ _ (by rw [ho]; intro c hc; cases hc)]
    simp only [execOp, ho, hx, Instr.loadAt, Instr.sureAddr, Sem.run_bind, Sem.run_pure, Result.andThen_ok, hl]
    exact hK _ _ h
/-- blocks of a triangle's, of a number's cells are kept -/
def Kt (W W' : World) : Prop := ∀ (b : Nat) (cs : Array Value) (t : TypeId) (fr : Nat × Nat), (t = 24 ∨ t = 3) → W.heap[b]? = some (.cells cs t fr) → W'.heap[b]? = some (.cells cs t fr)
theorem Kt.t {A B C : World} (h : Kt A B) (k : Kt B C) : Kt A C := fun b cs t fr ht hb => k b cs t fr ht (h b cs t fr ht hb)
theorem Kt.b (W : World) (l : Nat) (o o' : Obj) (hl : W.heap[l]? = some o) (h : o.isCells = false) : Kt W (W.putObj l o') := fun b cs t fr _ hb => by
  have hne : b ≠ l := fun e => by subst e; rw [hl] at hb; cases hb; cases h
  exact (World.putObj_heap_other hne).trans hb
theorem Kt.tri {W W' : World} {g : Nat} {a b c : Spot} (h : Kt W W') (k : TriAt W g a b c) : TriAt W' g a b c := h _ _ _ _ (.inl rfl) k
def NumAt (W : World) (g : Nat) (n : Int) : Prop := W.heap[g]? = some (.cells #[.int .i64 n] 3 (0, 0))
theorem Kt.num {W W' : World} {g : Nat} {n : Int} (h : Kt W W') (k : NumAt W g n) : NumAt W' g n := h _ _ _ _ (.inr rfl) k
theorem NumAt.cell {W : World} {g : Nat} {n : Int} (h : NumAt W g n) : W.cell? ⟨g, 0, none⟩ = some (.int .i64 n) := by rw [cell_of_row _ _ _ _ _ _ h]; rfl
theorem NumAt.below {w w' : World} {g : Nat} {n : Int} (h : NumAt w g n) (hb : Below w.heap.size w w') : NumAt w' g n := (hb.block g (Array.getElem?_eq_some_iff.1 h).1).trans h
theorem NumAt.new (w : World) (n : Int) : NumAt (w.alloc (.cells #[.int .i64 n] 3)) w.heap.size n := heap_alloc_new w _

/-- the worlds of a round's head: the triangle, the screen's width lie; a hit's block of its own holds nought or the hit -/
def PC (B g bw : Nat) (t : Spot × Spot × Spot) (w : Int) (w0 : World) (x y e0 e1 e2 : Int) : Cls where
  inv := fun W => TriAt W g t.1 t.2.1 t.2.2 ∧ NumAt W bw w ∧ Below B w0 W ∧ g < B ∧ bw < B
  rel := fun W W' => ∀ b, (HitAt W b x y e0 e1 e2 → HitAt W' b x y e0 e1 e2) ∧ (HitAt W b 0 0 0 0 0 → HitAt W' b 0 0 0 0 0 ∨ HitAt W' b x y e0 e1 e2)
  refl := fun _ _ => ⟨fun h => h, fun h => .inl h⟩
  trans := fun _ _ _ h k b => ⟨fun x => (k b).1 ((h b).1 x), fun x => ((h b).2 x).elim (fun x => (k b).2 x) (fun x => .inr ((k b).1 x))⟩
theorem enter12 (args : Array Value) (w : World) : (callFunc 12 args).run Try.prog w = .ok (.enter 12 args) w := run_callFunc_enter Try.func12 (by kernel_rfl) (by kernel_rfl) args w
section
variable {B g bw : Nat} {t : Spot × Spot × Spot} {wd : Int} {w0 : World} {x y e0 e1 e2 : Int}
theorem PC.size {W : World} (h : PC B g bw t wd w0 x y e0 e1 e2 W) (hB : B = w0.heap.size) : B ≤ W.heap.size := by have := h.2.2.1.size; rw [hB]; exact this
theorem PC.step {W W' : World} (h : PC B g bw t wd w0 x y e0 e1 e2 W) (hB : B = w0.heap.size) (hb : Below W.heap.size W W') : PC B g bw t wd w0 x y e0 e1 e2 W' ∧ (PC B g bw t wd w0 x y e0 e1 e2).rel W W' :=
  ⟨⟨h.1.below hb, h.2.1.below hb, h.2.2.1.trans (hb.mono (PC.size h hB)), h.2.2.2⟩, fun _ => ⟨fun k => k.below hb, fun k => .inl (k.below hb)⟩⟩
/-- what the block's pointer is -/
def HitPtr (B : Nat) (x y e0 e1 e2 : Int) : Spec := fun v W => ∃ b, v = .pointer (some ⟨b, 0, none⟩) ∧ B ≤ b ∧ (HitAt W b 0 0 0 0 0 ∨ HitAt W b x y e0 e1 e2)
def HitSet (x y e0 e1 e2 : Int) : Spec := fun v W => ∃ b, v = .pointer (some ⟨b, 0, none⟩) ∧ HitAt W b x y e0 e1 e2
theorem hitPtr_stable : Stable (PC B g bw t wd w0 x y e0 e1 e2) (HitPtr B x y e0 e1 e2) := fun _ _ _ hr ⟨b, h1, h2, h3⟩ => ⟨b, h1, h2, h3.elim (fun k => (hr b).2 k) (fun k => .inr ((hr b).1 k))⟩
theorem hitSet_stable : Stable (PC B g bw t wd w0 x y e0 e1 e2) (HitSet x y e0 e1 e2) := fun _ _ _ hr ⟨b, h1, h3⟩ => ⟨b, h1, (hr b).1 h3⟩
variable {ops : Array Oper} {a0 : Act} {sp : Nat → Spec} {k : Nat} {o : Oper}
theorem step_extract {P : Program} {I : Cls} (hg : Goes ops sp k o) (x : Operand) (i : Nat) (ho : o.op = .extract x i) (vs : Array Value) (v : Value) (hx : OpIs ops I a0 sp k x (is (.tuple vs))) (hv : vs[i]? = some v) : StepOk P ops I a0 sp k o (is v) :=
  step_one hg x _ v hx fun ρ w h => by simp [execOp, ho, h, hv, go_sem]
theorem step_alloc31 (hB : B = w0.heap.size) (hg : Goes ops sp k o) (ho : o.op = .alloc 31) : StepOk Try.prog ops (PC B g bw t wd w0 x y e0 e1 e2) a0 sp k o (HitPtr B x y e0 e1 e2) :=
  step_run hg fun a w K => by
    have hs := PC.step K.inv hB (below_alloc w (.cells (hitA 0 0 0 0 0) 31))
    refine ⟨_, _, ?_, hs.1, hs.2, w.heap.size, rfl, PC.size K.inv hB, .inl (HitAt.new w 0 0 0 0 0)⟩
    simp only [execOp, ho, Sem.run_bind, alloc31]; rfl
theorem step_store31 (ty : Tmp) (y' : Operand) (ho : o.op = .store 31 (.tmp ty) y') (hx : OpIs ops (PC B g bw t wd w0 x y e0 e1 e2) a0 sp k (.tmp ty) (HitPtr B x y e0 e1 e2))
    (hy : OpIs ops (PC B g bw t wd w0 x y e0 e1 e2) a0 sp k y' (is (.agg (hitA x y e0 e1 e2)))) : StoreOk Try.prog ops (PC B g bw t wd w0 x y e0 e1 e2) a0 sp k o ty (HitSet x y e0 e1 e2) := fun ac w K => by
  obtain ⟨b, hv, hb, hh⟩ := hx ac w K
  have h1 : ac.eval (.tmp ty) = .pointer (some ⟨b, 0, none⟩) := hv
  have h2 : ac.eval y' = .agg (hitA x y e0 e1 e2) := hy ac w K
  obtain ⟨p0, p1, p2, p3, p4, hold⟩ : ∃ p0 p1 p2 p3 p4, HitAt w b p0 p1 p2 p3 p4 := by
    rcases hh with h | h
    · exact ⟨_, _, _, _, _, h⟩
    · exact ⟨_, _, _, _, _, h⟩
  have hr := run_storeVar_row (P := Try.prog) w b 31 31 (hitA p0 p1 p2 p3 p4) (hitA x y e0 e1 e2) hold (size31 _ _ _ _ _) (by rw [hitA_size, hitA_size]) (hitA_one _ _ _ _ _)
  have hn : HitAt (w.setRow b (hitA x y e0 e1 e2)) b x y e0 e1 e2 := setRow_heap w b _ _ 31 _ hold
  obtain ⟨i1, i2, i3, i4, i5⟩ := K.inv
  refine ⟨w.setRow b (hitA x y e0 e1 e2), ?_, ⟨(setRow_other w b g _ (by omega)).trans i1, (setRow_other w b bw _ (by omega)).trans i2, i3.trans ⟨rfl, rfl, rfl, by simp [World.setRow], fun q hq => setRow_other w b q _ (by omega)⟩, i4, i5⟩, fun c => ?_, b, hv, hn⟩
  · simp only [execOp, ho, h1, h2, Instr.storeAt, Instr.sureAddr, Sem.run_bind, Sem.run_pure, Result.andThen_ok, hr]
  · by_cases e : c = b
    · subst e; exact ⟨fun _ => hn, fun _ => .inr hn⟩
    · have : (w.setRow b (hitA x y e0 e1 e2)).heap[c]? = w.heap[c]? := setRow_other w b c _ e
      exact ⟨fun k => this.trans k, fun k => .inl (this.trans k)⟩
end
theorem covers_ok {B g bw : Nat} {p q r : Spot} {wd : Int} {w0 : World} {x y e0 e1 e2 : Int} (hB : B = w0.heap.size) (px py : Int) (hp : p.ok) (hq : q.ok) (hr : r.ok) (hx : -100 ≤ px ∧ px ≤ 100) (hy : -100 ≤ py ∧ py ≤ 100) {w : World} (h : PC B g bw (p, q, r) wd w0 x y e0 e1 e2 w) :
    CallOk Try.prog (PC B g bw (p, q, r) wd w0 x y e0 e1 e2) 12 #[.agg (triA p q r), .int .i64 px, .int .i64 py] w (is (coverV p q r px py)) :=
  (Covers_walk p q r px py hp hq hr hx hy w).mono fun _ _ ⟨he, hb⟩ => ⟨_, he, (PC.step h hB hb).1, (PC.step h hB hb).2, rfl⟩
theorem run_rem (k w : Nat) (hw : 0 < w) (W : World) : (binOp .rem 3 (.int .i64 (k : Nat)) (.int .i64 (w : Nat))).run Try.prog W = .ok (.int .i64 ((k % w : Nat) : Int)) W := by
  have h1 : (w : Int) ≠ 0 := by omega
  have h2 : ((k : Int).tmod (w : Int)) = ((k % w : Nat) : Int) := (Int.ofNat_tmod k w).symm
  simp only [binOp]
  simp [go_sem, h2]
  omega
theorem run_quo (k w : Nat) (hk : k ≤ 1024) (hw : 0 < w) (hw2 : w ≤ 32) (W : World) : (binOp .quo 3 (.int .i64 (k : Nat)) (.int .i64 (w : Nat))).run Try.prog W = .ok (.int .i64 ((k / w : Nat) : Int)) W := by
  have h1 : (w : Int) ≠ 0 := by omega
  have h2 : ((k : Int) / (w : Int)) = ((k / w : Nat) : Int) := (Int.natCast_ediv k w).symm
  have h3 : k / w ≤ k := Nat.div_le_self k w
  have h4 : ¬ w = 0 := by omega
  have h5 : IntKind.i64.wrap ((k : Int) / (w : Int)) = (k : Int) / (w : Int) := by rw [h2]; generalize k / w = x at *; rw [IntKind.wrap_i64]; omega
  simp only [binOp]
  simp [go_sem]
  rw [if_neg h4, h5]
theorem cover_cases (p q r : Spot) (w k : Nat) : ∃ (x : Hit) (b : Bool), coverV p q r ((k % w : Nat) : Int) ((k / w : Nat) : Int) = .tuple #[.agg x.cells, .bool b] ∧ pixel (p, q, r) w k = if b = true then some x else none := by
  by_cases h : covered p q r ((k % w : Nat) : Int) ((k / w : Nat) : Int) = true
  · refine ⟨⟨((k % w : Nat) : Int), ((k / w : Nat) : Int), side q r (256 * ((k % w : Nat) : Int) + 128) (256 * ((k / w : Nat) : Int) + 128), side r p (256 * ((k % w : Nat) : Int) + 128) (256 * ((k / w : Nat) : Int) + 128), side p q (256 * ((k % w : Nat) : Int) + 128) (256 * ((k / w : Nat) : Int) + 128)⟩, true, ?_, ?_⟩
    · unfold coverV; rw [if_pos h]; rfl
    · unfold pixel; rw [if_pos h, if_pos rfl]
  · refine ⟨⟨0, 0, 0, 0, 0⟩, false, ?_, ?_⟩
    · unfold coverV; rw [if_neg h]; rfl
    · unfold pixel; rw [if_neg h]; rfl
theorem small_cast (n : Nat) (h : n ≤ 100) : -100 ≤ (n : Int) ∧ (n : Int) ≤ 100 := by omega
theorem pixTo_prefix (t : Spot × Spot × Spot) (w : Nat) {k n : Nat} (h : k ≤ n) : pixTo t w k <+: pixTo t w n := by
  obtain ⟨d, rfl⟩ := Nat.exists_eq_add_of_le h
  clear h
  induction d with
  | zero => exact List.prefix_rfl
  | succ d ih => exact ih.trans ⟨(pixel t w (k + d)).toList, (pixTo_succ t w (k + d)).symm⟩
theorem spot0_ok : spot0.ok := by unfold spot0 Spot.ok; simp
theorem turned_ok {a b c : Spot} (ha : a.ok) (hb : b.ok) (hc : c.ok) : (turned a b c).1.1.ok ∧ (turned a b c).1.2.1.ok ∧ (turned a b c).1.2.2.ok := by
  unfold turned
  split
  · exact ⟨ha, hb, hc⟩
  · split
    · exact ⟨ha, hc, hb⟩
    · exact ⟨spot0_ok, spot0_ok, spot0_ok⟩

set_option maxRecDepth 100000 in
set_option maxHeartbeats 1000000 in
theorem pixels1_in (m l bt bw bh : Nat) (hm : 1 ≤ m) (a b c : Spot) (ha : a.ok) (hb : b.ok) (hc : c.ok) (wd ht : Int) (J Jx : List Hit → World → Prop) (hJ : ∀ s A B, J s A → Below A.heap.size A B → J s B)
    (hY : ∀ pre x W, J pre W → pre ++ [x] <+: pix a b c wd ht → YieldAt Fence.wide (m - 1) Try.prog l #[.agg x.cells] W fun e W' =>
      (e = .returned (.bool true) ∧ J (pre ++ [x]) W' ∧ Kt W W') ∨ (e = .returned (.bool false) ∧ Jx (pre ++ [x]) W'))
    (W : World) (hT : TriAt W bt a b c) (hw : NumAt W bw wd) (hh : NumAt W bh ht) (h0 : J [] W) :
    CallsIn Fence.wide m Try.prog 23 #[.func (.yield l) #[] #[], .pointer (some ⟨bt, 0, none⟩), .pointer (some ⟨bw, 0, none⟩), .pointer (some ⟨bh, 0, none⟩)] W fun e W' => (∃ v, e = .returned v) ∧
      ((∃ ys, ys = pix a b c wd ht ∧ J ys W') ∨ (∃ pre, pre <+: pix a b c wd ht ∧ Jx pre W')) := by
  refine callsIn_wide.2 ?_
  have HS := Lib.hid (fun w => Turned_walk a b c ha hb hc w)
  have HOK := Lib.hid (turned_ok ha hb hc)
  obtain ⟨XS, hXS⟩ : ∃ XS, XS = pix a b c wd ht := ⟨_, rfl⟩
  have HP := Lib.hid hXS
  rw [← hXS] at hY ⊢
  unfold turnV at HS
  unfold pix at HP
  clear hXS
  obtain ⟨T, hTT⟩ : ∃ T, T = turned a b c := ⟨_, rfl⟩
  rw [← hTT] at HS HOK HP
  clear hTT ha hb hc
  obtain ⟨⟨p, q, r⟩, ok⟩ := T
  simp only at HS HOK HP
  have HT := Lib.hid hT
  have HW := Lib.hid hw
  have HH := Lib.hid hh
  have HJ := Lib.hid h0
  have HY := Lib.hid hY
  have HA := Lib.hid hJ
  clear hT hw hh h0 hY hJ
  cases ok with
  | false =>
    have hx : XS = [] := by rw [HP.out]; exact if_neg (fun h => by simp at h)
    have HX := Lib.hid hx
    clear hx
    go_enter Try.func23, Try.ntmps23
    go_wp2_with (first
      | refine arm_load24 rfl (.tmp 1) rfl bt a b c rfl HT.out ?_)
    refine (HS.out _).mono ?_
    rintro e w1 ⟨rfl, hb⟩
    have hz := TriAt.new w1 spot0 spot0 spot0
    have HZ := Lib.hid hz
    clear hz
    have HB1 := Lib.hid hb
    clear hb
    go_wp2_with (first
      | refine arm_alloc24 rfl rfl ?_
      | (refine arm_store24 rfl (.tmp 5) (.tmp 13) rfl w1.heap.size spot0 spot0 spot0 p q r rfl rfl HZ.out ?_
         intro hn hbn
         have hb2 := (HB1.out.alloc HB1.out.size (.cells (triA spot0 spot0 spot0) 24)).trans (hbn _ HB1.out.size)
         have hcw := (HW.out.below hb2).cell
         have hch := (HH.out.below hb2).cell
         have H2 := Lib.hid (And.intro hn (And.intro hb2 (And.intro HB1.out.size (HA.out _ _ _ HJ.out hb2))))
         clear hn hbn hb2
         generalize ((w1.alloc (.cells (triA spot0 spot0 spot0) 24)).setRow w1.heap.size (triA p q r)) = w2 at *))
    refine bodyPost_ret (results_none rfl _ _ _) rfl ?_
    exact ⟨⟨_, rfl⟩, .inl ⟨[], HX.out.symm, H2.out.2.2.2⟩⟩
  | true =>
    by_cases c1 : wd < 1
    · have hx : XS = [] := by rw [HP.out]; exact if_neg (fun h => by omega)
      have HX := Lib.hid hx
      clear hx
      go_enter Try.func23, Try.ntmps23
      go_wp2_with (first
        | refine arm_load24 rfl (.tmp 1) rfl bt a b c rfl HT.out ?_)
      refine (HS.out _).mono ?_
      rintro e w1 ⟨rfl, hb⟩
      have hz := TriAt.new w1 spot0 spot0 spot0
      have HZ := Lib.hid hz
      clear hz
      have HB1 := Lib.hid hb
      clear hb
      go_wp2_with (first
        | refine arm_alloc24 rfl rfl ?_
        | (refine arm_store24 rfl (.tmp 5) (.tmp 13) rfl w1.heap.size spot0 spot0 spot0 p q r rfl rfl HZ.out ?_
           intro hn hbn
           have hb2 := (HB1.out.alloc HB1.out.size (.cells (triA spot0 spot0 spot0) 24)).trans (hbn _ HB1.out.size)
           have hcw := (HW.out.below hb2).cell
           have hch := (HH.out.below hb2).cell
           have H2 := Lib.hid (And.intro hn (And.intro hb2 (And.intro HB1.out.size (HA.out _ _ _ HJ.out hb2))))
           clear hn hbn hb2
           generalize ((w1.alloc (.cells (triA spot0 spot0 spot0) 24)).setRow w1.heap.size (triA p q r)) = w2 at *))
      refine bodyPost_ret (results_none rfl _ _ _) rfl ?_
      exact ⟨⟨_, rfl⟩, .inl ⟨[], HX.out.symm, H2.out.2.2.2⟩⟩
    by_cases c2 : 32 < wd
    · have hx : XS = [] := by rw [HP.out]; exact if_neg (fun h => by omega)
      have HX := Lib.hid hx
      clear hx
      go_enter Try.func23, Try.ntmps23
      go_wp2_with (first
        | refine arm_load24 rfl (.tmp 1) rfl bt a b c rfl HT.out ?_)
      refine (HS.out _).mono ?_
      rintro e w1 ⟨rfl, hb⟩
      have hz := TriAt.new w1 spot0 spot0 spot0
      have HZ := Lib.hid hz
      clear hz
      have HB1 := Lib.hid hb
      clear hb
      go_wp2_with (first
        | refine arm_alloc24 rfl rfl ?_
        | (refine arm_store24 rfl (.tmp 5) (.tmp 13) rfl w1.heap.size spot0 spot0 spot0 p q r rfl rfl HZ.out ?_
           intro hn hbn
           have hb2 := (HB1.out.alloc HB1.out.size (.cells (triA spot0 spot0 spot0) 24)).trans (hbn _ HB1.out.size)
           have hcw := (HW.out.below hb2).cell
           have hch := (HH.out.below hb2).cell
           have H2 := Lib.hid (And.intro hn (And.intro hb2 (And.intro HB1.out.size (HA.out _ _ _ HJ.out hb2))))
           clear hn hbn hb2
           generalize ((w1.alloc (.cells (triA spot0 spot0 spot0) 24)).setRow w1.heap.size (triA p q r)) = w2 at *))
      refine bodyPost_ret (results_none rfl _ _ _) rfl ?_
      exact ⟨⟨_, rfl⟩, .inl ⟨[], HX.out.symm, H2.out.2.2.2⟩⟩
    by_cases c3 : ht < 1
    · have hx : XS = [] := by rw [HP.out]; exact if_neg (fun h => by omega)
      have HX := Lib.hid hx
      clear hx
      go_enter Try.func23, Try.ntmps23
      go_wp2_with (first
        | refine arm_load24 rfl (.tmp 1) rfl bt a b c rfl HT.out ?_)
      refine (HS.out _).mono ?_
      rintro e w1 ⟨rfl, hb⟩
      have hz := TriAt.new w1 spot0 spot0 spot0
      have HZ := Lib.hid hz
      clear hz
      have HB1 := Lib.hid hb
      clear hb
      go_wp2_with (first
        | refine arm_alloc24 rfl rfl ?_
        | (refine arm_store24 rfl (.tmp 5) (.tmp 13) rfl w1.heap.size spot0 spot0 spot0 p q r rfl rfl HZ.out ?_
           intro hn hbn
           have hb2 := (HB1.out.alloc HB1.out.size (.cells (triA spot0 spot0 spot0) 24)).trans (hbn _ HB1.out.size)
           have hcw := (HW.out.below hb2).cell
           have hch := (HH.out.below hb2).cell
           have H2 := Lib.hid (And.intro hn (And.intro hb2 (And.intro HB1.out.size (HA.out _ _ _ HJ.out hb2))))
           clear hn hbn hb2
           generalize ((w1.alloc (.cells (triA spot0 spot0 spot0) 24)).setRow w1.heap.size (triA p q r)) = w2 at *))
      refine bodyPost_ret (results_none rfl _ _ _) rfl ?_
      exact ⟨⟨_, rfl⟩, .inl ⟨[], HX.out.symm, H2.out.2.2.2⟩⟩
    by_cases c4 : 32 < ht
    · have hx : XS = [] := by rw [HP.out]; exact if_neg (fun h => by omega)
      have HX := Lib.hid hx
      clear hx
      go_enter Try.func23, Try.ntmps23
      go_wp2_with (first
        | refine arm_load24 rfl (.tmp 1) rfl bt a b c rfl HT.out ?_)
      refine (HS.out _).mono ?_
      rintro e w1 ⟨rfl, hb⟩
      have hz := TriAt.new w1 spot0 spot0 spot0
      have HZ := Lib.hid hz
      clear hz
      have HB1 := Lib.hid hb
      clear hb
      go_wp2_with (first
        | refine arm_alloc24 rfl rfl ?_
        | (refine arm_store24 rfl (.tmp 5) (.tmp 13) rfl w1.heap.size spot0 spot0 spot0 p q r rfl rfl HZ.out ?_
           intro hn hbn
           have hb2 := (HB1.out.alloc HB1.out.size (.cells (triA spot0 spot0 spot0) 24)).trans (hbn _ HB1.out.size)
           have hcw := (HW.out.below hb2).cell
           have hch := (HH.out.below hb2).cell
           have H2 := Lib.hid (And.intro hn (And.intro hb2 (And.intro HB1.out.size (HA.out _ _ _ HJ.out hb2))))
           clear hn hbn hb2
           generalize ((w1.alloc (.cells (triA spot0 spot0 spot0) 24)).setRow w1.heap.size (triA p q r)) = w2 at *))
      refine bodyPost_ret (results_none rfl _ _ _) rfl ?_
      exact ⟨⟨_, rfl⟩, .inl ⟨[], HX.out.symm, H2.out.2.2.2⟩⟩
    have hx : XS = pixTo (p, q, r) wd.toNat (wd.toNat * ht.toNat) := by rw [HP.out]; exact if_pos ⟨rfl, by omega⟩
    obtain ⟨w, hw0⟩ : ∃ w : Nat, wd = w := ⟨wd.toNat, by omega⟩
    obtain ⟨h, hh0⟩ : ∃ h : Nat, ht = h := ⟨ht.toNat, by omega⟩
    have hmi : wd * ht = ((w * h : Nat) : Int) := by rw [hw0, hh0]; simp
    have hmul : w * h ≤ 32 * 32 := Nat.mul_le_mul (by omega) (by omega)
    rw [show wd.toNat = w by omega, show ht.toNat = h by omega] at hx
    obtain ⟨n, hn0⟩ : ∃ n, n = w * h := ⟨_, rfl⟩
    rw [← hn0] at hmul hmi hx
    have HX := Lib.hid (And.intro hx (And.intro hw0 (And.intro hn0 hh0.symm)))
    clear hx hh0 hn0 hw0
    have e1 : decide (wd < 1) = false := decide_eq_false c1
    have e2 : decide (32 < wd) = false := decide_eq_false c2
    have e3 : decide (ht < 1) = false := decide_eq_false c3
    have e4 : decide (32 < ht) = false := decide_eq_false c4
    have hm2 : 0 ≤ wd * ht ∧ wd * ht ≤ 1024 := by omega
    have HD := Lib.hid (And.intro hmi hmul)
    clear hmi hmul
    go_enter Try.func23, Try.ntmps23
    go_wp2_with (first
      | refine arm_load24 rfl (.tmp 1) rfl bt a b c rfl HT.out ?_)
    refine (HS.out _).mono ?_
    rintro e w1 ⟨rfl, hb⟩
    have hz := TriAt.new w1 spot0 spot0 spot0
    have HZ := Lib.hid hz
    clear hz
    have HB1 := Lib.hid hb
    clear hb
    go_wp2_with (first
      | refine arm_alloc24 rfl rfl ?_
      | (refine arm_store24 rfl (.tmp 5) (.tmp 13) rfl w1.heap.size spot0 spot0 spot0 p q r rfl rfl HZ.out ?_
         intro hn hbn
         have hb2 := (HB1.out.alloc HB1.out.size (.cells (triA spot0 spot0 spot0) 24)).trans (hbn _ HB1.out.size)
         have hcw := (HW.out.below hb2).cell
         have hch := (HH.out.below hb2).cell
         have H2 := Lib.hid (And.intro hn (And.intro hb2 (And.intro HB1.out.size (HA.out _ _ _ HJ.out hb2))))
         clear hn hbn hb2
         generalize ((w1.alloc (.cells (triA spot0 spot0 spot0) 24)).setRow w1.heap.size (triA p q r)) = w2 at *))
    have HC := Lib.hid (And.intro c1 (And.intro c2 (And.intro c3 c4)))
    clear c1 c2 c3 c4 e1 e2 e3 e4
    go_loopw [36] (fun v wr => ∃ k : Nat, k ≤ n ∧ v = .int .i64 (k : Nat) ∧ J (pixTo (p, q, r) w k) wr ∧ TriAt wr w1.heap.size p q r ∧ NumAt wr bw wd) (fun v _ => n - (intOf v).toNat)
    case atStart => exact ⟨0, by omega, rfl, H2.out.2.2.2, H2.out.1, HW.out.below H2.out.2.1⟩
    case round =>
      obtain ⟨k, hk, rfl, hJk, hTk, hNk⟩ := hrel
      by_cases c5 : k = n
      · have hlt : ¬ (k : Int) < wd * ht := by rw [HD.out.1]; omega
        have HJK := Lib.hid hJk
        subst c5
        clear hJk hTk hNk
        go_wp2_with fail
        go_end0
        exact ⟨⟨_, rfl⟩, .inl (by rw [HX.out.1]; exact HJK.out)⟩
      · have hlt : (k : Int) < wd * ht := by rw [HD.out.1]; omega
        have HJK := Lib.hid (And.intro hJk (And.intro hTk (And.intro hNk hk)))
        clear hJk hTk hNk hk
        go_wp2_with fail
        obtain ⟨x, hit, hcv, hpx⟩ := cover_cases p q r w k
        have HPX := Lib.hid hpx
        clear hpx
        have hw32 : 0 < w ∧ w ≤ 32 := by have := HX.out.2.1; have := HC.out; omega
        have hkn : k < n := by have := HJK.out.2.2.2; omega
        have hn24 : n ≤ 1024 := HD.out.2
        have hky : k / w ≤ 100 ∧ k % w ≤ 100 := by
          have h1 := HX.out.2.2
          have h2 : k < w * h := by omega
          have h3 : k / w < h := Nat.div_lt_of_lt_mul h2
          have h4 : k % w < w := Nat.mod_lt _ hw32.1
          have := HC.out
          have := HX.out.2.1
          have h5 : (h : Int) = ht := HX.out.2.2.2
          omega
        refine wp_region_link 58 mixed (by kernel_rfl) (by rfl) (PC wr.heap.size w1.heap.size bw (p, q, r) wd wr x.x x.y x.e0 x.e1 x.e2) ⟨HJK.out.2.1, HJK.out.2.2.1, ⟨rfl, rfl, rfl, Nat.le_refl _, fun _ _ => rfl⟩, (Array.getElem?_eq_some_iff.1 HJK.out.2.1).1, (Array.getElem?_eq_some_iff.1 HJK.out.2.2.1).1⟩ ?_
        refine wpL_cons (is (.agg (triA p q r))) (stable_is _) (step_loadRow (go0 rfl) 24 (.tmp 5) rfl w1.heap.size 24 (triA p q r) (0, 0) _ (opO' 5 (.pointer (some ⟨w1.heap.size, 0, none⟩)) rfl rfl) (fun W h => h.1) Try.underlying24 rfl (size24 p q r)) ?_
        refine wpL_cons (is (.int .i64 (k : Nat))) (stable_is _) (step_move (go0 rfl) (.tmp 7) rfl (opO' 7 (.int .i64 (k : Nat)) rfl rfl)) ?_
        refine wpL_cons (is (.int .i64 wd)) (stable_is _) (step_cell (go0 rfl) 3 (.tmp 2) rfl ⟨bw, 0, none⟩ _ (opO' 2 (.pointer (some ⟨bw, 0, none⟩)) rfl rfl) (fun W h => h.2.1.cell) (fun W => by kernel_rfl)) ?_
        refine wpL_cons (is (.int .i64 ((k % w : Nat) : Int))) (stable_is _) (step_int (go0 rfl) .rem 3 3 (.tmp 41) (.tmp 42) rfl .i64 .i64 (k : Nat) wd _ (opT' 41 1 rfl rfl) (opT' 42 2 rfl rfl) (fun W => by rw [HX.out.2.1]; exact run_rem k w hw32.1 W)) ?_
        refine wpL_cons (is (.int .i64 (k : Nat))) (stable_is _) (step_move (go0 rfl) (.tmp 7) rfl (opO' 7 (.int .i64 (k : Nat)) rfl rfl)) ?_
        refine wpL_cons (is (.int .i64 wd)) (stable_is _) (step_cell (go0 rfl) 3 (.tmp 2) rfl ⟨bw, 0, none⟩ _ (opO' 2 (.pointer (some ⟨bw, 0, none⟩)) rfl rfl) (fun W h => h.2.1.cell) (fun W => by kernel_rfl)) ?_
        refine wpL_cons (is (.int .i64 ((k / w : Nat) : Int))) (stable_is _) (step_int (go0 rfl) .quo 3 3 (.tmp 44) (.tmp 45) rfl .i64 .i64 (k : Nat) wd _ (opT' 44 4 rfl rfl) (opT' 45 5 rfl rfl) (fun W => by rw [HX.out.2.1]; exact run_quo k w (by omega) hw32.1 hw32.2 W)) ?_
        refine wpL_cons (is (.tuple #[.agg x.cells, .bool hit])) (stable_is _) (step_call3 (go0 rfl) 12 (.tmp 40) (.tmp 43) (.tmp 46) _ rfl enter12 (opT' 40 0 rfl rfl) (opT' 43 3 rfl rfl) (opT' 46 6 rfl rfl) (fun u1 u2 u3 W h h1 h2 h3 => by
          obtain rfl : u1 = _ := h1
          obtain rfl : u2 = _ := h2
          obtain rfl : u3 = _ := h3
          rw [← hcv]
          exact covers_ok rfl _ _ HOK.out.1 HOK.out.2.1 HOK.out.2.2 (small_cast _ hky.2) (small_cast _ hky.1) h)) ?_
        refine wpL_cons (is (.tuple #[.agg x.cells, .bool hit])) (stable_is _) (step_move (go0 rfl) (.tmp 47) rfl (opT' 47 7 rfl rfl)) ?_
        refine wpL_cons (is (.agg x.cells)) (stable_is _) (step_extract (go0 rfl) (.tmp 39) 0 rfl _ _ (opT' 39 8 rfl rfl) rfl) ?_
        refine wpL_cons (is (.bool hit)) (stable_is _) (step_extract (go0 rfl) (.tmp 39) 1 rfl _ _ (opT' 39 8 rfl rfl) rfl) ?_
        refine wpL_cons (HitPtr wr.heap.size x.x x.y x.e0 x.e1 x.e2) hitPtr_stable (step_alloc31 rfl (go0 rfl) rfl) ?_
        refine wpL_store 8 rfl (HitSet x.x x.y x.e0 x.e1 x.e2) hitSet_stable (step_store31 8 (.tmp 48) rfl (opT' 8 11 rfl rfl) (opT' 48 9 rfl rfl)) ?_
        refine wpL_cons (is (.bool hit)) (stable_is _) (step_assign (go0 rfl) (.tmp 49) rfl (opT' 49 10 rfl rfl)) ?_
        refine wpL_nil ?_
        intro v w' hI hrl hdone hsome
        clear hrl
        rename_i K1 hK1 K2 hK2
        obtain ⟨u, ⟨b, hub, hbH⟩, husA⟩ := hsome 12 (by decide)
        have hus := husA 8 rfl
        clear husA
        have h13 : v 13 = .bool hit := hdone 13 9 rfl
        simp only [putAll, Act.put, List.setIfInBounds_toArray, List.set_cons_zero, List.set_cons_succ, Nat.zero_add, Nat.reduceAdd] at hus ⊢
        have h11 : v 11 = .pointer (some ⟨b, 0, none⟩) := hus.symm.trans hub
        have hJ2 := HA.out _ _ _ HJK.out.1 hI.2.2.1
        have HF := Lib.hid (And.intro hbH (And.intro hI.1 (And.intro hI.2.1 hJ2)))
        clear hdone hsome hI hJ2 hbH hus hub u hcv hky hw32 hn24
        rw [h13, h11]
        have hpre : pixTo (p, q, r) w (k + 1) <+: XS := by rw [HX.out.1]; exact pixTo_prefix _ _ (by omega)
        have HPR := Lib.hid hpre
        have HKN := Lib.hid hkn
        clear hpre hkn
        cases hit with
        | false =>
          have hp1 : pixTo (p, q, r) w (k + 1) = pixTo (p, q, r) w k := by rw [pixTo_succ, HPX.out]; simp
          have HP1 := Lib.hid hp1
          clear hp1
          go_wp2_with fail
          go_roundw
          case rel => exact ⟨k + 1, HKN.out, by simp, by rw [HP1.out]; exact HF.out.2.2.2, HF.out.2.1, HF.out.2.2.1⟩
          case measure =>
            have := HKN.out
            simp [intOf]
            omega
        | true =>
          have hp1 : pixTo (p, q, r) w (k + 1) = pixTo (p, q, r) w k ++ [x] := by rw [pixTo_succ, HPX.out]; simp
          have HP1 := Lib.hid hp1
          have hY1 := HY.out (pixTo (p, q, r) w k) x w' HF.out.2.2.2 (by rw [← hp1]; exact HPR.out)
          clear hp1
          obtain ⟨fn, tmps, assign, body, hy, hR⟩ := hY1
          show K2 _ _
          refine hK2 _ _ ((wpIn_wide (n := m)).1 ?_)
          gi_wp2_with (first
            | refine wpListIn_loadV rfl 31 (.tmp 8) rfl ⟨b, 0, none⟩ (.agg x.cells) rfl HF.out.1.load ?_)
          refine hR.mono ?_
          rintro e W3 (⟨rfl, hJ3, hk3⟩ | ⟨rfl, hJx3⟩)
          · have HG := Lib.hid (And.intro hJ3 (And.intro (hk3.tri HF.out.2.1) (hk3.num HF.out.2.2.1)))
            clear hJ3 hk3 hy hR HJK
            gi_wp2
            go_wp2_with fail
            go_roundw
            case rel => exact ⟨k + 1, HKN.out, by simp, by rw [HP1.out]; exact HG.out.1, HG.out.2.1, HG.out.2.2⟩
            case measure =>
              have := HKN.out
              simp [intOf]
              omega
          · have HG := Lib.hid hJx3
            clear hJx3 hy hR HJK
            gi_wp2
            refine bodyPost_ret (results_none rfl _ _ _) rfl ?_
            exact ⟨⟨_, rfl⟩, .inr ⟨pixTo (p, q, r) w k ++ [x], by rw [← HP1.out]; exact HPR.out, HG.out⟩⟩
end Go.Proofs.Ytgkidgpdgcdgnaa
