/- The block of bytes: super.Decode and the reference's ReadHead. -/
import Derived.Test.YtccdciokokcomaaStr
import Derived.Outline
namespace Go.Proofs.Ytccdciokokcomaa
open Go.RowKit

@[irreducible] def blkA (x : Blk) : Array Value := x.cells
theorem blkA_size (x : Blk) : (blkA x).size = 6 := by unfold blkA; rfl
theorem blkA_one (x : Blk) : (blkA x).all (·.oneCell') = true := by unfold blkA Blk.cells; simp [Value.oneCell']
theorem size24 (x : Blk) : (Try.prog.info? 24).map (·.size) = some (blkA x).size := by rw [blkA_size]; kernel_rfl
theorem size37 (x : Blk) : (Try.prog.info? 37).map (·.size) = some (blkA x).size := by rw [blkA_size]; kernel_rfl
theorem alloc24 (w : World) : (Instr.alloc 24 true (.tuple #[])).run Try.prog w = .ok (.pointer (some ⟨w.heap.size, 0, none⟩)) (w.alloc (.cells (blkA blk0) 24)) := by unfold blkA Blk.cells blk0; kernel_rfl
theorem alloc37 (w : World) : (Instr.alloc 37 true (.tuple #[])).run Try.prog w = .ok (.pointer (some ⟨w.heap.size, 0, none⟩)) (w.alloc (.cells (blkA blk0) 37)) := by unfold blkA Blk.cells blk0; kernel_rfl
def BlkAt (W : World) (t b : Nat) (x : Blk) : Prop := W.heap[b]? = some (.cells (blkA x) t (0, 0))
theorem BlkAt.below {W W' : World} {t b : Nat} {x : Blk} (h : BlkAt W t b x) (hb : Below W.heap.size W W') : BlkAt W' t b x := (hb.block b (Array.getElem?_eq_some_iff.1 h).1).trans h
theorem BlkAt.new (W : World) (t : Nat) (x : Blk) : BlkAt (W.alloc (.cells (blkA x) t)) t W.heap.size x := heap_alloc_new W _
/-- worlds above w0, a block of its own holds nought or x -/
def BC (t : TypeId) (x : Blk) (w0 : World) : Cls where
  inv := fun W => Below w0.heap.size w0 W
  rel := fun W W' => (W.heap.size ≤ W'.heap.size ∧ ∀ a n, W.cell? a = some (.int .u8 n) → W'.cell? a = some (.int .u8 n)) ∧ ∀ b, (BlkAt W t b x → BlkAt W' t b x) ∧ (BlkAt W t b blk0 → BlkAt W' t b blk0 ∨ BlkAt W' t b x)
  refl := fun _ => ⟨⟨Nat.le_refl _, fun _ _ h => h⟩, fun _ => ⟨fun h => h, fun h => .inl h⟩⟩
  trans := fun _ _ _ h k => ⟨⟨Nat.le_trans h.1.1 k.1.1, fun a n e => k.1.2 a n (h.1.2 a n e)⟩, fun b => ⟨fun x => (k.2 b).1 ((h.2 b).1 x), fun x => ((h.2 b).2 x).elim (fun x => (k.2 b).2 x) (fun x => .inr ((k.2 b).1 x))⟩⟩
theorem BC.start (t : TypeId) (x : Blk) (w : World) : BC t x w w.drew := ⟨rfl, rfl, rfl, Nat.le_refl _, fun _ _ => rfl⟩
theorem BC.step {t : TypeId} {x : Blk} {w0 W W' : World} (h : BC t x w0 W) (hb : Below W.heap.size W W') : BC t x w0 W' ∧ (BC t x w0).rel W W' :=
  ⟨below_trans h hb, ⟨hb.size, fun _ _ e => (hb.cell (block_lt_of_cell e)).trans e⟩, fun _ => ⟨fun k => k.below hb, fun k => .inl (k.below hb)⟩⟩
theorem stable_bytesB {t : TypeId} {x : Blk} {w0 : World} (l : List Nat) : Stable (BC t x w0) (isBytes l) := fun _ _ _ hr ⟨A, cap, h1, h2, h3⟩ => ⟨A, cap, h1, h2, h3.byte, fun i hi => by
  obtain ⟨b, off, e, hB, hc⟩ := h3.cell i hi
  exact ⟨b, off, e, Nat.lt_of_lt_of_le hB hr.1.1, hr.1.2 _ _ hc⟩⟩
theorem blk_not_u8 {W : World} {t b : Nat} {p : Blk} (h : BlkAt W t b p) (off : Nat) (n : Int) : W.cell? ⟨b, off, none⟩ ≠ some (.int .u8 n) := fun e => by
  rw [cell_of_row _ _ _ _ _ _ h] at e
  unfold blkA Blk.cells at e
  have : off = 0 ∨ off = 1 ∨ off = 2 ∨ off = 3 ∨ off = 4 ∨ off = 5 ∨ 6 ≤ off := by omega
  rcases this with rfl | rfl | rfl | rfl | rfl | rfl | h6
  all_goals first | (simp at e; done) | (rw [Array.getElem?_eq_none (by simpa using h6)] at e; cases e)
theorem row_u8 {W : World} {t b : Nat} {p : Blk} (h : BlkAt W t b p) (C : Array Value) (a : Addr) (n : Int) (e : W.cell? a = some (.int .u8 n)) : (W.setRow b C).cell? a = some (.int .u8 n) := by
  by_cases hb : a.block = b
  · exfalso
    subst hb
    obtain ⟨b, off, sp⟩ := a
    cases sp with
    | none => exact blk_not_u8 h off n e
    | some s =>
      have h2 : W.heap[b]? = _ := h
      unfold World.cell? at e
      simp [h2] at e
  · exact (World.cell?_of_block (setRow_other W b a.block C hb)).trans e
def BlkPtr (B : Nat) (t : TypeId) (x : Blk) : Spec := fun v W => ∃ b, v = .pointer (some ⟨b, 0, none⟩) ∧ B ≤ b ∧ (BlkAt W t b blk0 ∨ BlkAt W t b x)
def BlkSet (B : Nat) (t : TypeId) (x : Blk) : Spec := fun v W => ∃ b, v = .pointer (some ⟨b, 0, none⟩) ∧ B ≤ b ∧ BlkAt W t b x
theorem blkPtr_stable {t : TypeId} {x : Blk} {w0 : World} (B : Nat) : Stable (BC t x w0) (BlkPtr B t x) := fun _ _ _ hr ⟨b, h1, h2, h3⟩ => ⟨b, h1, h2, h3.elim (fun k => (hr.2 b).2 k) (fun k => .inr ((hr.2 b).1 k))⟩
theorem blkSet_stable {t : TypeId} {x : Blk} {w0 : World} (B : Nat) : Stable (BC t x w0) (BlkSet B t x) := fun _ _ _ hr ⟨b, h1, h2, h3⟩ => ⟨b, h1, h2, (hr.2 b).1 h3⟩
section
variable {ops : Array Oper} {a0 : Act} {sp : Nat → Spec} {k : Nat} {o : Oper} {t : TypeId} {x : Blk} {w0 : World}
theorem step_allocB (hg : Goes ops sp k o) (ho : o.op = .alloc t) (ha : ∀ w, (Instr.alloc t true (.tuple #[])).run Try.prog w = .ok (.pointer (some ⟨w.heap.size, 0, none⟩)) (w.alloc (.cells (blkA blk0) t))) : StepOk Try.prog ops (BC t x w0) a0 sp k o (BlkPtr w0.heap.size t x) :=
  step_run hg fun a w K => by
    have hs := BC.step K.inv (below_alloc w (.cells (blkA blk0) t))
    refine ⟨_, _, ?_, hs.1, hs.2, w.heap.size, rfl, K.inv.size, .inl (BlkAt.new w t blk0)⟩
    simp only [execOp, ho, Sem.run_bind, ha]; rfl
theorem step_storeB (ty : Tmp) (y' : Operand) (ho : o.op = .store t (.tmp ty) y') (hi : ∀ x, (Try.prog.info? t).map (·.size) = some (blkA x).size) (hx : OpIs ops (BC t x w0) a0 sp k (.tmp ty) (BlkPtr w0.heap.size t x))
    (hy : OpIs ops (BC t x w0) a0 sp k y' (is (.agg (blkA x)))) : StoreOk Try.prog ops (BC t x w0) a0 sp k o ty (BlkSet w0.heap.size t x) := fun ac w K => by
  obtain ⟨b, hv, hb, hh⟩ := hx ac w K
  have h1 : ac.eval (.tmp ty) = .pointer (some ⟨b, 0, none⟩) := hv
  have h2 : ac.eval y' = .agg (blkA x) := hy ac w K
  obtain ⟨p, hold⟩ : ∃ p, BlkAt w t b p := by
    rcases hh with h | h
    · exact ⟨_, h⟩
    · exact ⟨_, h⟩
  have hr := run_storeVar_row (P := Try.prog) w b t t (blkA p) (blkA x) hold (hi x) (by rw [blkA_size, blkA_size]) (blkA_one _)
  have hn : BlkAt (w.setRow b (blkA x)) t b x := setRow_heap w b _ _ t _ hold
  have i3 : Below w0.heap.size w0 w := K.inv
  refine ⟨w.setRow b (blkA x), ?_, i3.trans ⟨rfl, rfl, rfl, by simp [World.setRow], fun q hq => setRow_other w b q _ (by omega)⟩, ⟨⟨by simp [World.setRow], fun _ _ e => row_u8 hold _ _ _ e⟩, fun c => ?_⟩, b, hv, hb, hn⟩
  · simp only [execOp, ho, h1, h2, Instr.storeAt, Instr.sureAddr, Sem.run_bind, Sem.run_pure, Result.andThen_ok, hr]
  · by_cases e : c = b
    · subst e; exact ⟨fun _ => hn, fun _ => .inr hn⟩
    · have : (w.setRow b (blkA x)).heap[c]? = w.heap[c]? := setRow_other w b c _ e
      exact ⟨fun k => this.trans k, fun k => .inl (this.trans k)⟩
theorem step_sl {P : Program} {I : Cls} (hg : Goes ops sp k o) (ty : TypeId) (x : Operand) (lo hi : Value) (ho : o.op = .slice ty x (some (.const lo)) (some (.const hi)) none) (u v : Value) (hx : OpIs ops I a0 sp k x (is u)) (hr : ∀ w, (Instr.sliceAt ty u (some lo) (some hi) none).run P w = .ok v w) : StepOk P ops I a0 sp k o (is v) :=
  step_same hg fun a w K => ⟨v, by
    have h : a.eval x = u := hx a w K
    have e1 : ∀ c : Value, a.eval (.const c) = c := fun _ => rfl
    simp only [execOp, ho, h, e1, Option.map_some, Option.map_none, Sem.run_bind, hr, Result.andThen]; rfl, rfl⟩
end
theorem run_sl25 (b off cap lo hi : Nat) (h1 : lo < hi) (h2 : hi ≤ 32) (h3 : 32 ≤ cap) (w : World) : (Instr.sliceAt 25 (.slice (some ⟨b, off, none⟩) 32 cap) (some (.int .i64 (lo : Int))) (some (.int .i64 (hi : Int))) none).run Try.prog w = .ok (.slice (some ⟨b, off + lo, none⟩) (hi - lo) (cap - lo)) w := by
  have h4 : (0 : Int) ≤ (lo : Int) := by omega
  have h5 : (lo : Int) ≤ (hi : Int) := by omega
  have h6 : (hi : Int) ≤ (cap : Int) := by omega
  have h7 : ¬ cap = lo := by omega
  simp [go_sem, h4, h5, h6, h7]
section
variable {ops : Array Oper} {a0 : Act} {sp : Nat → Spec} {k : Nat} {o : Oper} {t : TypeId} {x : Blk} {w0 : World}
theorem step_build6 {I : Cls} (hg : Goes ops sp k o) (t : TypeId) (y0 y1 y2 y3 y4 y5 : Operand) (ho : o.op = .build t #[(0, y0), (1, y1), (2, y2), (3, y3), (4, y4), (5, y5)]) (x : Blk)
    (hb : ∀ w, (Instr.build t #[(0, .int .i64 x.gen), (1, .int .i64 x.d), (2, .bool x.wrap), (3, .int .i64 x.start), (4, .int .i64 x.len), (5, .int .u32 x.sum)]).run Try.prog w = .ok (.agg (blkA x)) w)
    (h0 : OpIs ops I a0 sp k y0 (is (.int .i64 x.gen))) (h1 : OpIs ops I a0 sp k y1 (is (.int .i64 x.d))) (h2 : OpIs ops I a0 sp k y2 (is (.bool x.wrap))) (h3 : OpIs ops I a0 sp k y3 (is (.int .i64 x.start))) (h4 : OpIs ops I a0 sp k y4 (is (.int .i64 x.len))) (h5 : OpIs ops I a0 sp k y5 (is (.int .u32 x.sum))) :
    StepOk Try.prog ops I a0 sp k o (is (.agg (blkA x))) :=
  step_same hg fun a w K => ⟨.agg (blkA x), by
    have e0 : a.eval y0 = _ := h0 a w K
    have e1 : a.eval y1 = _ := h1 a w K
    have e2 : a.eval y2 = _ := h2 a w K
    have e3 : a.eval y3 = _ := h3 a w K
    have e4 : a.eval y4 = _ := h4 a w K
    have e5 : a.eval y5 = _ := h5 a w K
    have hb := hb w
    simp [execOp, ho, e0, e1, e2, e3, e4, e5, hb, Result.andThen], rfl⟩
theorem enter24 (args : Array Value) (w : World) : (callFunc 24 args).run Try.prog w = .ok (.enter 24 args) w := run_callFunc_enter Try.func24 (by kernel_rfl) (by kernel_rfl) args w
theorem enter26 (args : Array Value) (w : World) : (callFunc 26 args).run Try.prog w = .ok (.enter 26 args) w := run_callFunc_enter Try.func26 (by kernel_rfl) (by kernel_rfl) args w
theorem part_bytes {w : World} {b off : Nat} {l : List Nat} (h : Bytes w w.heap.size (some ⟨b, off, none⟩) l) (lo hi : Nat) : Bytes w w.heap.size (some ⟨b, off + lo, none⟩) ((l.take hi).drop lo) := (h.take hi).drop lo
theorem part_length (l : List Nat) (lo hi : Nat) (hl : l.length = 32) (h2 : hi ≤ 32) : ((l.take hi).drop lo).length = hi - lo := by simp; omega
theorem back_ok {b off c lo hi : Nat} {l : List Nat} (hl : l.length = 32) (hB : Bytes w0 w0.heap.size (some ⟨b, off, none⟩) l) (h2 : hi ≤ 32) (h4 : hi ≤ lo + 4) (u : Value) (w : World) (h : BC t x w0 w) (hu : is (.slice (some ⟨b, off + lo, none⟩) (hi - lo) c) u w) :
    CallOk Try.prog (BC t x w0) 24 #[u] w (is (.int .i64 (val ((l.take hi).drop lo) : Nat))) := by
  obtain rfl : u = _ := hu
  have hb := part_bytes (hB.up h) lo hi
  have hn := part_length l lo hi hl h2
  have := back_walk (some ⟨b, off + lo, none⟩) c w.heap.size ((l.take hi).drop lo) (by omega) w hb
  rw [hn] at this
  exact this.mono fun _ w' ⟨he, hw⟩ => by subst hw; exact ⟨_, he, h, (BC t x w0).refl _, rfl⟩
theorem num_ok {b off c lo hi : Nat} {l : List Nat} (hl : l.length = 32) (hB : Bytes w0 w0.heap.size (some ⟨b, off, none⟩) l) (h2 : hi ≤ 32) (h4 : hi ≤ lo + 4) (u : Value) (w : World) (h : BC t x w0 w) (hu : is (.slice (some ⟨b, off + lo, none⟩) (hi - lo) c) u w) :
    CallOk Try.prog (BC t x w0) 26 #[u] w (is (.int .i64 (val ((l.take hi).drop lo) : Nat))) := by
  obtain rfl : u = _ := hu
  have hb := part_bytes (hB.up h) lo hi
  have hn := part_length l lo hi hl h2
  have := num_walk (some ⟨b, off + lo, none⟩) c w.heap.size ((l.take hi).drop lo) (by omega) w hb
  rw [hn] at this
  exact this.mono fun _ w' ⟨he, hw⟩ => by subst hw; exact ⟨_, he, h, (BC t x w0).refl _, rfl⟩
theorem cell_at {b off : Nat} {l : List Nat} (hB : Bytes w0 w0.heap.size (some ⟨b, off, none⟩) l) (i : Nat) (hi : i < l.length) {w : World} (h : BC t x w0 w) : w.cell? ⟨b, off + i, none⟩ = some (.int .u8 (l.getD i 0 : Nat)) := by
  obtain ⟨b', off', e, _, hc⟩ := (hB.up h).cell i hi
  simp only [Option.some.injEq, Addr.mk.injEq, and_true] at e
  obtain ⟨rfl, rfl⟩ := e
  exact hc
theorem step_conv {P : Program} {I : Cls} (hg : Goes ops sp k o) (s d : TypeId) (y : Operand) (ho : o.op = .convert s d y) (u v : Value) (hx : OpIs ops I a0 sp k y (is u)) (hr : ∀ w, (convert s d u).run P w = .ok v w) : StepOk P ops I a0 sp k o (is v) :=
  step_one hg y _ v hx fun ρ w h => by simp only [execOp, ho, h, Sem.run_bind, hr, Result.andThen]; rfl
end
theorem run_ix25 (b off cap i : Nat) (hi : i < 32) (w : World) : (Instr.indexAt 25 (.slice (some ⟨b, off, none⟩) 32 cap) (.int .i64 (i : Int))).run Try.prog w = .ok (.pointer (some ⟨b, off + i, none⟩)) w := by
  have h1 : ¬ ((32 : Int) ≤ (i : Int)) := by omega
  simp [go_sem, h1]
theorem run_conv53 (n : Nat) (hn : n < 256) (w : World) : (convert 5 3 (.int .u8 (n : Int))).run Try.prog w = .ok (.int .i64 (n : Int)) w := by
  have h1 : IntKind.i64.wrap (n : Int) = (n : Int) := IntWalk.i64_in _ (by omega)
  simp [go_sem, h1]
theorem run_conv322 (n : Nat) (hn : n < 4294967296) (w : World) : (convert 3 22 (.int .i64 (n : Int))).run Try.prog w = .ok (.int .u32 (n : Int)) w := by
  have h1 : IntKind.u32.wrap (n : Int) = (n : Int) := by rw [IntKind.wrap_u32']; omega
  simp [go_sem, h1]
theorem one_beq (c : Nat) : (((c : Nat) : Int) == 1) = (c == 1) := by
  by_cases h : c = 1
  · subst h; rfl
  · rw [beq_eq_false_iff_ne.2 (show ¬ ((c : Nat) : Int) = 1 by omega), beq_eq_false_iff_ne.2 h]
theorem read_sum (l : List Nat) (hl : l.length = 32) (hb : ∀ x ∈ l, x < 256) : (read l).sum < 4294967296 := by
  have h := val_le ((l.take 18).drop 14) (fun x hx => hb x (List.mem_of_mem_take (List.mem_of_mem_drop hx)))
  rw [part_length l 14 18 hl (by omega)] at h
  exact h
theorem blkA_eq (x : Blk) : blkA x = x.cells := by unfold blkA; rfl
theorem encA_no (x : Blk) (h : okB x = false) (w : World) : Calls Try.prog 9 #[.agg (tabCells tab), .agg (blkA x)] w fun e w' => e = .returned (.tuple #[.slice none 0 0, .int .i64 1]) ∧ Below w.heap.size w w' := by rw [blkA_eq]; exact enc_no x h w
theorem encA_yes (x : Blk) (h : okB x = true) (hs : x.sum < 4294967296) (w : World) : Calls Try.prog 9 #[.agg (tabCells tab), .agg (blkA x)] w fun e w' => MadeT w (enc x) e w' := by rw [blkA_eq]; exact enc_yes x h hs w
theorem headA_no (x : Blk) (h : okB x = false) (w : World) : Calls Try.prog 10 #[.agg (blkA x)] w fun e w' => e = .returned (.tuple #[.slice none 0 0, .bool false]) ∧ Below w.heap.size w w' := by rw [blkA_eq]; exact head_no x h w
theorem headA_yes (x : Blk) (h : okB x = true) (hs : x.sum < 4294967296) (w : World) : Calls Try.prog 10 #[.agg (blkA x)] w fun e w' => MadeB w (enc x) e w' := by rw [blkA_eq]; exact head_yes x h hs w
/-- what lies there while a block is read: the result's cell, the table -/
structure DecK (w0 : World) (tg : Option Nat) (t R : Nat) (y : Blk) (W : World) : Prop where
  cell : BlkAt W t R y
  below : Below w0.heap.size w0 W
  tb : ∀ g, tg = some g → W.heap[g]? = some (.cells (tabCells tab) 28 (0, 0)) ∧ g ≠ R
theorem DecK.up {w0 W W' : World} {tg : Option Nat} {t R : Nat} {y : Blk} (h : DecK w0 tg t R y W) (hb : Below W.heap.size W W') : DecK w0 tg t R y W' :=
  ⟨h.cell.below hb, below_trans h.below hb, fun g hg => ⟨(hb.block g (Array.getElem?_eq_some_iff.1 (h.tb g hg).1).1).trans (h.tb g hg).1, (h.tb g hg).2⟩⟩
theorem DecK.set {w0 W : World} {tg : Option Nat} {t R : Nat} {y x : Blk} (h : DecK w0 tg t R y W) (hR : w0.heap.size ≤ R) : DecK w0 tg t R x (W.setRow R (blkA x)) :=
  ⟨setRow_heap W R _ _ t _ h.cell, h.below.trans ⟨rfl, rfl, rfl, by simp [World.setRow], fun q hq => setRow_other W R q _ (by omega)⟩, fun g hg => ⟨(setRow_other W R g _ (h.tb g hg).2).trans (h.tb g hg).1, (h.tb g hg).2⟩⟩
theorem DecK.start1 (w : World) : DecK w (some w.heap.size) 24 (w.heap.size + 1) blk0 ((w.alloc (.cells (tabCells tab) 28)).alloc (.cells (blkA blk0) 24)) :=
  ⟨by have := BlkAt.new (w.alloc (.cells (tabCells tab) 28)) 24 blk0; simpa using this, below_trans (below_alloc _ _) (below_alloc _ _), fun g hg => by
    simp only [Option.some.injEq] at hg
    subst hg
    exact ⟨(Below.heap_alloc _ _ _ (by simp)).trans (heap_alloc_new w _), by omega⟩⟩
theorem DecK.start0 (w : World) : DecK w none 37 w.heap.size blk0 (w.alloc (.cells (blkA blk0) 37)) :=
  ⟨BlkAt.new w 37 blk0, below_alloc _ _, fun g hg => by cases hg⟩
theorem BlkAt.load24 {w : World} {g : Nat} {x : Blk} (h : BlkAt w 24 g x) : (loadVar 24 ⟨g, 0, none⟩).run Try.prog w = .ok (.agg (blkA x)) w :=
  run_loadVar_row w g 24 24 (blkA x) (0, 0) _ h Try.underlying24 rfl (size24 x)
theorem BlkAt.load37 {w : World} {g : Nat} {x : Blk} (h : BlkAt w 37 g x) : (loadVar 37 ⟨g, 0, none⟩).run Try.prog w = .ok (.agg (blkA x)) w :=
  run_loadVar_row w g 37 37 (blkA x) (0, 0) _ h Try.underlying37 rfl (size37 x)
/-- results in a cell and a slot -/
theorem results_ct {fn : Func} {p u : Tmp} {ty : TypeId} (h : fn.results = #[.cell p ty, .tmp u]) (tmps : Array Value) (w : World) (q : Addr) (v : Value)
    (hp : tmps.getD p undef = .pointer (some q)) (hl : (loadVar ty q).run Try.prog w = .ok v w) :
    (results fn tmps).run Try.prog w = .ok (.tuple #[v, tmps.getD u undef]) w := by
  have hp' : tmps[p]?.getD undef = .pointer (some q) := by simpa using hp
  simp [results, h, hp', asAddr, hl]
section
variable {ops : Array Oper} {rest : List Oper} {o : Oper} {a : Act} {w : World} {Q : Exit → Act → World → Prop}
theorem arm_allocB (hgd : o.guard = none) (t : TypeId) (ho : o.op = .alloc t) (ha : ∀ w, (Instr.alloc t true (.tuple #[])).run Try.prog w = .ok (.pointer (some ⟨w.heap.size, 0, none⟩)) (w.alloc (.cells (blkA blk0) t)))
    (h : wpList Try.prog ops Q rest (a.put o.dst (.pointer (some ⟨w.heap.size, 0, none⟩))) (w.alloc (.cells (blkA blk0) t))) : wpList Try.prog ops Q (o :: rest) a w :=
  wpList_plain hgd fun K hK => by
    unfold Oper.wp
    simp only [execOp, ho, Sem.run_bind, ha]
    exact hK _ _ h
theorem arm_storeB (hgd : o.guard = none) (t : TypeId) (hi : ∀ x, (Try.prog.info? t).map (·.size) = some (blkA x).size) (x y : Operand) (ho : o.op = .store t x y) (g : Nat) (p q : Blk) (hx : a.eval x = .pointer (some ⟨g, 0, none⟩)) (hy : a.eval y = .agg (blkA q)) (hg : BlkAt w t g p)
    (h : wpList Try.prog ops Q rest (a.put o.dst undef) (w.setRow g (blkA q))) : wpList Try.prog ops Q (o :: rest) a w :=
  wpList_plain hgd fun K hK => wp_store_row t x y ho g (blkA q) hx hy t (blkA p) hg (hi _) (by rw [blkA_size, blkA_size]) (blkA_one _)
    (hK _ _ h)
theorem arm_loadB (hgd : o.guard = none) (t : TypeId) (hld : ∀ (w : World) (g : Nat) (x : Blk), BlkAt w t g x → (loadVar t ⟨g, 0, none⟩).run Try.prog w = .ok (.agg (blkA x)) w) (x : Operand) (ho : o.op = .load t x) (g : Nat) (p : Blk) (hx : a.eval x = .pointer (some ⟨g, 0, none⟩)) (hg : BlkAt w t g p)
    (h : wpList Try.prog ops Q rest (a.put o.dst (.agg (blkA p))) w) : wpList Try.prog ops Q (o :: rest) a w :=
  wpList_plain hgd fun K hK => by
    unfold Oper.wp
    simp only [execOp, ho, hx, Instr.loadAt, Instr.sureAddr, Sem.run_bind, Sem.run_pure, Result.andThen, hld w g p hg]
    exact hK _ _ h
theorem arm_build0 (hgd : o.guard = none) (t : TypeId) (ho : o.op = .build t #[]) (hb : Try.prog.built t [] = some (blkA blk0))
    (h : wpList Try.prog ops Q rest (a.put o.dst (.agg (blkA blk0))) w) : wpList Try.prog ops Q (o :: rest) a w := by
  have e : Try.prog.built t ((#[] : Array (Nat × Operand)).map fun (i, x) => (i, a.eval x)).toList = some (blkA blk0) := by rw [Array.map_empty]; exact hb
  refine wpList_build hgd t _ ho (by rw [e]; rfl) ?_
  rw [e]; exact h
end
theorem built24 : Try.prog.built 24 [] = some (blkA blk0) := by unfold blkA Blk.cells blk0; kernel_rfl
theorem built37 : Try.prog.built 37 [] = some (blkA blk0) := by unfold blkA Blk.cells blk0; kernel_rfl
end Go.Proofs.Ytccdciokokcomaa
