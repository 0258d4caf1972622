/- Single operations and words for the laws of a block's bytes. -/
import Derived.Test.YtccdciokokcomaaAwake
import Derived.Test.YtccdciokokcomaaArgR
import Derived.Test.YtccdciokokcomaaLate
namespace Go.Proofs.Ytccdciokokcomaa
open Go.RowKit

theorem enter6 (args : Array Value) (w : World) : (callFunc 6 args).run Try.prog w = .ok (.enter 6 args) w := run_callFunc_enter Try.func6 (by kernel_rfl) (by kernel_rfl) args w
theorem step_awake {ops : Array Oper} {a0 : Act} {sp : Nat → Spec} {k : Nat} {o : Oper} {w0 : World} (hg : Goes ops sp k o) (ho : o.op = .call { callee := .value (.func 6), args := #[], argTypes := #[] }) : StepOk Try.prog ops (UpC w0) a0 sp k o (is (.bool true)) :=
  step_call0 hg 6 #[] ho enter6 (fun w h => (awake_walk w).mono fun _ _ ⟨he, hb⟩ => ⟨_, he, (UpC.step h hb).1, hb, rfl⟩)
theorem run_rem8 (k : Nat) (W : World) : (binOp .rem 3 (.int .i64 (k : Nat)) (.int .i64 8)).run Try.prog W = .ok (.int .i64 ((k % 8 : Nat) : Int)) W := by
  have h2 : ((k : Int).tmod 8) = ((k % 8 : Nat) : Int) := (Int.ofNat_tmod k 8).symm
  simp only [binOp]
  simp [go_sem, h2]
theorem run_quo8 (k : Nat) (hk : k ≤ 1024) (W : World) : (binOp .quo 3 (.int .i64 (k : Nat)) (.int .i64 8)).run Try.prog W = .ok (.int .i64 ((k / 8 : Nat) : Int)) W := by
  have h2 : ((k : Int) / 8) = ((k / 8 : Nat) : Int) := (Int.natCast_ediv k 8).symm
  have h5 : IntKind.i64.wrap ((k : Int) / 8) = (k : Int) / 8 := by rw [h2]; generalize k / 8 = x at *; rw [IntKind.wrap_i64]; omega
  simp only [binOp]
  simp [go_sem]
  omega
theorem run_shl8 (j : Nat) (hj : j < 8) (W : World) : (binOp .shl 5 (.int .u8 1) (.int .i64 (j : Nat))).run Try.prog W = .ok (.int .u8 ((2 ^ j : Nat) : Int)) W := by
  have : j = 0 ∨ j = 1 ∨ j = 2 ∨ j = 3 ∨ j = 4 ∨ j = 5 ∨ j = 6 ∨ j = 7 := by omega
  rcases this with rfl | rfl | rfl | rfl | rfl | rfl | rfl | rfl <;> rfl
theorem run_xor8 (a b : Nat) (ha : a < 256) (hb : b < 256) (W : World) : (binOp .xor 5 (.int .u8 (a : Int)) (.int .u8 (b : Int))).run Try.prog W = .ok (.int .u8 ((a ^^^ b : Nat) : Int)) W := by
  rw [← u8_xor_nat a b ha hb]; rfl
theorem run_ixc (b cap i : Nat) (hi : i < 32) (w : World) : (Instr.indexAt 25 (.slice (some ⟨b, 0, none⟩) 32 cap) (.int .i64 (i : Int))).run Try.prog w = .ok (.pointer (some ⟨b, i, none⟩)) w := by
  have := run_ix25 b 0 cap i hi w
  rwa [Nat.zero_add] at this
theorem exec_store5 (ρ : Operand → Value) (o : Oper) {x y : Operand} (ho : o.op = .store 5 x y) (p : Addr) (n : Int) (m : Value) (h1 : ρ x = .pointer (some p)) (h2 : ρ y = .int .u8 n) (w : World) (hc : w.cell? p = some m) (hf : w.frozen? p = false) : (execOp ρ o).run Try.prog w = .ok .skip (w.setCell p (.int .u8 n)) := by
  have a3 := Try.isAgg5
  have z3 := Try.sizeOf5
  simp [execOp, ho, h1, h2, go_sem, hc, hf, z3]
theorem pow_lt8 (k : Nat) : 2 ^ (k % 8) < 256 := by
  have : 2 ^ (k % 8) ≤ 2 ^ 7 := Nat.pow_le_pow_right (by omega) (by omega)
  omega
def nth3 (a b c : Int) : Nat → Int
  | 0 => a
  | 1 => b
  | _ => c
/-- the bit that the i-th number turns -/
def bitAt (a b c : Int) (i : Nat) : Nat := (nth3 a b c i % 256).toNat
theorem bitAt_lt (a b c : Int) (i : Nat) : bitAt a b c i < 256 := by unfold bitAt; omega
theorem bitAt_val (a b c : Int) (i : Nat) : nth3 a b c i % 256 = ((bitAt a b c i : Nat) : Int) := by unfold bitAt; omega
def turned (l : List Nat) (a b c : Int) : Nat → List Nat
  | 0 => l
  | i + 1 => flip (turned l a b c i) (bitAt a b c i)
theorem turned_length (l : List Nat) (a b c : Int) : ∀ i, (turned l a b c i).length = l.length
  | 0 => rfl
  | i + 1 => by rw [turned, flip_length, turned_length l a b c i]
theorem three_cell {w : World} {g : Nat} {a b c : Int} (h : w.heap[g]? = some (.cells (threeA a b c) 47 (0, 0))) (i : Nat) (hi : i < 3) : w.cell? ⟨g, i, none⟩ = some (.int .i64 (nth3 a b c i)) := by
  rw [cell_of_row _ _ _ _ _ _ h]
  unfold threeA
  have : i = 0 ∨ i = 1 ∨ i = 2 := by omega
  rcases this with rfl | rfl | rfl <;> rfl
theorem own_empty (w : World) (B : Nat) (hB : B ≤ w.heap.size) : Own (w.alloc (.cells #[] 5)) B (.slice (some ⟨w.heap.size, 0, none⟩) 0 0) [] :=
  ⟨⟨by simp [byteV], .inr ⟨w.heap.size, 0, #[], rfl, hB, heap_alloc_new w _, Nat.le_refl _, by unfold maxLen; omega, by simp, by simp [byteV]⟩⟩, by simp⟩
theorem dec_turned (x : Blk) (hx : okB x = true) (a b c : Int) : dec (turned (enc x) a b c 3) = blk0 ∧ decE (turned (enc x) a b c 3) = 3 := by
  have h := turned_none x hx (bitAt a b c 0) (bitAt a b c 1) (bitAt a b c 2) (bitAt_lt _ _ _ _) (bitAt_lt _ _ _ _) (bitAt_lt _ _ _ _)
  have h2 : decOk (turned (enc x) a b c 3) = false := h
  unfold dec decE
  rw [h2]
  exact ⟨rfl, rfl⟩
theorem turned_ne (x : Blk) (hx : okB x = true) (hs : x.sum < 4294967296) (a b c : Int) : decide (turned (enc x) a b c 3 = enc x) = false :=
  decide_eq_false (flips_ne x hx hs (bitAt a b c 0) (bitAt a b c 1) (bitAt a b c 2) (bitAt_lt _ _ _ _) (bitAt_lt _ _ _ _) (bitAt_lt _ _ _ _))
theorem dec_enc (x : Blk) (hx : okB x = true) (hs : x.sum < 4294967296) : dec (enc x) = x ∧ decE (enc x) = 0 := by
  have h := decOk_enc x hx hs
  unfold dec decE
  rw [h]
  exact ⟨read_enc x hx hs, rfl⟩
theorem enc_vals (x : Blk) (h : okB x = true) : encL x = enc x ∧ encE x = 0 := by unfold encL encE; rw [h]; exact ⟨rfl, rfl⟩
theorem enc_vals0 (x : Blk) (h : okB x = false) : encL x = [] ∧ encE x = 1 := by unfold encL encE; rw [h]; exact ⟨rfl, rfl⟩
section
variable {ops : Array Oper} {rest : List Oper} {o : Oper} {a : Act} {w : World} {Q : Exit → Act → World → Prop}
theorem arm_str (hgd : o.guard = none) (x : Operand) (ho : o.op = .convert 25 9 x) (l : List Nat) (u : Value) (hx : a.eval x = u) (hu : isBytes l u w)
    (h : wpList Try.prog ops Q rest (a.put o.dst (.string (str l))) w) : wpList Try.prog ops Q (o :: rest) a w :=
  wpList_plain hgd fun K hK => by
    unfold Oper.wp
    simp only [execOp, ho, hx, Sem.run_bind, conv_str hu, Result.andThen]
    exact hK _ _ h
end
/-- what lies there while a block's bytes are turned -/
structure BackK (w0 : World) (x : Blk) (a b c : Int) (W : World) : Prop where
  bx : BlkAt W 24 w0.heap.size x
  th : W.heap[w0.heap.size + 1]? = some (.cells (threeA a b c) 47 (0, 0))
  below : Below w0.heap.size w0 W
theorem BackK.up {w0 W W' : World} {x : Blk} {a b c : Int} (h : BackK w0 x a b c W) (hb : Below W.heap.size W W') : BackK w0 x a b c W' :=
  ⟨h.bx.below hb, (hb.block _ (Array.getElem?_eq_some_iff.1 h.th).1).trans h.th, below_trans h.below hb⟩
theorem BackK.start (w : World) (x : Blk) (a b c : Int) : BackK w x a b c ((w.alloc (.cells (blkA x) 24)).alloc (.cells (threeA a b c) 47)) :=
  ⟨(BlkAt.new w 24 x).below (below_alloc _ _), by have := heap_alloc_new (w.alloc (.cells (blkA x) 24)) (.cells (threeA a b c) 47); simpa using this, below_trans (below_alloc _ _) (below_alloc _ _)⟩
end Go.Proofs.Ytccdciokokcomaa
