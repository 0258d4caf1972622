/- A row of counts, a row of four spots; how often each number stands among the pixels. -/
import Derived.Test.YtgkidgpdgcdgnaaOps2
import Derived.Test.YtgkidgpdgcdgnaaLate
import Derived.Test.YtgkidgpdgcdgnaaShareP
import Derived.OwnWalk
import Derived.Deep.AppendLies
import Derived.Deep.CutRange
namespace Go.Proofs.Ytgkidgpdgcdgnaa
open Go.RowKit

@[irreducible] def numA (n : Nat) (f : Nat → Nat) : Array Value := ((List.range n).map fun i => Value.int .i64 (f i : Int)).toArray
theorem numA_size (n : Nat) (f : Nat → Nat) : (numA n f).size = n := by simp [numA]
theorem numA_get (n : Nat) (f : Nat → Nat) (i : Nat) (h : i < n) : (numA n f)[i]? = some (.int .i64 (f i : Int)) := by
  unfold numA
  simp [h]
theorem numA_set (n : Nat) (f : Nat → Nat) (k v : Nat) : (numA n f).setIfInBounds k (.int .i64 (v : Int)) = numA n (fun i => if i = k then v else f i) := by
  apply Array.ext_getElem?
  intro i
  by_cases hi : i < n
  · rw [numA_get _ _ _ hi]
    by_cases e : k = i
    · subst e
      simp [numA_size, hi]
    · rw [Array.getElem?_setIfInBounds_ne e, numA_get _ _ _ hi, if_neg (fun h => e h.symm)]
  · rw [Array.getElem?_eq_none (by simp [numA_size]; omega), Array.getElem?_eq_none (by simp [numA_size]; omega)]
theorem numA_congr (n : Nat) (f g : Nat → Nat) (h : ∀ i, i < n → f i = g i) : numA n f = numA n g := by
  apply Array.ext_getElem?
  intro i
  by_cases hi : i < n
  · rw [numA_get _ _ _ hi, numA_get _ _ _ hi, h i hi]
  · rw [Array.getElem?_eq_none (by simp [numA_size]; omega), Array.getElem?_eq_none (by simp [numA_size]; omega)]
def CntAt (w : World) (t g n : Nat) (f : Nat → Nat) : Prop := w.heap[g]? = some (.cells (numA n f) t (0, 0))
theorem CntAt.cell {w : World} {t g n : Nat} {f : Nat → Nat} (h : CntAt w t g n f) (i : Nat) (hi : i < n) : w.cell? ⟨g, i, none⟩ = some (.int .i64 ((f i : Nat) : Int)) := by
  rw [cell_of_row _ _ _ _ _ _ h]; exact numA_get _ _ _ hi
theorem CntAt.free {w : World} {t g n : Nat} {f : Nat → Nat} (h : CntAt w t g n f) (i : Nat) : w.frozen? ⟨g, i, none⟩ = false := frozen_of_row _ _ _ _ _ h
theorem CntAt.set {w : World} {t g n : Nat} {f : Nat → Nat} (h : CntAt w t g n f) (k v : Nat) : CntAt (w.setCell ⟨g, k, none⟩ (.int .i64 (v : Int))) t g n (fun i => if i = k then v else f i) := by
  unfold CntAt
  rw [setCell_row _ g k _ t _ h, numA_set]
theorem CntAt.below {w w' : World} {t g n : Nat} {f : Nat → Nat} (h : CntAt w t g n f) (hb : Below w.heap.size w w') : CntAt w' t g n f := (hb.block g (Array.getElem?_eq_some_iff.1 h).1).trans h
theorem CntAt.congr {w : World} {t g n : Nat} {f f' : Nat → Nat} (h : CntAt w t g n f) (he : ∀ i, i < n → f i = f' i) : CntAt w t g n f' := by
  unfold CntAt at *; rw [h, numA_congr n f f' he]
theorem made_one (z : Value) (hz : z.cells = #[z]) (n : Nat) : madeCells z.cells n = (List.replicate n z).toArray := by
  rw [hz]
  unfold madeCells
  apply Array.ext_getElem?
  intro i
  by_cases h : i < n
  · have : i % 1 = 0 := Nat.mod_one i
    simp [h, this]
  · simp [h]
theorem info3 : (Try.prog.info? 3).map (fun i => (i.zero, i.size, i.bytes)) = some (some (.int .i64 0), 1, 8) := by kernel_rfl
theorem make46 (n : Nat) (h : n ≤ 1024) (w : World) : (Instr.makeSlice 46 (.int .i64 (n : Int)) (.int .i64 (n : Int))).run Try.prog w = .ok (.slice (some ⟨w.heap.size, 0, none⟩) n n) (w.alloc (.cells (numA n (fun _ => 0)) 3)) := by
  obtain ⟨i, hi, hz, hs, hb⟩ := info_parts info3
  have := run_make (P := Try.prog) w 46 3 i (.int .i64 0) Try.underlying46 hi hz .i64 .i64 n n (by omega) (by omega) (by rw [hb]; omega) (by omega)
  rw [this, hs]
  simp only [Int.toNat_natCast, Nat.mul_one]
  rw [made_one _ (by rfl)]
  have e : (List.replicate n (Value.int .i64 0)).toArray = numA n (fun _ => 0) := by
    unfold numA
    congr 1
    apply List.ext_getElem?
    intro j
    by_cases hj : j < n
    · simp [hj]
    · simp [hj]
  rw [e]
/-- four spots -/
@[irreducible] def quadA (p q r s : Spot) : Array Value := #[.int .i64 p.x, .int .i64 p.y, .int .i64 p.z, .int .i64 p.w, .int .i64 p.u, .int .i64 p.v, .int .i64 q.x, .int .i64 q.y, .int .i64 q.z, .int .i64 q.w, .int .i64 q.u, .int .i64 q.v,
  .int .i64 r.x, .int .i64 r.y, .int .i64 r.z, .int .i64 r.w, .int .i64 r.u, .int .i64 r.v, .int .i64 s.x, .int .i64 s.y, .int .i64 s.z, .int .i64 s.w, .int .i64 s.u, .int .i64 s.v]
def QuadAt (w : World) (g : Nat) (p q r s : Spot) : Prop := w.heap[g]? = some (.cells (quadA p q r s) 42 (0, 0))
theorem QuadAt.below {w w' : World} {g : Nat} {p q r s : Spot} (h : QuadAt w g p q r s) (hb : Below w.heap.size w w') : QuadAt w' g p q r s := (hb.block g (Array.getElem?_eq_some_iff.1 h).1).trans h
theorem QuadAt.new (w : World) (p q r s : Spot) : QuadAt (w.alloc (.cells (quadA p q r s) 42)) w.heap.size p q r s := heap_alloc_new w _
def nth4 (p q r s : Spot) : Nat → Spot
  | 0 => p
  | 1 => q
  | 2 => r
  | _ => s
theorem QuadAt.r {w : World} {g : Nat} {p q r s : Spot} (h : QuadAt w g p q r s) (i : Nat) (hi : i < 4) : w.rangeAt g (i * 6) (spotA (nth4 p q r s i)).toList := fun j v hv => by
  have hj := (List.getElem?_eq_some_iff.1 hv).1
  rw [Array.length_toList, spotA_size] at hj
  rw [cell_of_row _ _ _ _ _ _ h, ← hv]
  unfold spotA quadA
  have h1 : i = 0 ∨ i = 1 ∨ i = 2 ∨ i = 3 := by omega
  have h2 : j = 0 ∨ j = 1 ∨ j = 2 ∨ j = 3 ∨ j = 4 ∨ j = 5 := by omega
  rcases h1 with rfl | rfl | rfl | rfl <;> rcases h2 with rfl | rfl | rfl | rfl | rfl | rfl <;> rfl
theorem run_idx42 (b i : Nat) (hi : i < 4) (W : World) : (Instr.indexAt 42 (.pointer (some ⟨b, 0, none⟩)) (.int .i64 (i : Nat))).run Try.prog W = .ok (.pointer (some ⟨b, i * 6, none⟩)) W := by
  have h1 : ¬ ((4 : Int) ≤ (i : Int)) := by omega
  simp [go_sem, h1]
theorem run_rem4 (i : Nat) (W : World) : (binOp .rem 3 (.int .i64 (i : Nat)) (.int .i64 4)).run Try.prog W = .ok (.int .i64 ((i % 4 : Nat) : Int)) W := by
  have := run_rem i 4 (by omega) W
  simpa using this
theorem run_idx46 (b n cap i : Nat) (hi : i < n) (W : World) : (Instr.indexAt 46 (.slice (some ⟨b, 0, none⟩) n cap) (.int .i64 (i : Nat))).run Try.prog W = .ok (.pointer (some ⟨b, i, none⟩)) W := by
  have h1 : ¬ (n ≤ i) := by omega
  simp [go_sem, h1]
theorem exec_store3 (ρ : Operand → Value) (o : Oper) {x y : Operand} (ho : o.op = .store 3 x y) (p : Addr) (n m : Int) (h1 : ρ x = .pointer (some p)) (h2 : ρ y = .int .i64 n) (w : World) (hc : w.cell? p = some (.int .i64 m)) (hf : w.frozen? p = false) : (execOp ρ o).run Try.prog w = .ok .skip (w.setCell p (.int .i64 n)) := by
  have a3 := Try.isAgg3
  have z3 := Try.sizeOf3
  simp [execOp, ho, h1, h2, go_sem, hc, hf, z3]
/-! ### how often -/
def keyW (w : Nat) (x : Hit) : Nat := (x.y * (w : Int) + x.x).toNat
def keysOf (w : Nat) (l : List Hit) : List Nat := l.map (keyW w)
theorem key_at {t : Spot × Spot × Spot} {w k : Nat} {x : Hit} (h : pixel t w k = some x) : keyW w x = k ∧ 0 ≤ x.x ∧ 0 ≤ x.y ∧ x.y * (w : Int) + x.x = (k : Int) := by
  obtain ⟨_, rfl⟩ := pixel_some h
  have e : ((k / w : Nat) : Int) * (w : Int) + ((k % w : Nat) : Int) = (k : Int) := by
    have := Nat.div_add_mod k w
    rw [← Int.natCast_mul, ← Int.natCast_add, Nat.mul_comm]; rw [this]
  refine ⟨?_, Int.natCast_nonneg _, Int.natCast_nonneg _, e⟩
  unfold keyW
  simp only
  rw [e]; simp
theorem keys_pixTo (t : Spot × Spot × Spot) (w n : Nat) : keysOf w (pixTo t w n) = (List.range n).filter (fun k => covered t.1 t.2.1 t.2.2 ((k % w : Nat) : Int) ((k / w : Nat) : Int)) := by
  induction n with
  | zero => rfl
  | succ n ih =>
    rw [pixTo_succ, List.range_succ, List.filter_append, ← ih]
    unfold keysOf
    rw [List.map_append]
    congr 1
    cases h : pixel t w n with
    | none =>
      rw [pixel_none] at h
      show [] = _
      rw [List.filter_cons_of_neg (by rw [h]; simp), List.filter_nil]
    | some x =>
      have h2 := (pixel_some h).1
      have h3 := (key_at h).1
      have e : List.filter (fun k => covered t.1 t.2.1 t.2.2 ((k % w : Nat) : Int) ((k / w : Nat) : Int)) [n] = [n] := by
        rw [List.filter_cons_of_pos (by exact h2), List.filter_nil]
      rw [e]
      simp [h3]
theorem count_keys (t : Spot × Spot × Spot) (w n k : Nat) (hk : k < n) : (keysOf w (pixTo t w n)).count k = b2n (covered t.1 t.2.1 t.2.2 ((k % w : Nat) : Int) ((k / w : Nat) : Int)) := by
  rw [keys_pixTo]
  have hnd : ((List.range n).filter (fun k => covered t.1 t.2.1 t.2.2 ((k % w : Nat) : Int) ((k / w : Nat) : Int))).Nodup := (List.nodup_range).sublist List.filter_sublist
  rw [hnd.count]
  unfold b2n
  simp only [List.mem_filter, List.mem_range]
  by_cases h : covered t.1 t.2.1 t.2.2 ((k % w : Nat) : Int) ((k / w : Nat) : Int) = true
  · rw [if_pos ⟨hk, h⟩, if_pos h]
  · rw [if_neg (fun hh => h hh.2), if_neg h]
end Go.Proofs.Ytgkidgpdgcdgnaa
