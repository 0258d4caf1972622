/- Rows of bytes that a call makes and fills. -/
import Derived.Test.YtcoabmnekccdpaaSl
import Derived.Test.YtcoabmnekccdpaaPlain
namespace Go.Proofs.Ytcoabmnekccdpaa
open Go.RowKit

theorem info5 : (Try.prog.info? 5).map (fun i => (i.zero, i.size, i.bytes)) = some (some (.int .u8 0), 1, 1) := by kernel_rfl
theorem make22 (n : Nat) (hn : n ≤ 1099511627776) (w : World) :
    (Instr.makeSlice 22 (.int .i64 (n : Int)) (.int .i64 (n : Int))).run Try.prog w = .ok (.slice (some ⟨w.heap.size, 0, none⟩) n n) (w.alloc (.cells (byteCells (List.replicate n 0)) 5)) := by
  obtain ⟨i, hi, hz, hs, hb⟩ := info_parts info5
  have h := run_make (P := Try.prog) w 22 5 i (.int .u8 0) Try.underlying22 hi hz .i64 .i64 (n : Int) (n : Int) (by omega) (by omega) (by rw [hb]; omega) (by omega)
  have e : madeCells (Value.int IntKind.u8 0).cells ((n : Int).toNat * i.size) = byteCells (List.replicate n 0) := by
    rw [hs]
    apply Array.toList_inj.1
    rw [show (Value.int IntKind.u8 0).cells = #[.int .u8 0] from rfl, toList_madeCells_one]
    simp [byteCells]
  rw [e] at h
  simpa using h

def fnList (n : Nat) (f : Nat → Nat) : List Nat := (List.range n).map f
theorem fnList_length (n : Nat) (f : Nat → Nat) : (fnList n f).length = n := by simp [fnList]
theorem fnList_get (n : Nat) (f : Nat → Nat) (i : Nat) (h : i < n) : (fnList n f).getD i 0 = f i := by
  simp [fnList, List.getD_eq_getElem?_getD, h]
theorem fnCells_get (n : Nat) (f : Nat → Nat) (i : Nat) (h : i < n) : (byteCells (fnList n f))[i]? = some (.int .u8 (f i : Nat)) := by
  rw [byteCells_get _ i (by rw [fnList_length]; exact h), fnList_get n f i h]
theorem byteCells_size (l : List Nat) : (byteCells l).size = l.length := by simp [byteCells]
theorem fnCells_set (n : Nat) (f g : Nat → Nat) (k v : Nat) (hv : g k = v) (hg : ∀ i, i ≠ k → g i = f i) : (byteCells (fnList n f)).setIfInBounds k (.int .u8 (v : Int)) = byteCells (fnList n g) := by
  apply Array.ext_getElem?
  intro i
  by_cases hi : i < n
  · rw [Array.getElem?_setIfInBounds, fnCells_get _ _ i hi, fnCells_get _ _ i hi, byteCells_size, fnList_length]
    by_cases h : k = i
    · subst h; simp [hi, hv]
    · rw [if_neg h, hg i (fun e => h e.symm)]
  · rw [Array.getElem?_eq_none (by simp [byteCells_size, fnList_length]; omega), Array.getElem?_eq_none (by simp [byteCells_size, fnList_length]; omega)]
theorem fnList_congr (n : Nat) (f g : Nat → Nat) (h : ∀ i, i < n → f i = g i) : fnList n f = fnList n g := List.map_congr_left fun i hi => h i (by simpa using hi)
theorem replicate_fn (n : Nat) : List.replicate n 0 = fnList n (fun _ => 0) := by
  apply List.ext_getElem
  · simp [fnList]
  · intro i h1 h2; simp [fnList]
theorem xorL_fn (a b : List Nat) (n : Nat) (ha : n ≤ a.length) (hb : n ≤ b.length) : fnList n (fun i => a.getD i 0 ^^^ b.getD i 0) = xorL (a.take n) (b.take n) := by
  apply List.ext_getElem
  · rw [fnList_length, xorL_length _ _ (by simp; omega)]; simp; omega
  · intro i h1 h2
    rw [fnList_length] at h1
    simp [fnList, xorL, List.getD_eq_getElem?_getD, show i < a.length by omega, show i < b.length by omega]
theorem byte_xor (x y : Nat) (hx : x < 256) (hy : y < 256) : bits .xor .u8 (x : Int) (y : Int) = ((x ^^^ y : Nat) : Int) := u8_xor_nat x y hx hy

theorem xorL_byte : ∀ (a b : List Nat), (∀ x ∈ a, x < 256) → (∀ x ∈ b, x < 256) → ∀ x ∈ xorL a b, x < 256
  | [], _, _, _, x, hx => by simp [xorL] at hx
  | _ :: _, [], _, _, x, hx => by simp [xorL] at hx
  | y :: a, z :: b, ha, hb, x, hx => by
    simp only [xorL, List.zipWith_cons_cons, List.mem_cons] at hx
    rcases hx with rfl | hx
    · exact xor_lt8 (ha y (by simp)) (hb z (by simp))
    · exact xorL_byte a b (fun x h => ha x (by simp [h])) (fun x h => hb x (by simp [h])) x hx
theorem run_xor32 (A B : Nat) (hA : A < 4294967296) (hB : B < 4294967296) (w : World) : (binOp .xor 23 (.int .u32 (A : Int)) (.int .u32 (B : Int))).run Try.prog w = .ok (.int .u32 ((A ^^^ B : Nat) : Int)) w := by
  rw [← u32_xor_nat A B hA hB]; rfl

/-- a made row of bytes in a region -/
theorem step_make {ops : Array Oper} {I : World → Prop} {a0 : Act} {sp : Nat → Spec} {k : Nat} {o : Oper} {w0 : World} (hI : I = fun w => Below w0.heap.size w0 w) (hg : Goes ops sp k o) (n : Nat) (hn : n ≤ 1099511627776) (x y : Operand) (ho : o.op = .makeSlice 22 x y)
    (hx : OpIs ops I a0 sp k x (is (.int .i64 (n : Int)))) (hy : OpIs ops I a0 sp k y (is (.int .i64 (n : Int)))) : StepOk Try.prog ops I a0 sp k o (isNew w0.heap.size (List.replicate n 0)) := by
  subst hI
  refine step_run hg fun a w K => ?_
  have h1 : a.eval x = .int .i64 (n : Int) := hx a w K
  have h2 : a.eval y = .int .i64 (n : Int) := hy a w K
  have hb := bytes_new w (List.replicate n 0) (by simp +contextual) 5 (0, 0)
  refine ⟨_, _, by simp only [execOp, ho, h1, h2, Sem.run_bind, make22 n hn w, Result.andThen]; rfl, K.inv.alloc K.inv.size _, ext_of_below (belowAlloc w _), w.heap.size, n, by simp, by simp, K.inv.size, hb⟩
end Go.Proofs.Ytcoabmnekccdpaa
