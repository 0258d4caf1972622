/- A block and a row of three numbers as arguments. -/
import Derived.Test.YtccdciokokcomaaDec
import Derived.ProofKit
import Derived.OpenShut
import Derived.WideShapes
namespace Go.Proofs.Ytccdciokokcomaa
open Go.RowKit Go.ChangeShapes Go.WideShapes
section
variable {H : Type} {enc : TypeId × Value → H} {w : World} {base : Nat} {spare : Nat → Bool} {held : Bool}
theorem int_cell {m : Nat} {cs : List Value} {x : DataW H × List MemPlace} {i : Nat} (h : DataW.trod enc Try.prog w base spare held m 3 ((cs.drop i).take (Try.prog.cellsOf 3)) = some x) : ∃ n, cs[i]? = some (.int .i64 n) := by
  rw [show Try.prog.cellsOf 3 = 1 by kernel_rfl] at h
  obtain ⟨n, hn, _⟩ := DataW.trod_int Try.underlying3 h
  refine ⟨n, ?_⟩
  have := congrArg (fun l => l[0]?) hn
  simp [List.getElem?_drop] at this
  exact this
theorem u32_cell {m : Nat} {cs : List Value} {x : DataW H × List MemPlace} {i : Nat} (h : DataW.trod enc Try.prog w base spare held m 22 ((cs.drop i).take (Try.prog.cellsOf 22)) = some x) : ∃ n : Nat, n < 4294967296 ∧ cs[i]? = some (.int .u32 (n : Int)) := by
  rw [show Try.prog.cellsOf 22 = 1 by kernel_rfl] at h
  obtain ⟨n, hn, _, h2⟩ := DataW.trod_int Try.underlying22 h
  have h3 : 0 ≤ n ∧ n < 4294967296 := by
    simp [Lit.wf, IntKind.min, IntKind.max, IntKind.signed, IntKind.bits] at h2
    omega
  obtain ⟨k, rfl⟩ := Int.eq_ofNat_of_zero_le h3.1
  refine ⟨k, by omega, ?_⟩
  have := congrArg (fun l => l[0]?) hn
  simp [List.getElem?_drop] at this
  exact this
theorem bool_cell {m : Nat} {cs : List Value} {x : DataW H × List MemPlace} {i : Nat} (h : DataW.trod enc Try.prog w base spare held m 4 ((cs.drop i).take (Try.prog.cellsOf 4)) = some x) : ∃ b : Bool, cs[i]? = some (.bool b) := by
  rw [show Try.prog.cellsOf 4 = 1 by kernel_rfl] at h
  obtain ⟨b, hn, _⟩ := DataW.trod_bool Try.underlying4 h
  refine ⟨b, ?_⟩
  have := congrArg (fun l => l[0]?) hn
  simp [List.getElem?_drop] at this
  exact this
theorem blk_of_cells {nm : Nat} {cs : List Value} {x : DataW H × List MemPlace} (h : DataW.trod enc Try.prog w base spare held nm 24 cs = some x) : ∃ a : Blk, cs = (blkA a).toList ∧ a.sum < 4294967296 := by
  obtain ⟨xs, n, _, _, hl, hxl, hf⟩ := DataW.trod_struct Try.underlying24 h
  rw [show Try.prog.cellsOf 24 = 6 by kernel_rfl] at hl
  have hx : xs.length = 6 := hxl
  have y : ∀ i, i < 6 → ∃ y, xs[i]? = some y := fun i hi => ⟨_, List.getElem?_eq_getElem (by omega)⟩
  obtain ⟨_, y0⟩ := y 0 (by omega)
  obtain ⟨_, y1⟩ := y 1 (by omega)
  obtain ⟨_, y2⟩ := y 2 (by omega)
  obtain ⟨_, y3⟩ := y 3 (by omega)
  obtain ⟨_, y4⟩ := y 4 (by omega)
  obtain ⟨_, y5⟩ := y 5 (by omega)
  have y0 := (hf 0 _ rfl).trans y0
  have y1 := (hf 1 _ rfl).trans y1
  have y2 := (hf 2 _ rfl).trans y2
  have y3 := (hf 3 _ rfl).trans y3
  have y4 := (hf 4 _ rfl).trans y4
  have y5 := (hf 5 _ rfl).trans y5
  obtain ⟨n0, h0⟩ : ∃ n, cs[0]? = some (.int .i64 n) := int_cell y0
  obtain ⟨n1, h1⟩ : ∃ n, cs[1]? = some (.int .i64 n) := int_cell y1
  obtain ⟨n2, h2⟩ : ∃ b, cs[2]? = some (.bool b) := bool_cell y2
  obtain ⟨n3, h3⟩ : ∃ n, cs[3]? = some (.int .i64 n) := int_cell y3
  obtain ⟨n4, h4⟩ : ∃ n, cs[4]? = some (.int .i64 n) := int_cell y4
  obtain ⟨n5, h6, h5⟩ : ∃ n : Nat, n < 4294967296 ∧ cs[5]? = some (.int .u32 (n : Int)) := u32_cell y5
  refine ⟨⟨n0, n1, n2, n3, n4, n5⟩, ?_, h6⟩
  apply List.ext_getElem?
  intro i
  by_cases hi : i < 6
  · have : i = 0 ∨ i = 1 ∨ i = 2 ∨ i = 3 ∨ i = 4 ∨ i = 5 := by omega
    unfold blkA Blk.cells
    rcases this with rfl | rfl | rfl | rfl | rfl | rfl
    · rw [h0]; rfl
    · rw [h1]; rfl
    · rw [h2]; rfl
    · rw [h3]; rfl
    · rw [h4]; rfl
    · rw [h5]; rfl
  · rw [List.getElem?_eq_none (by omega), List.getElem?_eq_none (by rw [Array.length_toList, blkA_size]; omega)]
theorem arg_blk {r : Reach} {b0 : Nat} {v : Value} {d : DataW H} {p : List MemPlace} (hv : Value.okWide Try.prog w r b0 24 v) (h : DataW.Trod enc Try.prog w base spare held 24 v d p) : ∃ a : Blk, v = .agg (blkA a) ∧ a.sum < 4294967296 := by
  obtain ⟨cs, rfl, _⟩ := okWide_struct Try.underlying24 hv
  obtain ⟨m, hm⟩ := h
  obtain ⟨a, hcs, hs⟩ := blk_of_cells hm
  exact ⟨a, by congr 1; exact Array.toList_inj.1 hcs, hs⟩
@[irreducible] def threeA (a b c : Int) : Array Value := #[.int .i64 a, .int .i64 b, .int .i64 c]
theorem threeA_size (a b c : Int) : (threeA a b c).size = 3 := by unfold threeA; rfl
theorem okWide_array {P : Program} {r : Reach} {b0 : Nat} {t : TypeId} {v : Value} {n : Nat} {e : TypeId} (ht : P.underlying t = some (.array n e)) (h : Value.okWide P w r b0 t v) : ∃ cs, v = .agg cs := by
  simp only [Value.okWide, ht] at h
  obtain ⟨cs, h1, h2⟩ := h
  exact ⟨cs, h1⟩
theorem arg_three {r : Reach} {b0 : Nat} {v : Value} {d : DataW H} {p : List MemPlace} (hv : Value.okWide Try.prog w r b0 47 v) (h : DataW.Trod enc Try.prog w base spare held 47 v d p) : ∃ a b c : Int, v = .agg (threeA a b c) := by
  obtain ⟨cs, rfl⟩ := okWide_array Try.underlying47 hv
  obtain ⟨m, hm⟩ := h
  obtain ⟨xs, n, _, _, hl, hxl, hf⟩ := DataW.trod_array Try.underlying47 hm
  rw [show Try.prog.cellsOf 47 = 3 by kernel_rfl] at hl
  have hl : cs.toList.length = 3 := hl
  have hx : xs.length = 3 := hxl
  have g : ∀ i (hi : i < 3), ∃ n, cs.toList[i]? = some (.int .i64 n) := fun i hi => by
    obtain ⟨y, hy⟩ : ∃ y, xs[i]? = some y := ⟨_, List.getElem?_eq_getElem (by omega)⟩
    have h1 := (hf i hi).trans hy
    rw [show i * Try.prog.cellsOf 3 = i by rw [show Try.prog.cellsOf 3 = 1 by kernel_rfl, Nat.mul_one]] at h1
    exact int_cell h1
  obtain ⟨n0, h0⟩ := g 0 (by omega)
  obtain ⟨n1, h1⟩ := g 1 (by omega)
  obtain ⟨n2, h2⟩ := g 2 (by omega)
  refine ⟨n0, n1, n2, ?_⟩
  congr 1
  apply Array.toList_inj.1
  apply List.ext_getElem?
  intro i
  by_cases hi : i < 3
  · have : i = 0 ∨ i = 1 ∨ i = 2 := by omega
    unfold threeA
    rcases this with rfl | rfl | rfl
    · rw [h0]; rfl
    · rw [h1]; rfl
    · rw [h2]; rfl
  · rw [List.getElem?_eq_none (by omega), List.getElem?_eq_none (by rw [Array.length_toList, threeA_size]; omega)]
end
end Go.Proofs.Ytccdciokokcomaa
