/- A spot, a triangle as arguments. -/
import Derived.Test.YtgkidgpdgcdgnaaCells
import Derived.OpenShut
import Derived.WideShapes
namespace Go.Proofs.Ytgkidgpdgcdgnaa
open Go.RowKit Go.ChangeShapes Go.WideShapes
section
variable {H : Type} {enc : TypeId × Value → H} {w : World} {base : Nat} {spare : Nat → Bool} {held : Bool}
theorem int_cell {m : Nat} {cs : List Value} {x : DataW H × List MemPlace} {i : Nat} (h : DataW.trod enc Try.prog w base spare held m 3 ((cs.drop i).take (Try.prog.cellsOf 3)) = some x) : ∃ n, cs[i]? = some (.int .i64 n) := by
  rw [show Try.prog.cellsOf 3 = 1 by kernel_rfl] at h
  obtain ⟨n, hn, _⟩ := DataW.trod_int Try.underlying3 h
  refine ⟨n, ?_⟩
  have := congrArg (fun l => l[0]?) hn
  simp [List.getElem?_drop] at this
  exact this
theorem spot_of_cells {m : Nat} {cs : List Value} {x : DataW H × List MemPlace} (h : DataW.trod enc Try.prog w base spare held m 23 cs = some x) : ∃ a : Spot, cs = (spotA a).toList := by
  obtain ⟨xs, n, _, _, hl, hxl, hf⟩ := DataW.trod_struct Try.underlying23 h
  rw [show Try.prog.cellsOf 23 = 6 by kernel_rfl] at hl
  have hx : xs.length = 6 := hxl
  have g : ∀ i (hi : i < 6), ∃ n, cs[i]? = some (.int .i64 n) := fun i hi => by
    obtain ⟨y, hy⟩ : ∃ y, xs[i]? = some y := ⟨_, List.getElem?_eq_getElem (by omega)⟩
    have : i = 0 ∨ i = 1 ∨ i = 2 ∨ i = 3 ∨ i = 4 ∨ i = 5 := by omega
    rcases this with rfl | rfl | rfl | rfl | rfl | rfl
    · exact int_cell ((hf 0 _ rfl).trans hy)
    · exact int_cell ((hf 1 _ rfl).trans hy)
    · exact int_cell ((hf 2 _ rfl).trans hy)
    · exact int_cell ((hf 3 _ rfl).trans hy)
    · exact int_cell ((hf 4 _ rfl).trans hy)
    · exact int_cell ((hf 5 _ rfl).trans hy)
  obtain ⟨n0, h0⟩ := g 0 (by omega)
  obtain ⟨n1, h1⟩ := g 1 (by omega)
  obtain ⟨n2, h2⟩ := g 2 (by omega)
  obtain ⟨n3, h3⟩ := g 3 (by omega)
  obtain ⟨n4, h4⟩ := g 4 (by omega)
  obtain ⟨n5, h5⟩ := g 5 (by omega)
  refine ⟨⟨n0, n1, n2, n3, n4, n5⟩, ?_⟩
  apply List.ext_getElem?
  intro i
  by_cases hi : i < 6
  · have : i = 0 ∨ i = 1 ∨ i = 2 ∨ i = 3 ∨ i = 4 ∨ i = 5 := by omega
    unfold spotA
    rcases this with rfl | rfl | rfl | rfl | rfl | rfl
    · rw [h0]; rfl
    · rw [h1]; rfl
    · rw [h2]; rfl
    · rw [h3]; rfl
    · rw [h4]; rfl
    · rw [h5]; rfl
  · rw [List.getElem?_eq_none (by omega), List.getElem?_eq_none (by rw [Array.length_toList, spotA_size]; omega)]
theorem tri_split (a b c : Spot) : (triA a b c).toList = (spotA a).toList ++ ((spotA b).toList ++ (spotA c).toList) := by unfold triA triCells spotA; rfl
theorem tri_of_cells {m : Nat} {cs : List Value} {x : DataW H × List MemPlace} (h : DataW.trod enc Try.prog w base spare held m 24 cs = some x) : ∃ a b c : Spot, cs = (triA a b c).toList := by
  obtain ⟨xs, n, _, _, hl, hxl, hf⟩ := DataW.trod_array Try.underlying24 h
  rw [show Try.prog.cellsOf 24 = 18 by kernel_rfl] at hl
  rw [show Try.prog.cellsOf 23 = 6 by kernel_rfl] at hf
  have g : ∀ i (hi : i < 3), ∃ a, (cs.drop (i * 6)).take 6 = (spotA a).toList := fun i hi => by
    obtain ⟨y, hy⟩ : ∃ y, xs[i]? = some y := ⟨_, List.getElem?_eq_getElem (by omega)⟩
    exact spot_of_cells ((hf i hi).trans hy)
  obtain ⟨a, ha⟩ := g 0 (by omega)
  obtain ⟨b, hb⟩ := g 1 (by omega)
  obtain ⟨c, hc⟩ := g 2 (by omega)
  refine ⟨a, b, c, ?_⟩
  rw [tri_split, ← ha, ← hb, ← hc]
  simp only [Nat.zero_mul, Nat.one_mul, List.drop_zero]
  rw [List.take_of_length_le (l := cs.drop (2 * 6)) (by simp; omega)]
  have e1 : cs.drop 6 = (cs.drop 6).take 6 ++ (cs.drop 6).drop 6 := (List.take_append_drop 6 _).symm
  rw [List.drop_drop] at e1
  rw [show 2 * 6 = 6 + 6 from rfl, ← e1]
  exact (List.take_append_drop 6 cs).symm
theorem okWide_array {P : Program} {r : Reach} {b0 : Nat} {t : TypeId} {v : Value} {n : Nat} {e : TypeId} (ht : P.underlying t = some (.array n e)) (h : Value.okWide P w r b0 t v) : ∃ cs, v = .agg cs := by
  simp only [Value.okWide, ht] at h
  obtain ⟨cs, h1, h2⟩ := h
  exact ⟨cs, h1⟩
theorem arg_tri {r : Reach} {b0 : Nat} {v : Value} {d : DataW H} {p : List MemPlace} (hv : Value.okWide Try.prog w r b0 24 v) (h : DataW.Trod enc Try.prog w base spare held 24 v d p) : ∃ a b c : Spot, v = .agg (triA a b c) := by
  obtain ⟨cs, rfl⟩ := okWide_array Try.underlying24 hv
  obtain ⟨m, hm⟩ := h
  obtain ⟨a, b, c, hcs⟩ := tri_of_cells hm
  exact ⟨a, b, c, by congr 1; exact Array.toList_inj.1 hcs⟩
theorem arg_spot {r : Reach} {b0 : Nat} {v : Value} {d : DataW H} {p : List MemPlace} (hv : Value.okWide Try.prog w r b0 23 v) (h : DataW.Trod enc Try.prog w base spare held 23 v d p) : ∃ a : Spot, v = .agg (spotA a) := by
  obtain ⟨cs, rfl, _⟩ := okWide_struct Try.underlying23 hv
  obtain ⟨m, hm⟩ := h
  obtain ⟨a, hcs⟩ := spot_of_cells hm
  exact ⟨a, by congr 1; exact Array.toList_inj.1 hcs⟩
end
end Go.Proofs.Ytgkidgpdgcdgnaa
