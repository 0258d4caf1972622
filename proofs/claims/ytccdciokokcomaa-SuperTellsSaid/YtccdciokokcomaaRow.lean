/- Rows of bytes that a call makes and lengthens; slices of bytes as they are known in a world. -/
import Derived.Test.YtccdciokokcomaaText
import Derived.Test.YtccdciokokcomaaBase
import Derived.Test.YtccdciokokcomaaHead
import Derived.Lib.SlBytesConst
import Derived.ArgAppend
import Derived.Deep.AppendLies
namespace Go.Proofs.Ytccdciokokcomaa
open Go.RowKit

theorem mixed : Try.prog.follows .mixedOrders = true := by kernel_rfl
theorem below_trans {w w1 w2 : World} (h : Below w.heap.size w w1) (k : Below w1.heap.size w1 w2) : Below w.heap.size w w2 := h.trans (k.mono h.size)
theorem below_alloc (w : World) (o : Obj) : Below w.heap.size w (w.alloc o) := (Below.refl _ w).alloc (Nat.le_refl _) o
/-- worlds that have grown since w0 -/
def UpC (w0 : World) : Cls where
  inv := fun W => Below w0.heap.size w0 W
  rel := fun W W' => Below W.heap.size W W'
  refl := fun _ => Below.refl _ _
  trans := fun _ _ _ h k => below_trans h k
theorem UpC.start (w : World) : UpC w w.drew := ⟨rfl, rfl, rfl, Nat.le_refl _, fun _ _ => rfl⟩
theorem UpC.step {w0 W W' : World} (h : UpC w0 W) (hb : Below W.heap.size W W') : UpC w0 W' ∧ (UpC w0).rel W W' := ⟨below_trans h hb, hb⟩

/-- a slice of these bytes -/
def isBytes (l : List Nat) : Spec := fun v w => ∃ A cap, v = .slice A l.length cap ∧ l.length ≤ cap ∧ Bytes w w.heap.size A l
theorem Bytes.up {w w' : World} {A : Option Addr} {l : List Nat} (h : Bytes w w.heap.size A l) (hb : Below w.heap.size w w') : Bytes w' w'.heap.size A l := (h.below hb).mono hb.size
theorem isBytes.up {w w' : World} {v : Value} {l : List Nat} (h : isBytes l v w) (hb : Below w.heap.size w w') : isBytes l v w' := by
  obtain ⟨A, cap, h1, h2, h3⟩ := h
  exact ⟨A, cap, h1, h2, h3.up hb⟩
theorem stable_isBytes {w0 : World} (l : List Nat) : Stable (UpC w0) (isBytes l) := fun _ _ _ e h => h.up e
def byteCells (l : List Nat) : Array Value := (l.map fun (b : Nat) => Value.int .u8 (b : Int)).toArray
theorem byteCells_get (l : List Nat) (i : Nat) (h : i < l.length) : (byteCells l)[i]? = some (.int .u8 (l.getD i 0 : Nat)) := by
  simp [byteCells, List.getD_eq_getElem?_getD, h]
theorem bytes_new (w : World) (l : List Nat) (hl : ∀ x ∈ l, x < 256) (t : TypeId) (fr : Nat × Nat) : Bytes (w.alloc (.cells (byteCells l) t fr)) (w.alloc (.cells (byteCells l) t fr)).heap.size (some ⟨w.heap.size, 0, none⟩) l :=
  ⟨hl, fun i hi => ⟨w.heap.size, 0, rfl, by simp, by rw [Nat.zero_add, cellNew, byteCells_get l i hi]⟩⟩

def byteV (l : List Nat) : List Value := l.map fun (b : Nat) => Value.int .u8 (b : Int)
theorem byteV_length (l : List Nat) : (byteV l).length = l.length := by simp [byteV]
theorem byteV_append (a b : List Nat) : byteV (a ++ b) = byteV a ++ byteV b := by simp [byteV]
theorem byteV_one (l : List Nat) : ∀ u ∈ byteV l, u.oneCell' = true := fun u hu => by
  simp only [byteV, List.mem_map] at hu
  obtain ⟨b, _, rfl⟩ := hu
  rfl
theorem byteV_get (l : List Nat) (j : Nat) (u : Value) (h : (byteV l)[j]? = some u) : j < l.length ∧ u = .int .u8 (l.getD j 0 : Nat) := by
  have hj := (List.getElem?_eq_some_iff.1 h).1
  rw [byteV_length] at hj
  refine ⟨hj, ?_⟩
  simp only [byteV, List.getElem?_map, List.getElem?_eq_getElem hj, Option.map_some, Option.some.injEq] at h
  rw [← h, List.getD_eq_getElem?_getD, List.getElem?_eq_getElem hj]
  rfl
/-- a row of bytes of a call's own, in a block from B on -/
structure Own (w : World) (B : Nat) (v : Value) (l : List Nat) : Prop where
  row : w.ownsRow B 5 1 v l.length (byteV l)
  byte : ∀ x ∈ l, x < 256
theorem Own.nil (w : World) (B : Nat) : Own w B (.slice none 0 0) [] := ⟨World.ownsRow_nil _ _ _ _, by simp⟩
theorem Own.mono {w : World} {B B' : Nat} {v : Value} {l : List Nat} (h : Own w B v l) (hB : B' ≤ B) : Own w B' v l := by
  refine ⟨⟨h.row.1, ?_⟩, h.byte⟩
  rcases h.row.2 with h2 | ⟨g, cap, cur, h1, h2, h3⟩
  · exact .inl h2
  · exact .inr ⟨g, cap, cur, h1, by omega, h3⟩
theorem Own.below {w w' : World} {B : Nat} {v : Value} {l : List Nat} (h : Own w B v l) (hb : Below w.heap.size w w') : Own w' B v l := by
  refine ⟨⟨h.row.1, ?_⟩, h.byte⟩
  rcases h.row.2 with h2 | ⟨g, cap, cur, h1, h2, h3, h4⟩
  · exact .inl h2
  · exact .inr ⟨g, cap, cur, h1, h2, (hb.block g (Array.getElem?_eq_some_iff.1 h3).1).trans h3, h4⟩
/-- what such a row looks like -/
theorem Own.bytes {w : World} {B : Nat} {v : Value} {l : List Nat} (h : Own w B v l) :
    ∃ A cap, v = .slice A l.length cap ∧ l.length ≤ cap ∧ Bytes w w.heap.size A l ∧ ∀ b off, A = some ⟨b, off, none⟩ → B ≤ b ∧ off = 0 := by
  rcases h.row.2 with ⟨h1, h2⟩ | ⟨g, cap, cur, h1, h2, h3, h4, h5, h6, h7⟩
  · refine ⟨none, 0, by rw [h1, h2], by omega, ?_, fun b off e => by cases e⟩
    have e : l = [] := List.eq_nil_of_length_eq_zero h2
    subst e; exact Bytes.nil _ _ _
  · refine ⟨_, cap, h1, h4, ⟨h.byte, fun i hi => ⟨g, 0, rfl, (Array.getElem?_eq_some_iff.1 h3).1, ?_⟩⟩, fun b off e => by simp only [Option.some.injEq, Addr.mk.injEq, and_true] at e; omega⟩
    rw [Nat.zero_add, cell_of_row _ _ _ _ _ _ h3]
    have h8 : (byteV l)[i]? = some (.int .u8 (l.getD i 0 : Nat)) := by
      simp only [byteV, List.getElem?_map, List.getElem?_eq_getElem hi, Option.map_some, List.getD_eq_getElem?_getD, Option.getD_some]
    rw [← h7, List.getElem?_take_of_lt (by omega)] at h8
    simpa using h8
theorem Own.is {w : World} {B : Nat} {v : Value} {l : List Nat} (h : Own w B v l) : isBytes l v w := by
  obtain ⟨A, cap, h1, h2, h3, _⟩ := h.bytes
  exact ⟨A, cap, h1, h2, h3⟩
theorem info5 : (Try.prog.info? 5).map (fun i => (i.zero, i.size, i.bytes)) = some (some (.int .u8 0), 1, 1) := by kernel_rfl
/-- the cells of a slice of bytes -/
theorem news_of {w : World} {B : Nat} {A : Option Addr} {l : List Nat} (h : Bytes w B A l) (hl : 0 < l.length) : ∃ ad, A = some ad ∧ ∀ j u, (byteV l)[j]? = some u → w.cell? (ad.add j) = some u := by
  obtain ⟨b, off, rfl, _, _⟩ := h.cell 0 hl
  refine ⟨_, rfl, fun j u hu => ?_⟩
  obtain ⟨hj, rfl⟩ := byteV_get l j u hu
  obtain ⟨b', off', e, _, hc⟩ := h.cell j hj
  simp only [Option.some.injEq, Addr.mk.injEq, and_true] at e
  obtain ⟨rfl, rfl⟩ := e
  have hadd : (⟨b, off, none⟩ : Addr).add j = ⟨b, off + j, none⟩ := by unfold Addr.add; split <;> simp_all
  rw [hadd]; exact hc
theorem grown_below {w w' : World} {B : Nat} {v : Value} {l : List Nat} (h : Own w B v l) (hg : w.grownBy w' v.ownBlock) (hB : B ≤ w.heap.size) : Below B w w' :=
  (Below.refl _ _).grown hg hB fun k hk => (h.row.lt k hk).1
section
variable {ops : Array Oper} {rest : List Oper} {o : Oper} {a : Act} {w : World} {Q : Exit → Act → World → Prop}
/-- append to a row of the call's own -/
theorem arm_append (hgd : o.guard = none) (x y : Operand) (ho : o.op = .call { callee := .builtin .append, args := #[x, y], argTypes := #[25, 25] }) (B : Nat) (v u : Value) (l l2 : List Nat) (hx : a.eval x = v) (hy : a.eval y = u) (hv : Own w B v l) (hu : isBytes l2 u w)
    (hl : 0 < l2.length) (hn : l.length + l2.length ≤ 100000) (hB : B ≤ w.heap.size)
    (h : ∀ v' w', Own w' B v' (l ++ l2) → Below B w w' → wpList Try.prog ops Q rest (a.put o.dst v') w') : wpList Try.prog ops Q (o :: rest) a w := by
  obtain ⟨A, cap, rfl, hcap, hb⟩ := hu
  obtain ⟨ad, rfl, hnews⟩ := news_of hb hl
  obtain ⟨i0, hi, hz0, hz1, hz2⟩ := info_parts info5
  refine wpList_append_own w hgd x y 25 ho B 5 i0 (.int .u8 0) 1 1 Try.underlying25 hi hz0 hz1 hz2 rfl (by decide) v l.length (byteV l) hx hv.row ad l2.length cap (byteV l2) hy (by rw [byteV_length, Nat.mul_one]) hnews (byteV_one l2) (by unfold maxLen; omega) (by omega) hB ?_
  intro v' w' hrow hgrow _
  refine h v' w' ⟨?_, app_byte hv.byte hb.byte⟩ (grown_below hv hgrow hB)
  rw [List.length_append, byteV_append]; exact hrow
/-- append to a row without room -/
theorem arm_grow (hgd : o.guard = none) (x y : Operand) (ho : o.op = .call { callee := .builtin .append, args := #[x, y], argTypes := #[25, 25] }) (A : Addr) (u : Value) (l l2 : List Nat) (hx : a.eval x = .slice (some A) l.length l.length) (hy : a.eval y = u) (hv : Bytes w w.heap.size (some A) l) (hl1 : 0 < l.length) (hu : isBytes l2 u w)
    (hl : 0 < l2.length) (hn : l.length + l2.length ≤ 100000)
    (h : ∀ v' w', Own w' w.heap.size v' (l ++ l2) → Below w.heap.size w w' → wpList Try.prog ops Q rest (a.put o.dst v') w') : wpList Try.prog ops Q (o :: rest) a w := by
  obtain ⟨A2, cap, rfl, hcap, hb⟩ := hu
  obtain ⟨ad, rfl, hnews⟩ := news_of hb hl
  obtain ⟨ad1, e, holds⟩ := news_of hv hl1
  obtain rfl : A = ad1 := by simpa using e
  obtain ⟨i0, hi, hz0, hz1, hz2⟩ := info_parts info5
  refine wpList_append_grows w hgd x y 25 ho 5 i0 (.int .u8 0) 1 1 Try.underlying25 hi hz0 hz1 hz2 rfl (by decide) (some A) l.length l.length (byteV l) hx (fun e => by cases e) (by rw [byteV_length, Nat.mul_one]) (fun b e => by cases e; exact holds) ad l2.length cap (byteV l2) hy (by rw [byteV_length, Nat.mul_one]) hnews (byteV_one l2) (by omega) (by unfold maxLen; omega) (by omega) ?_
  intro v' w' hrow hgrow
  refine h v' w' ⟨?_, app_byte hv.byte hb.byte⟩ ((Below.refl _ _).grown hgrow (Nat.le_refl _) (fun k hk => by cases hk))
  rw [List.length_append, byteV_append]; exact hrow
/-- append of one byte -/
theorem arm_append1 (hgd : o.guard = none) (x y : Operand) (ho : o.op = .call { callee := .builtin .append, args := #[x, y], argTypes := #[25, 25] }) (B : Nat) (v : Value) (l : List Nat) (n : Int) (c : Nat) (hc : n = (c : Int)) (hc2 : c < 256) (hx : a.eval x = v) (hy : a.eval y = .slice (some ⟨w.heap.size, 0, none⟩) 1 1) (hv : Own w B v l)
    (hn : l.length ≤ 100) (hB : B ≤ w.heap.size)
    (h : ∀ v' w', Own w' B v' (l ++ [c]) → Below B w w' → wpList Try.prog ops Q rest (a.put o.dst v') w') : wpList Try.prog ops Q (o :: rest) a (w.alloc (.cells #[.int .u8 n] 5)) := by
  subst hc
  have hb1 := bytes_new w [c] (by simpa using hc2) 5 (0, 0)
  refine arm_append hgd x y ho B v (.slice (some ⟨w.heap.size, 0, none⟩) 1 1) l [c] hx hy (hv.below (below_alloc _ _)) ⟨_, 1, rfl, Nat.le_refl _, hb1⟩ (by simp) (by simp; omega) (by simp; omega) ?_
  intro v' w' h1 h2
  exact h v' w' h1 (((Below.refl _ _).alloc hB _).trans h2)
end
end Go.Proofs.Ytccdciokokcomaa
