/- Rows of bytes in memory, and how they stay: helping words for the walks. -/
import Derived.Test.YtccdciokokcomaaLink
import Derived.WalkKit
import Derived.WalkSpells
import Derived.Lib.Hide
import Derived.Deep.WholeRow
import Derived.Deep.Draws
namespace Go.Proofs.Ytccdciokokcomaa
open Go.RowKit

/-- a row of bytes that lies below block B -/
structure Bytes (w : World) (B : Nat) (A : Option Addr) (l : List Nat) : Prop where
  byte : ∀ x ∈ l, x < 256
  cell : ∀ i, i < l.length → ∃ b off, A = some ⟨b, off, none⟩ ∧ b < B ∧ w.cell? ⟨b, off + i, none⟩ = some (.int .u8 (l.getD i 0 : Nat))

theorem getD_mem (l : List Nat) (i : Nat) (h : i < l.length) : l.getD i 0 ∈ l := by
  rw [List.getD_eq_getElem?_getD, List.getElem?_eq_getElem h]; simp
theorem Bytes.lt {w : World} {B : Nat} {A : Option Addr} {l : List Nat} (h : Bytes w B A l) (i : Nat) (hi : i < l.length) : l.getD i 0 < 256 := h.byte _ (getD_mem l i hi)
theorem Bytes.below {w w' : World} {B : Nat} {A : Option Addr} {l : List Nat} (h : Bytes w B A l) (hb : Below B w w') : Bytes w' B A l :=
  ⟨h.byte, fun i hi => by
    obtain ⟨b, off, e, hB, hc⟩ := h.cell i hi
    exact ⟨b, off, e, hB, by rw [hb.cell (p := ⟨b, off + i, none⟩) hB]; exact hc⟩⟩
theorem Bytes.mono {w : World} {B B' : Nat} {A : Option Addr} {l : List Nat} (h : Bytes w B A l) (hb : B ≤ B') : Bytes w B' A l :=
  ⟨h.byte, fun i hi => by
    obtain ⟨b, off, e, hB, hc⟩ := h.cell i hi
    exact ⟨b, off, e, by omega, hc⟩⟩
theorem Bytes.nil (w : World) (B : Nat) (A : Option Addr) : Bytes w B A [] := ⟨by simp, fun i hi => by simp at hi⟩
theorem Bytes.take {w : World} {B : Nat} {A : Option Addr} {l : List Nat} (h : Bytes w B A l) (k : Nat) : Bytes w B A (l.take k) :=
  ⟨fun x hx => h.byte x (List.mem_of_mem_take hx), fun i hi => by
    rw [List.length_take] at hi
    obtain ⟨b, off, e, hB, hc⟩ := h.cell i (by omega)
    refine ⟨b, off, e, hB, ?_⟩
    rw [hc]; congr 2
    rw [List.getD_eq_getElem?_getD, List.getD_eq_getElem?_getD, List.getElem?_take_of_lt (by omega)]⟩
theorem Bytes.drop {w : World} {B b off : Nat} {l : List Nat} (h : Bytes w B (some ⟨b, off, none⟩) l) (k : Nat) : Bytes w B (some ⟨b, off + k, none⟩) (l.drop k) :=
  ⟨fun x hx => h.byte x (List.mem_of_mem_drop hx), fun i hi => by
    rw [List.length_drop] at hi
    obtain ⟨b', off', e, hB, hc⟩ := h.cell (k + i) (by omega)
    simp only [Option.some.injEq, Addr.mk.injEq, and_true] at e
    obtain ⟨rfl, rfl⟩ := e
    refine ⟨_, _, rfl, hB, ?_⟩
    rw [Nat.add_assoc, hc, List.getD_eq_getElem?_getD, List.getD_eq_getElem?_getD, List.getElem?_drop]⟩

/-- the table's cells -/
@[irreducible] def tabCells (T : Nat → Nat) : Array Value := ((List.range 256).map fun i => Value.int .u32 (T i : Int)).toArray
theorem tabCells_size (T : Nat → Nat) : (tabCells T).size = 256 := by simp [tabCells]
theorem tabCells_get (T : Nat → Nat) (i : Nat) (h : i < 256) : (tabCells T)[i]? = some (.int .u32 (T i : Int)) := by
  simp [tabCells, h]
theorem tabCells_set (T : Nat → Nat) (k v : Nat) : (tabCells T).setIfInBounds k (.int .u32 (v : Int)) = tabCells (fun i => if i = k then v else T i) := by
  apply Array.ext_getElem?
  intro i
  by_cases hi : i < 256
  · rw [Array.getElem?_setIfInBounds, tabCells_get _ i hi, tabCells_get _ i hi, tabCells_size]
    by_cases h : k = i
    · subst h; simp [hi]
    · simp [h, Ne.symm h]
  · rw [Array.getElem?_eq_none (by simp [tabCells_size]; omega), Array.getElem?_eq_none (by simp [tabCells_size]; omega)]
theorem tabCells_one (T : Nat → Nat) : (tabCells T).all (·.oneCell') = true := by
  simp [tabCells, Value.oneCell']

/-! the sums, plainly -/
def poly : Nat := 3988292384
def bitStep (c : Nat) : Nat := if c % 2 = 1 then (c / 2) ^^^ 3988292384 else c / 2
def bitSteps : Nat → Nat → Nat
  | 0, c => c
  | n + 1, c => bitSteps n (bitStep c)
def tab (n : Nat) : Nat := bitSteps 8 n
def crcStep (s c : Nat) : Nat := tab ((s % 256) ^^^ c) ^^^ (s / 256)
def crcRaw (s : Nat) (l : List Nat) : Nat := l.foldl crcStep s
def crcOn (s : Nat) (l : List Nat) : Nat := 4294967295 ^^^ crcRaw (4294967295 ^^^ s) l
def refStep (s c : Nat) : Nat := bitSteps 8 (s ^^^ c)
def refRaw (s : Nat) (l : List Nat) : Nat := l.foldl refStep s
def refOn (s : Nat) (l : List Nat) : Nat := 4294967295 ^^^ refRaw (4294967295 ^^^ s) l

theorem xor_lt32 {a b : Nat} (ha : a < 4294967296) (hb : b < 4294967296) : a ^^^ b < 4294967296 := Nat.xor_lt_two_pow (n := 32) (by omega) (by omega)
theorem xor_lt8 {a b : Nat} (ha : a < 256) (hb : b < 256) : a ^^^ b < 256 := Nat.xor_lt_two_pow (n := 8) (by omega) (by omega)
theorem bitStep_lt (c : Nat) (h : c < 4294967296) : bitStep c < 4294967296 := by
  unfold bitStep; split
  · exact xor_lt32 (by omega) (by omega)
  · omega
theorem bitSteps_lt (n : Nat) : ∀ c, c < 4294967296 → bitSteps n c < 4294967296 := by
  induction n with
  | zero => intro c h; exact h
  | succ n ih => intro c h; exact ih _ (bitStep_lt c h)
theorem bitSteps_succ (n c : Nat) : bitSteps (n + 1) c = bitStep (bitSteps n c) := by
  induction n generalizing c with
  | zero => rfl
  | succ n ih => rw [bitSteps, ih (bitStep c)]; rfl
theorem tab_lt (i : Nat) (h : i < 4294967296) : tab i < 4294967296 := bitSteps_lt 8 i h
theorem crcStep_lt (s c : Nat) (hs : s < 4294967296) (hc : c < 256) : crcStep s c < 4294967296 := by
  unfold crcStep
  have := xor_lt8 (a := s % 256) (b := c) (by omega) hc
  exact xor_lt32 (tab_lt _ (by omega)) (by omega)
theorem crcRaw_lt (l : List Nat) : (∀ x ∈ l, x < 256) → ∀ s, s < 4294967296 → crcRaw s l < 4294967296 := by
  induction l with
  | nil => intro _ s h; exact h
  | cons c l ih => intro hl s h; exact ih (fun x hx => hl x (by simp [hx])) _ (crcStep_lt s c h (hl c (by simp)))
theorem refStep_lt (s c : Nat) (hs : s < 4294967296) (hc : c < 256) : refStep s c < 4294967296 := bitSteps_lt 8 _ (xor_lt32 hs (by omega))
theorem refRaw_lt (l : List Nat) : (∀ x ∈ l, x < 256) → ∀ s, s < 4294967296 → refRaw s l < 4294967296 := by
  induction l with
  | nil => intro _ s h; exact h
  | cons c l ih => intro hl s h; exact ih (fun x hx => hl x (by simp [hx])) _ (refStep_lt s c h (hl c (by simp)))
theorem take_succ' (l : List Nat) (k : Nat) (h : k < l.length) : l.take (k + 1) = l.take k ++ [l.getD k 0] := by
  rw [List.take_succ_eq_append_getElem h, List.getD_eq_getElem?_getD, List.getElem?_eq_getElem h]; rfl
theorem crcRaw_succ (s : Nat) (l : List Nat) (k : Nat) (h : k < l.length) : crcRaw s (l.take (k + 1)) = crcStep (crcRaw s (l.take k)) (l.getD k 0) := by
  rw [take_succ' l k h]; simp [crcRaw]
theorem refRaw_succ (s : Nat) (l : List Nat) (k : Nat) (h : k < l.length) : refRaw s (l.take (k + 1)) = refStep (refRaw s (l.take k)) (l.getD k 0) := by
  rw [take_succ' l k h]; simp [refRaw]
theorem crcOn_lt (s : Nat) (l : List Nat) (hs : s < 4294967296) (hl : ∀ x ∈ l, x < 256) : crcOn s l < 4294967296 := xor_lt32 (by omega) (crcRaw_lt l hl _ (xor_lt32 (by omega) hs))
theorem refOn_lt (s : Nat) (l : List Nat) (hs : s < 4294967296) (hl : ∀ x ∈ l, x < 256) : refOn s l < 4294967296 := xor_lt32 (by omega) (refRaw_lt l hl _ (xor_lt32 (by omega) hs))
theorem getD_take_lt (l : List Nat) (hl : ∀ x ∈ l, x < 256) (k : Nat) : ∀ x ∈ l.take k, x < 256 := fun x hx => hl x (List.mem_of_mem_take hx)

theorem unary_xor_u32 (s : Nat) (hs : s < 4294967296) : Op.unary .xor (.int .u32 (s : Int)) = pure (.int .u32 ((4294967295 ^^^ s : Nat) : Int)) := by
  have h := u32_xor_nat 4294967295 s (by omega) hs
  rw [← h]; rfl
end Go.Proofs.Ytccdciokokcomaa
