/- Rows of numbers that came in as arguments. -/
import Derived.Test.YtnedpmibmldbfaaAwake
import Derived.ProofKit
import Derived.OpenShut
namespace Go.Proofs.Ytnedpmibmldbfaa
open Go.RowKit
def IsRow (k : IntKind) (w : World) (a : Option Addr) (len cap : Nat) (zs : List Int) : Prop :=
  (a = none ∧ len = 0 ∧ cap = 0 ∧ zs = []) ∨
  ∃ x, a = some x ∧ len ≤ cap ∧ cap ≤ maxLen ∧ zs.length = cap ∧ (∀ i, i < zs.length → w.cell? (x.add i) = some (.int k (zs.getD i 0))) ∧ ∀ n ∈ zs, (Lit.int k n).wf = true

theorem spot_of {w : World} {x : Addr} {v : Value} (h : w.cell? (x.add 0) = some v) : ∃ b off, x = ⟨b, off, none⟩ := by
  obtain ⟨b, off, spot⟩ := x
  cases spot with
  | none => exact ⟨b, off, rfl⟩
  | some s =>
    exfalso
    simp only [Addr.add, if_true] at h
    unfold World.cell? at h
    split at h <;> simp at h
theorem add_spot (b off i : Nat) : (⟨b, off, none⟩ : Addr).add i = ⟨b, off + i, none⟩ := by
  unfold Addr.add; split <;> simp_all
/-- len numbers that came in -/
def IRow (w : World) (a : Option Addr) (len : Nat) (z : Nat → Int) : Prop := ∀ i, i < len → ∃ b off, a = some ⟨b, off, none⟩ ∧ b < w.heap.size ∧ w.cell? ⟨b, off + i, none⟩ = some (.int .i64 (z i))
theorem irow_of {w : World} {a : Option Addr} {len cap : Nat} {zs : List Int} (h : IsRow .i64 w a len cap zs) : IRow w a len (fun i => zs.getD i 0) := by
  intro i hi
  rcases h with ⟨rfl, rfl, rfl, rfl⟩ | ⟨x, rfl, hl, _, hz, hc, _⟩
  · omega
  · obtain ⟨b, off, rfl⟩ := spot_of (hc 0 (by omega))
    have h0 := hc i (by omega)
    rw [add_spot] at h0
    exact ⟨b, off, rfl, block_lt_of_cell h0, h0⟩
theorem IRow.below {w w' : World} {a : Option Addr} {len : Nat} {z : Nat → Int} (h : IRow w a len z) (hb : Below w.heap.size w w') (i : Nat) (hi : i < len) : ∃ b off, a = some ⟨b, off, none⟩ ∧ b < w.heap.size ∧ w'.cell? ⟨b, off + i, none⟩ = some (.int .i64 (z i)) := by
  obtain ⟨b, off, h1, h2, h3⟩ := h i hi
  exact ⟨b, off, h1, h2, by rw [hb.cell (p := ⟨b, off + i, none⟩) h2]; exact h3⟩
/-- the numbers' rounds -/
def rounds (z : Nat → Int) (len n : Nat) : List Nat := (List.range len).map fun i => (z i % (n : Int)).toNat
theorem rounds_len (z : Nat → Int) (len n : Nat) : (rounds z len n).length = len := by simp [rounds]
theorem rounds_get (z : Nat → Int) (len n i : Nat) (h : i < len) : (rounds z len n).getD i 0 = (z i % (n : Int)).toNat := by
  unfold rounds
  rw [List.getD_eq_getElem?_getD, List.getElem?_map, List.getElem?_range h]; rfl
theorem rounds_lt (z : Nat → Int) (len n : Nat) (hn : 1 ≤ n) : ∀ k ∈ rounds z len n, k < n := by
  intro k hk
  unfold rounds at hk
  simp only [List.mem_map, List.mem_range] at hk
  obtain ⟨i, _, rfl⟩ := hk
  exact round_lt _ _ hn
theorem Round_row (z : Nat → Int) (len n : Nat) (hn : 1 ≤ n) (hn2 : n ≤ 128) (i : Nat) (hi : i < len) (w : World) :
    Calls Try.prog 18 #[.int .i64 (z i), .int .i64 (n : Int)] w fun e w' => e = .returned (.int .i64 ((rounds z len n).getD i 0 : Nat)) ∧ w = w' := by
  rw [rounds_get z len n i hi]; exact Round_nat (z i) n hn hn2 w
/-- two lists, the one made ahead of the other -/
structure Two (w : World) (k bE bY bP k' bE' bY' bP' n : Nat) (o o' : List Nat) (p p' : Nat → Bool) (base mid : Nat) : Prop where
  x : IsX w k bE bY bP n o p
  y : IsX w k' bE' bY' bP' n o' p'
  lo : base ≤ k ∧ base ≤ bE ∧ base ≤ bY ∧ base ≤ bP
  mi : k < mid ∧ bE < mid ∧ bY < mid ∧ bP < mid
  hi : mid ≤ k' ∧ mid ≤ bE' ∧ mid ≤ bY' ∧ mid ≤ bP'
theorem Two.touchX {w w' : World} {k bE bY bP k' bE' bY' bP' n : Nat} {o o' o2 : List Nat} {p p' : Nat → Bool} {base mid : Nat} (h : Two w k bE bY bP k' bE' bY' bP' n o o' p p' base mid) (hx : IsX w' k bE bY bP n o2 p) (ho : Only [bE, bY] w w') :
    Two w' k bE bY bP k' bE' bY' bP' n o2 o' p p' base mid := by
  have := h.mi; have := h.hi
  exact ⟨hx, h.y.only ho (fun x hx => by simp at hx; omega), h.lo, h.mi, h.hi⟩
theorem Two.touchY {w w' : World} {k bE bY bP k' bE' bY' bP' n : Nat} {o o' o2 : List Nat} {p p' : Nat → Bool} {base mid : Nat} (h : Two w k bE bY bP k' bE' bY' bP' n o o' p p' base mid) (hy : IsX w' k' bE' bY' bP' n o2 p') (ho : Only [bE', bY'] w w') :
    Two w' k bE bY bP k' bE' bY' bP' n o o2 p p' base mid := by
  have := h.mi; have := h.hi
  exact ⟨h.x.only ho (fun x hx => by simp at hx; omega), hy, h.lo, h.mi, h.hi⟩
theorem Two.below {w w' : World} {k bE bY bP k' bE' bY' bP' n : Nat} {o o' : List Nat} {p p' : Nat → Bool} {base mid : Nat} (h : Two w k bE bY bP k' bE' bY' bP' n o o' p p' base mid) (hb : Below w.heap.size w w') : Two w' k bE bY bP k' bE' bY' bP' n o o' p p' base mid :=
  ⟨h.x.below hb h.x.lt, h.y.below hb h.y.lt, h.lo, h.mi, h.hi⟩
end Go.Proofs.Ytnedpmibmldbfaa
