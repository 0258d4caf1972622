/- The two lists as they lie in memory, and what turns nothing else. -/
import Derived.Test.YtnedpmibmldbfaaPlain
import Derived.Test.YtnedpmibmldbfaaG
namespace Go.Proofs.Ytnedpmibmldbfaa
open Go.RowKit

theorem mixed : Try.prog.follows .mixedOrders = true := by kernel_rfl

/-- w' is w but for these blocks and for new ones -/
structure Only (L : List Nat) (w w' : World) : Prop where
  os : w'.os = w.os
  tape : w'.tape = w.tape
  output : w'.output = w.output
  size : w.heap.size ≤ w'.heap.size
  block : ∀ c, c < w.heap.size → c ∉ L → w'.heap[c]? = w.heap[c]?
theorem Only.refl (L : List Nat) (w : World) : Only L w w := ⟨rfl, rfl, rfl, Nat.le_refl _, fun _ _ _ => rfl⟩
theorem Only.trans {L : List Nat} {a b c : World} (h : Only L a b) (k : Only L b c) : Only L a c :=
  ⟨k.os.trans h.os, k.tape.trans h.tape, k.output.trans h.output, Nat.le_trans h.size k.size, fun x hx hL => (k.block x (by have := h.size; omega) hL).trans (h.block x hx hL)⟩
theorem Only.mono {L M : List Nat} {a b : World} (h : Only L a b) (hm : ∀ x ∈ L, x ∈ M) : Only M a b :=
  ⟨h.os, h.tape, h.output, h.size, fun x hx hL => h.block x hx (fun hx => hL (hm x hx))⟩
theorem Only.alloc {L : List Nat} {a b : World} (h : Only L a b) (o : Obj) : Only L a (b.alloc o) :=
  h.trans ⟨rfl, rfl, rfl, by simp, fun c hc _ => Below.heap_alloc b o c hc⟩
theorem Only.drew {L : List Nat} {a b : World} (h : Only L a b) : Only L a b.drew := ⟨h.os, h.tape, h.output, h.size, h.block⟩
theorem Only.setCell {L : List Nat} {a b : World} (h : Only L a b) (p : Addr) (hp : p.block ∈ L) (v : Value) : Only L a (b.setCell p v) :=
  h.trans ⟨rfl, rfl, rfl, by simp [World.setCell], fun c _ hL => by
    simp only [World.setCell, Array.getElem?_modify]
    rw [if_neg (fun e => hL (by rw [← e]; exact hp))]⟩
theorem Only.of_below {L : List Nat} {a b : World} (h : Below a.heap.size a b) : Only L a b := ⟨h.os, h.tape, h.output, h.size, fun c hc _ => h.block c hc⟩
theorem Only.below {L : List Nat} {a b : World} {B : Nat} (h : Only L a b) (hB : B ≤ a.heap.size) (hL : ∀ x ∈ L, B ≤ x) : Below B a b :=
  ⟨h.os, h.tape, h.output, h.size, fun c hc => h.block c (by omega) (fun hx => by have := hL c hx; omega)⟩
theorem Only.cell {L : List Nat} {a b : World} (h : Only L a b) {p : Addr} {v : Value} (hc : a.cell? p = some v) (hL : p.block ∉ L) : b.cell? p = some v := by
  rw [World.cell?_of_block (w := a) (h.block p.block (block_lt_of_cell hc) hL)]; exact hc
theorem Only.frozen {L : List Nat} {a b : World} (h : Only L a b) {p : Addr} (hlt : p.block < a.heap.size) (hL : p.block ∉ L) : b.frozen? p = a.frozen? p :=
  World.frozen?_of_block (w := a) (h.block p.block hlt hL)

theorem frozen_setCell (w : World) (q : Addr) (v : Value) (p : Addr) : (w.setCell q v).frozen? p = w.frozen? p := by
  simp only [World.frozen?, World.setCell, Array.getElem?_modify]
  by_cases e : q.block = p.block
  · rw [if_pos e]
    cases h' : w.heap[p.block]? with
    | none => simp
    | some o => cases o <;> simp
  · rw [if_neg e]

/-- a row of numbers that may be written -/
structure Nums (w : World) (b n : Nat) (f : Nat → Nat) : Prop where
  cell : ∀ i, i < n → w.cell? ⟨b, i, none⟩ = some (.int .i64 (f i : Nat))
  free : ∀ i, w.frozen? ⟨b, i, none⟩ = false
theorem Nums.set {w : World} {b n : Nat} {f : Nat → Nat} (h : Nums w b n f) (i v : Nat) (hi : i < n) : Nums (w.setCell ⟨b, i, none⟩ (.int .i64 (v : Nat))) b n (put f i v) := by
  refine ⟨fun j hj => ?_, fun j => by rw [frozen_setCell]; exact h.free j⟩
  by_cases e : j = i
  · subst e
    rw [World.cell?_setCell_same _ _ _ (h.cell j hi)]; simp [put]
  · rw [World.cell?_setCell_other _ _ _ _ (by intro he; exact e (by injection he; omega)), h.cell j hj]; simp [put, e]
theorem Nums.other {w w' : World} {b n : Nat} {f : Nat → Nat} (h : Nums w b n f) (hb : w'.heap[b]? = w.heap[b]?) : Nums w' b n f :=
  ⟨fun i hi => by rw [World.cell?_of_block (w := w) (a := ⟨b, i, none⟩) hb]; exact h.cell i hi, fun i => by rw [World.frozen?_of_block (w := w) (a := ⟨b, i, none⟩) hb]; exact h.free i⟩
theorem Nums.lt {w : World} {b n : Nat} {f : Nat → Nat} (h : Nums w b n f) (hn : 0 < n) : b < w.heap.size := block_lt_of_cell (h.cell 0 hn)
structure Bools (w : World) (b n : Nat) (f : Nat → Bool) : Prop where
  cell : ∀ i, i < n → w.cell? ⟨b, i, none⟩ = some (.bool (f i))
  free : ∀ i, w.frozen? ⟨b, i, none⟩ = false
theorem Bools.set {w : World} {b n : Nat} {f : Nat → Bool} (h : Bools w b n f) (i : Nat) (hi : i < n) : Bools (w.setCell ⟨b, i, none⟩ (.bool true)) b n (putB f i) := by
  refine ⟨fun j hj => ?_, fun j => by rw [frozen_setCell]; exact h.free j⟩
  by_cases e : j = i
  · subst e
    rw [World.cell?_setCell_same _ _ _ (h.cell j hi)]; simp [putB]
  · rw [World.cell?_setCell_other _ _ _ _ (by intro he; exact e (by injection he; omega)), h.cell j hj]; simp [putB, e]
theorem Bools.other {w w' : World} {b n : Nat} {f : Nat → Bool} (h : Bools w b n f) (hb : w'.heap[b]? = w.heap[b]?) : Bools w' b n f :=
  ⟨fun i hi => by rw [World.cell?_of_block (w := w) (a := ⟨b, i, none⟩) hb]; exact h.cell i hi, fun i => by rw [World.frozen?_of_block (w := w) (a := ⟨b, i, none⟩) hb]; exact h.free i⟩
theorem Bools.lt {w : World} {b n : Nat} {f : Nat → Bool} (h : Bools w b n f) (hn : 0 < n) : b < w.heap.size := block_lt_of_cell (h.cell 0 hn)
theorem setCell_block (w : World) (p : Addr) (v : Value) (c : Nat) (h : c ≠ p.block) : (w.setCell p v).heap[c]? = w.heap[c]? := by
  simp only [World.setCell, Array.getElem?_modify]
  rw [if_neg (fun e => h e.symm)]

/-- the program's list at block k -/
structure Lst (w : World) (k bE bY bP n : Nat) (e y : Nat → Nat) (p : Nat → Bool) : Prop where
  f0 : w.cell? ⟨k, 0, none⟩ = some (.slice (some ⟨bE, 0, none⟩) (n + 1) (n + 1))
  f1 : w.cell? ⟨k, 1, none⟩ = some (.slice (some ⟨bY, 0, none⟩) (n + 1) (n + 1))
  f2 : w.cell? ⟨k, 2, none⟩ = some (.slice (some ⟨bP, 0, none⟩) n n)
  ce : Nums w bE (n + 1) e
  cy : Nums w bY (n + 1) y
  cp : Bools w bP n p
  d1 : bE ≠ bY
  d2 : bE ≠ bP
  d3 : bY ≠ bP
  d4 : k ≠ bE
  d5 : k ≠ bY
  d6 : k ≠ bP
  pos : 0 < n
  top : n ≤ 128
theorem Lst.other {w w' : World} {k bE bY bP n : Nat} {e y : Nat → Nat} {p : Nat → Bool} (h : Lst w k bE bY bP n e y p)
    (hk : w'.heap[k]? = w.heap[k]?) (hE : w'.heap[bE]? = w.heap[bE]?) (hY : w'.heap[bY]? = w.heap[bY]?) (hP : w'.heap[bP]? = w.heap[bP]?) : Lst w' k bE bY bP n e y p :=
  ⟨by rw [World.cell?_of_block (w := w) (a := ⟨k, 0, none⟩) hk]; exact h.f0, by rw [World.cell?_of_block (w := w) (a := ⟨k, 1, none⟩) hk]; exact h.f1, by rw [World.cell?_of_block (w := w) (a := ⟨k, 2, none⟩) hk]; exact h.f2,
    h.ce.other hE, h.cy.other hY, h.cp.other hP, h.d1, h.d2, h.d3, h.d4, h.d5, h.d6, h.pos, h.top⟩
theorem Lst.lt {w : World} {k bE bY bP n : Nat} {e y : Nat → Nat} {p : Nat → Bool} (h : Lst w k bE bY bP n e y p) : k < w.heap.size ∧ bE < w.heap.size ∧ bY < w.heap.size ∧ bP < w.heap.size :=
  ⟨block_lt_of_cell h.f0, h.ce.lt (by omega), h.cy.lt (by omega), h.cp.lt h.pos⟩
theorem Lst.only {w w' : World} {L : List Nat} {k bE bY bP n : Nat} {e y : Nat → Nat} {p : Nat → Bool} (h : Lst w k bE bY bP n e y p) (ho : Only L w w') (hL : ∀ x ∈ L, x ≠ k ∧ x ≠ bE ∧ x ≠ bY ∧ x ≠ bP) : Lst w' k bE bY bP n e y p := by
  obtain ⟨h1, h2, h3, h4⟩ := h.lt
  exact h.other (ho.block k h1 (fun hx => (hL k hx).1 rfl)) (ho.block bE h2 (fun hx => (hL bE hx).2.1 rfl)) (ho.block bY h3 (fun hx => (hL bY hx).2.2.1 rfl)) (ho.block bP h4 (fun hx => (hL bP hx).2.2.2 rfl))
theorem Lst.below {w w' : World} {B : Nat} {k bE bY bP n : Nat} {e y : Nat → Nat} {p : Nat → Bool} (h : Lst w k bE bY bP n e y p) (hb : Below B w w') (hL : k < B ∧ bE < B ∧ bY < B ∧ bP < B) : Lst w' k bE bY bP n e y p :=
  h.other (hb.block k hL.1) (hb.block bE hL.2.1) (hb.block bY hL.2.2.1) (hb.block bP hL.2.2.2)
/-- .. in the order o -/
structure IsX (w : World) (k bE bY bP n : Nat) (o : List Nat) (p : Nat → Bool) : Prop where
  lst : ∃ e y, Lst w k bE bY bP n e y p ∧ Ring e y (n :: (o ++ [n]))
  ok : OkOrd n o
theorem IsX.lt {w : World} {k bE bY bP n : Nat} {o : List Nat} {p : Nat → Bool} (h : IsX w k bE bY bP n o p) : k < w.heap.size ∧ bE < w.heap.size ∧ bY < w.heap.size ∧ bP < w.heap.size := by
  obtain ⟨⟨e, y, h, _⟩, _⟩ := h; exact h.lt
theorem IsX.pos {w : World} {k bE bY bP n : Nat} {o : List Nat} {p : Nat → Bool} (h : IsX w k bE bY bP n o p) : 0 < n ∧ n ≤ 128 := by
  obtain ⟨⟨e, y, h, _⟩, _⟩ := h; exact ⟨h.pos, h.top⟩
theorem IsX.only {w w' : World} {L : List Nat} {k bE bY bP n : Nat} {o : List Nat} {p : Nat → Bool} (h : IsX w k bE bY bP n o p) (ho : Only L w w') (hL : ∀ x ∈ L, x ≠ k ∧ x ≠ bE ∧ x ≠ bY ∧ x ≠ bP) : IsX w' k bE bY bP n o p := by
  obtain ⟨⟨e, y, h, hr⟩, ok⟩ := h; exact ⟨⟨e, y, h.only ho hL, hr⟩, ok⟩
theorem IsX.below {w w' : World} {B : Nat} {k bE bY bP n : Nat} {o : List Nat} {p : Nat → Bool} (h : IsX w k bE bY bP n o p) (hb : Below B w w') (hL : k < B ∧ bE < B ∧ bY < B ∧ bP < B) : IsX w' k bE bY bP n o p := by
  obtain ⟨⟨e, y, h, hr⟩, ok⟩ := h; exact ⟨⟨e, y, h.below hb hL, hr⟩, ok⟩
/-- the reference's list at block k: its order lies in block bL -/
structure IsM (w : World) (k bL bP n cap : Nat) (o : List Nat) (p : Nat → Bool) : Prop where
  f0 : w.cell? ⟨k, 0, none⟩ = some (.slice (some ⟨bL, 0, none⟩) n cap)
  f1 : w.cell? ⟨k, 1, none⟩ = some (.slice (some ⟨bP, 0, none⟩) n n)
  free : w.frozen? ⟨k, 0, none⟩ = false
  cl : ∀ i, i < n → w.cell? ⟨bL, i, none⟩ = some (.int .i64 (o.getD i 0 : Nat))
  cp : Bools w bP n p
  ok : OkOrd n o
  hcap : n ≤ cap
  d1 : k ≠ bL
  d2 : k ≠ bP
  d3 : bL ≠ bP
  pos : 0 < n
  top : n ≤ 128
theorem IsM.other {w w' : World} {k bL bP n cap : Nat} {o : List Nat} {p : Nat → Bool} (h : IsM w k bL bP n cap o p) (hk : w'.heap[k]? = w.heap[k]?) (hL : w'.heap[bL]? = w.heap[bL]?) (hP : w'.heap[bP]? = w.heap[bP]?) : IsM w' k bL bP n cap o p :=
  ⟨by rw [World.cell?_of_block (w := w) (a := ⟨k, 0, none⟩) hk]; exact h.f0, by rw [World.cell?_of_block (w := w) (a := ⟨k, 1, none⟩) hk]; exact h.f1, by rw [World.frozen?_of_block (w := w) (a := ⟨k, 0, none⟩) hk]; exact h.free,
    fun i hi => by rw [World.cell?_of_block (w := w) (a := ⟨bL, i, none⟩) hL]; exact h.cl i hi, h.cp.other hP, h.ok, h.hcap, h.d1, h.d2, h.d3, h.pos, h.top⟩
theorem IsM.lt {w : World} {k bL bP n cap : Nat} {o : List Nat} {p : Nat → Bool} (h : IsM w k bL bP n cap o p) : k < w.heap.size ∧ bL < w.heap.size ∧ bP < w.heap.size :=
  ⟨block_lt_of_cell h.f0, block_lt_of_cell (h.cl 0 h.pos), h.cp.lt h.pos⟩
theorem IsM.only {w w' : World} {L : List Nat} {k bL bP n cap : Nat} {o : List Nat} {p : Nat → Bool} (h : IsM w k bL bP n cap o p) (ho : Only L w w') (hL : ∀ x ∈ L, x ≠ k ∧ x ≠ bL ∧ x ≠ bP) : IsM w' k bL bP n cap o p := by
  obtain ⟨h1, h2, h3⟩ := h.lt
  exact h.other (ho.block k h1 (fun hx => (hL k hx).1 rfl)) (ho.block bL h2 (fun hx => (hL bL hx).2.1 rfl)) (ho.block bP h3 (fun hx => (hL bP hx).2.2 rfl))

/-- a row of numbers to be read -/
structure Row (w : World) (A : Option Addr) (l : List Nat) : Prop where
  cell : ∀ i, i < l.length → ∃ b off, A = some ⟨b, off, none⟩ ∧ w.cell? ⟨b, off + i, none⟩ = some (.int .i64 (l.getD i 0 : Nat))
theorem Row.ext {w w' : World} {A : Option Addr} {l : List Nat} (h : Row w A l) (he : Ext w w') : Row w' A l :=
  ⟨fun i hi => by obtain ⟨b, off, e, hc⟩ := h.cell i hi; exact ⟨b, off, e, he.cell _ _ hc⟩⟩
end Go.Proofs.Ytnedpmibmldbfaa
