/- What lru's is, Touch and Pin come to. -/
import Derived.Test.YtnedpmibmldbfaaBase
namespace Go.Proofs.Ytnedpmibmldbfaa
open Go.RowKit

set_option maxRecDepth 100000 in
theorem is_walk (i : Int) {w : World} {k bE bY bP n : Nat} {e y : Nat → Nat} {p : Nat → Bool} (h : Lst w k bE bY bP n e y p) :
    Calls Try.prog 20 #[.pointer (some ⟨k, 0, none⟩), .int .i64 i] w fun e w' => e = .returned (.bool (decide (0 ≤ i ∧ i < n))) ∧ w = w' := by
  have h2 := h.f2
  have htop := h.top
  clear h
  by_cases h0 : 0 ≤ i
  · by_cases h1 : i < n
    · go_enter Try.func20, Try.ntmps20
      go_wp2
      go_ret
      exact ⟨by simp [h0, h1], rfl⟩
    · go_enter Try.func20, Try.ntmps20
      go_wp2
      go_ret
      exact ⟨by simp [h0, h1], rfl⟩
  · go_enter Try.func20, Try.ntmps20
    go_wp2
    go_ret
    exact ⟨by rw [decide_eq_false (by omega)]; rfl, rfl⟩
set_option maxRecDepth 100000 in
theorem is_none (i : Int) (w : World) :
    Calls Try.prog 20 #[.pointer none, .int .i64 i] w fun e w' => e = .returned (.bool false) ∧ w = w' := by
  go_enter Try.func20, Try.ntmps20
  go_wp2
  go_ret
  exact ⟨rfl, rfl⟩

set_option maxRecDepth 100000 in
theorem Touch_off (i : Int) {w : World} {k bE bY bP n : Nat} {e y : Nat → Nat} {p : Nat → Bool} (h : Lst w k bE bY bP n e y p) (hi : ¬ (0 ≤ i ∧ i < n)) :
    Calls Try.prog 10 #[.pointer (some ⟨k, 0, none⟩), .int .i64 i] w fun e w' => e = .returned (.int .i64 1) ∧ w = w' := by
  have hc := is_walk i h
  rw [decide_eq_false hi] at hc
  clear h hi
  go_enter Try.func10, Try.ntmps10
  go_wp2_with fail
  refine hc.mono ?_
  rintro e w' ⟨rfl, rfl⟩
  go_wp2
  go_ret
  exact ⟨rfl, rfl⟩
set_option maxRecDepth 100000 in
theorem Touch_none (i : Int) (w : World) :
    Calls Try.prog 10 #[.pointer none, .int .i64 i] w fun e w' => e = .returned (.int .i64 1) ∧ w = w' := by
  go_enter Try.func10, Try.ntmps10
  go_wp2_with fail
  refine (is_none i w).mono ?_
  rintro e w' ⟨rfl, rfl⟩
  go_wp2
  go_ret
  exact ⟨rfl, rfl⟩
set_option maxRecDepth 100000 in
theorem Pin_walk (i : Nat) {w : World} {k bE bY bP n : Nat} {e y : Nat → Nat} {p : Nat → Bool} (h : Lst w k bE bY bP n e y p) (hi : i < n) :
    Calls Try.prog 12 #[.pointer (some ⟨k, 0, none⟩), .int .i64 (i : Int)] w fun r w' => r = .returned (.int .i64 0) ∧ w.setCell ⟨bP, i, none⟩ (.bool true) = w' := by
  have hc := is_walk (i : Int) h
  rw [decide_eq_true (by omega)] at hc
  have h2 := h.f2
  have hb := h.cp.cell i hi
  have hf := h.cp.free i
  have htop := h.top
  clear h
  go_enter Try.func12, Try.ntmps12
  go_wp2_with fail
  refine hc.mono ?_
  rintro e w' ⟨rfl, rfl⟩
  go_wp2
  go_ret
  exact ⟨rfl, rfl⟩
set_option maxRecDepth 100000 in
theorem Pin_off (i : Int) {w : World} {k bE bY bP n : Nat} {e y : Nat → Nat} {p : Nat → Bool} (h : Lst w k bE bY bP n e y p) (hi : ¬ (0 ≤ i ∧ i < n)) :
    Calls Try.prog 12 #[.pointer (some ⟨k, 0, none⟩), .int .i64 i] w fun e w' => e = .returned (.int .i64 1) ∧ w = w' := by
  have hc := is_walk i h
  rw [decide_eq_false hi] at hc
  clear h hi
  go_enter Try.func12, Try.ntmps12
  go_wp2_with fail
  refine hc.mono ?_
  rintro e w' ⟨rfl, rfl⟩
  go_wp2
  go_ret
  exact ⟨rfl, rfl⟩

theorem Lst.setY {w : World} {k bE bY bP n : Nat} {e y : Nat → Nat} {p : Nat → Bool} (h : Lst w k bE bY bP n e y p) (a v : Nat) (ha : a ≤ n) : Lst (w.setCell ⟨bY, a, none⟩ (.int .i64 (v : Nat))) k bE bY bP n e (put y a v) p := by
  have hc := setCell_block w ⟨bY, a, none⟩ (.int .i64 (v : Nat))
  have h' := hc k h.d5
  exact ⟨by rw [World.cell?_of_block (w := w) (a := ⟨k, 0, none⟩) h']; exact h.f0, by rw [World.cell?_of_block (w := w) (a := ⟨k, 1, none⟩) h']; exact h.f1, by rw [World.cell?_of_block (w := w) (a := ⟨k, 2, none⟩) h']; exact h.f2,
    h.ce.other (hc bE h.d1), h.cy.set a v (by omega), h.cp.other (hc bP (Ne.symm h.d3)), h.d1, h.d2, h.d3, h.d4, h.d5, h.d6, h.pos, h.top⟩
theorem Lst.setE {w : World} {k bE bY bP n : Nat} {e y : Nat → Nat} {p : Nat → Bool} (h : Lst w k bE bY bP n e y p) (a v : Nat) (ha : a ≤ n) : Lst (w.setCell ⟨bE, a, none⟩ (.int .i64 (v : Nat))) k bE bY bP n (put e a v) y p := by
  have hc := setCell_block w ⟨bE, a, none⟩ (.int .i64 (v : Nat))
  have h' := hc k h.d4
  exact ⟨by rw [World.cell?_of_block (w := w) (a := ⟨k, 0, none⟩) h']; exact h.f0, by rw [World.cell?_of_block (w := w) (a := ⟨k, 1, none⟩) h']; exact h.f1, by rw [World.cell?_of_block (w := w) (a := ⟨k, 2, none⟩) h']; exact h.f2,
    h.ce.set a v (by omega), h.cy.other (hc bY (Ne.symm h.d1)), h.cp.other (hc bP (Ne.symm h.d2)), h.d1, h.d2, h.d3, h.d4, h.d5, h.d6, h.pos, h.top⟩
theorem Lst.setP {w : World} {k bE bY bP n : Nat} {e y : Nat → Nat} {p : Nat → Bool} (h : Lst w k bE bY bP n e y p) (i : Nat) (hi : i < n) : Lst (w.setCell ⟨bP, i, none⟩ (.bool true)) k bE bY bP n e y (putB p i) := by
  have hc := setCell_block w ⟨bP, i, none⟩ (.bool true)
  have h' := hc k h.d6
  exact ⟨by rw [World.cell?_of_block (w := w) (a := ⟨k, 0, none⟩) h']; exact h.f0, by rw [World.cell?_of_block (w := w) (a := ⟨k, 1, none⟩) h']; exact h.f1, by rw [World.cell?_of_block (w := w) (a := ⟨k, 2, none⟩) h']; exact h.f2,
    h.ce.other (hc bE h.d2), h.cy.other (hc bY h.d3), h.cp.set i hi, h.d1, h.d2, h.d3, h.d4, h.d5, h.d6, h.pos, h.top⟩
theorem Lst.drew {w : World} {k bE bY bP n : Nat} {e y : Nat → Nat} {p : Nat → Bool} (h : Lst w k bE bY bP n e y p) : Lst w.drew k bE bY bP n e y p := h.other rfl rfl rfl rfl

set_option maxRecDepth 100000 in
set_option maxHeartbeats 1000000 in
theorem Touch_walk (i : Nat) {w : World} {k bE bY bP n : Nat} {e y : Nat → Nat} {p : Nat → Bool} (h : Lst w k bE bY bP n e y p) (hi : i < n) (a b last : Nat) (ha : e i = a) (hb : y i = b) (hl : put e b a n = last)
    (han : a ≤ n) (hbn : b ≤ n) (hln : last ≤ n) :
    Calls Try.prog 10 #[.pointer (some ⟨k, 0, none⟩), .int .i64 (i : Int)] w fun r w' => r = .returned (.int .i64 0) ∧
      Lst w' k bE bY bP n (put (put (put e b a) i last) n i) (put (put (put y a b) last i) i n) p ∧ Only [bE, bY] w w' := by
  have hc := is_walk (i : Int) h
  rw [decide_eq_true (by omega)] at hc
  have HC := Lib.hid hc
  have H := Lib.hid h
  have h0 := h.f0
  have h1 := h.f1
  have h2 := h.f2
  have hEi := h.ce.cell i (by omega)
  have hYi := h.cy.cell i (by omega)
  have htop := h.top
  rw [ha] at hEi
  rw [hb] at hYi
  clear h hc
  have hYa := H.out.cy.cell a (by omega)
  have hEb := H.out.ce.cell b (by omega)
  have hfa := H.out.cy.free a
  have hfb := H.out.ce.free b
  have hkE := H.out.d4
  have hkY := H.out.d5
  have hEY := H.out.d1
  have hl1 := (H.out.setY a b han).setE b a hbn
  have ho1 := ((Only.refl [bE, bY] w).setCell ⟨bY, a, none⟩ (by simp) (.int .i64 (b : Nat))).setCell ⟨bE, b, none⟩ (by simp) (.int .i64 (a : Nat))
  have HL := Lib.hid hl1; have HO := Lib.hid ho1; clear hl1 ho1
  go_enter Try.func10, Try.ntmps10
  go_wp2_with fail
  refine HC.out.mono ?_
  rintro e w' ⟨rfl, rfl⟩
  go_wp2
  go_region
  go_wp2_with fail
  go_region
  have hl2 := HL.out.drew.drew
  have ho2 := HO.out.drew.drew
  clear HL HO H h0 h1 h2 hEi hYi hYa hEb hfa hfb HC ha hb
  generalize ((w.setCell { block := bY, off := a } (Value.int IntKind.i64 ↑b)).setCell { block := bE, off := b } (Value.int IntKind.i64 ↑a)).drew.drew = W1 at *
  have h0 := hl2.f0
  have h1 := hl2.f1
  have h2 := hl2.f2
  have hEn := hl2.ce.cell n (by omega)
  rw [hl] at hEn
  have hYa := hl2.cy.cell last (by omega)
  have hEb := hl2.ce.cell i (by omega)
  have hfa := hl2.cy.free last
  have hfb := hl2.ce.free i
  have hl1 := (hl2.setY last i hln).setE i last (by omega)
  have ho1 := (ho2.setCell ⟨bY, last, none⟩ (by simp) (.int .i64 (i : Nat))).setCell ⟨bE, i, none⟩ (by simp) (.int .i64 (last : Nat))
  have HL := Lib.hid hl1; have HO := Lib.hid ho1; clear hl1 ho1 hl2 ho2
  go_wp2_with fail
  go_region
  have hl2 := HL.out.drew
  have ho2 := HO.out.drew
  clear HL HO h0 h1 h2 hEn hYa hEb hfa hfb hl
  generalize ((W1.setCell { block := bY, off := last } (Value.int IntKind.i64 ↑i)).setCell { block := bE, off := i } (Value.int IntKind.i64 ↑last)).drew = W2 at *
  have h0 := hl2.f0
  have h1 := hl2.f1
  have hYa := hl2.cy.cell i (by omega)
  have hEb := hl2.ce.cell n (by omega)
  have hfa := hl2.cy.free i
  have hfb := hl2.ce.free n
  have hl1 := (hl2.setY i n (by omega)).setE n i (by omega)
  have ho1 := (ho2.setCell ⟨bY, i, none⟩ (by simp) (.int .i64 (n : Nat))).setCell ⟨bE, n, none⟩ (by simp) (.int .i64 (i : Nat))
  have HL := Lib.hid hl1; have HO := Lib.hid ho1; clear hl1 ho1 hl2 ho2
  go_wp2_with fail
  go_region
  go_wp2_with fail
  go_ret
  exact ⟨rfl, HL.out.drew, HO.out.drew⟩

theorem Touch_is (i : Nat) {w : World} {k bE bY bP n : Nat} {o : List Nat} {p : Nat → Bool} (h : IsX w k bE bY bP n o p) (hi : i < n) :
    Calls Try.prog 10 #[.pointer (some ⟨k, 0, none⟩), .int .i64 (i : Int)] w fun r w' => r = .returned (.int .i64 0) ∧ IsX w' k bE bY bP n (tch i o) p ∧ Only [bE, bY] w w' := by
  obtain ⟨⟨e, y, hl, hr⟩, ok⟩ := h
  obtain ⟨r1, r2, r3, r4⟩ := ring_touch ok hr i hi _ _ _ rfl rfl rfl
  exact (Touch_walk i hl hi _ _ _ rfl rfl rfl r1 r2 r3).mono fun r w' ⟨h1, h2, h3⟩ => ⟨h1, ⟨⟨_, _, h2, r4⟩, okOrd_tch ok i hi⟩, h3⟩
theorem Touch_not (i : Int) {w : World} {k bE bY bP n : Nat} {o : List Nat} {p : Nat → Bool} (h : IsX w k bE bY bP n o p) (hi : ¬ (0 ≤ i ∧ i < n)) :
    Calls Try.prog 10 #[.pointer (some ⟨k, 0, none⟩), .int .i64 i] w fun e w' => e = .returned (.int .i64 1) ∧ w = w' := by
  obtain ⟨⟨e, y, hl, hr⟩, ok⟩ := h
  exact Touch_off i hl hi
theorem Pin_is (i : Nat) {w : World} {k bE bY bP n : Nat} {o : List Nat} {p : Nat → Bool} (h : IsX w k bE bY bP n o p) (hi : i < n) :
    Calls Try.prog 12 #[.pointer (some ⟨k, 0, none⟩), .int .i64 (i : Int)] w fun r w' => r = .returned (.int .i64 0) ∧ IsX w' k bE bY bP n o (putB p i) ∧ Only [bP] w w' := by
  obtain ⟨⟨e, y, hl, hr⟩, ok⟩ := h
  exact (Pin_walk i hl hi).mono fun r w' ⟨h1, h2⟩ => by subst h2; exact ⟨h1, ⟨⟨_, _, hl.setP i hi, hr⟩, ok⟩, (Only.refl _ _).setCell _ (by simp) _⟩
theorem Pin_not (i : Int) {w : World} {k bE bY bP n : Nat} {o : List Nat} {p : Nat → Bool} (h : IsX w k bE bY bP n o p) (hi : ¬ (0 ≤ i ∧ i < n)) :
    Calls Try.prog 12 #[.pointer (some ⟨k, 0, none⟩), .int .i64 i] w fun e w' => e = .returned (.int .i64 1) ∧ w = w' := by
  obtain ⟨⟨e, y, hl, hr⟩, ok⟩ := h
  exact Pin_off i hl hi
end Go.Proofs.Ytnedpmibmldbfaa
