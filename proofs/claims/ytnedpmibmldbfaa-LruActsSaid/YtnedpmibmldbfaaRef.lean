/- What Round, Ints, within and the reference's Pin and Oldest come to. -/
import Derived.Test.YtnedpmibmldbfaaBase
namespace Go.Proofs.Ytnedpmibmldbfaa
open Go.RowKit

theorem tmod_round (k n : Int) (hn : 1 ≤ n) : -n < k.tmod n ∧ k.tmod n < n ∧ (k.tmod n + n).tmod n = k % n := by
  by_cases h : 0 ≤ k
  · have e : k.tmod n = k % n := Int.tmod_eq_emod_of_nonneg h
    have hlt := Int.emod_lt_of_pos k (show 0 < n by omega)
    have hge := Int.emod_nonneg k (show n ≠ 0 by omega)
    rw [e]
    refine ⟨by omega, hlt, ?_⟩
    rw [Int.tmod_eq_emod_of_nonneg (by omega), Int.add_emod_right, Int.emod_emod]
  · have e : k.tmod n = -((-k) % n) := by
      have h1 : (-k).tmod n = (-k) % n := Int.tmod_eq_emod_of_nonneg (by omega)
      rw [← h1, Int.neg_tmod]; omega
    have hlt := Int.emod_lt_of_pos (-k) (show 0 < n by omega)
    have hge := Int.emod_nonneg (-k) (show n ≠ 0 by omega)
    have hd := Int.mul_ediv_add_emod (-k) n
    rw [e]
    refine ⟨by omega, by omega, ?_⟩
    rw [Int.tmod_eq_emod_of_nonneg (by omega), Int.add_emod_right]
    have e2 : -(-k % n) = k + n * (-k / n) := by omega
    rw [e2, Int.add_mul_emod_self_left]

/-- wainscotalike.Round: a number from 0 to ahead of n -/
theorem Round_walk (k n : Int) (hn : 1 ≤ n) (hn2 : n ≤ 1099511627776) (w : World) :
    Calls Try.prog 18 #[.int .i64 k, .int .i64 n] w fun e w' => e = .returned (.int .i64 (k % n)) ∧ w = w' := by
  obtain ⟨h2, h3, h1⟩ := tmod_round k n hn
  go_enter Try.func18, Try.ntmps18
  go_wp2
  go_ret
  exact ⟨rfl, rfl⟩
theorem Round_nat (k : Int) (n : Nat) (hn : 1 ≤ n) (hn2 : n ≤ 128) (w : World) :
    Calls Try.prog 18 #[.int .i64 k, .int .i64 (n : Int)] w fun e w' => e = .returned (.int .i64 ((k % (n : Int)).toNat : Nat)) ∧ w = w' := by
  have := Int.emod_nonneg k (show (n : Int) ≠ 0 by omega)
  rw [Int.toNat_of_nonneg this]
  exact Round_walk k n (by omega) (by omega) w
theorem round_lt (k : Int) (n : Nat) (hn : 1 ≤ n) : (k % (n : Int)).toNat < n := by
  have := Int.emod_lt_of_pos k (show (0 : Int) < (n : Int) by omega)
  have := Int.emod_nonneg k (show (n : Int) ≠ 0 by omega)
  omega

theorem within_walk (k a b : Int) (w : World) :
    Calls Try.prog 19 #[.int .i64 k, .int .i64 a, .int .i64 b] w fun e w' => e = .returned (.bool (decide (a ≤ k ∧ k ≤ b))) ∧ w = w' := by
  by_cases h : a ≤ k
  · by_cases h1 : k ≤ b
    · go_enter Try.func19, Try.ntmps19
      go_wp2
      go_ret
      exact ⟨by rw [decide_eq_true (by omega)]; rfl, rfl⟩
    · go_enter Try.func19, Try.ntmps19
      go_wp2
      go_ret
      exact ⟨by rw [decide_eq_false (by omega)]; rfl, rfl⟩
  · go_enter Try.func19, Try.ntmps19
    go_wp2
    go_ret
    exact ⟨by rw [decide_eq_false (by omega)]; rfl, rfl⟩

theorem take_snoc (l : List Nat) (k : Nat) (h : k < l.length) : l.take (k + 1) = l.take k ++ [l.getD k 0] := by
  rw [List.take_succ_eq_append_getElem h, List.getD_eq_getElem?_getD, List.getElem?_eq_getElem h]; rfl
theorem below_drew {w w' : World} (h : Below w.heap.size w w') : Below w.heap.size w w'.drew := ⟨h.os, h.tape, h.output, h.size, h.block⟩
set_option maxRecDepth 100000 in
theorem Ints_walk (A B : Option Addr) (la lb ca cb : Nat) (l m : List Nat) (hl : l.length = la) (hm : m.length = lb) (w : World) (hr : Row w A l) (hs : Row w B m) (hla : la ≤ 140737488351232) :
    Calls Try.prog 16 #[.slice A la ca, .slice B lb cb] w fun e w' => e = .returned (.bool (decide (l = m))) ∧ Below w.heap.size w w' := by
  by_cases hlen : la = lb
  · subst hlen
    have hb0 := Below.refl w.heap.size w
    go_enter Try.func16, Try.ntmps16
    go_wp2
    go_loopw [5] (fun i wr => ∃ k : Nat, k ≤ la ∧ i = .int .i64 k ∧ l.take k = m.take k ∧ Below w.heap.size w wr) (fun i _ => la - (intOf i).toNat)
    case atStart => exact ⟨0, by omega, rfl, rfl, hb0⟩
    case round =>
      obtain ⟨k, hk, rfl, he, hB⟩ := hrel
      clear hb0
      by_cases hlt : k < la
      · obtain ⟨b, off, rfl, hc⟩ := (hr.ext (ext_of_below hB)).cell k (by omega)
        obtain ⟨b', off', rfl, hc'⟩ := (hs.ext (ext_of_below hB)).cell k (by omega)
        have hne : l.getD k 0 ≠ m.getD k 0 → l ≠ m := fun h e => h (by rw [e])
        have hsn : l.getD k 0 = m.getD k 0 → l.take (k + 1) = m.take (k + 1) := fun h => by
          rw [take_snoc l k (by omega), take_snoc m k (by omega), he, h]
        generalize l.getD k 0 = x at *
        generalize m.getD k 0 = y at *
        have HE := Lib.hid (And.intro hne (And.intro hsn hB))
        clear hne hsn hB he hr hs
        by_cases e : x = y
        · subst e
          go_wp2_with fail
          go_region
          go_wp2_with fail
          go_roundw
          case rel => exact ⟨k + 1, by omega, by go_num, HE.out.2.1 (by trivial), below_drew HE.out.2.2⟩
          case measure => simp [intOf]; omega
        · have e2 : ((x : Int) != (y : Int)) = true := by simp; omega
          go_wp2_with fail
          go_region
          go_wp2_with fail
          go_ret
          exact ⟨by rw [decide_eq_false (HE.out.1 e)]; rfl, below_drew HE.out.2.2⟩
      · have e : k = la := by omega
        subst e
        rw [List.take_of_length_le (by omega), List.take_of_length_le (by omega)] at he
        have HE := Lib.hid (And.intro he hB)
        clear he hB hr hs
        go_wp2_with fail
        go_ret
        exact ⟨by rw [decide_eq_true HE.out.1]; rfl, HE.out.2⟩
  · have hne : l ≠ m := fun e => hlen (by rw [← hl, ← hm, e])
    clear hr hs
    go_enter Try.func16, Try.ntmps16
    go_wp2
    go_ret
    exact ⟨by rw [decide_eq_false hne]; rfl, Below.refl _ _⟩

set_option maxRecDepth 100000 in
theorem RPin_walk (i : Nat) {w : World} {k bL bP n cap : Nat} {o : List Nat} {p : Nat → Bool} (h : IsM w k bL bP n cap o p) (hi : i < n) :
    Calls Try.prog 13 #[.pointer (some ⟨k, 0, none⟩), .int .i64 (i : Int)] w fun r w' => r = .returned (.int .i64 0) ∧ w.setCell ⟨bP, i, none⟩ (.bool true) = w' := by
  have hc := within_walk (i : Int) 0 ((n : Int) - 1) w
  rw [decide_eq_true (by omega)] at hc
  have h1 := h.f1
  have hb := h.cp.cell i hi
  have hf := h.cp.free i
  have htop := h.top
  clear h
  go_enter Try.func13, Try.ntmps13
  go_wp2_with fail
  refine hc.mono ?_
  rintro e w' ⟨rfl, rfl⟩
  go_wp2
  go_ret
  exact ⟨rfl, rfl⟩
set_option maxRecDepth 100000 in
theorem RPin_not (i : Int) {w : World} {k bL bP n cap : Nat} {o : List Nat} {p : Nat → Bool} (h : IsM w k bL bP n cap o p) (hi : ¬ (0 ≤ i ∧ i < n)) :
    Calls Try.prog 13 #[.pointer (some ⟨k, 0, none⟩), .int .i64 i] w fun r w' => r = .returned (.int .i64 1) ∧ w = w' := by
  have hc := within_walk i 0 ((n : Int) - 1) w
  rw [decide_eq_false (by omega)] at hc
  have h1 := h.f1
  have htop := h.top
  clear h
  go_enter Try.func13, Try.ntmps13
  go_wp2_with fail
  refine hc.mono ?_
  rintro e w' ⟨rfl, rfl⟩
  go_wp2
  go_ret
  exact ⟨rfl, rfl⟩
theorem IsM.setP {w : World} {k bL bP n cap : Nat} {o : List Nat} {p : Nat → Bool} (h : IsM w k bL bP n cap o p) (i : Nat) (hi : i < n) : IsM (w.setCell ⟨bP, i, none⟩ (.bool true)) k bL bP n cap o (putB p i) := by
  have hc := setCell_block w ⟨bP, i, none⟩ (.bool true)
  have h' := hc k h.d2
  exact ⟨by rw [World.cell?_of_block (w := w) (a := ⟨k, 0, none⟩) h']; exact h.f0, by rw [World.cell?_of_block (w := w) (a := ⟨k, 1, none⟩) h']; exact h.f1, by rw [World.frozen?_of_block (w := w) (a := ⟨k, 0, none⟩) h']; exact h.free,
    fun i hi => by rw [World.cell?_of_block (w := w) (a := ⟨bL, i, none⟩) (hc bL h.d3)]; exact h.cl i hi, h.cp.set i hi, h.ok, h.hcap, h.d1, h.d2, h.d3, h.pos, h.top⟩
theorem RPin_is (i : Nat) {w : World} {k bL bP n cap : Nat} {o : List Nat} {p : Nat → Bool} (h : IsM w k bL bP n cap o p) (hi : i < n) :
    Calls Try.prog 13 #[.pointer (some ⟨k, 0, none⟩), .int .i64 (i : Int)] w fun r w' => r = .returned (.int .i64 0) ∧ IsM w' k bL bP n cap o (putB p i) ∧ Only [bP] w w' :=
  (RPin_walk i h hi).mono fun r w' ⟨h1, h2⟩ => by subst h2; exact ⟨h1, h.setP i hi, (Only.refl _ _).setCell _ (by simp) _⟩

theorem find_skip (p : Nat → Bool) (l : List Nat) (k : Nat) (hk : ∀ j, j < k → p (l.getD j 0) = true) (hlt : k < l.length) (hx : p (l.getD k 0) = false) : oldest p l = some (l.getD k 0) := by
  induction l generalizing k with
  | nil => simp at hlt
  | cons a l ih =>
    unfold oldest
    rw [List.find?_cons]
    cases k with
    | zero =>
      simp only [List.getD_cons_zero] at hx ⊢
      simp [hx]
    | succ k =>
      have h0 := hk 0 (by omega)
      simp only [List.getD_cons_zero] at h0
      simp only [h0, Bool.not_true]
      exact ih k (fun j hj => by have := hk (j + 1) (by omega); simpa using this) (by simpa using hlt) (by simpa using hx)
theorem find_none (p : Nat → Bool) (l : List Nat) (hk : ∀ j, j < l.length → p (l.getD j 0) = true) : oldest p l = none := by
  unfold oldest
  rw [List.find?_eq_none]
  intro x hx
  obtain ⟨j, hj, rfl⟩ := List.getElem_of_mem hx
  have := hk j hj
  rw [List.getD_eq_getElem?_getD, List.getElem?_eq_getElem hj] at this
  simpa using this

/-- what the reference's Oldest hands back -/
def oldI (p : Nat → Bool) (o : List Nat) : Int := match oldest p o with
  | some x => (x : Int)
  | none => -1
set_option maxRecDepth 100000 in
theorem ROldest_walk {w : World} {k bL bP n cap : Nat} {o : List Nat} {p : Nat → Bool} (h : IsM w k bL bP n cap o p) :
    Calls Try.prog 15 #[.pointer (some ⟨k, 0, none⟩)] w fun r w' => r = .returned (.int .i64 (oldI p o)) ∧ Below w.heap.size w w' := by
  have hb0 := Below.refl w.heap.size w
  have H := Lib.hid h
  have htop := h.top
  have hlen := h.ok.len
  clear h
  go_enter Try.func15, Try.ntmps15
  go_wp2
  go_loopw [3] (fun i wr => ∃ j : Nat, j ≤ n ∧ i = .int .i64 j ∧ (∀ t, t < j → p (o.getD t 0) = true) ∧ Below w.heap.size w wr) (fun i _ => n - (intOf i).toNat)
  case atStart => exact ⟨0, by omega, rfl, fun t ht => by omega, hb0⟩
  case round =>
    obtain ⟨j, hj, rfl, hp, hB⟩ := hrel
    clear hb0
    have hm := H.out.other (hB.block k H.out.lt.1) (hB.block bL H.out.lt.2.1) (hB.block bP H.out.lt.2.2)
    have h0 := hm.f0
    have h1 := hm.f1
    by_cases hlt : j < n
    · have hc := hm.cl j hlt
      have hox : o.getD j 0 < n := by
        refine hm.ok.lt _ ?_
        rw [List.getD_eq_getElem?_getD, List.getElem?_eq_getElem (by omega)]; simp
      have hb := hm.cp.cell (o.getD j 0) hox
      by_cases hx : p (o.getD j 0) = true
      · have hnext : ∀ t, t < j + 1 → p (o.getD t 0) = true := fun t ht => by
          by_cases e : t = j
          · subst e; exact hx
          · exact hp t (by omega)
        rw [hx] at hb
        have HN := Lib.hid (And.intro hnext hB)
        clear hnext hB hp hx hm
        generalize o.getD j 0 = x at *
        go_wp2_with fail
        go_region
        go_wp2_with fail
        go_roundw
        case rel => exact ⟨j + 1, by omega, by go_num, HN.out.1, below_drew HN.out.2⟩
        case measure => simp [intOf]; omega
      · have hx' : p (o.getD j 0) = false := by simpa using hx
        have hf := find_skip p o j hp (by omega) hx'
        have hr : oldI p o = (o.getD j 0 : Nat) := by unfold oldI; rw [hf]
        rw [hx'] at hb
        have HN := Lib.hid (And.intro hr hB)
        clear hr hf hB hp hx hx' hm
        generalize o.getD j 0 = x at *
        go_wp2_with fail
        go_region
        go_wp2_with fail
        go_ret
        exact ⟨by rw [HN.out.1]; rfl, below_drew HN.out.2⟩
    · have e : j = n := by omega
      subst e
      have hf := find_none p o (fun t ht => hp t (by omega))
      have hr : oldI p o = -1 := by unfold oldI; rw [hf]
      have HN := Lib.hid (And.intro hr hB)
      clear hr hf hB hp hm
      go_wp2_with fail
      go_ret
      exact ⟨by rw [HN.out.1]; rfl, HN.out.2⟩
end Go.Proofs.Ytnedpmibmldbfaa
