/- The callers' words in the open, and what awake comes to. -/
import Derived.Test.YtnedpmibmldbfaaOrd
import Derived.Test.YtnedpmibmldbfaaRTouch
namespace Go.Proofs.Ytnedpmibmldbfaa
open Go.RowKit

theorem Oldest_calls {w : World} {P0 : Option Addr} {p : Nat → Bool} {xs : List Nat} (hL : IsO w w.heap.size P0 p xs) :
    Calls Try.prog 14 #[.pointer P0] w fun e W' => e = .returned (oldR p xs) ∧ Below w.heap.size w W' :=
  (callsIn_wide (n := 3)).1 (Oldest_in _ 3 trivial trivial trivial rfl (Nat.le_refl _) P0 p xs w hL)
theorem order_fresh {w : World} {P0 : Option Addr} {p : Nat → Bool} {xs : List Nat} (most : Int) (hL : IsO w w.heap.size P0 p xs) :
    Calls Try.prog 17 #[.pointer P0, .int .i64 most] w fun e W' => ∃ A cap, e = .returned (.slice A (ordR most xs).length cap) ∧ Row W' A (ordR most xs) ∧ (ordR most xs).length ≤ cap ∧ Below w.heap.size w W' ∧ ∀ b off, A = some ⟨b, off, none⟩ → w.heap.size + 1 ≤ b :=
  (callsIn_wide (n := 3)).1 (order_in _ 3 trivial trivial trivial rfl (Nat.le_refl _) P0 most p xs w hL)
theorem order_calls {w : World} {P0 : Option Addr} {p : Nat → Bool} {xs : List Nat} (most : Int) (hL : IsO w w.heap.size P0 p xs) :
    Calls Try.prog 17 #[.pointer P0, .int .i64 most] w fun e W' => ∃ A cap, e = .returned (.slice A (ordR most xs).length cap) ∧ Row W' A (ordR most xs) ∧ (ordR most xs).length ≤ cap ∧ Below w.heap.size w W' :=
  (order_fresh most hL).mono fun e W' ⟨A, cap, h1, h2, h3, h4, _⟩ => ⟨A, cap, h1, h2, h3, h4⟩
theorem isO_none (w : World) (p : Nat → Bool) : IsO w w.heap.size none p [] := .inl ⟨rfl, rfl⟩
theorem ordR_all (xs : List Nat) : ordR (-1) xs = xs := by unfold ordR; rw [if_pos (by omega)]
theorem order_all {w : World} {k bE bY bP n : Nat} {o : List Nat} {p : Nat → Bool} (h : IsX w k bE bY bP n o p) :
    Calls Try.prog 17 #[.pointer (some ⟨k, 0, none⟩), .int .i64 (-1)] w fun e W' => ∃ A cap, e = .returned (.slice A n cap) ∧ Row W' A o ∧ n ≤ cap ∧ Below w.heap.size w W' :=
  (order_calls (-1) h.isO).mono fun e W' ⟨A, cap, h1, h2, h3, h4⟩ => by
    rw [ordR_all, h.ok.len] at h1 h3
    rw [ordR_all] at h2
    exact ⟨A, cap, h1, h2, h3, h4⟩
theorem order_allF {w : World} {k bE bY bP n : Nat} {o : List Nat} {p : Nat → Bool} (h : IsX w k bE bY bP n o p) :
    Calls Try.prog 17 #[.pointer (some ⟨k, 0, none⟩), .int .i64 (-1)] w fun e W' => ∃ A cap, e = .returned (.slice A n cap) ∧ Row W' A o ∧ n ≤ cap ∧ Below w.heap.size w W' ∧ ∀ b off, A = some ⟨b, off, none⟩ → w.heap.size + 1 ≤ b :=
  (order_fresh (-1) h.isO).mono fun e W' ⟨A, cap, h1, h2, h3, h4⟩ => by
    rw [ordR_all, h.ok.len] at h1 h3
    rw [ordR_all] at h2
    exact ⟨A, cap, h1, h2, h3, h4⟩
theorem Touch_nat (i : Int) {w : World} {k bE bY bP n : Nat} {o : List Nat} {p : Nat → Bool} (h : IsX w k bE bY bP n o p) (j : Nat) (hj : i = (j : Int)) (hi : j < n) :
    Calls Try.prog 10 #[.pointer (some ⟨k, 0, none⟩), .int .i64 i] w fun r w' => r = .returned (.int .i64 0) ∧ IsX w' k bE bY bP n (tch j o) p ∧ Only [bE, bY] w w' := by
  subst hj; exact Touch_is j h hi

theorem row_new3 (w : World) : Row (w.alloc (.cells #[.int .i64 1, .int .i64 2, .int .i64 0] 3)) (some ⟨w.heap.size, 0, none⟩) [1, 2, 0] := by
  refine ⟨fun i hi => ⟨w.heap.size, 0, rfl, ?_⟩⟩
  have hi' : i < 3 := by simpa using hi
  rw [cellNew]
  have h3 : i = 0 ∨ i = 1 ∨ i = 2 := by omega
  rcases h3 with rfl | rfl | rfl <;> rfl

set_option maxRecDepth 100000 in
set_option maxHeartbeats 1000000 in
theorem awake_walk (w : World) : Calls Try.prog 7 #[] w fun e w' => e = .returned (.bool true) ∧ Below w.heap.size w w' := by
  go_enter Try.func7, Try.ntmps7
  go_wp2_with fail
  refine (New_walk 3 (by omega) (by omega) w).mono ?_
  rintro e w1 ⟨k, bE, bY, bP, rfl, hX, hB, hk, hE, hY, hP⟩
  have HQ := Lib.hid (And.intro hk (And.intro hE (And.intro hY hP)))
  have H := Lib.hid (And.intro hX hB)
  clear hX hB hk hE hY hP
  go_wp2_with fail
  refine (New_not 0 (by omega) _).mono ?_
  rintro e w2 ⟨rfl, rfl⟩
  go_wp2_with fail
  refine (Touch_nat 0 H.out.1 0 rfl (by omega)).mono ?_
  rintro e w2 ⟨rfl, hX, hO⟩
  have H2 := Lib.hid (And.intro hX (H.out.2.trans (hO.below H.out.2.size (by simp; have := HQ.out; omega))))
  clear hX hO H
  go_wp2_with fail
  refine (Oldest_calls H2.out.1.isO).mono ?_
  rintro e w3 ⟨rfl, hB3⟩
  have ho : oldR (fun _ => false) (tch 0 (List.range 3)) = .tuple #[.int .i64 1, .bool true] := rfl
  rw [ho]
  have H3 := Lib.hid (And.intro (H2.out.1.below hB3 H2.out.1.lt) (H2.out.2.trans (hB3.mono H2.out.2.size)))
  clear hB3 H2 ho
  go_wp2_with fail
  refine (Pin_is 1 H3.out.1 (by omega)).mono ?_
  rintro e w4 ⟨rfl, hX, hO⟩
  have H4 := Lib.hid (And.intro hX (H3.out.2.trans (hO.below H3.out.2.size (by simp; have := HQ.out; omega))))
  clear hX hO H3
  go_wp2_with fail
  refine (Oldest_calls H4.out.1.isO).mono ?_
  rintro e w5 ⟨rfl, hB5⟩
  have ho : oldR (putB (fun _ => false) 1) (tch 0 (List.range 3)) = .tuple #[.int .i64 2, .bool true] := rfl
  rw [ho]
  have H5 := Lib.hid (And.intro (H4.out.1.below hB5 H4.out.1.lt) (H4.out.2.trans (hB5.mono H4.out.2.size)))
  clear hB5 H4 ho
  go_wp2_with fail
  refine (Oldest_calls (isO_none _ (fun _ => false))).mono ?_
  rintro e w6 ⟨rfl, hB6⟩
  have ho : oldR (fun _ => false) [] = .tuple #[.int .i64 0, .bool false] := rfl
  rw [ho]
  have H6 := Lib.hid (And.intro (H5.out.1.below hB6 H5.out.1.lt) (H5.out.2.trans (hB6.mono H5.out.2.size)))
  clear hB6 H5 ho
  go_wp2_with fail
  refine (order_all H6.out.1).mono ?_
  rintro e w7 ⟨A, cap, rfl, hR, hcap, hB7⟩
  have H7 := Lib.hid (And.intro (H6.out.1.below hB7 H6.out.1.lt) (And.intro hR (H6.out.2.trans (hB7.mono H6.out.2.size))))
  clear hB7 H6 hR
  go_wp2_with fail
  refine (Ints_walk A (some ⟨w7.heap.size, 0, none⟩) 3 3 cap 3 (tch 0 (List.range 3)) [1, 2, 0] (by decide +kernel) (by rfl) _ (H7.out.2.1.ext (ext_of_below (belowAlloc _ _))) (row_new3 w7) (by omega)).mono ?_
  rintro e w8 ⟨rfl, hB8⟩
  have hd : decide (tch 0 (List.range 3) = [1, 2, 0]) = true := by decide +kernel
  rw [hd]
  have hB8' : Below w7.heap.size w7 w8 := (belowAlloc w7 _).trans (hB8.mono (by simp))
  have H8 := Lib.hid (And.intro (H7.out.1.below hB8' H7.out.1.lt) (H7.out.2.2.trans (hB8'.mono H7.out.2.2.size)))
  clear hB8 hB8' H7 hd
  go_wp2_with fail
  refine (Touch_not 3 H8.out.1 (by omega)).mono ?_
  rintro e w9 ⟨rfl, rfl⟩
  go_wp2_with fail
  refine (Touch_none 0 _).mono ?_
  rintro e w9 ⟨rfl, rfl⟩
  go_wp2_with fail
  refine (order_calls (-1) (isO_none _ (fun _ => false))).mono ?_
  rintro e w10 ⟨A', cap', rfl, hR, hcap', hB10⟩
  rw [ordR_all]
  have H10 := Lib.hid (H8.out.2.trans (hB10.mono H8.out.2.size))
  clear hR hB10 H8
  go_wp2_with fail
  go_ret
  exact ⟨rfl, H10.out⟩
end Go.Proofs.Ytnedpmibmldbfaa
