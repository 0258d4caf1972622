/- 'LruActs' returns true for every input: whoever is used and pinned, each call tells, the oldest one, and all in their order, are as the document says. -/
import Derived.Test.YtnedpmibmldbfaaTwo
import Derived.BigQuiet
import Derived.Deep.SlicePairs
import Derived.ProofKit
import Derived.OpenShut
import Derived.ShutString
import Derived.ChangeOld
import Derived.Below
namespace Go.Proofs.Ytnedpmibmldbfaa.lruActs
open Go.ChangeShapes Go.WideShapes Go.ChangeAt Go.RowKit
open Go.ChangeMaps (open_string shut_string)
set_option linter.unusedVariables false

theorem own : ownKnob Try.prog.godebug = none := by kernel_rfl
theorem laidOut : laidOutB Try.prog = true := by kernel_rfl

theorem cells3 : Try.prog.cellsOf 3 = 1 := by kernel_rfl
theorem run_geq (x : Nat) (w : World) : (binOp .geq 3 (.int .i64 (x : Int)) (.int .i64 0)).run Try.prog w = .ok (.bool true) w := by
  have h : (0 : Int) ≤ (x : Int) := by omega
  simp [binOp, Op.intCmp, go_sem, h]
theorem run_neqx (x : Nat) (w : World) : (binOp .neq 3 (.int .i64 (x : Int)) (.int .i64 (x : Int))).run Try.prog w = .ok (.bool false) w := by
  simp [binOp, Op.intCmp, go_sem]
theorem order_okA {w0 : World} {k bE bY bP n : Nat} {o : List Nat} {p : Nat → Bool} (h : IsX w0 k bE bY bP n o p) (w : World) (hI : Up w0 w) :
    CallOk Try.prog (Up w0) 17 #[.pointer (some ⟨k, 0, none⟩), .int .i64 (-1)] w (isRowS o) := by
  have := order_ok h (-1) w hI
  rwa [ordR_all] at this
theorem isX_drew {w : World} {k bE bY bP n : Nat} {o : List Nat} {p : Nat → Bool} (h : IsX w k bE bY bP n o p) : IsX w.drew k bE bY bP n o p := h.below (Below.refl w.heap.size w).drew h.lt
theorem isM_drew {w : World} {k bL bP n cap : Nat} {o : List Nat} {p : Nat → Bool} (h : IsM w k bL bP n cap o p) : IsM w.drew k bL bP n cap o p := h.other rfl rfl rfl
abbrev TouchC (w0 : World) (k bE bY bP k' bL bQ n cap : Nat) (o : List Nat) (p : Nat → Bool) (j : Nat) : Cls :=
  BothC w0 (fun w => IsX w k bE bY bP n o p) (fun w => IsX w k bE bY bP n (tch j o) p) (fun w => IsM w k' bL bQ n cap o p) (fun w => ∃ g c, IsM w k' g bQ n c (tch j o) p ∧ w0.heap.size ≤ g) [bE, bY, k']
abbrev PinC (w0 : World) (k bE bY bP k' bL bQ n cap : Nat) (o : List Nat) (p : Nat → Bool) (j : Nat) : Cls :=
  BothC w0 (fun w => IsX w k bE bY bP n o p) (fun w => IsX w k bE bY bP n o (putB p j)) (fun w => IsM w k' bL bQ n cap o p) (fun w => IsM w k' bL bQ n cap o (putB p j)) [bP, bQ]
/-- a row of acts that came in -/
def ARow (w : World) (a : Option Addr) (len : Nat) (z0 z1 : Nat → Int) : Prop := ∀ i, i < len → ∃ b off, a = some ⟨b, off, none⟩ ∧ b < w.heap.size ∧ w.cell? ⟨b, off + i * 2, none⟩ = some (.int .i64 (z0 i)) ∧ w.cell? ⟨b, off + i * 2 + 1, none⟩ = some (.int .i64 (z1 i))
theorem ARow.below {w w' : World} {a : Option Addr} {len : Nat} {z0 z1 : Nat → Int} (h : ARow w a len z0 z1) (hb : Below w.heap.size w w') (i : Nat) (hi : i < len) : ∃ b off, a = some ⟨b, off, none⟩ ∧ b < w.heap.size ∧ w'.cell? ⟨b, off + i * 2, none⟩ = some (.int .i64 (z0 i)) ∧ w'.cell? ⟨b, off + i * 2 + 1, none⟩ = some (.int .i64 (z1 i)) := by
  obtain ⟨b, off, h1, h2, h3, h4⟩ := h i hi
  exact ⟨b, off, h1, h2, by rw [hb.cell (p := ⟨b, off + i * 2, none⟩) h2]; exact h3, by rw [hb.cell (p := ⟨b, off + i * 2 + 1, none⟩) h2]; exact h4⟩

set_option maxRecDepth 100000 in
set_option maxHeartbeats 4000000 in
theorem walk (a0 : Int) (a1 : Option Addr) (len1 cap1 : Nat) (z0 z1 : Nat → Int) (w : World) (hrow : ARow w a1 len1 z0 z1) :
    Calls Try.prog 3 #[.int .i64 a0, .slice a1 len1 cap1] w fun e w' => e = .returned (.bool true) ∧ Below w.heap.size w w' := by
  have haw := awake_walk w
  have HAW := Lib.hid haw; clear haw
  by_cases h3 : 80 < len1
  · clear hrow
    go_enter Try.func3, Try.ntmps3
    go_wp2_with fail
    refine HAW.out.mono ?_
    rintro e w' ⟨rfl, hbw⟩
    go_wp2_with fail
    go_ret
    exact ⟨rfl, hbw⟩
  by_cases h1 : a0 < 1 ∨ 128 < a0
  · clear hrow
    go_enter Try.func3, Try.ntmps3
    go_wp2_with fail
    refine (New_not a0 h1 w).mono ?_
    rintro e w' ⟨rfl, rfl⟩
    go_wp2_with fail
    refine (NewLru_not a0 h1 w).mono ?_
    rintro e w' ⟨rfl, rfl⟩
    go_wp2_with fail
    refine HAW.out.mono ?_
    rintro e w' ⟨rfl, hbw⟩
    go_wp2_with fail
    go_ret
    exact ⟨rfl, hbw⟩
  clear HAW
  obtain ⟨n, rfl⟩ : ∃ n : Nat, a0 = (n : Int) := ⟨a0.toNat, by omega⟩
  have HR := Lib.hid hrow
  clear hrow
  go_enter Try.func3, Try.ntmps3
  go_wp2_with fail
  refine (New_walk n (by omega) (by omega) w).mono ?_
  rintro e wa ⟨k, bE, bY, bP, rfl, hX, hB, hk, hE, hY, hP⟩
  have HX := Lib.hid (And.intro hX (And.intro hB (And.intro hk (And.intro hE (And.intro hY hP)))))
  clear hX hB hk hE hY hP
  go_wp2_with fail
  refine (NewLru_walk n (by omega) (by omega) wa).mono ?_
  rintro e wb ⟨k', bL, bQ, cap, rfl, hM, hB, hk, hL, hP⟩
  have H0 := Lib.hid (show Both wb k bE bY bP k' bL bQ n cap (List.range n) (fun _ => false) ∧ Below w.heap.size w wb ∧ w.heap.size ≤ bL from by
    obtain ⟨h1, h2, h3⟩ := HX.out
    have hl := h1.lt
    have := h2.size
    exact ⟨⟨h1.below hB h1.lt, hM, by omega, by omega, by omega, by omega⟩, h2.trans (hB.mono h2.size), by omega⟩)
  have HQ := Lib.hid (show w.heap.size ≤ k ∧ w.heap.size ≤ bE ∧ w.heap.size ≤ bY ∧ w.heap.size ≤ bP ∧ w.heap.size ≤ k' ∧ w.heap.size ≤ bQ from by
    obtain ⟨h1, h2, h3, h4, h5, h6⟩ := HX.out
    have := h2.size
    omega)
  clear hM hB hk hL hP HX
  go_wp2_with fail
  go_loopw [8] (fun i wr => ∃ (t : Nat) (o : List Nat) (p : Nat → Bool) (bL cap : Nat), i = .int .i64 t ∧ Both wr k bE bY bP k' bL bQ n cap o p ∧ Below w.heap.size w wr ∧ w.heap.size ≤ bL) (fun i _ => len1 - (intOf i).toNat)
  case atStart => exact ⟨0, _, _, _, _, rfl, H0.out.1, H0.out.2.1, H0.out.2.2⟩
  case round =>
    clear H0 bL cap
    obtain ⟨t, o, p, bL, cap, rfl, hB, hW, hbase⟩ := hrel
    have HB := Lib.hid hB
    have HW := Lib.hid hW
    clear hB hW
    obtain ⟨wo, rfl⟩ : ∃ wo : World, wo = wr := ⟨_, rfl⟩
    by_cases hlt : t < len1
    · obtain ⟨b, off, rfl, hbw, hc0, hc1⟩ := HR.out.below HW.out t hlt
      by_cases hk1 : z0 t = 1
      · rw [hk1] at hc0
        clear hk1
        by_cases hin : 0 ≤ z1 t ∧ z1 t < n
        · obtain ⟨j, hzj⟩ : ∃ j : Nat, z1 t = (j : Int) := ⟨(z1 t).toNat, by omega⟩
          rw [hzj] at hc1 hin
          have hj : j < n := by omega
          clear hzj hin
          have hcell : ∀ w', (TouchC wo k bE bY bP k' bL bQ n cap o p j) w' → w'.cell? ⟨b, off + t * 2 + 1, none⟩ = some (.int .i64 (j : Int)) := fun w' h => h.2.2.cell hc1 (by have := HQ.out; simp; omega)
          go_wp2_with fail
          refine wp_region_inv2 132 mixed (by kernel_rfl) (by rfl) (TouchC wo k bE bY bP k' bL bQ n cap o p j) ⟨.inl (isX_drew HB.out.x), .inl (isM_drew HB.out.m), (Only.refl _ _).drew⟩ ?_
          refine wpI_cons (is (.pointer (some ⟨k, 0, none⟩))) (stable_is _) (step_move (go0 rfl) (.tmp 5) rfl (opO' 5 (.pointer (some ⟨k, 0, none⟩)) rfl rfl)) ?_
          refine wpI_cons (is (.slice (some ⟨b, off, none⟩) len1 cap1)) (stable_is _) (step_move (go0 rfl) (.tmp 1) rfl (opO' 1 (.slice (some ⟨b, off, none⟩) len1 cap1) rfl rfl)) ?_
          refine wpI_cons (is (.int .i64 (t : Int))) (stable_is _) (step_move (go0 rfl) (.tmp 8) rfl (opO' 8 (.int .i64 (t : Int)) rfl rfl)) ?_
          refine wpI_cons (is (.pointer (some ⟨b, off + t * 2, none⟩))) (stable_is _) (step_idx (go0 rfl) 22 (.tmp 54) (.tmp 55) rfl _ _ _ (opT' 54 1 rfl rfl) (opT' 55 2 rfl rfl) (fun w => run_ix22 w b off len1 cap1 t hlt)) ?_
          refine wpI_cons (is (.pointer (some ⟨b, off + t * 2 + 1, none⟩))) (stable_is _) (step_field (go0 rfl) 31 1 (.tmp 56) rfl _ _ (opT' 56 3 rfl rfl) (fun w => run_fa1 w _ _)) ?_
          refine wpI_cons (is (.int .i64 (j : Int))) (stable_is _) (step_cell (go0 rfl) 3 (.tmp 57) rfl _ _ (opT' 57 4 rfl rfl) hcell (fun w => run_load3 w)) ?_
          refine wpI_cons (fun v w => v = .int .i64 0 ∧ IsX w k bE bY bP n (tch j o) p) (fun v w w' h e => ⟨e.1, h.1 e.2⟩) (step_call2 (go0 rfl) 10 (.tmp 53) (.tmp 58) _ rfl enter10 (opT' 53 0 rfl rfl) (opT' 58 5 rfl rfl) (fun u v w h1 h2 h3 => by obtain rfl : u = _ := h2; obtain rfl : v = _ := h3; exact touchX_ok j HB.out hj w h1)) ?_
          refine wpI_cons (is (.pointer (some ⟨k', 0, none⟩))) (stable_is _) (step_move (go0 rfl) (.tmp 7) rfl (opO' 7 (.pointer (some ⟨k', 0, none⟩)) rfl rfl)) ?_
          refine wpI_cons (is (.slice (some ⟨b, off, none⟩) len1 cap1)) (stable_is _) (step_move (go0 rfl) (.tmp 1) rfl (opO' 1 (.slice (some ⟨b, off, none⟩) len1 cap1) rfl rfl)) ?_
          refine wpI_cons (is (.int .i64 (t : Int))) (stable_is _) (step_move (go0 rfl) (.tmp 8) rfl (opO' 8 (.int .i64 (t : Int)) rfl rfl)) ?_
          refine wpI_cons (is (.pointer (some ⟨b, off + t * 2, none⟩))) (stable_is _) (step_idx (go0 rfl) 22 (.tmp 61) (.tmp 62) rfl _ _ _ (opT' 61 8 rfl rfl) (opT' 62 9 rfl rfl) (fun w => run_ix22 w b off len1 cap1 t hlt)) ?_
          refine wpI_cons (is (.pointer (some ⟨b, off + t * 2 + 1, none⟩))) (stable_is _) (step_field (go0 rfl) 31 1 (.tmp 63) rfl _ _ (opT' 63 10 rfl rfl) (fun w => run_fa1 w _ _)) ?_
          refine wpI_cons (is (.int .i64 (j : Int))) (stable_is _) (step_cell (go0 rfl) 3 (.tmp 64) rfl _ _ (opT' 64 11 rfl rfl) hcell (fun w => run_load3 w)) ?_
          refine wpI_cons (fun v w => v = .int .i64 0 ∧ ∃ g c, IsM w k' g bQ n c (tch j o) p ∧ wo.heap.size ≤ g) (fun v w w' h e => ⟨e.1, h.2 e.2⟩) (step_call2 (go0 rfl) 11 (.tmp 60) (.tmp 65) _ rfl enter11 (opT' 60 7 rfl rfl) (opT' 65 12 rfl rfl) (fun u v w h1 h2 h3 => by obtain rfl : u = _ := h2; obtain rfl : v = _ := h3; exact touchM_ok j HB.out hj w h1)) ?_
          refine wpI_cons (is (.bool false)) (stable_is _) (step_int (go0 rfl) .neq 3 3 (.tmp 59) (.tmp 66) rfl .i64 .i64 0 0 _ (OpIs.imp (opT' 59 6 rfl rfl) (fun v w _ h => h.1)) (OpIs.imp (opT' 66 13 rfl rfl) (fun v w _ h => h.1)) (fun w => by kernel_rfl)) ?_
          refine wpI_nil ?_
          intro v w' hI _ hdone
          have hlast : v 14 = .bool false := hdone 14 67 rfl
          obtain ⟨bL2, cap2, hM, hbl2⟩ := (hdone 13 66 rfl).2
          have hX := (hdone 6 59 rfl).2
          have HB2 := Lib.hid (show Both w' k bE bY bP k' bL2 bQ n cap2 (tch j o) p from by
            have hxl := HB.out.x.lt
            have h1 := HB.out.s1; have h2 := HB.out.s2; have h3 := HB.out.s3; have h4 := HB.out.s4
            exact ⟨hX, hM, by omega, by omega, by omega, by omega⟩)
          have hbase2 : w.heap.size ≤ bL2 := by have := HW.out.size; omega
          obtain ⟨o2, ho2⟩ : ∃ o2, o2 = tch j o := ⟨_, rfl⟩
          obtain ⟨p2, hp2⟩ : ∃ p2, p2 = p := ⟨_, rfl⟩
          rw [← ho2, ← hp2] at HB2
          clear hX hM hbl2 ho2 hp2
          have HW2 := Lib.hid (HW.out.trans (hI.2.2.below HW.out.size (by have := HQ.out; simp; omega)))
          clear hdone hcell hI HB HW hbase
          simp only [putAll, Act.put, List.setIfInBounds_toArray, List.set_cons_zero, List.set_cons_succ, Nat.zero_add, Nat.reduceAdd, hlast]
          clear hlast
          go_wp2_with fail
          refine (Oldest_calls HB2.out.x.isO).mono ?_
          rintro e wy ⟨rfl, hBy⟩
          have HY := Lib.hid (And.intro (HB2.out.below hBy) (HW2.out.trans (hBy.mono HW2.out.size)))
          clear HB2 HW2 hBy
          cases hop : oldest p2 o2 with
          | none =>
            have hr1 : oldI p2 o2 = -1 := by unfold oldI; rw [hop]
            have hr2 : oldR p2 o2 = .tuple #[.int .i64 0, .bool false] := by unfold oldR; rw [hop]
            rw [hr2]
            clear hr2 hop
            go_wp2_with fail
            refine (ROldest_walk HY.out.1.m).mono ?_
            rintro e wz ⟨rfl, hBz⟩
            rw [hr1]
            have HB2 := Lib.hid (HY.out.1.below hBz)
            have HW2 := Lib.hid (HY.out.2.trans (hBz.mono HY.out.2.size))
            clear HY hBz hr1
            go_wp2_with fail
            have hf0 : ∀ w', Up wz w' → w'.cell? ⟨k', 0, none⟩ = some (.slice (some ⟨bL2, 0, none⟩) n cap2) := fun w' h => (ext_of_below h).cell _ _ HB2.out.m.f0
            have hon := HB2.out.x.ok.len
            have hnt := HB2.out.m.top
            have hol : o2.length ≤ 1000 := by omega
            have hcapn := HB2.out.m.hcap
            have hol2 : (o2.take 2).length ≤ 1000 := by rw [List.length_take]; omega
            have hrow : ∀ w', Up wz w' → isRowS o2 (.slice (some ⟨bL2, 0, none⟩) n cap2) w' := fun w' h => ⟨_, _, by rw [hon], by omega, ⟨fun i hi => ⟨bL2, 0, rfl, by rw [Nat.zero_add]; exact (ext_of_below h).cell _ _ (HB2.out.m.cl i (by omega))⟩⟩⟩
            have hrow2 : ∀ w', Up wz w' → isRowS (o2.take 2) (.slice (some ⟨bL2, 0, none⟩) (min 2 n) cap2) w' := fun w' h => ⟨_, _, by rw [List.length_take, hon], by rw [List.length_take]; omega, ⟨fun i hi => ⟨bL2, 0, rfl, by
              rw [List.length_take] at hi
              rw [Nat.zero_add, (ext_of_below h).cell _ _ (HB2.out.m.cl i (by omega)), List.getD_eq_getElem?_getD, List.getD_eq_getElem?_getD, List.getElem?_take_of_lt (by omega)]⟩⟩⟩
            refine wp_region_inv2 132 mixed (by kernel_rfl) (by rfl) (Up wz) (Below.refl _ _).drew ?_
            refine wpI_cons (is (.bool false)) (stable_is _) (step_move (go0 rfl) (.tmp 10) rfl (opO' 10 (.bool false) rfl rfl)) ?_
            refine wpI_cons (is (.int .i64 (-1))) (stable_is _) (step_move (go0 rfl) (.tmp 11) rfl (opO' 11 (.int .i64 (-1)) rfl rfl)) ?_
            refine wpI_cons (is (.bool false)) (stable_is _) (step_int (go0 rfl) .geq 3 3 (.tmp 93) (.const (.int .i64 0)) rfl .i64 .i64 (-1) 0 _ (opT' 93 1 rfl rfl) (opC _) (fun w => by kernel_rfl)) ?_
            refine wpI_cons (is (.bool false)) (stable_is _) (step_neqb (go0 rfl) 4 4 (.tmp 92) (.tmp 94) rfl false false false (opT' 92 0 rfl rfl) (opT' 94 2 rfl rfl) (fun w => by kernel_rfl)) ?_
            refine wpI_cons (is (.bool false)) (stable_is _) (step_move (go0 rfl) (.tmp 95) rfl (opT' 95 3 rfl rfl)) ?_
            refine wpI_cons (is (.bool false)) (stable_is _) (step_move (go1 4 false 96 rfl rfl rfl rfl) (.tmp 10) rfl (opO' 10 (.bool false) rfl rfl)) ?_
            refine wpI_cons (is (.bool false)) (stable_is _) (step_move (go1 4 false 96 rfl rfl rfl rfl) (.tmp 97) rfl (opT' 97 5 rfl rfl)) ?_
            refine wpI_cons (is undef) (stable_is _) (step_off 6 true 98 rfl rfl rfl rfl) ?_
            refine wpI_cons (is undef) (stable_is _) (step_off 6 true 98 rfl rfl rfl rfl) ?_
            refine wpI_cons (is undef) (stable_is _) (step_off 6 true 98 rfl rfl rfl rfl) ?_
            refine wpI_cons (is (.bool false)) (stable_is _) (step_pickF (go1 4 false 96 rfl rfl rfl rfl) (.tmp 98) (.tmp 101) (.const (.bool false)) rfl (opT' 98 6 rfl rfl) (opC _)) ?_
            refine wpI_cons (is (.bool false)) (stable_is _) (step_pickF (go0 rfl) (.tmp 96) (.const (.bool true)) (.tmp 102) rfl (opT' 96 4 rfl rfl) (opT' 102 10 rfl rfl)) ?_
            refine wpI_cons (is (.bool false)) (stable_is _) (step_move (go0 rfl) (.tmp 103) rfl (opT' 103 11 rfl rfl)) ?_
            refine wpI_cons (is (.pointer (some ⟨k, 0, none⟩))) (stable_is _) (step_move (go1 12 false 104 rfl rfl rfl rfl) (.tmp 5) rfl (opO' 5 (.pointer (some ⟨k, 0, none⟩)) rfl rfl)) ?_
            refine wpI_cons (isRowS o2) (stable_isRowS _ _) (step_call2 (go1 12 false 104 rfl rfl rfl rfl) 17 (.tmp 105) (.const (.int .i64 (-1))) _ rfl enter17 (opT' 105 13 rfl rfl) (opC _) (fun u v w h1 h2 h3 => by obtain rfl : u = _ := h2; obtain rfl : v = _ := h3; exact order_okA HB2.out.x w h1)) ?_
            refine wpI_cons (is (.pointer (some ⟨k', 0, none⟩))) (stable_is _) (step_move (go1 12 false 104 rfl rfl rfl rfl) (.tmp 7) rfl (opO' 7 (.pointer (some ⟨k', 0, none⟩)) rfl rfl)) ?_
            refine wpI_cons (is (.pointer (some ⟨k', 0, none⟩))) (stable_is _) (step_nilc (go1 12 false 104 rfl rfl rfl rfl) (.tmp 107) rfl _ (opT' 107 15 rfl rfl)) ?_
            refine wpI_cons (is (.pointer (some ⟨k', 0, none⟩))) (stable_is _) (step_field (go1 12 false 104 rfl rfl rfl rfl) 42 0 (.tmp 108) rfl _ _ (opT' 108 16 rfl rfl) (fun w => run_fb0 w _ _)) ?_
            refine wpI_cons (is (.slice (some ⟨bL2, 0, none⟩) n cap2)) (stable_is _) (step_cell (go1 12 false 104 rfl rfl rfl rfl) 38 (.tmp 109) rfl _ _ (opT' 109 17 rfl rfl) hf0 (fun w => run_load38 w)) ?_
            refine wpI_cons (is (.bool true)) (stable_is _) (step_call2 (go1 12 false 104 rfl rfl rfl rfl) 16 (.tmp 106) (.tmp 110) _ rfl enter16 (opT' 106 14 rfl rfl) (opT' 110 18 rfl rfl) (fun u v w h1 h2 h3 => by obtain rfl : v = _ := h3; exact Ints_ok o2 hol u _ w h1 h2 (hrow w h1))) ?_
            refine wpI_cons (is (.bool false)) (stable_is _) (step_not (go1 12 false 104 rfl rfl rfl rfl) 4 (.tmp 111) rfl true (opT' 111 19 rfl rfl)) ?_
            refine wpI_cons (is (.bool false)) (stable_is _) (step_pickF (go0 rfl) (.tmp 104) (.const (.bool true)) (.tmp 112) rfl (opT' 104 12 rfl rfl) (opT' 112 20 rfl rfl)) ?_
            refine wpI_cons (is (.bool false)) (stable_is _) (step_move (go0 rfl) (.tmp 113) rfl (opT' 113 21 rfl rfl)) ?_
            refine wpI_cons (is (.pointer (some ⟨k, 0, none⟩))) (stable_is _) (step_move (go1 22 false 114 rfl rfl rfl rfl) (.tmp 5) rfl (opO' 5 (.pointer (some ⟨k, 0, none⟩)) rfl rfl)) ?_
            refine wpI_cons (isRowS (o2.take 2)) (stable_isRowS _ _) (step_call2 (go1 22 false 114 rfl rfl rfl rfl) 17 (.tmp 115) (.const (.int .i64 2)) _ rfl enter17 (opT' 115 23 rfl rfl) (opC _) (fun u v w h1 h2 h3 => by obtain rfl : u = _ := h2; obtain rfl : v = _ := h3; exact order_ok HB2.out.x 2 w h1)) ?_
            refine wpI_cons (is (.pointer (some ⟨k', 0, none⟩))) (stable_is _) (step_move (go1 22 false 114 rfl rfl rfl rfl) (.tmp 7) rfl (opO' 7 (.pointer (some ⟨k', 0, none⟩)) rfl rfl)) ?_
            refine wpI_cons (is (.pointer (some ⟨k', 0, none⟩))) (stable_is _) (step_nilc (go1 22 false 114 rfl rfl rfl rfl) (.tmp 117) rfl _ (opT' 117 25 rfl rfl)) ?_
            refine wpI_cons (is (.pointer (some ⟨k', 0, none⟩))) (stable_is _) (step_field (go1 22 false 114 rfl rfl rfl rfl) 42 0 (.tmp 118) rfl _ _ (opT' 118 26 rfl rfl) (fun w => run_fb0 w _ _)) ?_
            refine wpI_cons (is (.slice (some ⟨bL2, 0, none⟩) n cap2)) (stable_is _) (step_cell (go1 22 false 114 rfl rfl rfl rfl) 38 (.tmp 119) rfl _ _ (opT' 119 27 rfl rfl) hf0 (fun w => run_load38 w)) ?_
            refine wpI_cons (is (.pointer (some ⟨k', 0, none⟩))) (stable_is _) (step_move (go1 22 false 114 rfl rfl rfl rfl) (.tmp 7) rfl (opO' 7 (.pointer (some ⟨k', 0, none⟩)) rfl rfl)) ?_
            refine wpI_cons (is (.pointer (some ⟨k', 0, none⟩))) (stable_is _) (step_nilc (go1 22 false 114 rfl rfl rfl rfl) (.tmp 121) rfl _ (opT' 121 29 rfl rfl)) ?_
            refine wpI_cons (is (.pointer (some ⟨k', 0, none⟩))) (stable_is _) (step_field (go1 22 false 114 rfl rfl rfl rfl) 42 0 (.tmp 122) rfl _ _ (opT' 122 30 rfl rfl) (fun w => run_fb0 w _ _)) ?_
            refine wpI_cons (is (.slice (some ⟨bL2, 0, none⟩) n cap2)) (stable_is _) (step_cell (go1 22 false 114 rfl rfl rfl rfl) 38 (.tmp 123) rfl _ _ (opT' 123 31 rfl rfl) hf0 (fun w => run_load38 w)) ?_
            refine wpI_cons (is (.int .i64 (n : Int))) (stable_is _) (step_len (go1 22 false 114 rfl rfl rfl rfl) (.tmp 124) 38 rfl _ _ (opT' 124 32 rfl rfl) (fun w => run_len38 _ _ _ w)) ?_
            refine wpI_cons (is (.int .i64 (min 2 (n : Int)))) (stable_is _) (step_min (go1 22 false 114 rfl rfl rfl rfl) (.const (.int .i64 2)) (.tmp 125) 3 rfl rfl 2 (n : Int) (opC _) (opT' 125 33 rfl rfl)) ?_
            refine wpI_cons (is (.slice (some ⟨bL2, 0, none⟩) (min 2 n) cap2)) (stable_is _) (step_sl (go1 22 false 114 rfl rfl rfl rfl) 38 (.tmp 120) (.tmp 126) rfl _ _ _ (opT' 120 28 rfl rfl) (opT' 126 34 rfl rfl) (fun w => run_sl38 w _ _ _ _ hcapn)) ?_
            refine wpI_cons (is (.bool true)) (stable_is _) (step_call2 (go1 22 false 114 rfl rfl rfl rfl) 16 (.tmp 116) (.tmp 127) _ rfl enter16 (opT' 116 24 rfl rfl) (opT' 127 35 rfl rfl) (fun u v w h1 h2 h3 => by obtain rfl : v = _ := h3; exact Ints_ok (o2.take 2) hol2 u _ w h1 h2 (hrow2 w h1))) ?_
            refine wpI_cons (is (.bool false)) (stable_is _) (step_not (go1 22 false 114 rfl rfl rfl rfl) 4 (.tmp 128) rfl true (opT' 128 36 rfl rfl)) ?_
            refine wpI_cons (is (.bool false)) (stable_is _) (step_pickF (go0 rfl) (.tmp 114) (.const (.bool true)) (.tmp 129) rfl (opT' 114 22 rfl rfl) (opT' 129 37 rfl rfl)) ?_
            refine wpI_nil ?_
            intro v w' hI _ hdone
            have hlast : v 38 = .bool false := hdone 38 130 rfl
            clear hdone hrow hrow2 hf0
            simp only [putAll, Act.put, List.setIfInBounds_toArray, List.set_cons_zero, List.set_cons_succ, Nat.zero_add, Nat.reduceAdd, hlast]
            have HF := Lib.hid (And.intro (HB2.out.below hI) (HW2.out.trans (Below.mono hI HW2.out.size)))
            clear hI HB2 HW2 hlast hol hol2
            go_wp2_with fail
            go_roundw
            case rel => exact ⟨t + 1, o2, p2, bL2, cap2, by go_num, HF.out.1, HF.out.2, hbase2⟩
            case measure => simp [intOf]; omega
          | some x =>
            have hr1 : oldI p2 o2 = (x : Nat) := by unfold oldI; rw [hop]
            have hr2 : oldR p2 o2 = .tuple #[.int .i64 (x : Nat), .bool true] := by unfold oldR; rw [hop]
            rw [hr2]
            have hxn : x < n := HY.out.1.x.ok.lt x (List.mem_of_find?_eq_some hop)
            clear hr2 hop
            go_wp2_with fail
            refine (ROldest_walk HY.out.1.m).mono ?_
            rintro e wz ⟨rfl, hBz⟩
            rw [hr1]
            have HB2 := Lib.hid (HY.out.1.below hBz)
            have HW2 := Lib.hid (HY.out.2.trans (hBz.mono HY.out.2.size))
            clear HY hBz hr1
            go_wp2_with fail
            have hf0 : ∀ w', Up wz w' → w'.cell? ⟨k', 0, none⟩ = some (.slice (some ⟨bL2, 0, none⟩) n cap2) := fun w' h => (ext_of_below h).cell _ _ HB2.out.m.f0
            have hon := HB2.out.x.ok.len
            have hnt := HB2.out.m.top
            have hol : o2.length ≤ 1000 := by omega
            have hcapn := HB2.out.m.hcap
            have hol2 : (o2.take 2).length ≤ 1000 := by rw [List.length_take]; omega
            have hrow : ∀ w', Up wz w' → isRowS o2 (.slice (some ⟨bL2, 0, none⟩) n cap2) w' := fun w' h => ⟨_, _, by rw [hon], by omega, ⟨fun i hi => ⟨bL2, 0, rfl, by rw [Nat.zero_add]; exact (ext_of_below h).cell _ _ (HB2.out.m.cl i (by omega))⟩⟩⟩
            have hrow2 : ∀ w', Up wz w' → isRowS (o2.take 2) (.slice (some ⟨bL2, 0, none⟩) (min 2 n) cap2) w' := fun w' h => ⟨_, _, by rw [List.length_take, hon], by rw [List.length_take]; omega, ⟨fun i hi => ⟨bL2, 0, rfl, by
              rw [List.length_take] at hi
              rw [Nat.zero_add, (ext_of_below h).cell _ _ (HB2.out.m.cl i (by omega)), List.getD_eq_getElem?_getD, List.getD_eq_getElem?_getD, List.getElem?_take_of_lt (by omega)]⟩⟩⟩
            refine wp_region_inv2 132 mixed (by kernel_rfl) (by rfl) (Up wz) (Below.refl _ _).drew ?_
            refine wpI_cons (is (.bool true)) (stable_is _) (step_move (go0 rfl) (.tmp 10) rfl (opO' 10 (.bool true) rfl rfl)) ?_
            refine wpI_cons (is (.int .i64 (x : Int))) (stable_is _) (step_move (go0 rfl) (.tmp 11) rfl (opO' 11 (.int .i64 (x : Int)) rfl rfl)) ?_
            refine wpI_cons (is (.bool true)) (stable_is _) (step_int (go0 rfl) .geq 3 3 (.tmp 93) (.const (.int .i64 0)) rfl .i64 .i64 (x : Int) 0 _ (opT' 93 1 rfl rfl) (opC _) (fun w => run_geq x w)) ?_
            refine wpI_cons (is (.bool false)) (stable_is _) (step_neqb (go0 rfl) 4 4 (.tmp 92) (.tmp 94) rfl true true false (opT' 92 0 rfl rfl) (opT' 94 2 rfl rfl) (fun w => by kernel_rfl)) ?_
            refine wpI_cons (is (.bool false)) (stable_is _) (step_move (go0 rfl) (.tmp 95) rfl (opT' 95 3 rfl rfl)) ?_
            refine wpI_cons (is (.bool true)) (stable_is _) (step_move (go1 4 false 96 rfl rfl rfl rfl) (.tmp 10) rfl (opO' 10 (.bool true) rfl rfl)) ?_
            refine wpI_cons (is (.bool true)) (stable_is _) (step_move (go1 4 false 96 rfl rfl rfl rfl) (.tmp 97) rfl (opT' 97 5 rfl rfl)) ?_
            refine wpI_cons (is (.int .i64 (x : Int))) (stable_is _) (step_move (go1 6 true 98 rfl rfl rfl rfl) (.tmp 9) rfl (opO' 9 (.int .i64 (x : Int)) rfl rfl)) ?_
            refine wpI_cons (is (.int .i64 (x : Int))) (stable_is _) (step_move (go1 6 true 98 rfl rfl rfl rfl) (.tmp 11) rfl (opO' 11 (.int .i64 (x : Int)) rfl rfl)) ?_
            refine wpI_cons (is (.bool false)) (stable_is _) (step_int (go1 6 true 98 rfl rfl rfl rfl) .neq 3 3 (.tmp 99) (.tmp 100) rfl .i64 .i64 (x : Int) (x : Int) _ (opT' 99 7 rfl rfl) (opT' 100 8 rfl rfl) (fun w => run_neqx x w)) ?_
            refine wpI_cons (is (.bool false)) (stable_is _) (step_pickT (go1 4 false 96 rfl rfl rfl rfl) (.tmp 98) (.tmp 101) (.const (.bool false)) rfl (opT' 98 6 rfl rfl) (opT' 101 9 rfl rfl)) ?_
            refine wpI_cons (is (.bool false)) (stable_is _) (step_pickF (go0 rfl) (.tmp 96) (.const (.bool true)) (.tmp 102) rfl (opT' 96 4 rfl rfl) (opT' 102 10 rfl rfl)) ?_
            refine wpI_cons (is (.bool false)) (stable_is _) (step_move (go0 rfl) (.tmp 103) rfl (opT' 103 11 rfl rfl)) ?_
            refine wpI_cons (is (.pointer (some ⟨k, 0, none⟩))) (stable_is _) (step_move (go1 12 false 104 rfl rfl rfl rfl) (.tmp 5) rfl (opO' 5 (.pointer (some ⟨k, 0, none⟩)) rfl rfl)) ?_
            refine wpI_cons (isRowS o2) (stable_isRowS _ _) (step_call2 (go1 12 false 104 rfl rfl rfl rfl) 17 (.tmp 105) (.const (.int .i64 (-1))) _ rfl enter17 (opT' 105 13 rfl rfl) (opC _) (fun u v w h1 h2 h3 => by obtain rfl : u = _ := h2; obtain rfl : v = _ := h3; exact order_okA HB2.out.x w h1)) ?_
            refine wpI_cons (is (.pointer (some ⟨k', 0, none⟩))) (stable_is _) (step_move (go1 12 false 104 rfl rfl rfl rfl) (.tmp 7) rfl (opO' 7 (.pointer (some ⟨k', 0, none⟩)) rfl rfl)) ?_
            refine wpI_cons (is (.pointer (some ⟨k', 0, none⟩))) (stable_is _) (step_nilc (go1 12 false 104 rfl rfl rfl rfl) (.tmp 107) rfl _ (opT' 107 15 rfl rfl)) ?_
            refine wpI_cons (is (.pointer (some ⟨k', 0, none⟩))) (stable_is _) (step_field (go1 12 false 104 rfl rfl rfl rfl) 42 0 (.tmp 108) rfl _ _ (opT' 108 16 rfl rfl) (fun w => run_fb0 w _ _)) ?_
            refine wpI_cons (is (.slice (some ⟨bL2, 0, none⟩) n cap2)) (stable_is _) (step_cell (go1 12 false 104 rfl rfl rfl rfl) 38 (.tmp 109) rfl _ _ (opT' 109 17 rfl rfl) hf0 (fun w => run_load38 w)) ?_
            refine wpI_cons (is (.bool true)) (stable_is _) (step_call2 (go1 12 false 104 rfl rfl rfl rfl) 16 (.tmp 106) (.tmp 110) _ rfl enter16 (opT' 106 14 rfl rfl) (opT' 110 18 rfl rfl) (fun u v w h1 h2 h3 => by obtain rfl : v = _ := h3; exact Ints_ok o2 hol u _ w h1 h2 (hrow w h1))) ?_
            refine wpI_cons (is (.bool false)) (stable_is _) (step_not (go1 12 false 104 rfl rfl rfl rfl) 4 (.tmp 111) rfl true (opT' 111 19 rfl rfl)) ?_
            refine wpI_cons (is (.bool false)) (stable_is _) (step_pickF (go0 rfl) (.tmp 104) (.const (.bool true)) (.tmp 112) rfl (opT' 104 12 rfl rfl) (opT' 112 20 rfl rfl)) ?_
            refine wpI_cons (is (.bool false)) (stable_is _) (step_move (go0 rfl) (.tmp 113) rfl (opT' 113 21 rfl rfl)) ?_
            refine wpI_cons (is (.pointer (some ⟨k, 0, none⟩))) (stable_is _) (step_move (go1 22 false 114 rfl rfl rfl rfl) (.tmp 5) rfl (opO' 5 (.pointer (some ⟨k, 0, none⟩)) rfl rfl)) ?_
            refine wpI_cons (isRowS (o2.take 2)) (stable_isRowS _ _) (step_call2 (go1 22 false 114 rfl rfl rfl rfl) 17 (.tmp 115) (.const (.int .i64 2)) _ rfl enter17 (opT' 115 23 rfl rfl) (opC _) (fun u v w h1 h2 h3 => by obtain rfl : u = _ := h2; obtain rfl : v = _ := h3; exact order_ok HB2.out.x 2 w h1)) ?_
            refine wpI_cons (is (.pointer (some ⟨k', 0, none⟩))) (stable_is _) (step_move (go1 22 false 114 rfl rfl rfl rfl) (.tmp 7) rfl (opO' 7 (.pointer (some ⟨k', 0, none⟩)) rfl rfl)) ?_
            refine wpI_cons (is (.pointer (some ⟨k', 0, none⟩))) (stable_is _) (step_nilc (go1 22 false 114 rfl rfl rfl rfl) (.tmp 117) rfl _ (opT' 117 25 rfl rfl)) ?_
            refine wpI_cons (is (.pointer (some ⟨k', 0, none⟩))) (stable_is _) (step_field (go1 22 false 114 rfl rfl rfl rfl) 42 0 (.tmp 118) rfl _ _ (opT' 118 26 rfl rfl) (fun w => run_fb0 w _ _)) ?_
            refine wpI_cons (is (.slice (some ⟨bL2, 0, none⟩) n cap2)) (stable_is _) (step_cell (go1 22 false 114 rfl rfl rfl rfl) 38 (.tmp 119) rfl _ _ (opT' 119 27 rfl rfl) hf0 (fun w => run_load38 w)) ?_
            refine wpI_cons (is (.pointer (some ⟨k', 0, none⟩))) (stable_is _) (step_move (go1 22 false 114 rfl rfl rfl rfl) (.tmp 7) rfl (opO' 7 (.pointer (some ⟨k', 0, none⟩)) rfl rfl)) ?_
            refine wpI_cons (is (.pointer (some ⟨k', 0, none⟩))) (stable_is _) (step_nilc (go1 22 false 114 rfl rfl rfl rfl) (.tmp 121) rfl _ (opT' 121 29 rfl rfl)) ?_
            refine wpI_cons (is (.pointer (some ⟨k', 0, none⟩))) (stable_is _) (step_field (go1 22 false 114 rfl rfl rfl rfl) 42 0 (.tmp 122) rfl _ _ (opT' 122 30 rfl rfl) (fun w => run_fb0 w _ _)) ?_
            refine wpI_cons (is (.slice (some ⟨bL2, 0, none⟩) n cap2)) (stable_is _) (step_cell (go1 22 false 114 rfl rfl rfl rfl) 38 (.tmp 123) rfl _ _ (opT' 123 31 rfl rfl) hf0 (fun w => run_load38 w)) ?_
            refine wpI_cons (is (.int .i64 (n : Int))) (stable_is _) (step_len (go1 22 false 114 rfl rfl rfl rfl) (.tmp 124) 38 rfl _ _ (opT' 124 32 rfl rfl) (fun w => run_len38 _ _ _ w)) ?_
            refine wpI_cons (is (.int .i64 (min 2 (n : Int)))) (stable_is _) (step_min (go1 22 false 114 rfl rfl rfl rfl) (.const (.int .i64 2)) (.tmp 125) 3 rfl rfl 2 (n : Int) (opC _) (opT' 125 33 rfl rfl)) ?_
            refine wpI_cons (is (.slice (some ⟨bL2, 0, none⟩) (min 2 n) cap2)) (stable_is _) (step_sl (go1 22 false 114 rfl rfl rfl rfl) 38 (.tmp 120) (.tmp 126) rfl _ _ _ (opT' 120 28 rfl rfl) (opT' 126 34 rfl rfl) (fun w => run_sl38 w _ _ _ _ hcapn)) ?_
            refine wpI_cons (is (.bool true)) (stable_is _) (step_call2 (go1 22 false 114 rfl rfl rfl rfl) 16 (.tmp 116) (.tmp 127) _ rfl enter16 (opT' 116 24 rfl rfl) (opT' 127 35 rfl rfl) (fun u v w h1 h2 h3 => by obtain rfl : v = _ := h3; exact Ints_ok (o2.take 2) hol2 u _ w h1 h2 (hrow2 w h1))) ?_
            refine wpI_cons (is (.bool false)) (stable_is _) (step_not (go1 22 false 114 rfl rfl rfl rfl) 4 (.tmp 128) rfl true (opT' 128 36 rfl rfl)) ?_
            refine wpI_cons (is (.bool false)) (stable_is _) (step_pickF (go0 rfl) (.tmp 114) (.const (.bool true)) (.tmp 129) rfl (opT' 114 22 rfl rfl) (opT' 129 37 rfl rfl)) ?_
            refine wpI_nil ?_
            intro v w' hI _ hdone
            have hlast : v 38 = .bool false := hdone 38 130 rfl
            clear hdone hrow hrow2 hf0
            simp only [putAll, Act.put, List.setIfInBounds_toArray, List.set_cons_zero, List.set_cons_succ, Nat.zero_add, Nat.reduceAdd, hlast]
            have HF := Lib.hid (And.intro (HB2.out.below hI) (HW2.out.trans (Below.mono hI HW2.out.size)))
            clear hI HB2 HW2 hlast hol hol2
            go_wp2_with fail
            go_roundw
            case rel => exact ⟨t + 1, o2, p2, bL2, cap2, by go_num, HF.out.1, HF.out.2, hbase2⟩
            case measure => simp [intOf]; omega
        · clear HR
          have hcell : ∀ w', (Up wo) w' → w'.cell? ⟨b, off + t * 2 + 1, none⟩ = some (.int .i64 (z1 t)) := fun w' h => (ext_of_below h).cell _ _ hc1
          go_wp2_with fail
          refine wp_region_inv2 132 mixed (by kernel_rfl) (by rfl) (Up wo) (Below.refl _ _).drew ?_
          refine wpI_cons (is (.pointer (some ⟨k, 0, none⟩))) (stable_is _) (step_move (go0 rfl) (.tmp 5) rfl (opO' 5 (.pointer (some ⟨k, 0, none⟩)) rfl rfl)) ?_
          refine wpI_cons (is (.slice (some ⟨b, off, none⟩) len1 cap1)) (stable_is _) (step_move (go0 rfl) (.tmp 1) rfl (opO' 1 (.slice (some ⟨b, off, none⟩) len1 cap1) rfl rfl)) ?_
          refine wpI_cons (is (.int .i64 (t : Int))) (stable_is _) (step_move (go0 rfl) (.tmp 8) rfl (opO' 8 (.int .i64 (t : Int)) rfl rfl)) ?_
          refine wpI_cons (is (.pointer (some ⟨b, off + t * 2, none⟩))) (stable_is _) (step_idx (go0 rfl) 22 (.tmp 54) (.tmp 55) rfl _ _ _ (opT' 54 1 rfl rfl) (opT' 55 2 rfl rfl) (fun w => run_ix22 w b off len1 cap1 t hlt)) ?_
          refine wpI_cons (is (.pointer (some ⟨b, off + t * 2 + 1, none⟩))) (stable_is _) (step_field (go0 rfl) 31 1 (.tmp 56) rfl _ _ (opT' 56 3 rfl rfl) (fun w => run_fa1 w _ _)) ?_
          refine wpI_cons (is (.int .i64 (z1 t))) (stable_is _) (step_cell (go0 rfl) 3 (.tmp 57) rfl _ _ (opT' 57 4 rfl rfl) hcell (fun w => run_load3 w)) ?_
          refine wpI_cons (is (.int .i64 1)) (stable_is _) (step_call2 (go0 rfl) 10 (.tmp 53) (.tmp 58) _ rfl enter10 (opT' 53 0 rfl rfl) (opT' 58 5 rfl rfl) (fun u v w h1 h2 h3 => by obtain rfl : u = _ := h2; obtain rfl : v = _ := h3; exact callOk_of h1 ((Touch_not (z1 t) (HB.out.x.below h1 HB.out.x.lt) hin).mono fun e w' ⟨he, hw⟩ => ⟨he, hw ▸ Below.refl _ _⟩) (fun _ => rfl))) ?_
          refine wpI_cons (is (.pointer (some ⟨k', 0, none⟩))) (stable_is _) (step_move (go0 rfl) (.tmp 7) rfl (opO' 7 (.pointer (some ⟨k', 0, none⟩)) rfl rfl)) ?_
          refine wpI_cons (is (.slice (some ⟨b, off, none⟩) len1 cap1)) (stable_is _) (step_move (go0 rfl) (.tmp 1) rfl (opO' 1 (.slice (some ⟨b, off, none⟩) len1 cap1) rfl rfl)) ?_
          refine wpI_cons (is (.int .i64 (t : Int))) (stable_is _) (step_move (go0 rfl) (.tmp 8) rfl (opO' 8 (.int .i64 (t : Int)) rfl rfl)) ?_
          refine wpI_cons (is (.pointer (some ⟨b, off + t * 2, none⟩))) (stable_is _) (step_idx (go0 rfl) 22 (.tmp 61) (.tmp 62) rfl _ _ _ (opT' 61 8 rfl rfl) (opT' 62 9 rfl rfl) (fun w => run_ix22 w b off len1 cap1 t hlt)) ?_
          refine wpI_cons (is (.pointer (some ⟨b, off + t * 2 + 1, none⟩))) (stable_is _) (step_field (go0 rfl) 31 1 (.tmp 63) rfl _ _ (opT' 63 10 rfl rfl) (fun w => run_fa1 w _ _)) ?_
          refine wpI_cons (is (.int .i64 (z1 t))) (stable_is _) (step_cell (go0 rfl) 3 (.tmp 64) rfl _ _ (opT' 64 11 rfl rfl) hcell (fun w => run_load3 w)) ?_
          refine wpI_cons (is (.int .i64 1)) (stable_is _) (step_call2 (go0 rfl) 11 (.tmp 60) (.tmp 65) _ rfl enter11 (opT' 60 7 rfl rfl) (opT' 65 12 rfl rfl) (fun u v w h1 h2 h3 => by obtain rfl : u = _ := h2; obtain rfl : v = _ := h3; exact callOk_of h1 ((RTouch_not (z1 t) (HB.out.m.other (Below.block h1 _ HB.out.m.lt.1) (Below.block h1 _ HB.out.m.lt.2.1) (Below.block h1 _ HB.out.m.lt.2.2)) hin).mono fun e w' ⟨he, hw⟩ => ⟨he, hw ▸ Below.refl _ _⟩) (fun _ => rfl))) ?_
          refine wpI_cons (is (.bool false)) (stable_is _) (step_int (go0 rfl) .neq 3 3 (.tmp 59) (.tmp 66) rfl .i64 .i64 1 1 _ (opT' 59 6 rfl rfl) (opT' 66 13 rfl rfl) (fun w => by kernel_rfl)) ?_
          refine wpI_nil ?_
          intro v w' hI _ hdone
          have hlast : v 14 = .bool false := hdone 14 67 rfl
          have HB2 := Lib.hid (HB.out.below hI)
          have hbase2 : w.heap.size ≤ bL := hbase
          obtain ⟨bL2, hbb⟩ : ∃ bL2, bL2 = bL := ⟨_, rfl⟩
          obtain ⟨cap2, hcc⟩ : ∃ cap2, cap2 = cap := ⟨_, rfl⟩
          obtain ⟨o2, ho2⟩ : ∃ o2, o2 = o := ⟨_, rfl⟩
          obtain ⟨p2, hp2⟩ : ∃ p2, p2 = p := ⟨_, rfl⟩
          rw [← ho2, ← hp2, ← hbb, ← hcc] at HB2
          rw [← hbb] at hbase2
          clear ho2 hp2 hbb hcc
          have HW2 := Lib.hid (HW.out.trans (Below.mono hI HW.out.size))
          clear hdone hcell hI HB HW hbase
          simp only [putAll, Act.put, List.setIfInBounds_toArray, List.set_cons_zero, List.set_cons_succ, Nat.zero_add, Nat.reduceAdd, hlast]
          clear hlast
          go_wp2_with fail
          refine (Oldest_calls HB2.out.x.isO).mono ?_
          rintro e wy ⟨rfl, hBy⟩
          have HY := Lib.hid (And.intro (HB2.out.below hBy) (HW2.out.trans (hBy.mono HW2.out.size)))
          clear HB2 HW2 hBy
          cases hop : oldest p2 o2 with
          | none =>
            have hr1 : oldI p2 o2 = -1 := by unfold oldI; rw [hop]
            have hr2 : oldR p2 o2 = .tuple #[.int .i64 0, .bool false] := by unfold oldR; rw [hop]
            rw [hr2]
            clear hr2 hop
            go_wp2_with fail
            refine (ROldest_walk HY.out.1.m).mono ?_
            rintro e wz ⟨rfl, hBz⟩
            rw [hr1]
            have HB2 := Lib.hid (HY.out.1.below hBz)
            have HW2 := Lib.hid (HY.out.2.trans (hBz.mono HY.out.2.size))
            clear HY hBz hr1
            go_wp2_with fail
            have hf0 : ∀ w', Up wz w' → w'.cell? ⟨k', 0, none⟩ = some (.slice (some ⟨bL2, 0, none⟩) n cap2) := fun w' h => (ext_of_below h).cell _ _ HB2.out.m.f0
            have hon := HB2.out.x.ok.len
            have hnt := HB2.out.m.top
            have hol : o2.length ≤ 1000 := by omega
            have hcapn := HB2.out.m.hcap
            have hol2 : (o2.take 2).length ≤ 1000 := by rw [List.length_take]; omega
            have hrow : ∀ w', Up wz w' → isRowS o2 (.slice (some ⟨bL2, 0, none⟩) n cap2) w' := fun w' h => ⟨_, _, by rw [hon], by omega, ⟨fun i hi => ⟨bL2, 0, rfl, by rw [Nat.zero_add]; exact (ext_of_below h).cell _ _ (HB2.out.m.cl i (by omega))⟩⟩⟩
            have hrow2 : ∀ w', Up wz w' → isRowS (o2.take 2) (.slice (some ⟨bL2, 0, none⟩) (min 2 n) cap2) w' := fun w' h => ⟨_, _, by rw [List.length_take, hon], by rw [List.length_take]; omega, ⟨fun i hi => ⟨bL2, 0, rfl, by
              rw [List.length_take] at hi
              rw [Nat.zero_add, (ext_of_below h).cell _ _ (HB2.out.m.cl i (by omega)), List.getD_eq_getElem?_getD, List.getD_eq_getElem?_getD, List.getElem?_take_of_lt (by omega)]⟩⟩⟩
            refine wp_region_inv2 132 mixed (by kernel_rfl) (by rfl) (Up wz) (Below.refl _ _).drew ?_
            refine wpI_cons (is (.bool false)) (stable_is _) (step_move (go0 rfl) (.tmp 10) rfl (opO' 10 (.bool false) rfl rfl)) ?_
            refine wpI_cons (is (.int .i64 (-1))) (stable_is _) (step_move (go0 rfl) (.tmp 11) rfl (opO' 11 (.int .i64 (-1)) rfl rfl)) ?_
            refine wpI_cons (is (.bool false)) (stable_is _) (step_int (go0 rfl) .geq 3 3 (.tmp 93) (.const (.int .i64 0)) rfl .i64 .i64 (-1) 0 _ (opT' 93 1 rfl rfl) (opC _) (fun w => by kernel_rfl)) ?_
            refine wpI_cons (is (.bool false)) (stable_is _) (step_neqb (go0 rfl) 4 4 (.tmp 92) (.tmp 94) rfl false false false (opT' 92 0 rfl rfl) (opT' 94 2 rfl rfl) (fun w => by kernel_rfl)) ?_
            refine wpI_cons (is (.bool false)) (stable_is _) (step_move (go0 rfl) (.tmp 95) rfl (opT' 95 3 rfl rfl)) ?_
            refine wpI_cons (is (.bool false)) (stable_is _) (step_move (go1 4 false 96 rfl rfl rfl rfl) (.tmp 10) rfl (opO' 10 (.bool false) rfl rfl)) ?_
            refine wpI_cons (is (.bool false)) (stable_is _) (step_move (go1 4 false 96 rfl rfl rfl rfl) (.tmp 97) rfl (opT' 97 5 rfl rfl)) ?_
            refine wpI_cons (is undef) (stable_is _) (step_off 6 true 98 rfl rfl rfl rfl) ?_
            refine wpI_cons (is undef) (stable_is _) (step_off 6 true 98 rfl rfl rfl rfl) ?_
            refine wpI_cons (is undef) (stable_is _) (step_off 6 true 98 rfl rfl rfl rfl) ?_
            refine wpI_cons (is (.bool false)) (stable_is _) (step_pickF (go1 4 false 96 rfl rfl rfl rfl) (.tmp 98) (.tmp 101) (.const (.bool false)) rfl (opT' 98 6 rfl rfl) (opC _)) ?_
            refine wpI_cons (is (.bool false)) (stable_is _) (step_pickF (go0 rfl) (.tmp 96) (.const (.bool true)) (.tmp 102) rfl (opT' 96 4 rfl rfl) (opT' 102 10 rfl rfl)) ?_
            refine wpI_cons (is (.bool false)) (stable_is _) (step_move (go0 rfl) (.tmp 103) rfl (opT' 103 11 rfl rfl)) ?_
            refine wpI_cons (is (.pointer (some ⟨k, 0, none⟩))) (stable_is _) (step_move (go1 12 false 104 rfl rfl rfl rfl) (.tmp 5) rfl (opO' 5 (.pointer (some ⟨k, 0, none⟩)) rfl rfl)) ?_
            refine wpI_cons (isRowS o2) (stable_isRowS _ _) (step_call2 (go1 12 false 104 rfl rfl rfl rfl) 17 (.tmp 105) (.const (.int .i64 (-1))) _ rfl enter17 (opT' 105 13 rfl rfl) (opC _) (fun u v w h1 h2 h3 => by obtain rfl : u = _ := h2; obtain rfl : v = _ := h3; exact order_okA HB2.out.x w h1)) ?_
            refine wpI_cons (is (.pointer (some ⟨k', 0, none⟩))) (stable_is _) (step_move (go1 12 false 104 rfl rfl rfl rfl) (.tmp 7) rfl (opO' 7 (.pointer (some ⟨k', 0, none⟩)) rfl rfl)) ?_
            refine wpI_cons (is (.pointer (some ⟨k', 0, none⟩))) (stable_is _) (step_nilc (go1 12 false 104 rfl rfl rfl rfl) (.tmp 107) rfl _ (opT' 107 15 rfl rfl)) ?_
            refine wpI_cons (is (.pointer (some ⟨k', 0, none⟩))) (stable_is _) (step_field (go1 12 false 104 rfl rfl rfl rfl) 42 0 (.tmp 108) rfl _ _ (opT' 108 16 rfl rfl) (fun w => run_fb0 w _ _)) ?_
            refine wpI_cons (is (.slice (some ⟨bL2, 0, none⟩) n cap2)) (stable_is _) (step_cell (go1 12 false 104 rfl rfl rfl rfl) 38 (.tmp 109) rfl _ _ (opT' 109 17 rfl rfl) hf0 (fun w => run_load38 w)) ?_
            refine wpI_cons (is (.bool true)) (stable_is _) (step_call2 (go1 12 false 104 rfl rfl rfl rfl) 16 (.tmp 106) (.tmp 110) _ rfl enter16 (opT' 106 14 rfl rfl) (opT' 110 18 rfl rfl) (fun u v w h1 h2 h3 => by obtain rfl : v = _ := h3; exact Ints_ok o2 hol u _ w h1 h2 (hrow w h1))) ?_
            refine wpI_cons (is (.bool false)) (stable_is _) (step_not (go1 12 false 104 rfl rfl rfl rfl) 4 (.tmp 111) rfl true (opT' 111 19 rfl rfl)) ?_
            refine wpI_cons (is (.bool false)) (stable_is _) (step_pickF (go0 rfl) (.tmp 104) (.const (.bool true)) (.tmp 112) rfl (opT' 104 12 rfl rfl) (opT' 112 20 rfl rfl)) ?_
            refine wpI_cons (is (.bool false)) (stable_is _) (step_move (go0 rfl) (.tmp 113) rfl (opT' 113 21 rfl rfl)) ?_
            refine wpI_cons (is (.pointer (some ⟨k, 0, none⟩))) (stable_is _) (step_move (go1 22 false 114 rfl rfl rfl rfl) (.tmp 5) rfl (opO' 5 (.pointer (some ⟨k, 0, none⟩)) rfl rfl)) ?_
            refine wpI_cons (isRowS (o2.take 2)) (stable_isRowS _ _) (step_call2 (go1 22 false 114 rfl rfl rfl rfl) 17 (.tmp 115) (.const (.int .i64 2)) _ rfl enter17 (opT' 115 23 rfl rfl) (opC _) (fun u v w h1 h2 h3 => by obtain rfl : u = _ := h2; obtain rfl : v = _ := h3; exact order_ok HB2.out.x 2 w h1)) ?_
            refine wpI_cons (is (.pointer (some ⟨k', 0, none⟩))) (stable_is _) (step_move (go1 22 false 114 rfl rfl rfl rfl) (.tmp 7) rfl (opO' 7 (.pointer (some ⟨k', 0, none⟩)) rfl rfl)) ?_
            refine wpI_cons (is (.pointer (some ⟨k', 0, none⟩))) (stable_is _) (step_nilc (go1 22 false 114 rfl rfl rfl rfl) (.tmp 117) rfl _ (opT' 117 25 rfl rfl)) ?_
            refine wpI_cons (is (.pointer (some ⟨k', 0, none⟩))) (stable_is _) (step_field (go1 22 false 114 rfl rfl rfl rfl) 42 0 (.tmp 118) rfl _ _ (opT' 118 26 rfl rfl) (fun w => run_fb0 w _ _)) ?_
            refine wpI_cons (is (.slice (some ⟨bL2, 0, none⟩) n cap2)) (stable_is _) (step_cell (go1 22 false 114 rfl rfl rfl rfl) 38 (.tmp 119) rfl _ _ (opT' 119 27 rfl rfl) hf0 (fun w => run_load38 w)) ?_
            refine wpI_cons (is (.pointer (some ⟨k', 0, none⟩))) (stable_is _) (step_move (go1 22 false 114 rfl rfl rfl rfl) (.tmp 7) rfl (opO' 7 (.pointer (some ⟨k', 0, none⟩)) rfl rfl)) ?_
            refine wpI_cons (is (.pointer (some ⟨k', 0, none⟩))) (stable_is _) (step_nilc (go1 22 false 114 rfl rfl rfl rfl) (.tmp 121) rfl _ (opT' 121 29 rfl rfl)) ?_
            refine wpI_cons (is (.pointer (some ⟨k', 0, none⟩))) (stable_is _) (step_field (go1 22 false 114 rfl rfl rfl rfl) 42 0 (.tmp 122) rfl _ _ (opT' 122 30 rfl rfl) (fun w => run_fb0 w _ _)) ?_
            refine wpI_cons (is (.slice (some ⟨bL2, 0, none⟩) n cap2)) (stable_is _) (step_cell (go1 22 false 114 rfl rfl rfl rfl) 38 (.tmp 123) rfl _ _ (opT' 123 31 rfl rfl) hf0 (fun w => run_load38 w)) ?_
            refine wpI_cons (is (.int .i64 (n : Int))) (stable_is _) (step_len (go1 22 false 114 rfl rfl rfl rfl) (.tmp 124) 38 rfl _ _ (opT' 124 32 rfl rfl) (fun w => run_len38 _ _ _ w)) ?_
            refine wpI_cons (is (.int .i64 (min 2 (n : Int)))) (stable_is _) (step_min (go1 22 false 114 rfl rfl rfl rfl) (.const (.int .i64 2)) (.tmp 125) 3 rfl rfl 2 (n : Int) (opC _) (opT' 125 33 rfl rfl)) ?_
            refine wpI_cons (is (.slice (some ⟨bL2, 0, none⟩) (min 2 n) cap2)) (stable_is _) (step_sl (go1 22 false 114 rfl rfl rfl rfl) 38 (.tmp 120) (.tmp 126) rfl _ _ _ (opT' 120 28 rfl rfl) (opT' 126 34 rfl rfl) (fun w => run_sl38 w _ _ _ _ hcapn)) ?_
            refine wpI_cons (is (.bool true)) (stable_is _) (step_call2 (go1 22 false 114 rfl rfl rfl rfl) 16 (.tmp 116) (.tmp 127) _ rfl enter16 (opT' 116 24 rfl rfl) (opT' 127 35 rfl rfl) (fun u v w h1 h2 h3 => by obtain rfl : v = _ := h3; exact Ints_ok (o2.take 2) hol2 u _ w h1 h2 (hrow2 w h1))) ?_
            refine wpI_cons (is (.bool false)) (stable_is _) (step_not (go1 22 false 114 rfl rfl rfl rfl) 4 (.tmp 128) rfl true (opT' 128 36 rfl rfl)) ?_
            refine wpI_cons (is (.bool false)) (stable_is _) (step_pickF (go0 rfl) (.tmp 114) (.const (.bool true)) (.tmp 129) rfl (opT' 114 22 rfl rfl) (opT' 129 37 rfl rfl)) ?_
            refine wpI_nil ?_
            intro v w' hI _ hdone
            have hlast : v 38 = .bool false := hdone 38 130 rfl
            clear hdone hrow hrow2 hf0
            simp only [putAll, Act.put, List.setIfInBounds_toArray, List.set_cons_zero, List.set_cons_succ, Nat.zero_add, Nat.reduceAdd, hlast]
            have HF := Lib.hid (And.intro (HB2.out.below hI) (HW2.out.trans (Below.mono hI HW2.out.size)))
            clear hI HB2 HW2 hlast hol hol2
            go_wp2_with fail
            go_roundw
            case rel => exact ⟨t + 1, o2, p2, bL2, cap2, by go_num, HF.out.1, HF.out.2, hbase2⟩
            case measure => simp [intOf]; omega
          | some x =>
            have hr1 : oldI p2 o2 = (x : Nat) := by unfold oldI; rw [hop]
            have hr2 : oldR p2 o2 = .tuple #[.int .i64 (x : Nat), .bool true] := by unfold oldR; rw [hop]
            rw [hr2]
            have hxn : x < n := HY.out.1.x.ok.lt x (List.mem_of_find?_eq_some hop)
            clear hr2 hop
            go_wp2_with fail
            refine (ROldest_walk HY.out.1.m).mono ?_
            rintro e wz ⟨rfl, hBz⟩
            rw [hr1]
            have HB2 := Lib.hid (HY.out.1.below hBz)
            have HW2 := Lib.hid (HY.out.2.trans (hBz.mono HY.out.2.size))
            clear HY hBz hr1
            go_wp2_with fail
            have hf0 : ∀ w', Up wz w' → w'.cell? ⟨k', 0, none⟩ = some (.slice (some ⟨bL2, 0, none⟩) n cap2) := fun w' h => (ext_of_below h).cell _ _ HB2.out.m.f0
            have hon := HB2.out.x.ok.len
            have hnt := HB2.out.m.top
            have hol : o2.length ≤ 1000 := by omega
            have hcapn := HB2.out.m.hcap
            have hol2 : (o2.take 2).length ≤ 1000 := by rw [List.length_take]; omega
            have hrow : ∀ w', Up wz w' → isRowS o2 (.slice (some ⟨bL2, 0, none⟩) n cap2) w' := fun w' h => ⟨_, _, by rw [hon], by omega, ⟨fun i hi => ⟨bL2, 0, rfl, by rw [Nat.zero_add]; exact (ext_of_below h).cell _ _ (HB2.out.m.cl i (by omega))⟩⟩⟩
            have hrow2 : ∀ w', Up wz w' → isRowS (o2.take 2) (.slice (some ⟨bL2, 0, none⟩) (min 2 n) cap2) w' := fun w' h => ⟨_, _, by rw [List.length_take, hon], by rw [List.length_take]; omega, ⟨fun i hi => ⟨bL2, 0, rfl, by
              rw [List.length_take] at hi
              rw [Nat.zero_add, (ext_of_below h).cell _ _ (HB2.out.m.cl i (by omega)), List.getD_eq_getElem?_getD, List.getD_eq_getElem?_getD, List.getElem?_take_of_lt (by omega)]⟩⟩⟩
            refine wp_region_inv2 132 mixed (by kernel_rfl) (by rfl) (Up wz) (Below.refl _ _).drew ?_
            refine wpI_cons (is (.bool true)) (stable_is _) (step_move (go0 rfl) (.tmp 10) rfl (opO' 10 (.bool true) rfl rfl)) ?_
            refine wpI_cons (is (.int .i64 (x : Int))) (stable_is _) (step_move (go0 rfl) (.tmp 11) rfl (opO' 11 (.int .i64 (x : Int)) rfl rfl)) ?_
            refine wpI_cons (is (.bool true)) (stable_is _) (step_int (go0 rfl) .geq 3 3 (.tmp 93) (.const (.int .i64 0)) rfl .i64 .i64 (x : Int) 0 _ (opT' 93 1 rfl rfl) (opC _) (fun w => run_geq x w)) ?_
            refine wpI_cons (is (.bool false)) (stable_is _) (step_neqb (go0 rfl) 4 4 (.tmp 92) (.tmp 94) rfl true true false (opT' 92 0 rfl rfl) (opT' 94 2 rfl rfl) (fun w => by kernel_rfl)) ?_
            refine wpI_cons (is (.bool false)) (stable_is _) (step_move (go0 rfl) (.tmp 95) rfl (opT' 95 3 rfl rfl)) ?_
            refine wpI_cons (is (.bool true)) (stable_is _) (step_move (go1 4 false 96 rfl rfl rfl rfl) (.tmp 10) rfl (opO' 10 (.bool true) rfl rfl)) ?_
            refine wpI_cons (is (.bool true)) (stable_is _) (step_move (go1 4 false 96 rfl rfl rfl rfl) (.tmp 97) rfl (opT' 97 5 rfl rfl)) ?_
            refine wpI_cons (is (.int .i64 (x : Int))) (stable_is _) (step_move (go1 6 true 98 rfl rfl rfl rfl) (.tmp 9) rfl (opO' 9 (.int .i64 (x : Int)) rfl rfl)) ?_
            refine wpI_cons (is (.int .i64 (x : Int))) (stable_is _) (step_move (go1 6 true 98 rfl rfl rfl rfl) (.tmp 11) rfl (opO' 11 (.int .i64 (x : Int)) rfl rfl)) ?_
            refine wpI_cons (is (.bool false)) (stable_is _) (step_int (go1 6 true 98 rfl rfl rfl rfl) .neq 3 3 (.tmp 99) (.tmp 100) rfl .i64 .i64 (x : Int) (x : Int) _ (opT' 99 7 rfl rfl) (opT' 100 8 rfl rfl) (fun w => run_neqx x w)) ?_
            refine wpI_cons (is (.bool false)) (stable_is _) (step_pickT (go1 4 false 96 rfl rfl rfl rfl) (.tmp 98) (.tmp 101) (.const (.bool false)) rfl (opT' 98 6 rfl rfl) (opT' 101 9 rfl rfl)) ?_
            refine wpI_cons (is (.bool false)) (stable_is _) (step_pickF (go0 rfl) (.tmp 96) (.const (.bool true)) (.tmp 102) rfl (opT' 96 4 rfl rfl) (opT' 102 10 rfl rfl)) ?_
            refine wpI_cons (is (.bool false)) (stable_is _) (step_move (go0 rfl) (.tmp 103) rfl (opT' 103 11 rfl rfl)) ?_
            refine wpI_cons (is (.pointer (some ⟨k, 0, none⟩))) (stable_is _) (step_move (go1 12 false 104 rfl rfl rfl rfl) (.tmp 5) rfl (opO' 5 (.pointer (some ⟨k, 0, none⟩)) rfl rfl)) ?_
            refine wpI_cons (isRowS o2) (stable_isRowS _ _) (step_call2 (go1 12 false 104 rfl rfl rfl rfl) 17 (.tmp 105) (.const (.int .i64 (-1))) _ rfl enter17 (opT' 105 13 rfl rfl) (opC _) (fun u v w h1 h2 h3 => by obtain rfl : u = _ := h2; obtain rfl : v = _ := h3; exact order_okA HB2.out.x w h1)) ?_
            refine wpI_cons (is (.pointer (some ⟨k', 0, none⟩))) (stable_is _) (step_move (go1 12 false 104 rfl rfl rfl rfl) (.tmp 7) rfl (opO' 7 (.pointer (some ⟨k', 0, none⟩)) rfl rfl)) ?_
            refine wpI_cons (is (.pointer (some ⟨k', 0, none⟩))) (stable_is _) (step_nilc (go1 12 false 104 rfl rfl rfl rfl) (.tmp 107) rfl _ (opT' 107 15 rfl rfl)) ?_
            refine wpI_cons (is (.pointer (some ⟨k', 0, none⟩))) (stable_is _) (step_field (go1 12 false 104 rfl rfl rfl rfl) 42 0 (.tmp 108) rfl _ _ (opT' 108 16 rfl rfl) (fun w => run_fb0 w _ _)) ?_
            refine wpI_cons (is (.slice (some ⟨bL2, 0, none⟩) n cap2)) (stable_is _) (step_cell (go1 12 false 104 rfl rfl rfl rfl) 38 (.tmp 109) rfl _ _ (opT' 109 17 rfl rfl) hf0 (fun w => run_load38 w)) ?_
            refine wpI_cons (is (.bool true)) (stable_is _) (step_call2 (go1 12 false 104 rfl rfl rfl rfl) 16 (.tmp 106) (.tmp 110) _ rfl enter16 (opT' 106 14 rfl rfl) (opT' 110 18 rfl rfl) (fun u v w h1 h2 h3 => by obtain rfl : v = _ := h3; exact Ints_ok o2 hol u _ w h1 h2 (hrow w h1))) ?_
            refine wpI_cons (is (.bool false)) (stable_is _) (step_not (go1 12 false 104 rfl rfl rfl rfl) 4 (.tmp 111) rfl true (opT' 111 19 rfl rfl)) ?_
            refine wpI_cons (is (.bool false)) (stable_is _) (step_pickF (go0 rfl) (.tmp 104) (.const (.bool true)) (.tmp 112) rfl (opT' 104 12 rfl rfl) (opT' 112 20 rfl rfl)) ?_
            refine wpI_cons (is (.bool false)) (stable_is _) (step_move (go0 rfl) (.tmp 113) rfl (opT' 113 21 rfl rfl)) ?_
            refine wpI_cons (is (.pointer (some ⟨k, 0, none⟩))) (stable_is _) (step_move (go1 22 false 114 rfl rfl rfl rfl) (.tmp 5) rfl (opO' 5 (.pointer (some ⟨k, 0, none⟩)) rfl rfl)) ?_
            refine wpI_cons (isRowS (o2.take 2)) (stable_isRowS _ _) (step_call2 (go1 22 false 114 rfl rfl rfl rfl) 17 (.tmp 115) (.const (.int .i64 2)) _ rfl enter17 (opT' 115 23 rfl rfl) (opC _) (fun u v w h1 h2 h3 => by obtain rfl : u = _ := h2; obtain rfl : v = _ := h3; exact order_ok HB2.out.x 2 w h1)) ?_
            refine wpI_cons (is (.pointer (some ⟨k', 0, none⟩))) (stable_is _) (step_move (go1 22 false 114 rfl rfl rfl rfl) (.tmp 7) rfl (opO' 7 (.pointer (some ⟨k', 0, none⟩)) rfl rfl)) ?_
            refine wpI_cons (is (.pointer (some ⟨k', 0, none⟩))) (stable_is _) (step_nilc (go1 22 false 114 rfl rfl rfl rfl) (.tmp 117) rfl _ (opT' 117 25 rfl rfl)) ?_
            refine wpI_cons (is (.pointer (some ⟨k', 0, none⟩))) (stable_is _) (step_field (go1 22 false 114 rfl rfl rfl rfl) 42 0 (.tmp 118) rfl _ _ (opT' 118 26 rfl rfl) (fun w => run_fb0 w _ _)) ?_
            refine wpI_cons (is (.slice (some ⟨bL2, 0, none⟩) n cap2)) (stable_is _) (step_cell (go1 22 false 114 rfl rfl rfl rfl) 38 (.tmp 119) rfl _ _ (opT' 119 27 rfl rfl) hf0 (fun w => run_load38 w)) ?_
            refine wpI_cons (is (.pointer (some ⟨k', 0, none⟩))) (stable_is _) (step_move (go1 22 false 114 rfl rfl rfl rfl) (.tmp 7) rfl (opO' 7 (.pointer (some ⟨k', 0, none⟩)) rfl rfl)) ?_
            refine wpI_cons (is (.pointer (some ⟨k', 0, none⟩))) (stable_is _) (step_nilc (go1 22 false 114 rfl rfl rfl rfl) (.tmp 121) rfl _ (opT' 121 29 rfl rfl)) ?_
            refine wpI_cons (is (.pointer (some ⟨k', 0, none⟩))) (stable_is _) (step_field (go1 22 false 114 rfl rfl rfl rfl) 42 0 (.tmp 122) rfl _ _ (opT' 122 30 rfl rfl) (fun w => run_fb0 w _ _)) ?_
            refine wpI_cons (is (.slice (some ⟨bL2, 0, none⟩) n cap2)) (stable_is _) (step_cell (go1 22 false 114 rfl rfl rfl rfl) 38 (.tmp 123) rfl _ _ (opT' 123 31 rfl rfl) hf0 (fun w => run_load38 w)) ?_
            refine wpI_cons (is (.int .i64 (n : Int))) (stable_is _) (step_len (go1 22 false 114 rfl rfl rfl rfl) (.tmp 124) 38 rfl _ _ (opT' 124 32 rfl rfl) (fun w => run_len38 _ _ _ w)) ?_
            refine wpI_cons (is (.int .i64 (min 2 (n : Int)))) (stable_is _) (step_min (go1 22 false 114 rfl rfl rfl rfl) (.const (.int .i64 2)) (.tmp 125) 3 rfl rfl 2 (n : Int) (opC _) (opT' 125 33 rfl rfl)) ?_
            refine wpI_cons (is (.slice (some ⟨bL2, 0, none⟩) (min 2 n) cap2)) (stable_is _) (step_sl (go1 22 false 114 rfl rfl rfl rfl) 38 (.tmp 120) (.tmp 126) rfl _ _ _ (opT' 120 28 rfl rfl) (opT' 126 34 rfl rfl) (fun w => run_sl38 w _ _ _ _ hcapn)) ?_
            refine wpI_cons (is (.bool true)) (stable_is _) (step_call2 (go1 22 false 114 rfl rfl rfl rfl) 16 (.tmp 116) (.tmp 127) _ rfl enter16 (opT' 116 24 rfl rfl) (opT' 127 35 rfl rfl) (fun u v w h1 h2 h3 => by obtain rfl : v = _ := h3; exact Ints_ok (o2.take 2) hol2 u _ w h1 h2 (hrow2 w h1))) ?_
            refine wpI_cons (is (.bool false)) (stable_is _) (step_not (go1 22 false 114 rfl rfl rfl rfl) 4 (.tmp 128) rfl true (opT' 128 36 rfl rfl)) ?_
            refine wpI_cons (is (.bool false)) (stable_is _) (step_pickF (go0 rfl) (.tmp 114) (.const (.bool true)) (.tmp 129) rfl (opT' 114 22 rfl rfl) (opT' 129 37 rfl rfl)) ?_
            refine wpI_nil ?_
            intro v w' hI _ hdone
            have hlast : v 38 = .bool false := hdone 38 130 rfl
            clear hdone hrow hrow2 hf0
            simp only [putAll, Act.put, List.setIfInBounds_toArray, List.set_cons_zero, List.set_cons_succ, Nat.zero_add, Nat.reduceAdd, hlast]
            have HF := Lib.hid (And.intro (HB2.out.below hI) (HW2.out.trans (Below.mono hI HW2.out.size)))
            clear hI HB2 HW2 hlast hol hol2
            go_wp2_with fail
            go_roundw
            case rel => exact ⟨t + 1, o2, p2, bL2, cap2, by go_num, HF.out.1, HF.out.2, hbase2⟩
            case measure => simp [intOf]; omega
      · by_cases hk2 : z0 t = 2
        · rw [hk2] at hc0
          clear hk2 hk1
          by_cases hin : 0 ≤ z1 t ∧ z1 t < n
          · obtain ⟨j, hzj⟩ : ∃ j : Nat, z1 t = (j : Int) := ⟨(z1 t).toNat, by omega⟩
            rw [hzj] at hc1 hin
            have hj : j < n := by omega
            clear hzj hin
            have hcell : ∀ w', (PinC wo k bE bY bP k' bL bQ n cap o p j) w' → w'.cell? ⟨b, off + t * 2 + 1, none⟩ = some (.int .i64 (j : Int)) := fun w' h => h.2.2.cell hc1 (by have := HQ.out; simp; omega)
            go_wp2_with fail
            refine wp_region_inv2 132 mixed (by kernel_rfl) (by rfl) (PinC wo k bE bY bP k' bL bQ n cap o p j) ⟨.inl (isX_drew HB.out.x), .inl (isM_drew HB.out.m), (Only.refl _ _).drew⟩ ?_
            refine wpI_cons (is (.pointer (some ⟨k, 0, none⟩))) (stable_is _) (step_move (go0 rfl) (.tmp 5) rfl (opO' 5 (.pointer (some ⟨k, 0, none⟩)) rfl rfl)) ?_
            refine wpI_cons (is (.slice (some ⟨b, off, none⟩) len1 cap1)) (stable_is _) (step_move (go0 rfl) (.tmp 1) rfl (opO' 1 (.slice (some ⟨b, off, none⟩) len1 cap1) rfl rfl)) ?_
            refine wpI_cons (is (.int .i64 (t : Int))) (stable_is _) (step_move (go0 rfl) (.tmp 8) rfl (opO' 8 (.int .i64 (t : Int)) rfl rfl)) ?_
            refine wpI_cons (is (.pointer (some ⟨b, off + t * 2, none⟩))) (stable_is _) (step_idx (go0 rfl) 22 (.tmp 71) (.tmp 72) rfl _ _ _ (opT' 71 1 rfl rfl) (opT' 72 2 rfl rfl) (fun w => run_ix22 w b off len1 cap1 t hlt)) ?_
            refine wpI_cons (is (.pointer (some ⟨b, off + t * 2 + 1, none⟩))) (stable_is _) (step_field (go0 rfl) 31 1 (.tmp 73) rfl _ _ (opT' 73 3 rfl rfl) (fun w => run_fa1 w _ _)) ?_
            refine wpI_cons (is (.int .i64 (j : Int))) (stable_is _) (step_cell (go0 rfl) 3 (.tmp 74) rfl _ _ (opT' 74 4 rfl rfl) hcell (fun w => run_load3 w)) ?_
            refine wpI_cons (fun v w => v = .int .i64 0 ∧ IsX w k bE bY bP n o (putB p j)) (fun v w w' h e => ⟨e.1, h.1 e.2⟩) (step_call2 (go0 rfl) 12 (.tmp 70) (.tmp 75) _ rfl enter12 (opT' 70 0 rfl rfl) (opT' 75 5 rfl rfl) (fun u v w h1 h2 h3 => by obtain rfl : u = _ := h2; obtain rfl : v = _ := h3; exact pinX_ok j HB.out hj w h1)) ?_
            refine wpI_cons (is (.pointer (some ⟨k', 0, none⟩))) (stable_is _) (step_move (go0 rfl) (.tmp 7) rfl (opO' 7 (.pointer (some ⟨k', 0, none⟩)) rfl rfl)) ?_
            refine wpI_cons (is (.slice (some ⟨b, off, none⟩) len1 cap1)) (stable_is _) (step_move (go0 rfl) (.tmp 1) rfl (opO' 1 (.slice (some ⟨b, off, none⟩) len1 cap1) rfl rfl)) ?_
            refine wpI_cons (is (.int .i64 (t : Int))) (stable_is _) (step_move (go0 rfl) (.tmp 8) rfl (opO' 8 (.int .i64 (t : Int)) rfl rfl)) ?_
            refine wpI_cons (is (.pointer (some ⟨b, off + t * 2, none⟩))) (stable_is _) (step_idx (go0 rfl) 22 (.tmp 78) (.tmp 79) rfl _ _ _ (opT' 78 8 rfl rfl) (opT' 79 9 rfl rfl) (fun w => run_ix22 w b off len1 cap1 t hlt)) ?_
            refine wpI_cons (is (.pointer (some ⟨b, off + t * 2 + 1, none⟩))) (stable_is _) (step_field (go0 rfl) 31 1 (.tmp 80) rfl _ _ (opT' 80 10 rfl rfl) (fun w => run_fa1 w _ _)) ?_
            refine wpI_cons (is (.int .i64 (j : Int))) (stable_is _) (step_cell (go0 rfl) 3 (.tmp 81) rfl _ _ (opT' 81 11 rfl rfl) hcell (fun w => run_load3 w)) ?_
            refine wpI_cons (fun v w => v = .int .i64 0 ∧ IsM w k' bL bQ n cap o (putB p j)) (fun v w w' h e => ⟨e.1, h.2 e.2⟩) (step_call2 (go0 rfl) 13 (.tmp 77) (.tmp 82) _ rfl enter13 (opT' 77 7 rfl rfl) (opT' 82 12 rfl rfl) (fun u v w h1 h2 h3 => by obtain rfl : u = _ := h2; obtain rfl : v = _ := h3; exact pinM_ok j HB.out hj w h1)) ?_
            refine wpI_cons (is (.bool false)) (stable_is _) (step_int (go0 rfl) .neq 3 3 (.tmp 76) (.tmp 83) rfl .i64 .i64 0 0 _ (OpIs.imp (opT' 76 6 rfl rfl) (fun v w _ h => h.1)) (OpIs.imp (opT' 83 13 rfl rfl) (fun v w _ h => h.1)) (fun w => by kernel_rfl)) ?_
            refine wpI_nil ?_
            intro v w' hI _ hdone
            have hlast : v 14 = .bool false := hdone 14 84 rfl
            have hM := (hdone 13 83 rfl).2
            have hX := (hdone 6 76 rfl).2
            have HB2 := Lib.hid (show Both w' k bE bY bP k' bL bQ n cap o (putB p j) from ⟨hX, hM, HB.out.s1, HB.out.s2, HB.out.s3, HB.out.s4⟩)
            have hbase2 : w.heap.size ≤ bL := hbase
            obtain ⟨bL2, hbb⟩ : ∃ bL2, bL2 = bL := ⟨_, rfl⟩
            obtain ⟨cap2, hcc⟩ : ∃ cap2, cap2 = cap := ⟨_, rfl⟩
            obtain ⟨o2, ho2⟩ : ∃ o2, o2 = o := ⟨_, rfl⟩
            obtain ⟨p2, hp2⟩ : ∃ p2, p2 = putB p j := ⟨_, rfl⟩
            rw [← ho2, ← hp2, ← hbb, ← hcc] at HB2
            rw [← hbb] at hbase2
            clear hX hM ho2 hp2 hbb hcc
            have HW2 := Lib.hid (HW.out.trans (hI.2.2.below HW.out.size (by have := HQ.out; simp; omega)))
            clear hdone hcell hI HB HW hbase
            simp only [putAll, Act.put, List.setIfInBounds_toArray, List.set_cons_zero, List.set_cons_succ, Nat.zero_add, Nat.reduceAdd, hlast]
            clear hlast
            go_wp2_with fail
            refine (Oldest_calls HB2.out.x.isO).mono ?_
            rintro e wy ⟨rfl, hBy⟩
            have HY := Lib.hid (And.intro (HB2.out.below hBy) (HW2.out.trans (hBy.mono HW2.out.size)))
            clear HB2 HW2 hBy
            cases hop : oldest p2 o2 with
            | none =>
              have hr1 : oldI p2 o2 = -1 := by unfold oldI; rw [hop]
              have hr2 : oldR p2 o2 = .tuple #[.int .i64 0, .bool false] := by unfold oldR; rw [hop]
              rw [hr2]
              clear hr2 hop
              go_wp2_with fail
              refine (ROldest_walk HY.out.1.m).mono ?_
              rintro e wz ⟨rfl, hBz⟩
              rw [hr1]
              have HB2 := Lib.hid (HY.out.1.below hBz)
              have HW2 := Lib.hid (HY.out.2.trans (hBz.mono HY.out.2.size))
              clear HY hBz hr1
              go_wp2_with fail
              have hf0 : ∀ w', Up wz w' → w'.cell? ⟨k', 0, none⟩ = some (.slice (some ⟨bL2, 0, none⟩) n cap2) := fun w' h => (ext_of_below h).cell _ _ HB2.out.m.f0
              have hon := HB2.out.x.ok.len
              have hnt := HB2.out.m.top
              have hol : o2.length ≤ 1000 := by omega
              have hcapn := HB2.out.m.hcap
              have hol2 : (o2.take 2).length ≤ 1000 := by rw [List.length_take]; omega
              have hrow : ∀ w', Up wz w' → isRowS o2 (.slice (some ⟨bL2, 0, none⟩) n cap2) w' := fun w' h => ⟨_, _, by rw [hon], by omega, ⟨fun i hi => ⟨bL2, 0, rfl, by rw [Nat.zero_add]; exact (ext_of_below h).cell _ _ (HB2.out.m.cl i (by omega))⟩⟩⟩
              have hrow2 : ∀ w', Up wz w' → isRowS (o2.take 2) (.slice (some ⟨bL2, 0, none⟩) (min 2 n) cap2) w' := fun w' h => ⟨_, _, by rw [List.length_take, hon], by rw [List.length_take]; omega, ⟨fun i hi => ⟨bL2, 0, rfl, by
                rw [List.length_take] at hi
                rw [Nat.zero_add, (ext_of_below h).cell _ _ (HB2.out.m.cl i (by omega)), List.getD_eq_getElem?_getD, List.getD_eq_getElem?_getD, List.getElem?_take_of_lt (by omega)]⟩⟩⟩
              refine wp_region_inv2 132 mixed (by kernel_rfl) (by rfl) (Up wz) (Below.refl _ _).drew ?_
              refine wpI_cons (is (.bool false)) (stable_is _) (step_move (go0 rfl) (.tmp 10) rfl (opO' 10 (.bool false) rfl rfl)) ?_
              refine wpI_cons (is (.int .i64 (-1))) (stable_is _) (step_move (go0 rfl) (.tmp 11) rfl (opO' 11 (.int .i64 (-1)) rfl rfl)) ?_
              refine wpI_cons (is (.bool false)) (stable_is _) (step_int (go0 rfl) .geq 3 3 (.tmp 93) (.const (.int .i64 0)) rfl .i64 .i64 (-1) 0 _ (opT' 93 1 rfl rfl) (opC _) (fun w => by kernel_rfl)) ?_
              refine wpI_cons (is (.bool false)) (stable_is _) (step_neqb (go0 rfl) 4 4 (.tmp 92) (.tmp 94) rfl false false false (opT' 92 0 rfl rfl) (opT' 94 2 rfl rfl) (fun w => by kernel_rfl)) ?_
              refine wpI_cons (is (.bool false)) (stable_is _) (step_move (go0 rfl) (.tmp 95) rfl (opT' 95 3 rfl rfl)) ?_
              refine wpI_cons (is (.bool false)) (stable_is _) (step_move (go1 4 false 96 rfl rfl rfl rfl) (.tmp 10) rfl (opO' 10 (.bool false) rfl rfl)) ?_
              refine wpI_cons (is (.bool false)) (stable_is _) (step_move (go1 4 false 96 rfl rfl rfl rfl) (.tmp 97) rfl (opT' 97 5 rfl rfl)) ?_
              refine wpI_cons (is undef) (stable_is _) (step_off 6 true 98 rfl rfl rfl rfl) ?_
              refine wpI_cons (is undef) (stable_is _) (step_off 6 true 98 rfl rfl rfl rfl) ?_
              refine wpI_cons (is undef) (stable_is _) (step_off 6 true 98 rfl rfl rfl rfl) ?_
              refine wpI_cons (is (.bool false)) (stable_is _) (step_pickF (go1 4 false 96 rfl rfl rfl rfl) (.tmp 98) (.tmp 101) (.const (.bool false)) rfl (opT' 98 6 rfl rfl) (opC _)) ?_
              refine wpI_cons (is (.bool false)) (stable_is _) (step_pickF (go0 rfl) (.tmp 96) (.const (.bool true)) (.tmp 102) rfl (opT' 96 4 rfl rfl) (opT' 102 10 rfl rfl)) ?_
              refine wpI_cons (is (.bool false)) (stable_is _) (step_move (go0 rfl) (.tmp 103) rfl (opT' 103 11 rfl rfl)) ?_
              refine wpI_cons (is (.pointer (some ⟨k, 0, none⟩))) (stable_is _) (step_move (go1 12 false 104 rfl rfl rfl rfl) (.tmp 5) rfl (opO' 5 (.pointer (some ⟨k, 0, none⟩)) rfl rfl)) ?_
              refine wpI_cons (isRowS o2) (stable_isRowS _ _) (step_call2 (go1 12 false 104 rfl rfl rfl rfl) 17 (.tmp 105) (.const (.int .i64 (-1))) _ rfl enter17 (opT' 105 13 rfl rfl) (opC _) (fun u v w h1 h2 h3 => by obtain rfl : u = _ := h2; obtain rfl : v = _ := h3; exact order_okA HB2.out.x w h1)) ?_
              refine wpI_cons (is (.pointer (some ⟨k', 0, none⟩))) (stable_is _) (step_move (go1 12 false 104 rfl rfl rfl rfl) (.tmp 7) rfl (opO' 7 (.pointer (some ⟨k', 0, none⟩)) rfl rfl)) ?_
              refine wpI_cons (is (.pointer (some ⟨k', 0, none⟩))) (stable_is _) (step_nilc (go1 12 false 104 rfl rfl rfl rfl) (.tmp 107) rfl _ (opT' 107 15 rfl rfl)) ?_
              refine wpI_cons (is (.pointer (some ⟨k', 0, none⟩))) (stable_is _) (step_field (go1 12 false 104 rfl rfl rfl rfl) 42 0 (.tmp 108) rfl _ _ (opT' 108 16 rfl rfl) (fun w => run_fb0 w _ _)) ?_
              refine wpI_cons (is (.slice (some ⟨bL2, 0, none⟩) n cap2)) (stable_is _) (step_cell (go1 12 false 104 rfl rfl rfl rfl) 38 (.tmp 109) rfl _ _ (opT' 109 17 rfl rfl) hf0 (fun w => run_load38 w)) ?_
              refine wpI_cons (is (.bool true)) (stable_is _) (step_call2 (go1 12 false 104 rfl rfl rfl rfl) 16 (.tmp 106) (.tmp 110) _ rfl enter16 (opT' 106 14 rfl rfl) (opT' 110 18 rfl rfl) (fun u v w h1 h2 h3 => by obtain rfl : v = _ := h3; exact Ints_ok o2 hol u _ w h1 h2 (hrow w h1))) ?_
              refine wpI_cons (is (.bool false)) (stable_is _) (step_not (go1 12 false 104 rfl rfl rfl rfl) 4 (.tmp 111) rfl true (opT' 111 19 rfl rfl)) ?_
              refine wpI_cons (is (.bool false)) (stable_is _) (step_pickF (go0 rfl) (.tmp 104) (.const (.bool true)) (.tmp 112) rfl (opT' 104 12 rfl rfl) (opT' 112 20 rfl rfl)) ?_
              refine wpI_cons (is (.bool false)) (stable_is _) (step_move (go0 rfl) (.tmp 113) rfl (opT' 113 21 rfl rfl)) ?_
              refine wpI_cons (is (.pointer (some ⟨k, 0, none⟩))) (stable_is _) (step_move (go1 22 false 114 rfl rfl rfl rfl) (.tmp 5) rfl (opO' 5 (.pointer (some ⟨k, 0, none⟩)) rfl rfl)) ?_
              refine wpI_cons (isRowS (o2.take 2)) (stable_isRowS _ _) (step_call2 (go1 22 false 114 rfl rfl rfl rfl) 17 (.tmp 115) (.const (.int .i64 2)) _ rfl enter17 (opT' 115 23 rfl rfl) (opC _) (fun u v w h1 h2 h3 => by obtain rfl : u = _ := h2; obtain rfl : v = _ := h3; exact order_ok HB2.out.x 2 w h1)) ?_
              refine wpI_cons (is (.pointer (some ⟨k', 0, none⟩))) (stable_is _) (step_move (go1 22 false 114 rfl rfl rfl rfl) (.tmp 7) rfl (opO' 7 (.pointer (some ⟨k', 0, none⟩)) rfl rfl)) ?_
              refine wpI_cons (is (.pointer (some ⟨k', 0, none⟩))) (stable_is _) (step_nilc (go1 22 false 114 rfl rfl rfl rfl) (.tmp 117) rfl _ (opT' 117 25 rfl rfl)) ?_
              refine wpI_cons (is (.pointer (some ⟨k', 0, none⟩))) (stable_is _) (step_field (go1 22 false 114 rfl rfl rfl rfl) 42 0 (.tmp 118) rfl _ _ (opT' 118 26 rfl rfl) (fun w => run_fb0 w _ _)) ?_
              refine wpI_cons (is (.slice (some ⟨bL2, 0, none⟩) n cap2)) (stable_is _) (step_cell (go1 22 false 114 rfl rfl rfl rfl) 38 (.tmp 119) rfl _ _ (opT' 119 27 rfl rfl) hf0 (fun w => run_load38 w)) ?_
              refine wpI_cons (is (.pointer (some ⟨k', 0, none⟩))) (stable_is _) (step_move (go1 22 false 114 rfl rfl rfl rfl) (.tmp 7) rfl (opO' 7 (.pointer (some ⟨k', 0, none⟩)) rfl rfl)) ?_
              refine wpI_cons (is (.pointer (some ⟨k', 0, none⟩))) (stable_is _) (step_nilc (go1 22 false 114 rfl rfl rfl rfl) (.tmp 121) rfl _ (opT' 121 29 rfl rfl)) ?_
              refine wpI_cons (is (.pointer (some ⟨k', 0, none⟩))) (stable_is _) (step_field (go1 22 false 114 rfl rfl rfl rfl) 42 0 (.tmp 122) rfl _ _ (opT' 122 30 rfl rfl) (fun w => run_fb0 w _ _)) ?_
              refine wpI_cons (is (.slice (some ⟨bL2, 0, none⟩) n cap2)) (stable_is _) (step_cell (go1 22 false 114 rfl rfl rfl rfl) 38 (.tmp 123) rfl _ _ (opT' 123 31 rfl rfl) hf0 (fun w => run_load38 w)) ?_
              refine wpI_cons (is (.int .i64 (n : Int))) (stable_is _) (step_len (go1 22 false 114 rfl rfl rfl rfl) (.tmp 124) 38 rfl _ _ (opT' 124 32 rfl rfl) (fun w => run_len38 _ _ _ w)) ?_
              refine wpI_cons (is (.int .i64 (min 2 (n : Int)))) (stable_is _) (step_min (go1 22 false 114 rfl rfl rfl rfl) (.const (.int .i64 2)) (.tmp 125) 3 rfl rfl 2 (n : Int) (opC _) (opT' 125 33 rfl rfl)) ?_
              refine wpI_cons (is (.slice (some ⟨bL2, 0, none⟩) (min 2 n) cap2)) (stable_is _) (step_sl (go1 22 false 114 rfl rfl rfl rfl) 38 (.tmp 120) (.tmp 126) rfl _ _ _ (opT' 120 28 rfl rfl) (opT' 126 34 rfl rfl) (fun w => run_sl38 w _ _ _ _ hcapn)) ?_
              refine wpI_cons (is (.bool true)) (stable_is _) (step_call2 (go1 22 false 114 rfl rfl rfl rfl) 16 (.tmp 116) (.tmp 127) _ rfl enter16 (opT' 116 24 rfl rfl) (opT' 127 35 rfl rfl) (fun u v w h1 h2 h3 => by obtain rfl : v = _ := h3; exact Ints_ok (o2.take 2) hol2 u _ w h1 h2 (hrow2 w h1))) ?_
              refine wpI_cons (is (.bool false)) (stable_is _) (step_not (go1 22 false 114 rfl rfl rfl rfl) 4 (.tmp 128) rfl true (opT' 128 36 rfl rfl)) ?_
              refine wpI_cons (is (.bool false)) (stable_is _) (step_pickF (go0 rfl) (.tmp 114) (.const (.bool true)) (.tmp 129) rfl (opT' 114 22 rfl rfl) (opT' 129 37 rfl rfl)) ?_
              refine wpI_nil ?_
              intro v w' hI _ hdone
              have hlast : v 38 = .bool false := hdone 38 130 rfl
              clear hdone hrow hrow2 hf0
              simp only [putAll, Act.put, List.setIfInBounds_toArray, List.set_cons_zero, List.set_cons_succ, Nat.zero_add, Nat.reduceAdd, hlast]
              have HF := Lib.hid (And.intro (HB2.out.below hI) (HW2.out.trans (Below.mono hI HW2.out.size)))
              clear hI HB2 HW2 hlast hol hol2
              go_wp2_with fail
              go_roundw
              case rel => exact ⟨t + 1, o2, p2, bL2, cap2, by go_num, HF.out.1, HF.out.2, hbase2⟩
              case measure => simp [intOf]; omega
            | some x =>
              have hr1 : oldI p2 o2 = (x : Nat) := by unfold oldI; rw [hop]
              have hr2 : oldR p2 o2 = .tuple #[.int .i64 (x : Nat), .bool true] := by unfold oldR; rw [hop]
              rw [hr2]
              have hxn : x < n := HY.out.1.x.ok.lt x (List.mem_of_find?_eq_some hop)
              clear hr2 hop
              go_wp2_with fail
              refine (ROldest_walk HY.out.1.m).mono ?_
              rintro e wz ⟨rfl, hBz⟩
              rw [hr1]
              have HB2 := Lib.hid (HY.out.1.below hBz)
              have HW2 := Lib.hid (HY.out.2.trans (hBz.mono HY.out.2.size))
              clear HY hBz hr1
              go_wp2_with fail
              have hf0 : ∀ w', Up wz w' → w'.cell? ⟨k', 0, none⟩ = some (.slice (some ⟨bL2, 0, none⟩) n cap2) := fun w' h => (ext_of_below h).cell _ _ HB2.out.m.f0
              have hon := HB2.out.x.ok.len
              have hnt := HB2.out.m.top
              have hol : o2.length ≤ 1000 := by omega
              have hcapn := HB2.out.m.hcap
              have hol2 : (o2.take 2).length ≤ 1000 := by rw [List.length_take]; omega
              have hrow : ∀ w', Up wz w' → isRowS o2 (.slice (some ⟨bL2, 0, none⟩) n cap2) w' := fun w' h => ⟨_, _, by rw [hon], by omega, ⟨fun i hi => ⟨bL2, 0, rfl, by rw [Nat.zero_add]; exact (ext_of_below h).cell _ _ (HB2.out.m.cl i (by omega))⟩⟩⟩
              have hrow2 : ∀ w', Up wz w' → isRowS (o2.take 2) (.slice (some ⟨bL2, 0, none⟩) (min 2 n) cap2) w' := fun w' h => ⟨_, _, by rw [List.length_take, hon], by rw [List.length_take]; omega, ⟨fun i hi => ⟨bL2, 0, rfl, by
                rw [List.length_take] at hi
                rw [Nat.zero_add, (ext_of_below h).cell _ _ (HB2.out.m.cl i (by omega)), List.getD_eq_getElem?_getD, List.getD_eq_getElem?_getD, List.getElem?_take_of_lt (by omega)]⟩⟩⟩
              refine wp_region_inv2 132 mixed (by kernel_rfl) (by rfl) (Up wz) (Below.refl _ _).drew ?_
              refine wpI_cons (is (.bool true)) (stable_is _) (step_move (go0 rfl) (.tmp 10) rfl (opO' 10 (.bool true) rfl rfl)) ?_
              refine wpI_cons (is (.int .i64 (x : Int))) (stable_is _) (step_move (go0 rfl) (.tmp 11) rfl (opO' 11 (.int .i64 (x : Int)) rfl rfl)) ?_
              refine wpI_cons (is (.bool true)) (stable_is _) (step_int (go0 rfl) .geq 3 3 (.tmp 93) (.const (.int .i64 0)) rfl .i64 .i64 (x : Int) 0 _ (opT' 93 1 rfl rfl) (opC _) (fun w => run_geq x w)) ?_
              refine wpI_cons (is (.bool false)) (stable_is _) (step_neqb (go0 rfl) 4 4 (.tmp 92) (.tmp 94) rfl true true false (opT' 92 0 rfl rfl) (opT' 94 2 rfl rfl) (fun w => by kernel_rfl)) ?_
              refine wpI_cons (is (.bool false)) (stable_is _) (step_move (go0 rfl) (.tmp 95) rfl (opT' 95 3 rfl rfl)) ?_
              refine wpI_cons (is (.bool true)) (stable_is _) (step_move (go1 4 false 96 rfl rfl rfl rfl) (.tmp 10) rfl (opO' 10 (.bool true) rfl rfl)) ?_
              refine wpI_cons (is (.bool true)) (stable_is _) (step_move (go1 4 false 96 rfl rfl rfl rfl) (.tmp 97) rfl (opT' 97 5 rfl rfl)) ?_
              refine wpI_cons (is (.int .i64 (x : Int))) (stable_is _) (step_move (go1 6 true 98 rfl rfl rfl rfl) (.tmp 9) rfl (opO' 9 (.int .i64 (x : Int)) rfl rfl)) ?_
              refine wpI_cons (is (.int .i64 (x : Int))) (stable_is _) (step_move (go1 6 true 98 rfl rfl rfl rfl) (.tmp 11) rfl (opO' 11 (.int .i64 (x : Int)) rfl rfl)) ?_
              refine wpI_cons (is (.bool false)) (stable_is _) (step_int (go1 6 true 98 rfl rfl rfl rfl) .neq 3 3 (.tmp 99) (.tmp 100) rfl .i64 .i64 (x : Int) (x : Int) _ (opT' 99 7 rfl rfl) (opT' 100 8 rfl rfl) (fun w => run_neqx x w)) ?_
              refine wpI_cons (is (.bool false)) (stable_is _) (step_pickT (go1 4 false 96 rfl rfl rfl rfl) (.tmp 98) (.tmp 101) (.const (.bool false)) rfl (opT' 98 6 rfl rfl) (opT' 101 9 rfl rfl)) ?_
              refine wpI_cons (is (.bool false)) (stable_is _) (step_pickF (go0 rfl) (.tmp 96) (.const (.bool true)) (.tmp 102) rfl (opT' 96 4 rfl rfl) (opT' 102 10 rfl rfl)) ?_
              refine wpI_cons (is (.bool false)) (stable_is _) (step_move (go0 rfl) (.tmp 103) rfl (opT' 103 11 rfl rfl)) ?_
              refine wpI_cons (is (.pointer (some ⟨k, 0, none⟩))) (stable_is _) (step_move (go1 12 false 104 rfl rfl rfl rfl) (.tmp 5) rfl (opO' 5 (.pointer (some ⟨k, 0, none⟩)) rfl rfl)) ?_
              refine wpI_cons (isRowS o2) (stable_isRowS _ _) (step_call2 (go1 12 false 104 rfl rfl rfl rfl) 17 (.tmp 105) (.const (.int .i64 (-1))) _ rfl enter17 (opT' 105 13 rfl rfl) (opC _) (fun u v w h1 h2 h3 => by obtain rfl : u = _ := h2; obtain rfl : v = _ := h3; exact order_okA HB2.out.x w h1)) ?_
              refine wpI_cons (is (.pointer (some ⟨k', 0, none⟩))) (stable_is _) (step_move (go1 12 false 104 rfl rfl rfl rfl) (.tmp 7) rfl (opO' 7 (.pointer (some ⟨k', 0, none⟩)) rfl rfl)) ?_
              refine wpI_cons (is (.pointer (some ⟨k', 0, none⟩))) (stable_is _) (step_nilc (go1 12 false 104 rfl rfl rfl rfl) (.tmp 107) rfl _ (opT' 107 15 rfl rfl)) ?_
              refine wpI_cons (is (.pointer (some ⟨k', 0, none⟩))) (stable_is _) (step_field (go1 12 false 104 rfl rfl rfl rfl) 42 0 (.tmp 108) rfl _ _ (opT' 108 16 rfl rfl) (fun w => run_fb0 w _ _)) ?_
              refine wpI_cons (is (.slice (some ⟨bL2, 0, none⟩) n cap2)) (stable_is _) (step_cell (go1 12 false 104 rfl rfl rfl rfl) 38 (.tmp 109) rfl _ _ (opT' 109 17 rfl rfl) hf0 (fun w => run_load38 w)) ?_
              refine wpI_cons (is (.bool true)) (stable_is _) (step_call2 (go1 12 false 104 rfl rfl rfl rfl) 16 (.tmp 106) (.tmp 110) _ rfl enter16 (opT' 106 14 rfl rfl) (opT' 110 18 rfl rfl) (fun u v w h1 h2 h3 => by obtain rfl : v = _ := h3; exact Ints_ok o2 hol u _ w h1 h2 (hrow w h1))) ?_
              refine wpI_cons (is (.bool false)) (stable_is _) (step_not (go1 12 false 104 rfl rfl rfl rfl) 4 (.tmp 111) rfl true (opT' 111 19 rfl rfl)) ?_
              refine wpI_cons (is (.bool false)) (stable_is _) (step_pickF (go0 rfl) (.tmp 104) (.const (.bool true)) (.tmp 112) rfl (opT' 104 12 rfl rfl) (opT' 112 20 rfl rfl)) ?_
              refine wpI_cons (is (.bool false)) (stable_is _) (step_move (go0 rfl) (.tmp 113) rfl (opT' 113 21 rfl rfl)) ?_
              refine wpI_cons (is (.pointer (some ⟨k, 0, none⟩))) (stable_is _) (step_move (go1 22 false 114 rfl rfl rfl rfl) (.tmp 5) rfl (opO' 5 (.pointer (some ⟨k, 0, none⟩)) rfl rfl)) ?_
              refine wpI_cons (isRowS (o2.take 2)) (stable_isRowS _ _) (step_call2 (go1 22 false 114 rfl rfl rfl rfl) 17 (.tmp 115) (.const (.int .i64 2)) _ rfl enter17 (opT' 115 23 rfl rfl) (opC _) (fun u v w h1 h2 h3 => by obtain rfl : u = _ := h2; obtain rfl : v = _ := h3; exact order_ok HB2.out.x 2 w h1)) ?_
              refine wpI_cons (is (.pointer (some ⟨k', 0, none⟩))) (stable_is _) (step_move (go1 22 false 114 rfl rfl rfl rfl) (.tmp 7) rfl (opO' 7 (.pointer (some ⟨k', 0, none⟩)) rfl rfl)) ?_
              refine wpI_cons (is (.pointer (some ⟨k', 0, none⟩))) (stable_is _) (step_nilc (go1 22 false 114 rfl rfl rfl rfl) (.tmp 117) rfl _ (opT' 117 25 rfl rfl)) ?_
              refine wpI_cons (is (.pointer (some ⟨k', 0, none⟩))) (stable_is _) (step_field (go1 22 false 114 rfl rfl rfl rfl) 42 0 (.tmp 118) rfl _ _ (opT' 118 26 rfl rfl) (fun w => run_fb0 w _ _)) ?_
              refine wpI_cons (is (.slice (some ⟨bL2, 0, none⟩) n cap2)) (stable_is _) (step_cell (go1 22 false 114 rfl rfl rfl rfl) 38 (.tmp 119) rfl _ _ (opT' 119 27 rfl rfl) hf0 (fun w => run_load38 w)) ?_
              refine wpI_cons (is (.pointer (some ⟨k', 0, none⟩))) (stable_is _) (step_move (go1 22 false 114 rfl rfl rfl rfl) (.tmp 7) rfl (opO' 7 (.pointer (some ⟨k', 0, none⟩)) rfl rfl)) ?_
              refine wpI_cons (is (.pointer (some ⟨k', 0, none⟩))) (stable_is _) (step_nilc (go1 22 false 114 rfl rfl rfl rfl) (.tmp 121) rfl _ (opT' 121 29 rfl rfl)) ?_
              refine wpI_cons (is (.pointer (some ⟨k', 0, none⟩))) (stable_is _) (step_field (go1 22 false 114 rfl rfl rfl rfl) 42 0 (.tmp 122) rfl _ _ (opT' 122 30 rfl rfl) (fun w => run_fb0 w _ _)) ?_
              refine wpI_cons (is (.slice (some ⟨bL2, 0, none⟩) n cap2)) (stable_is _) (step_cell (go1 22 false 114 rfl rfl rfl rfl) 38 (.tmp 123) rfl _ _ (opT' 123 31 rfl rfl) hf0 (fun w => run_load38 w)) ?_
              refine wpI_cons (is (.int .i64 (n : Int))) (stable_is _) (step_len (go1 22 false 114 rfl rfl rfl rfl) (.tmp 124) 38 rfl _ _ (opT' 124 32 rfl rfl) (fun w => run_len38 _ _ _ w)) ?_
              refine wpI_cons (is (.int .i64 (min 2 (n : Int)))) (stable_is _) (step_min (go1 22 false 114 rfl rfl rfl rfl) (.const (.int .i64 2)) (.tmp 125) 3 rfl rfl 2 (n : Int) (opC _) (opT' 125 33 rfl rfl)) ?_
              refine wpI_cons (is (.slice (some ⟨bL2, 0, none⟩) (min 2 n) cap2)) (stable_is _) (step_sl (go1 22 false 114 rfl rfl rfl rfl) 38 (.tmp 120) (.tmp 126) rfl _ _ _ (opT' 120 28 rfl rfl) (opT' 126 34 rfl rfl) (fun w => run_sl38 w _ _ _ _ hcapn)) ?_
              refine wpI_cons (is (.bool true)) (stable_is _) (step_call2 (go1 22 false 114 rfl rfl rfl rfl) 16 (.tmp 116) (.tmp 127) _ rfl enter16 (opT' 116 24 rfl rfl) (opT' 127 35 rfl rfl) (fun u v w h1 h2 h3 => by obtain rfl : v = _ := h3; exact Ints_ok (o2.take 2) hol2 u _ w h1 h2 (hrow2 w h1))) ?_
              refine wpI_cons (is (.bool false)) (stable_is _) (step_not (go1 22 false 114 rfl rfl rfl rfl) 4 (.tmp 128) rfl true (opT' 128 36 rfl rfl)) ?_
              refine wpI_cons (is (.bool false)) (stable_is _) (step_pickF (go0 rfl) (.tmp 114) (.const (.bool true)) (.tmp 129) rfl (opT' 114 22 rfl rfl) (opT' 129 37 rfl rfl)) ?_
              refine wpI_nil ?_
              intro v w' hI _ hdone
              have hlast : v 38 = .bool false := hdone 38 130 rfl
              clear hdone hrow hrow2 hf0
              simp only [putAll, Act.put, List.setIfInBounds_toArray, List.set_cons_zero, List.set_cons_succ, Nat.zero_add, Nat.reduceAdd, hlast]
              have HF := Lib.hid (And.intro (HB2.out.below hI) (HW2.out.trans (Below.mono hI HW2.out.size)))
              clear hI HB2 HW2 hlast hol hol2
              go_wp2_with fail
              go_roundw
              case rel => exact ⟨t + 1, o2, p2, bL2, cap2, by go_num, HF.out.1, HF.out.2, hbase2⟩
              case measure => simp [intOf]; omega
          · clear HR
            have hcell : ∀ w', (Up wo) w' → w'.cell? ⟨b, off + t * 2 + 1, none⟩ = some (.int .i64 (z1 t)) := fun w' h => (ext_of_below h).cell _ _ hc1
            go_wp2_with fail
            refine wp_region_inv2 132 mixed (by kernel_rfl) (by rfl) (Up wo) (Below.refl _ _).drew ?_
            refine wpI_cons (is (.pointer (some ⟨k, 0, none⟩))) (stable_is _) (step_move (go0 rfl) (.tmp 5) rfl (opO' 5 (.pointer (some ⟨k, 0, none⟩)) rfl rfl)) ?_
            refine wpI_cons (is (.slice (some ⟨b, off, none⟩) len1 cap1)) (stable_is _) (step_move (go0 rfl) (.tmp 1) rfl (opO' 1 (.slice (some ⟨b, off, none⟩) len1 cap1) rfl rfl)) ?_
            refine wpI_cons (is (.int .i64 (t : Int))) (stable_is _) (step_move (go0 rfl) (.tmp 8) rfl (opO' 8 (.int .i64 (t : Int)) rfl rfl)) ?_
            refine wpI_cons (is (.pointer (some ⟨b, off + t * 2, none⟩))) (stable_is _) (step_idx (go0 rfl) 22 (.tmp 71) (.tmp 72) rfl _ _ _ (opT' 71 1 rfl rfl) (opT' 72 2 rfl rfl) (fun w => run_ix22 w b off len1 cap1 t hlt)) ?_
            refine wpI_cons (is (.pointer (some ⟨b, off + t * 2 + 1, none⟩))) (stable_is _) (step_field (go0 rfl) 31 1 (.tmp 73) rfl _ _ (opT' 73 3 rfl rfl) (fun w => run_fa1 w _ _)) ?_
            refine wpI_cons (is (.int .i64 (z1 t))) (stable_is _) (step_cell (go0 rfl) 3 (.tmp 74) rfl _ _ (opT' 74 4 rfl rfl) hcell (fun w => run_load3 w)) ?_
            refine wpI_cons (is (.int .i64 1)) (stable_is _) (step_call2 (go0 rfl) 12 (.tmp 70) (.tmp 75) _ rfl enter12 (opT' 70 0 rfl rfl) (opT' 75 5 rfl rfl) (fun u v w h1 h2 h3 => by obtain rfl : u = _ := h2; obtain rfl : v = _ := h3; exact callOk_of h1 ((Pin_not (z1 t) (HB.out.x.below h1 HB.out.x.lt) hin).mono fun e w' ⟨he, hw⟩ => ⟨he, hw ▸ Below.refl _ _⟩) (fun _ => rfl))) ?_
            refine wpI_cons (is (.pointer (some ⟨k', 0, none⟩))) (stable_is _) (step_move (go0 rfl) (.tmp 7) rfl (opO' 7 (.pointer (some ⟨k', 0, none⟩)) rfl rfl)) ?_
            refine wpI_cons (is (.slice (some ⟨b, off, none⟩) len1 cap1)) (stable_is _) (step_move (go0 rfl) (.tmp 1) rfl (opO' 1 (.slice (some ⟨b, off, none⟩) len1 cap1) rfl rfl)) ?_
            refine wpI_cons (is (.int .i64 (t : Int))) (stable_is _) (step_move (go0 rfl) (.tmp 8) rfl (opO' 8 (.int .i64 (t : Int)) rfl rfl)) ?_
            refine wpI_cons (is (.pointer (some ⟨b, off + t * 2, none⟩))) (stable_is _) (step_idx (go0 rfl) 22 (.tmp 78) (.tmp 79) rfl _ _ _ (opT' 78 8 rfl rfl) (opT' 79 9 rfl rfl) (fun w => run_ix22 w b off len1 cap1 t hlt)) ?_
            refine wpI_cons (is (.pointer (some ⟨b, off + t * 2 + 1, none⟩))) (stable_is _) (step_field (go0 rfl) 31 1 (.tmp 80) rfl _ _ (opT' 80 10 rfl rfl) (fun w => run_fa1 w _ _)) ?_
            refine wpI_cons (is (.int .i64 (z1 t))) (stable_is _) (step_cell (go0 rfl) 3 (.tmp 81) rfl _ _ (opT' 81 11 rfl rfl) hcell (fun w => run_load3 w)) ?_
            refine wpI_cons (is (.int .i64 1)) (stable_is _) (step_call2 (go0 rfl) 13 (.tmp 77) (.tmp 82) _ rfl enter13 (opT' 77 7 rfl rfl) (opT' 82 12 rfl rfl) (fun u v w h1 h2 h3 => by obtain rfl : u = _ := h2; obtain rfl : v = _ := h3; exact callOk_of h1 ((RPin_not (z1 t) (HB.out.m.other (Below.block h1 _ HB.out.m.lt.1) (Below.block h1 _ HB.out.m.lt.2.1) (Below.block h1 _ HB.out.m.lt.2.2)) hin).mono fun e w' ⟨he, hw⟩ => ⟨he, hw ▸ Below.refl _ _⟩) (fun _ => rfl))) ?_
            refine wpI_cons (is (.bool false)) (stable_is _) (step_int (go0 rfl) .neq 3 3 (.tmp 76) (.tmp 83) rfl .i64 .i64 1 1 _ (opT' 76 6 rfl rfl) (opT' 83 13 rfl rfl) (fun w => by kernel_rfl)) ?_
            refine wpI_nil ?_
            intro v w' hI _ hdone
            have hlast : v 14 = .bool false := hdone 14 84 rfl
            have HB2 := Lib.hid (HB.out.below hI)
            have hbase2 : w.heap.size ≤ bL := hbase
            obtain ⟨bL2, hbb⟩ : ∃ bL2, bL2 = bL := ⟨_, rfl⟩
            obtain ⟨cap2, hcc⟩ : ∃ cap2, cap2 = cap := ⟨_, rfl⟩
            obtain ⟨o2, ho2⟩ : ∃ o2, o2 = o := ⟨_, rfl⟩
            obtain ⟨p2, hp2⟩ : ∃ p2, p2 = p := ⟨_, rfl⟩
            rw [← ho2, ← hp2, ← hbb, ← hcc] at HB2
            rw [← hbb] at hbase2
            clear ho2 hp2 hbb hcc
            have HW2 := Lib.hid (HW.out.trans (Below.mono hI HW.out.size))
            clear hdone hcell hI HB HW hbase
            simp only [putAll, Act.put, List.setIfInBounds_toArray, List.set_cons_zero, List.set_cons_succ, Nat.zero_add, Nat.reduceAdd, hlast]
            clear hlast
            go_wp2_with fail
            refine (Oldest_calls HB2.out.x.isO).mono ?_
            rintro e wy ⟨rfl, hBy⟩
            have HY := Lib.hid (And.intro (HB2.out.below hBy) (HW2.out.trans (hBy.mono HW2.out.size)))
            clear HB2 HW2 hBy
            cases hop : oldest p2 o2 with
            | none =>
              have hr1 : oldI p2 o2 = -1 := by unfold oldI; rw [hop]
              have hr2 : oldR p2 o2 = .tuple #[.int .i64 0, .bool false] := by unfold oldR; rw [hop]
              rw [hr2]
              clear hr2 hop
              go_wp2_with fail
              refine (ROldest_walk HY.out.1.m).mono ?_
              rintro e wz ⟨rfl, hBz⟩
              rw [hr1]
              have HB2 := Lib.hid (HY.out.1.below hBz)
              have HW2 := Lib.hid (HY.out.2.trans (hBz.mono HY.out.2.size))
              clear HY hBz hr1
              go_wp2_with fail
              have hf0 : ∀ w', Up wz w' → w'.cell? ⟨k', 0, none⟩ = some (.slice (some ⟨bL2, 0, none⟩) n cap2) := fun w' h => (ext_of_below h).cell _ _ HB2.out.m.f0
              have hon := HB2.out.x.ok.len
              have hnt := HB2.out.m.top
              have hol : o2.length ≤ 1000 := by omega
              have hcapn := HB2.out.m.hcap
              have hol2 : (o2.take 2).length ≤ 1000 := by rw [List.length_take]; omega
              have hrow : ∀ w', Up wz w' → isRowS o2 (.slice (some ⟨bL2, 0, none⟩) n cap2) w' := fun w' h => ⟨_, _, by rw [hon], by omega, ⟨fun i hi => ⟨bL2, 0, rfl, by rw [Nat.zero_add]; exact (ext_of_below h).cell _ _ (HB2.out.m.cl i (by omega))⟩⟩⟩
              have hrow2 : ∀ w', Up wz w' → isRowS (o2.take 2) (.slice (some ⟨bL2, 0, none⟩) (min 2 n) cap2) w' := fun w' h => ⟨_, _, by rw [List.length_take, hon], by rw [List.length_take]; omega, ⟨fun i hi => ⟨bL2, 0, rfl, by
                rw [List.length_take] at hi
                rw [Nat.zero_add, (ext_of_below h).cell _ _ (HB2.out.m.cl i (by omega)), List.getD_eq_getElem?_getD, List.getD_eq_getElem?_getD, List.getElem?_take_of_lt (by omega)]⟩⟩⟩
              refine wp_region_inv2 132 mixed (by kernel_rfl) (by rfl) (Up wz) (Below.refl _ _).drew ?_
              refine wpI_cons (is (.bool false)) (stable_is _) (step_move (go0 rfl) (.tmp 10) rfl (opO' 10 (.bool false) rfl rfl)) ?_
              refine wpI_cons (is (.int .i64 (-1))) (stable_is _) (step_move (go0 rfl) (.tmp 11) rfl (opO' 11 (.int .i64 (-1)) rfl rfl)) ?_
              refine wpI_cons (is (.bool false)) (stable_is _) (step_int (go0 rfl) .geq 3 3 (.tmp 93) (.const (.int .i64 0)) rfl .i64 .i64 (-1) 0 _ (opT' 93 1 rfl rfl) (opC _) (fun w => by kernel_rfl)) ?_
              refine wpI_cons (is (.bool false)) (stable_is _) (step_neqb (go0 rfl) 4 4 (.tmp 92) (.tmp 94) rfl false false false (opT' 92 0 rfl rfl) (opT' 94 2 rfl rfl) (fun w => by kernel_rfl)) ?_
              refine wpI_cons (is (.bool false)) (stable_is _) (step_move (go0 rfl) (.tmp 95) rfl (opT' 95 3 rfl rfl)) ?_
              refine wpI_cons (is (.bool false)) (stable_is _) (step_move (go1 4 false 96 rfl rfl rfl rfl) (.tmp 10) rfl (opO' 10 (.bool false) rfl rfl)) ?_
              refine wpI_cons (is (.bool false)) (stable_is _) (step_move (go1 4 false 96 rfl rfl rfl rfl) (.tmp 97) rfl (opT' 97 5 rfl rfl)) ?_
              refine wpI_cons (is undef) (stable_is _) (step_off 6 true 98 rfl rfl rfl rfl) ?_
              refine wpI_cons (is undef) (stable_is _) (step_off 6 true 98 rfl rfl rfl rfl) ?_
              refine wpI_cons (is undef) (stable_is _) (step_off 6 true 98 rfl rfl rfl rfl) ?_
              refine wpI_cons (is (.bool false)) (stable_is _) (step_pickF (go1 4 false 96 rfl rfl rfl rfl) (.tmp 98) (.tmp 101) (.const (.bool false)) rfl (opT' 98 6 rfl rfl) (opC _)) ?_
              refine wpI_cons (is (.bool false)) (stable_is _) (step_pickF (go0 rfl) (.tmp 96) (.const (.bool true)) (.tmp 102) rfl (opT' 96 4 rfl rfl) (opT' 102 10 rfl rfl)) ?_
              refine wpI_cons (is (.bool false)) (stable_is _) (step_move (go0 rfl) (.tmp 103) rfl (opT' 103 11 rfl rfl)) ?_
              refine wpI_cons (is (.pointer (some ⟨k, 0, none⟩))) (stable_is _) (step_move (go1 12 false 104 rfl rfl rfl rfl) (.tmp 5) rfl (opO' 5 (.pointer (some ⟨k, 0, none⟩)) rfl rfl)) ?_
              refine wpI_cons (isRowS o2) (stable_isRowS _ _) (step_call2 (go1 12 false 104 rfl rfl rfl rfl) 17 (.tmp 105) (.const (.int .i64 (-1))) _ rfl enter17 (opT' 105 13 rfl rfl) (opC _) (fun u v w h1 h2 h3 => by obtain rfl : u = _ := h2; obtain rfl : v = _ := h3; exact order_okA HB2.out.x w h1)) ?_
              refine wpI_cons (is (.pointer (some ⟨k', 0, none⟩))) (stable_is _) (step_move (go1 12 false 104 rfl rfl rfl rfl) (.tmp 7) rfl (opO' 7 (.pointer (some ⟨k', 0, none⟩)) rfl rfl)) ?_
              refine wpI_cons (is (.pointer (some ⟨k', 0, none⟩))) (stable_is _) (step_nilc (go1 12 false 104 rfl rfl rfl rfl) (.tmp 107) rfl _ (opT' 107 15 rfl rfl)) ?_
              refine wpI_cons (is (.pointer (some ⟨k', 0, none⟩))) (stable_is _) (step_field (go1 12 false 104 rfl rfl rfl rfl) 42 0 (.tmp 108) rfl _ _ (opT' 108 16 rfl rfl) (fun w => run_fb0 w _ _)) ?_
              refine wpI_cons (is (.slice (some ⟨bL2, 0, none⟩) n cap2)) (stable_is _) (step_cell (go1 12 false 104 rfl rfl rfl rfl) 38 (.tmp 109) rfl _ _ (opT' 109 17 rfl rfl) hf0 (fun w => run_load38 w)) ?_
              refine wpI_cons (is (.bool true)) (stable_is _) (step_call2 (go1 12 false 104 rfl rfl rfl rfl) 16 (.tmp 106) (.tmp 110) _ rfl enter16 (opT' 106 14 rfl rfl) (opT' 110 18 rfl rfl) (fun u v w h1 h2 h3 => by obtain rfl : v = _ := h3; exact Ints_ok o2 hol u _ w h1 h2 (hrow w h1))) ?_
              refine wpI_cons (is (.bool false)) (stable_is _) (step_not (go1 12 false 104 rfl rfl rfl rfl) 4 (.tmp 111) rfl true (opT' 111 19 rfl rfl)) ?_
              refine wpI_cons (is (.bool false)) (stable_is _) (step_pickF (go0 rfl) (.tmp 104) (.const (.bool true)) (.tmp 112) rfl (opT' 104 12 rfl rfl) (opT' 112 20 rfl rfl)) ?_
              refine wpI_cons (is (.bool false)) (stable_is _) (step_move (go0 rfl) (.tmp 113) rfl (opT' 113 21 rfl rfl)) ?_
              refine wpI_cons (is (.pointer (some ⟨k, 0, none⟩))) (stable_is _) (step_move (go1 22 false 114 rfl rfl rfl rfl) (.tmp 5) rfl (opO' 5 (.pointer (some ⟨k, 0, none⟩)) rfl rfl)) ?_
              refine wpI_cons (isRowS (o2.take 2)) (stable_isRowS _ _) (step_call2 (go1 22 false 114 rfl rfl rfl rfl) 17 (.tmp 115) (.const (.int .i64 2)) _ rfl enter17 (opT' 115 23 rfl rfl) (opC _) (fun u v w h1 h2 h3 => by obtain rfl : u = _ := h2; obtain rfl : v = _ := h3; exact order_ok HB2.out.x 2 w h1)) ?_
              refine wpI_cons (is (.pointer (some ⟨k', 0, none⟩))) (stable_is _) (step_move (go1 22 false 114 rfl rfl rfl rfl) (.tmp 7) rfl (opO' 7 (.pointer (some ⟨k', 0, none⟩)) rfl rfl)) ?_
              refine wpI_cons (is (.pointer (some ⟨k', 0, none⟩))) (stable_is _) (step_nilc (go1 22 false 114 rfl rfl rfl rfl) (.tmp 117) rfl _ (opT' 117 25 rfl rfl)) ?_
              refine wpI_cons (is (.pointer (some ⟨k', 0, none⟩))) (stable_is _) (step_field (go1 22 false 114 rfl rfl rfl rfl) 42 0 (.tmp 118) rfl _ _ (opT' 118 26 rfl rfl) (fun w => run_fb0 w _ _)) ?_
              refine wpI_cons (is (.slice (some ⟨bL2, 0, none⟩) n cap2)) (stable_is _) (step_cell (go1 22 false 114 rfl rfl rfl rfl) 38 (.tmp 119) rfl _ _ (opT' 119 27 rfl rfl) hf0 (fun w => run_load38 w)) ?_
              refine wpI_cons (is (.pointer (some ⟨k', 0, none⟩))) (stable_is _) (step_move (go1 22 false 114 rfl rfl rfl rfl) (.tmp 7) rfl (opO' 7 (.pointer (some ⟨k', 0, none⟩)) rfl rfl)) ?_
              refine wpI_cons (is (.pointer (some ⟨k', 0, none⟩))) (stable_is _) (step_nilc (go1 22 false 114 rfl rfl rfl rfl) (.tmp 121) rfl _ (opT' 121 29 rfl rfl)) ?_
              refine wpI_cons (is (.pointer (some ⟨k', 0, none⟩))) (stable_is _) (step_field (go1 22 false 114 rfl rfl rfl rfl) 42 0 (.tmp 122) rfl _ _ (opT' 122 30 rfl rfl) (fun w => run_fb0 w _ _)) ?_
              refine wpI_cons (is (.slice (some ⟨bL2, 0, none⟩) n cap2)) (stable_is _) (step_cell (go1 22 false 114 rfl rfl rfl rfl) 38 (.tmp 123) rfl _ _ (opT' 123 31 rfl rfl) hf0 (fun w => run_load38 w)) ?_
              refine wpI_cons (is (.int .i64 (n : Int))) (stable_is _) (step_len (go1 22 false 114 rfl rfl rfl rfl) (.tmp 124) 38 rfl _ _ (opT' 124 32 rfl rfl) (fun w => run_len38 _ _ _ w)) ?_
              refine wpI_cons (is (.int .i64 (min 2 (n : Int)))) (stable_is _) (step_min (go1 22 false 114 rfl rfl rfl rfl) (.const (.int .i64 2)) (.tmp 125) 3 rfl rfl 2 (n : Int) (opC _) (opT' 125 33 rfl rfl)) ?_
              refine wpI_cons (is (.slice (some ⟨bL2, 0, none⟩) (min 2 n) cap2)) (stable_is _) (step_sl (go1 22 false 114 rfl rfl rfl rfl) 38 (.tmp 120) (.tmp 126) rfl _ _ _ (opT' 120 28 rfl rfl) (opT' 126 34 rfl rfl) (fun w => run_sl38 w _ _ _ _ hcapn)) ?_
              refine wpI_cons (is (.bool true)) (stable_is _) (step_call2 (go1 22 false 114 rfl rfl rfl rfl) 16 (.tmp 116) (.tmp 127) _ rfl enter16 (opT' 116 24 rfl rfl) (opT' 127 35 rfl rfl) (fun u v w h1 h2 h3 => by obtain rfl : v = _ := h3; exact Ints_ok (o2.take 2) hol2 u _ w h1 h2 (hrow2 w h1))) ?_
              refine wpI_cons (is (.bool false)) (stable_is _) (step_not (go1 22 false 114 rfl rfl rfl rfl) 4 (.tmp 128) rfl true (opT' 128 36 rfl rfl)) ?_
              refine wpI_cons (is (.bool false)) (stable_is _) (step_pickF (go0 rfl) (.tmp 114) (.const (.bool true)) (.tmp 129) rfl (opT' 114 22 rfl rfl) (opT' 129 37 rfl rfl)) ?_
              refine wpI_nil ?_
              intro v w' hI _ hdone
              have hlast : v 38 = .bool false := hdone 38 130 rfl
              clear hdone hrow hrow2 hf0
              simp only [putAll, Act.put, List.setIfInBounds_toArray, List.set_cons_zero, List.set_cons_succ, Nat.zero_add, Nat.reduceAdd, hlast]
              have HF := Lib.hid (And.intro (HB2.out.below hI) (HW2.out.trans (Below.mono hI HW2.out.size)))
              clear hI HB2 HW2 hlast hol hol2
              go_wp2_with fail
              go_roundw
              case rel => exact ⟨t + 1, o2, p2, bL2, cap2, by go_num, HF.out.1, HF.out.2, hbase2⟩
              case measure => simp [intOf]; omega
            | some x =>
              have hr1 : oldI p2 o2 = (x : Nat) := by unfold oldI; rw [hop]
              have hr2 : oldR p2 o2 = .tuple #[.int .i64 (x : Nat), .bool true] := by unfold oldR; rw [hop]
              rw [hr2]
              have hxn : x < n := HY.out.1.x.ok.lt x (List.mem_of_find?_eq_some hop)
              clear hr2 hop
              go_wp2_with fail
              refine (ROldest_walk HY.out.1.m).mono ?_
              rintro e wz ⟨rfl, hBz⟩
              rw [hr1]
              have HB2 := Lib.hid (HY.out.1.below hBz)
              have HW2 := Lib.hid (HY.out.2.trans (hBz.mono HY.out.2.size))
              clear HY hBz hr1
              go_wp2_with fail
              have hf0 : ∀ w', Up wz w' → w'.cell? ⟨k', 0, none⟩ = some (.slice (some ⟨bL2, 0, none⟩) n cap2) := fun w' h => (ext_of_below h).cell _ _ HB2.out.m.f0
              have hon := HB2.out.x.ok.len
              have hnt := HB2.out.m.top
              have hol : o2.length ≤ 1000 := by omega
              have hcapn := HB2.out.m.hcap
              have hol2 : (o2.take 2).length ≤ 1000 := by rw [List.length_take]; omega
              have hrow : ∀ w', Up wz w' → isRowS o2 (.slice (some ⟨bL2, 0, none⟩) n cap2) w' := fun w' h => ⟨_, _, by rw [hon], by omega, ⟨fun i hi => ⟨bL2, 0, rfl, by rw [Nat.zero_add]; exact (ext_of_below h).cell _ _ (HB2.out.m.cl i (by omega))⟩⟩⟩
              have hrow2 : ∀ w', Up wz w' → isRowS (o2.take 2) (.slice (some ⟨bL2, 0, none⟩) (min 2 n) cap2) w' := fun w' h => ⟨_, _, by rw [List.length_take, hon], by rw [List.length_take]; omega, ⟨fun i hi => ⟨bL2, 0, rfl, by
                rw [List.length_take] at hi
                rw [Nat.zero_add, (ext_of_below h).cell _ _ (HB2.out.m.cl i (by omega)), List.getD_eq_getElem?_getD, List.getD_eq_getElem?_getD, List.getElem?_take_of_lt (by omega)]⟩⟩⟩
              refine wp_region_inv2 132 mixed (by kernel_rfl) (by rfl) (Up wz) (Below.refl _ _).drew ?_
              refine wpI_cons (is (.bool true)) (stable_is _) (step_move (go0 rfl) (.tmp 10) rfl (opO' 10 (.bool true) rfl rfl)) ?_
              refine wpI_cons (is (.int .i64 (x : Int))) (stable_is _) (step_move (go0 rfl) (.tmp 11) rfl (opO' 11 (.int .i64 (x : Int)) rfl rfl)) ?_
              refine wpI_cons (is (.bool true)) (stable_is _) (step_int (go0 rfl) .geq 3 3 (.tmp 93) (.const (.int .i64 0)) rfl .i64 .i64 (x : Int) 0 _ (opT' 93 1 rfl rfl) (opC _) (fun w => run_geq x w)) ?_
              refine wpI_cons (is (.bool false)) (stable_is _) (step_neqb (go0 rfl) 4 4 (.tmp 92) (.tmp 94) rfl true true false (opT' 92 0 rfl rfl) (opT' 94 2 rfl rfl) (fun w => by kernel_rfl)) ?_
              refine wpI_cons (is (.bool false)) (stable_is _) (step_move (go0 rfl) (.tmp 95) rfl (opT' 95 3 rfl rfl)) ?_
              refine wpI_cons (is (.bool true)) (stable_is _) (step_move (go1 4 false 96 rfl rfl rfl rfl) (.tmp 10) rfl (opO' 10 (.bool true) rfl rfl)) ?_
              refine wpI_cons (is (.bool true)) (stable_is _) (step_move (go1 4 false 96 rfl rfl rfl rfl) (.tmp 97) rfl (opT' 97 5 rfl rfl)) ?_
              refine wpI_cons (is (.int .i64 (x : Int))) (stable_is _) (step_move (go1 6 true 98 rfl rfl rfl rfl) (.tmp 9) rfl (opO' 9 (.int .i64 (x : Int)) rfl rfl)) ?_
              refine wpI_cons (is (.int .i64 (x : Int))) (stable_is _) (step_move (go1 6 true 98 rfl rfl rfl rfl) (.tmp 11) rfl (opO' 11 (.int .i64 (x : Int)) rfl rfl)) ?_
              refine wpI_cons (is (.bool false)) (stable_is _) (step_int (go1 6 true 98 rfl rfl rfl rfl) .neq 3 3 (.tmp 99) (.tmp 100) rfl .i64 .i64 (x : Int) (x : Int) _ (opT' 99 7 rfl rfl) (opT' 100 8 rfl rfl) (fun w => run_neqx x w)) ?_
              refine wpI_cons (is (.bool false)) (stable_is _) (step_pickT (go1 4 false 96 rfl rfl rfl rfl) (.tmp 98) (.tmp 101) (.const (.bool false)) rfl (opT' 98 6 rfl rfl) (opT' 101 9 rfl rfl)) ?_
              refine wpI_cons (is (.bool false)) (stable_is _) (step_pickF (go0 rfl) (.tmp 96) (.const (.bool true)) (.tmp 102) rfl (opT' 96 4 rfl rfl) (opT' 102 10 rfl rfl)) ?_
              refine wpI_cons (is (.bool false)) (stable_is _) (step_move (go0 rfl) (.tmp 103) rfl (opT' 103 11 rfl rfl)) ?_
              refine wpI_cons (is (.pointer (some ⟨k, 0, none⟩))) (stable_is _) (step_move (go1 12 false 104 rfl rfl rfl rfl) (.tmp 5) rfl (opO' 5 (.pointer (some ⟨k, 0, none⟩)) rfl rfl)) ?_
              refine wpI_cons (isRowS o2) (stable_isRowS _ _) (step_call2 (go1 12 false 104 rfl rfl rfl rfl) 17 (.tmp 105) (.const (.int .i64 (-1))) _ rfl enter17 (opT' 105 13 rfl rfl) (opC _) (fun u v w h1 h2 h3 => by obtain rfl : u = _ := h2; obtain rfl : v = _ := h3; exact order_okA HB2.out.x w h1)) ?_
              refine wpI_cons (is (.pointer (some ⟨k', 0, none⟩))) (stable_is _) (step_move (go1 12 false 104 rfl rfl rfl rfl) (.tmp 7) rfl (opO' 7 (.pointer (some ⟨k', 0, none⟩)) rfl rfl)) ?_
              refine wpI_cons (is (.pointer (some ⟨k', 0, none⟩))) (stable_is _) (step_nilc (go1 12 false 104 rfl rfl rfl rfl) (.tmp 107) rfl _ (opT' 107 15 rfl rfl)) ?_
              refine wpI_cons (is (.pointer (some ⟨k', 0, none⟩))) (stable_is _) (step_field (go1 12 false 104 rfl rfl rfl rfl) 42 0 (.tmp 108) rfl _ _ (opT' 108 16 rfl rfl) (fun w => run_fb0 w _ _)) ?_
              refine wpI_cons (is (.slice (some ⟨bL2, 0, none⟩) n cap2)) (stable_is _) (step_cell (go1 12 false 104 rfl rfl rfl rfl) 38 (.tmp 109) rfl _ _ (opT' 109 17 rfl rfl) hf0 (fun w => run_load38 w)) ?_
              refine wpI_cons (is (.bool true)) (stable_is _) (step_call2 (go1 12 false 104 rfl rfl rfl rfl) 16 (.tmp 106) (.tmp 110) _ rfl enter16 (opT' 106 14 rfl rfl) (opT' 110 18 rfl rfl) (fun u v w h1 h2 h3 => by obtain rfl : v = _ := h3; exact Ints_ok o2 hol u _ w h1 h2 (hrow w h1))) ?_
              refine wpI_cons (is (.bool false)) (stable_is _) (step_not (go1 12 false 104 rfl rfl rfl rfl) 4 (.tmp 111) rfl true (opT' 111 19 rfl rfl)) ?_
              refine wpI_cons (is (.bool false)) (stable_is _) (step_pickF (go0 rfl) (.tmp 104) (.const (.bool true)) (.tmp 112) rfl (opT' 104 12 rfl rfl) (opT' 112 20 rfl rfl)) ?_
              refine wpI_cons (is (.bool false)) (stable_is _) (step_move (go0 rfl) (.tmp 113) rfl (opT' 113 21 rfl rfl)) ?_
              refine wpI_cons (is (.pointer (some ⟨k, 0, none⟩))) (stable_is _) (step_move (go1 22 false 114 rfl rfl rfl rfl) (.tmp 5) rfl (opO' 5 (.pointer (some ⟨k, 0, none⟩)) rfl rfl)) ?_
              refine wpI_cons (isRowS (o2.take 2)) (stable_isRowS _ _) (step_call2 (go1 22 false 114 rfl rfl rfl rfl) 17 (.tmp 115) (.const (.int .i64 2)) _ rfl enter17 (opT' 115 23 rfl rfl) (opC _) (fun u v w h1 h2 h3 => by obtain rfl : u = _ := h2; obtain rfl : v = _ := h3; exact order_ok HB2.out.x 2 w h1)) ?_
              refine wpI_cons (is (.pointer (some ⟨k', 0, none⟩))) (stable_is _) (step_move (go1 22 false 114 rfl rfl rfl rfl) (.tmp 7) rfl (opO' 7 (.pointer (some ⟨k', 0, none⟩)) rfl rfl)) ?_
              refine wpI_cons (is (.pointer (some ⟨k', 0, none⟩))) (stable_is _) (step_nilc (go1 22 false 114 rfl rfl rfl rfl) (.tmp 117) rfl _ (opT' 117 25 rfl rfl)) ?_
              refine wpI_cons (is (.pointer (some ⟨k', 0, none⟩))) (stable_is _) (step_field (go1 22 false 114 rfl rfl rfl rfl) 42 0 (.tmp 118) rfl _ _ (opT' 118 26 rfl rfl) (fun w => run_fb0 w _ _)) ?_
              refine wpI_cons (is (.slice (some ⟨bL2, 0, none⟩) n cap2)) (stable_is _) (step_cell (go1 22 false 114 rfl rfl rfl rfl) 38 (.tmp 119) rfl _ _ (opT' 119 27 rfl rfl) hf0 (fun w => run_load38 w)) ?_
              refine wpI_cons (is (.pointer (some ⟨k', 0, none⟩))) (stable_is _) (step_move (go1 22 false 114 rfl rfl rfl rfl) (.tmp 7) rfl (opO' 7 (.pointer (some ⟨k', 0, none⟩)) rfl rfl)) ?_
              refine wpI_cons (is (.pointer (some ⟨k', 0, none⟩))) (stable_is _) (step_nilc (go1 22 false 114 rfl rfl rfl rfl) (.tmp 121) rfl _ (opT' 121 29 rfl rfl)) ?_
              refine wpI_cons (is (.pointer (some ⟨k', 0, none⟩))) (stable_is _) (step_field (go1 22 false 114 rfl rfl rfl rfl) 42 0 (.tmp 122) rfl _ _ (opT' 122 30 rfl rfl) (fun w => run_fb0 w _ _)) ?_
              refine wpI_cons (is (.slice (some ⟨bL2, 0, none⟩) n cap2)) (stable_is _) (step_cell (go1 22 false 114 rfl rfl rfl rfl) 38 (.tmp 123) rfl _ _ (opT' 123 31 rfl rfl) hf0 (fun w => run_load38 w)) ?_
              refine wpI_cons (is (.int .i64 (n : Int))) (stable_is _) (step_len (go1 22 false 114 rfl rfl rfl rfl) (.tmp 124) 38 rfl _ _ (opT' 124 32 rfl rfl) (fun w => run_len38 _ _ _ w)) ?_
              refine wpI_cons (is (.int .i64 (min 2 (n : Int)))) (stable_is _) (step_min (go1 22 false 114 rfl rfl rfl rfl) (.const (.int .i64 2)) (.tmp 125) 3 rfl rfl 2 (n : Int) (opC _) (opT' 125 33 rfl rfl)) ?_
              refine wpI_cons (is (.slice (some ⟨bL2, 0, none⟩) (min 2 n) cap2)) (stable_is _) (step_sl (go1 22 false 114 rfl rfl rfl rfl) 38 (.tmp 120) (.tmp 126) rfl _ _ _ (opT' 120 28 rfl rfl) (opT' 126 34 rfl rfl) (fun w => run_sl38 w _ _ _ _ hcapn)) ?_
              refine wpI_cons (is (.bool true)) (stable_is _) (step_call2 (go1 22 false 114 rfl rfl rfl rfl) 16 (.tmp 116) (.tmp 127) _ rfl enter16 (opT' 116 24 rfl rfl) (opT' 127 35 rfl rfl) (fun u v w h1 h2 h3 => by obtain rfl : v = _ := h3; exact Ints_ok (o2.take 2) hol2 u _ w h1 h2 (hrow2 w h1))) ?_
              refine wpI_cons (is (.bool false)) (stable_is _) (step_not (go1 22 false 114 rfl rfl rfl rfl) 4 (.tmp 128) rfl true (opT' 128 36 rfl rfl)) ?_
              refine wpI_cons (is (.bool false)) (stable_is _) (step_pickF (go0 rfl) (.tmp 114) (.const (.bool true)) (.tmp 129) rfl (opT' 114 22 rfl rfl) (opT' 129 37 rfl rfl)) ?_
              refine wpI_nil ?_
              intro v w' hI _ hdone
              have hlast : v 38 = .bool false := hdone 38 130 rfl
              clear hdone hrow hrow2 hf0
              simp only [putAll, Act.put, List.setIfInBounds_toArray, List.set_cons_zero, List.set_cons_succ, Nat.zero_add, Nat.reduceAdd, hlast]
              have HF := Lib.hid (And.intro (HB2.out.below hI) (HW2.out.trans (Below.mono hI HW2.out.size)))
              clear hI HB2 HW2 hlast hol hol2
              go_wp2_with fail
              go_roundw
              case rel => exact ⟨t + 1, o2, p2, bL2, cap2, by go_num, HF.out.1, HF.out.2, hbase2⟩
              case measure => simp [intOf]; omega
        · have hq1 : (z0 t == 1) = false := by simpa using hk1
          have hq2 : (z0 t == 2) = false := by simpa using hk2
          clear hc1
          go_wp2_with fail
          refine (Oldest_calls HB.out.x.isO).mono ?_
          rintro e wy ⟨rfl, hBy⟩
          have HY := Lib.hid (And.intro (HB.out.below hBy) (HW.out.trans (hBy.mono HW.out.size)))
          clear HB HW hBy
          cases hop : oldest p o with
          | none =>
            have hr1 : oldI p o = -1 := by unfold oldI; rw [hop]
            have hr2 : oldR p o = .tuple #[.int .i64 0, .bool false] := by unfold oldR; rw [hop]
            rw [hr2]
            clear hr2 hop
            go_wp2_with fail
            refine (ROldest_walk HY.out.1.m).mono ?_
            rintro e wz ⟨rfl, hBz⟩
            rw [hr1]
            have HB := Lib.hid (HY.out.1.below hBz)
            have HW := Lib.hid (HY.out.2.trans (hBz.mono HY.out.2.size))
            clear HY hBz hr1
            go_wp2_with fail
            have hf0 : ∀ w', Up wz w' → w'.cell? ⟨k', 0, none⟩ = some (.slice (some ⟨bL, 0, none⟩) n cap) := fun w' h => (ext_of_below h).cell _ _ HB.out.m.f0
            have hon := HB.out.x.ok.len
            have hnt := HB.out.m.top
            have hol : o.length ≤ 1000 := by omega
            have hcapn := HB.out.m.hcap
            have hol2 : (o.take 2).length ≤ 1000 := by rw [List.length_take]; omega
            have hrow : ∀ w', Up wz w' → isRowS o (.slice (some ⟨bL, 0, none⟩) n cap) w' := fun w' h => ⟨_, _, by rw [hon], by omega, ⟨fun i hi => ⟨bL, 0, rfl, by rw [Nat.zero_add]; exact (ext_of_below h).cell _ _ (HB.out.m.cl i (by omega))⟩⟩⟩
            have hrow2 : ∀ w', Up wz w' → isRowS (o.take 2) (.slice (some ⟨bL, 0, none⟩) (min 2 n) cap) w' := fun w' h => ⟨_, _, by rw [List.length_take, hon], by rw [List.length_take]; omega, ⟨fun i hi => ⟨bL, 0, rfl, by
              rw [List.length_take] at hi
              rw [Nat.zero_add, (ext_of_below h).cell _ _ (HB.out.m.cl i (by omega)), List.getD_eq_getElem?_getD, List.getD_eq_getElem?_getD, List.getElem?_take_of_lt (by omega)]⟩⟩⟩
            refine wp_region_inv2 132 mixed (by kernel_rfl) (by rfl) (Up wz) (Below.refl _ _).drew ?_
            refine wpI_cons (is (.bool false)) (stable_is _) (step_move (go0 rfl) (.tmp 10) rfl (opO' 10 (.bool false) rfl rfl)) ?_
            refine wpI_cons (is (.int .i64 (-1))) (stable_is _) (step_move (go0 rfl) (.tmp 11) rfl (opO' 11 (.int .i64 (-1)) rfl rfl)) ?_
            refine wpI_cons (is (.bool false)) (stable_is _) (step_int (go0 rfl) .geq 3 3 (.tmp 93) (.const (.int .i64 0)) rfl .i64 .i64 (-1) 0 _ (opT' 93 1 rfl rfl) (opC _) (fun w => by kernel_rfl)) ?_
            refine wpI_cons (is (.bool false)) (stable_is _) (step_neqb (go0 rfl) 4 4 (.tmp 92) (.tmp 94) rfl false false false (opT' 92 0 rfl rfl) (opT' 94 2 rfl rfl) (fun w => by kernel_rfl)) ?_
            refine wpI_cons (is (.bool false)) (stable_is _) (step_move (go0 rfl) (.tmp 95) rfl (opT' 95 3 rfl rfl)) ?_
            refine wpI_cons (is (.bool false)) (stable_is _) (step_move (go1 4 false 96 rfl rfl rfl rfl) (.tmp 10) rfl (opO' 10 (.bool false) rfl rfl)) ?_
            refine wpI_cons (is (.bool false)) (stable_is _) (step_move (go1 4 false 96 rfl rfl rfl rfl) (.tmp 97) rfl (opT' 97 5 rfl rfl)) ?_
            refine wpI_cons (is undef) (stable_is _) (step_off 6 true 98 rfl rfl rfl rfl) ?_
            refine wpI_cons (is undef) (stable_is _) (step_off 6 true 98 rfl rfl rfl rfl) ?_
            refine wpI_cons (is undef) (stable_is _) (step_off 6 true 98 rfl rfl rfl rfl) ?_
            refine wpI_cons (is (.bool false)) (stable_is _) (step_pickF (go1 4 false 96 rfl rfl rfl rfl) (.tmp 98) (.tmp 101) (.const (.bool false)) rfl (opT' 98 6 rfl rfl) (opC _)) ?_
            refine wpI_cons (is (.bool false)) (stable_is _) (step_pickF (go0 rfl) (.tmp 96) (.const (.bool true)) (.tmp 102) rfl (opT' 96 4 rfl rfl) (opT' 102 10 rfl rfl)) ?_
            refine wpI_cons (is (.bool false)) (stable_is _) (step_move (go0 rfl) (.tmp 103) rfl (opT' 103 11 rfl rfl)) ?_
            refine wpI_cons (is (.pointer (some ⟨k, 0, none⟩))) (stable_is _) (step_move (go1 12 false 104 rfl rfl rfl rfl) (.tmp 5) rfl (opO' 5 (.pointer (some ⟨k, 0, none⟩)) rfl rfl)) ?_
            refine wpI_cons (isRowS o) (stable_isRowS _ _) (step_call2 (go1 12 false 104 rfl rfl rfl rfl) 17 (.tmp 105) (.const (.int .i64 (-1))) _ rfl enter17 (opT' 105 13 rfl rfl) (opC _) (fun u v w h1 h2 h3 => by obtain rfl : u = _ := h2; obtain rfl : v = _ := h3; exact order_okA HB.out.x w h1)) ?_
            refine wpI_cons (is (.pointer (some ⟨k', 0, none⟩))) (stable_is _) (step_move (go1 12 false 104 rfl rfl rfl rfl) (.tmp 7) rfl (opO' 7 (.pointer (some ⟨k', 0, none⟩)) rfl rfl)) ?_
            refine wpI_cons (is (.pointer (some ⟨k', 0, none⟩))) (stable_is _) (step_nilc (go1 12 false 104 rfl rfl rfl rfl) (.tmp 107) rfl _ (opT' 107 15 rfl rfl)) ?_
            refine wpI_cons (is (.pointer (some ⟨k', 0, none⟩))) (stable_is _) (step_field (go1 12 false 104 rfl rfl rfl rfl) 42 0 (.tmp 108) rfl _ _ (opT' 108 16 rfl rfl) (fun w => run_fb0 w _ _)) ?_
            refine wpI_cons (is (.slice (some ⟨bL, 0, none⟩) n cap)) (stable_is _) (step_cell (go1 12 false 104 rfl rfl rfl rfl) 38 (.tmp 109) rfl _ _ (opT' 109 17 rfl rfl) hf0 (fun w => run_load38 w)) ?_
            refine wpI_cons (is (.bool true)) (stable_is _) (step_call2 (go1 12 false 104 rfl rfl rfl rfl) 16 (.tmp 106) (.tmp 110) _ rfl enter16 (opT' 106 14 rfl rfl) (opT' 110 18 rfl rfl) (fun u v w h1 h2 h3 => by obtain rfl : v = _ := h3; exact Ints_ok o hol u _ w h1 h2 (hrow w h1))) ?_
            refine wpI_cons (is (.bool false)) (stable_is _) (step_not (go1 12 false 104 rfl rfl rfl rfl) 4 (.tmp 111) rfl true (opT' 111 19 rfl rfl)) ?_
            refine wpI_cons (is (.bool false)) (stable_is _) (step_pickF (go0 rfl) (.tmp 104) (.const (.bool true)) (.tmp 112) rfl (opT' 104 12 rfl rfl) (opT' 112 20 rfl rfl)) ?_
            refine wpI_cons (is (.bool false)) (stable_is _) (step_move (go0 rfl) (.tmp 113) rfl (opT' 113 21 rfl rfl)) ?_
            refine wpI_cons (is (.pointer (some ⟨k, 0, none⟩))) (stable_is _) (step_move (go1 22 false 114 rfl rfl rfl rfl) (.tmp 5) rfl (opO' 5 (.pointer (some ⟨k, 0, none⟩)) rfl rfl)) ?_
            refine wpI_cons (isRowS (o.take 2)) (stable_isRowS _ _) (step_call2 (go1 22 false 114 rfl rfl rfl rfl) 17 (.tmp 115) (.const (.int .i64 2)) _ rfl enter17 (opT' 115 23 rfl rfl) (opC _) (fun u v w h1 h2 h3 => by obtain rfl : u = _ := h2; obtain rfl : v = _ := h3; exact order_ok HB.out.x 2 w h1)) ?_
            refine wpI_cons (is (.pointer (some ⟨k', 0, none⟩))) (stable_is _) (step_move (go1 22 false 114 rfl rfl rfl rfl) (.tmp 7) rfl (opO' 7 (.pointer (some ⟨k', 0, none⟩)) rfl rfl)) ?_
            refine wpI_cons (is (.pointer (some ⟨k', 0, none⟩))) (stable_is _) (step_nilc (go1 22 false 114 rfl rfl rfl rfl) (.tmp 117) rfl _ (opT' 117 25 rfl rfl)) ?_
            refine wpI_cons (is (.pointer (some ⟨k', 0, none⟩))) (stable_is _) (step_field (go1 22 false 114 rfl rfl rfl rfl) 42 0 (.tmp 118) rfl _ _ (opT' 118 26 rfl rfl) (fun w => run_fb0 w _ _)) ?_
            refine wpI_cons (is (.slice (some ⟨bL, 0, none⟩) n cap)) (stable_is _) (step_cell (go1 22 false 114 rfl rfl rfl rfl) 38 (.tmp 119) rfl _ _ (opT' 119 27 rfl rfl) hf0 (fun w => run_load38 w)) ?_
            refine wpI_cons (is (.pointer (some ⟨k', 0, none⟩))) (stable_is _) (step_move (go1 22 false 114 rfl rfl rfl rfl) (.tmp 7) rfl (opO' 7 (.pointer (some ⟨k', 0, none⟩)) rfl rfl)) ?_
            refine wpI_cons (is (.pointer (some ⟨k', 0, none⟩))) (stable_is _) (step_nilc (go1 22 false 114 rfl rfl rfl rfl) (.tmp 121) rfl _ (opT' 121 29 rfl rfl)) ?_
            refine wpI_cons (is (.pointer (some ⟨k', 0, none⟩))) (stable_is _) (step_field (go1 22 false 114 rfl rfl rfl rfl) 42 0 (.tmp 122) rfl _ _ (opT' 122 30 rfl rfl) (fun w => run_fb0 w _ _)) ?_
            refine wpI_cons (is (.slice (some ⟨bL, 0, none⟩) n cap)) (stable_is _) (step_cell (go1 22 false 114 rfl rfl rfl rfl) 38 (.tmp 123) rfl _ _ (opT' 123 31 rfl rfl) hf0 (fun w => run_load38 w)) ?_
            refine wpI_cons (is (.int .i64 (n : Int))) (stable_is _) (step_len (go1 22 false 114 rfl rfl rfl rfl) (.tmp 124) 38 rfl _ _ (opT' 124 32 rfl rfl) (fun w => run_len38 _ _ _ w)) ?_
            refine wpI_cons (is (.int .i64 (min 2 (n : Int)))) (stable_is _) (step_min (go1 22 false 114 rfl rfl rfl rfl) (.const (.int .i64 2)) (.tmp 125) 3 rfl rfl 2 (n : Int) (opC _) (opT' 125 33 rfl rfl)) ?_
            refine wpI_cons (is (.slice (some ⟨bL, 0, none⟩) (min 2 n) cap)) (stable_is _) (step_sl (go1 22 false 114 rfl rfl rfl rfl) 38 (.tmp 120) (.tmp 126) rfl _ _ _ (opT' 120 28 rfl rfl) (opT' 126 34 rfl rfl) (fun w => run_sl38 w _ _ _ _ hcapn)) ?_
            refine wpI_cons (is (.bool true)) (stable_is _) (step_call2 (go1 22 false 114 rfl rfl rfl rfl) 16 (.tmp 116) (.tmp 127) _ rfl enter16 (opT' 116 24 rfl rfl) (opT' 127 35 rfl rfl) (fun u v w h1 h2 h3 => by obtain rfl : v = _ := h3; exact Ints_ok (o.take 2) hol2 u _ w h1 h2 (hrow2 w h1))) ?_
            refine wpI_cons (is (.bool false)) (stable_is _) (step_not (go1 22 false 114 rfl rfl rfl rfl) 4 (.tmp 128) rfl true (opT' 128 36 rfl rfl)) ?_
            refine wpI_cons (is (.bool false)) (stable_is _) (step_pickF (go0 rfl) (.tmp 114) (.const (.bool true)) (.tmp 129) rfl (opT' 114 22 rfl rfl) (opT' 129 37 rfl rfl)) ?_
            refine wpI_nil ?_
            intro v w' hI _ hdone
            have hlast : v 38 = .bool false := hdone 38 130 rfl
            clear hdone hrow hrow2 hf0
            simp only [putAll, Act.put, List.setIfInBounds_toArray, List.set_cons_zero, List.set_cons_succ, Nat.zero_add, Nat.reduceAdd, hlast]
            have HF := Lib.hid (And.intro (HB.out.below hI) (HW.out.trans (Below.mono hI HW.out.size)))
            clear hI HB HW hlast hol hol2
            go_wp2_with fail
            go_roundw
            case rel => exact ⟨t + 1, o, p, bL, cap, by go_num, HF.out.1, HF.out.2, hbase⟩
            case measure => simp [intOf]; omega
          | some x =>
            have hr1 : oldI p o = (x : Nat) := by unfold oldI; rw [hop]
            have hr2 : oldR p o = .tuple #[.int .i64 (x : Nat), .bool true] := by unfold oldR; rw [hop]
            rw [hr2]
            have hxn : x < n := HY.out.1.x.ok.lt x (List.mem_of_find?_eq_some hop)
            clear hr2 hop
            go_wp2_with fail
            refine (ROldest_walk HY.out.1.m).mono ?_
            rintro e wz ⟨rfl, hBz⟩
            rw [hr1]
            have HB := Lib.hid (HY.out.1.below hBz)
            have HW := Lib.hid (HY.out.2.trans (hBz.mono HY.out.2.size))
            clear HY hBz hr1
            go_wp2_with fail
            have hf0 : ∀ w', Up wz w' → w'.cell? ⟨k', 0, none⟩ = some (.slice (some ⟨bL, 0, none⟩) n cap) := fun w' h => (ext_of_below h).cell _ _ HB.out.m.f0
            have hon := HB.out.x.ok.len
            have hnt := HB.out.m.top
            have hol : o.length ≤ 1000 := by omega
            have hcapn := HB.out.m.hcap
            have hol2 : (o.take 2).length ≤ 1000 := by rw [List.length_take]; omega
            have hrow : ∀ w', Up wz w' → isRowS o (.slice (some ⟨bL, 0, none⟩) n cap) w' := fun w' h => ⟨_, _, by rw [hon], by omega, ⟨fun i hi => ⟨bL, 0, rfl, by rw [Nat.zero_add]; exact (ext_of_below h).cell _ _ (HB.out.m.cl i (by omega))⟩⟩⟩
            have hrow2 : ∀ w', Up wz w' → isRowS (o.take 2) (.slice (some ⟨bL, 0, none⟩) (min 2 n) cap) w' := fun w' h => ⟨_, _, by rw [List.length_take, hon], by rw [List.length_take]; omega, ⟨fun i hi => ⟨bL, 0, rfl, by
              rw [List.length_take] at hi
              rw [Nat.zero_add, (ext_of_below h).cell _ _ (HB.out.m.cl i (by omega)), List.getD_eq_getElem?_getD, List.getD_eq_getElem?_getD, List.getElem?_take_of_lt (by omega)]⟩⟩⟩
            refine wp_region_inv2 132 mixed (by kernel_rfl) (by rfl) (Up wz) (Below.refl _ _).drew ?_
            refine wpI_cons (is (.bool true)) (stable_is _) (step_move (go0 rfl) (.tmp 10) rfl (opO' 10 (.bool true) rfl rfl)) ?_
            refine wpI_cons (is (.int .i64 (x : Int))) (stable_is _) (step_move (go0 rfl) (.tmp 11) rfl (opO' 11 (.int .i64 (x : Int)) rfl rfl)) ?_
            refine wpI_cons (is (.bool true)) (stable_is _) (step_int (go0 rfl) .geq 3 3 (.tmp 93) (.const (.int .i64 0)) rfl .i64 .i64 (x : Int) 0 _ (opT' 93 1 rfl rfl) (opC _) (fun w => run_geq x w)) ?_
            refine wpI_cons (is (.bool false)) (stable_is _) (step_neqb (go0 rfl) 4 4 (.tmp 92) (.tmp 94) rfl true true false (opT' 92 0 rfl rfl) (opT' 94 2 rfl rfl) (fun w => by kernel_rfl)) ?_
            refine wpI_cons (is (.bool false)) (stable_is _) (step_move (go0 rfl) (.tmp 95) rfl (opT' 95 3 rfl rfl)) ?_
            refine wpI_cons (is (.bool true)) (stable_is _) (step_move (go1 4 false 96 rfl rfl rfl rfl) (.tmp 10) rfl (opO' 10 (.bool true) rfl rfl)) ?_
            refine wpI_cons (is (.bool true)) (stable_is _) (step_move (go1 4 false 96 rfl rfl rfl rfl) (.tmp 97) rfl (opT' 97 5 rfl rfl)) ?_
            refine wpI_cons (is (.int .i64 (x : Int))) (stable_is _) (step_move (go1 6 true 98 rfl rfl rfl rfl) (.tmp 9) rfl (opO' 9 (.int .i64 (x : Int)) rfl rfl)) ?_
            refine wpI_cons (is (.int .i64 (x : Int))) (stable_is _) (step_move (go1 6 true 98 rfl rfl rfl rfl) (.tmp 11) rfl (opO' 11 (.int .i64 (x : Int)) rfl rfl)) ?_
            refine wpI_cons (is (.bool false)) (stable_is _) (step_int (go1 6 true 98 rfl rfl rfl rfl) .neq 3 3 (.tmp 99) (.tmp 100) rfl .i64 .i64 (x : Int) (x : Int) _ (opT' 99 7 rfl rfl) (opT' 100 8 rfl rfl) (fun w => run_neqx x w)) ?_
            refine wpI_cons (is (.bool false)) (stable_is _) (step_pickT (go1 4 false 96 rfl rfl rfl rfl) (.tmp 98) (.tmp 101) (.const (.bool false)) rfl (opT' 98 6 rfl rfl) (opT' 101 9 rfl rfl)) ?_
            refine wpI_cons (is (.bool false)) (stable_is _) (step_pickF (go0 rfl) (.tmp 96) (.const (.bool true)) (.tmp 102) rfl (opT' 96 4 rfl rfl) (opT' 102 10 rfl rfl)) ?_
            refine wpI_cons (is (.bool false)) (stable_is _) (step_move (go0 rfl) (.tmp 103) rfl (opT' 103 11 rfl rfl)) ?_
            refine wpI_cons (is (.pointer (some ⟨k, 0, none⟩))) (stable_is _) (step_move (go1 12 false 104 rfl rfl rfl rfl) (.tmp 5) rfl (opO' 5 (.pointer (some ⟨k, 0, none⟩)) rfl rfl)) ?_
            refine wpI_cons (isRowS o) (stable_isRowS _ _) (step_call2 (go1 12 false 104 rfl rfl rfl rfl) 17 (.tmp 105) (.const (.int .i64 (-1))) _ rfl enter17 (opT' 105 13 rfl rfl) (opC _) (fun u v w h1 h2 h3 => by obtain rfl : u = _ := h2; obtain rfl : v = _ := h3; exact order_okA HB.out.x w h1)) ?_
            refine wpI_cons (is (.pointer (some ⟨k', 0, none⟩))) (stable_is _) (step_move (go1 12 false 104 rfl rfl rfl rfl) (.tmp 7) rfl (opO' 7 (.pointer (some ⟨k', 0, none⟩)) rfl rfl)) ?_
            refine wpI_cons (is (.pointer (some ⟨k', 0, none⟩))) (stable_is _) (step_nilc (go1 12 false 104 rfl rfl rfl rfl) (.tmp 107) rfl _ (opT' 107 15 rfl rfl)) ?_
            refine wpI_cons (is (.pointer (some ⟨k', 0, none⟩))) (stable_is _) (step_field (go1 12 false 104 rfl rfl rfl rfl) 42 0 (.tmp 108) rfl _ _ (opT' 108 16 rfl rfl) (fun w => run_fb0 w _ _)) ?_
            refine wpI_cons (is (.slice (some ⟨bL, 0, none⟩) n cap)) (stable_is _) (step_cell (go1 12 false 104 rfl rfl rfl rfl) 38 (.tmp 109) rfl _ _ (opT' 109 17 rfl rfl) hf0 (fun w => run_load38 w)) ?_
            refine wpI_cons (is (.bool true)) (stable_is _) (step_call2 (go1 12 false 104 rfl rfl rfl rfl) 16 (.tmp 106) (.tmp 110) _ rfl enter16 (opT' 106 14 rfl rfl) (opT' 110 18 rfl rfl) (fun u v w h1 h2 h3 => by obtain rfl : v = _ := h3; exact Ints_ok o hol u _ w h1 h2 (hrow w h1))) ?_
            refine wpI_cons (is (.bool false)) (stable_is _) (step_not (go1 12 false 104 rfl rfl rfl rfl) 4 (.tmp 111) rfl true (opT' 111 19 rfl rfl)) ?_
            refine wpI_cons (is (.bool false)) (stable_is _) (step_pickF (go0 rfl) (.tmp 104) (.const (.bool true)) (.tmp 112) rfl (opT' 104 12 rfl rfl) (opT' 112 20 rfl rfl)) ?_
            refine wpI_cons (is (.bool false)) (stable_is _) (step_move (go0 rfl) (.tmp 113) rfl (opT' 113 21 rfl rfl)) ?_
            refine wpI_cons (is (.pointer (some ⟨k, 0, none⟩))) (stable_is _) (step_move (go1 22 false 114 rfl rfl rfl rfl) (.tmp 5) rfl (opO' 5 (.pointer (some ⟨k, 0, none⟩)) rfl rfl)) ?_
            refine wpI_cons (isRowS (o.take 2)) (stable_isRowS _ _) (step_call2 (go1 22 false 114 rfl rfl rfl rfl) 17 (.tmp 115) (.const (.int .i64 2)) _ rfl enter17 (opT' 115 23 rfl rfl) (opC _) (fun u v w h1 h2 h3 => by obtain rfl : u = _ := h2; obtain rfl : v = _ := h3; exact order_ok HB.out.x 2 w h1)) ?_
            refine wpI_cons (is (.pointer (some ⟨k', 0, none⟩))) (stable_is _) (step_move (go1 22 false 114 rfl rfl rfl rfl) (.tmp 7) rfl (opO' 7 (.pointer (some ⟨k', 0, none⟩)) rfl rfl)) ?_
            refine wpI_cons (is (.pointer (some ⟨k', 0, none⟩))) (stable_is _) (step_nilc (go1 22 false 114 rfl rfl rfl rfl) (.tmp 117) rfl _ (opT' 117 25 rfl rfl)) ?_
            refine wpI_cons (is (.pointer (some ⟨k', 0, none⟩))) (stable_is _) (step_field (go1 22 false 114 rfl rfl rfl rfl) 42 0 (.tmp 118) rfl _ _ (opT' 118 26 rfl rfl) (fun w => run_fb0 w _ _)) ?_
            refine wpI_cons (is (.slice (some ⟨bL, 0, none⟩) n cap)) (stable_is _) (step_cell (go1 22 false 114 rfl rfl rfl rfl) 38 (.tmp 119) rfl _ _ (opT' 119 27 rfl rfl) hf0 (fun w => run_load38 w)) ?_
            refine wpI_cons (is (.pointer (some ⟨k', 0, none⟩))) (stable_is _) (step_move (go1 22 false 114 rfl rfl rfl rfl) (.tmp 7) rfl (opO' 7 (.pointer (some ⟨k', 0, none⟩)) rfl rfl)) ?_
            refine wpI_cons (is (.pointer (some ⟨k', 0, none⟩))) (stable_is _) (step_nilc (go1 22 false 114 rfl rfl rfl rfl) (.tmp 121) rfl _ (opT' 121 29 rfl rfl)) ?_
            refine wpI_cons (is (.pointer (some ⟨k', 0, none⟩))) (stable_is _) (step_field (go1 22 false 114 rfl rfl rfl rfl) 42 0 (.tmp 122) rfl _ _ (opT' 122 30 rfl rfl) (fun w => run_fb0 w _ _)) ?_
            refine wpI_cons (is (.slice (some ⟨bL, 0, none⟩) n cap)) (stable_is _) (step_cell (go1 22 false 114 rfl rfl rfl rfl) 38 (.tmp 123) rfl _ _ (opT' 123 31 rfl rfl) hf0 (fun w => run_load38 w)) ?_
            refine wpI_cons (is (.int .i64 (n : Int))) (stable_is _) (step_len (go1 22 false 114 rfl rfl rfl rfl) (.tmp 124) 38 rfl _ _ (opT' 124 32 rfl rfl) (fun w => run_len38 _ _ _ w)) ?_
            refine wpI_cons (is (.int .i64 (min 2 (n : Int)))) (stable_is _) (step_min (go1 22 false 114 rfl rfl rfl rfl) (.const (.int .i64 2)) (.tmp 125) 3 rfl rfl 2 (n : Int) (opC _) (opT' 125 33 rfl rfl)) ?_
            refine wpI_cons (is (.slice (some ⟨bL, 0, none⟩) (min 2 n) cap)) (stable_is _) (step_sl (go1 22 false 114 rfl rfl rfl rfl) 38 (.tmp 120) (.tmp 126) rfl _ _ _ (opT' 120 28 rfl rfl) (opT' 126 34 rfl rfl) (fun w => run_sl38 w _ _ _ _ hcapn)) ?_
            refine wpI_cons (is (.bool true)) (stable_is _) (step_call2 (go1 22 false 114 rfl rfl rfl rfl) 16 (.tmp 116) (.tmp 127) _ rfl enter16 (opT' 116 24 rfl rfl) (opT' 127 35 rfl rfl) (fun u v w h1 h2 h3 => by obtain rfl : v = _ := h3; exact Ints_ok (o.take 2) hol2 u _ w h1 h2 (hrow2 w h1))) ?_
            refine wpI_cons (is (.bool false)) (stable_is _) (step_not (go1 22 false 114 rfl rfl rfl rfl) 4 (.tmp 128) rfl true (opT' 128 36 rfl rfl)) ?_
            refine wpI_cons (is (.bool false)) (stable_is _) (step_pickF (go0 rfl) (.tmp 114) (.const (.bool true)) (.tmp 129) rfl (opT' 114 22 rfl rfl) (opT' 129 37 rfl rfl)) ?_
            refine wpI_nil ?_
            intro v w' hI _ hdone
            have hlast : v 38 = .bool false := hdone 38 130 rfl
            clear hdone hrow hrow2 hf0
            simp only [putAll, Act.put, List.setIfInBounds_toArray, List.set_cons_zero, List.set_cons_succ, Nat.zero_add, Nat.reduceAdd, hlast]
            have HF := Lib.hid (And.intro (HB.out.below hI) (HW.out.trans (Below.mono hI HW.out.size)))
            clear hI HB HW hlast hol hol2
            go_wp2_with fail
            go_roundw
            case rel => exact ⟨t + 1, o, p, bL, cap, by go_num, HF.out.1, HF.out.2, hbase⟩
            case measure => simp [intOf]; omega
    · clear HR
      go_wp2_with fail
      refine (awake_walk _).mono ?_
      rintro e wg ⟨rfl, hBc⟩
      have H5 := Lib.hid (HW.out.trans (hBc.mono HW.out.size))
      clear hBc HW
      go_wp2_with fail
      go_ret
      exact ⟨rfl, H5.out⟩

/-! ### THE ROW's STEP: WRITTEN OUT: LEAVE IT -/
set_option maxRecDepth 100000 in
theorem lifted (os : Os) (started : os.Started) (H : Type) (enc : TypeId × Value → H) :
    ReturnsInHanded {} Try.checked os 3 .any (Rows.lruActsSpec.pre6 enc Try.prog Try.f3 Rows.lruActsRow.domain false) (Rows.lruActsSpec.post enc Try.prog Try.f3 false true false false) := by
  refine returnsInHanded_of_change (C := Try.checked) own started (by kernel_rfl) Try.func3
    (ChangeSpec.witness6 (enc := enc) (C := Try.checked) false ⟨#[], #[.int .i64 0, .slice none 0 0], []⟩ 8 (by kernel_rfl) (by kernel_rfl) (by kernel_rfl) (by kernel_rfl)) ?_
  intro W base args ds gs before hval0 hW hcnd _
  have hval : ∀ (j : Nat) t v, Try.f3.params[j]? = some t → args[j]? = some v → Value.okWide Try.prog W .any base t v := hval0
  have hW' := hW
  obtain ⟨p, q, hA0, hV, rfl, hfz, hnd⟩ := hW
  have hA : DataW.TrodAll enc Try.prog W 0 (fun _ => true) true Try.f3.params.toList args.toList ds p := hA0
  rw [Try.params3] at hA hval
  obtain ⟨v0, vs0, d0, ds0, p0, q0, hargs, rfl, rfl, h0, r0⟩ := trodAll_cons hA
  obtain ⟨v1, vs1, d1, ds1, p1, q1, rfl, rfl, rfl, h1, r1⟩ := trodAll_cons r0
  obtain ⟨rfl, rfl, rfl⟩ := trodAll_nil r1
  obtain rfl : args = #[v0, v1] := by cases args; simp_all
  obtain ⟨rfl, rfl⟩ := trodVars_none hV
  obtain ⟨a0, rfl, rfl, rfl, w0⟩ := open_int Try.underlying3 (hval 0 3 v0 rfl rfl) h0
  obtain ⟨a1, len1, cap1, rfl⟩ := okWide_slice Try.underlying22 (hval 1 22 v1 rfl rfl)
  have k1 := h1
  have lt1 : ∀ x ∈ p1, x.block < W.heap.size := by obtain ⟨m, hm⟩ := k1; exact DataW.trod_lt m _ _ _ hm
  obtain ⟨z0, z1, w1⟩ : ∃ z0 z1, ARow W a1 len1 z0 z1 := by
    obtain ⟨fuel, hf⟩ := h1
    rcases Go.Deep.open_slice_pairs Try.underlying22 Try.underlying31 cells31 rfl rfl cells3 cells3 hf with ⟨hcs, _⟩ | ⟨a, len, cap, m, nn, V0, V1, D0, D1, P0, P1, hcs, _, hl, _, hm, _, hx⟩
    · simp [Value.cells] at hcs
      obtain ⟨rfl, rfl, rfl⟩ := hcs
      exact ⟨fun _ => 0, fun _ => 0, fun i hi => by omega⟩
    · simp [Value.cells] at hcs
      obtain ⟨rfl, rfl, rfl⟩ := hcs
      have hml : len1 ≤ m := by rw [hm]; split <;> omega
      have hv : ∀ V : Nat → Value, (∀ i, i < m → ∃ x : Int, V i = .int .i64 x) → ∃ z : Nat → Int, ∀ i, i < m → V i = .int .i64 (z i) := fun V h =>
        ⟨fun i => if hi : i < m then Classical.choose (h i hi) else 0, fun i hi => by simp only [dif_pos hi]; exact Classical.choose_spec (h i hi)⟩
      obtain ⟨z0, hz0⟩ := hv V0 (fun i hi => by obtain ⟨x, hx1, _⟩ := DataW.trod_int Try.underlying3 (hx i hi).2.2.1; exact ⟨x, by simpa using hx1⟩)
      obtain ⟨z1, hz1⟩ := hv V1 (fun i hi => by obtain ⟨x, hx1, _⟩ := DataW.trod_int Try.underlying3 (hx i hi).2.2.2; exact ⟨x, by simpa using hx1⟩)
      refine ⟨z0, z1, fun i hi => ?_⟩
      obtain ⟨b, off, rfl⟩ := spot_of (by have := (hx 0 (by omega)).1; rwa [Nat.zero_mul] at this)
      obtain ⟨h1, h2, _⟩ := hx i (by omega)
      rw [add_spot, hz0 i (by omega)] at h1
      rw [add_spot, hz1 i (by omega), ← Nat.add_assoc] at h2
      exact ⟨b, off, rfl, block_lt_of_cell h1, h1, h2⟩
  clear hA0 hval0
  refine (walk a0 a1 len1 cap1 z0 z1 W w1).mono fun e W' ⟨he, bel⟩ => ?_
  subst he
  exact ⟨_, rfl, _, _, _, [], _, [], hW', trodAll_mk1 (shut_bool Try.underlying4 _), (trodAll_cons_mk (shut_int Try.underlying3 w0) (trodAll_cons_mk (Below.trod laidOut (by kernel_rfl) (of_decide_eq_true (by kernel_rfl)) k1 bel lt1) trodAll_mk0)), rfl, bel.frame _, fun h => by cases h⟩

theorem over : Rows.lruActsRow.holds Try.pinned (OpenSpec.ofChange Rows.lruActsSpec) :=
  OpenClaim.holds_of_wide 3 Try.f3 rfl rfl rfl rfl rfl rfl rfl ⟨rfl, rfl, rfl, rfl, rfl⟩ rfl rfl rfl rfl rfl (by kernel_rfl) Try.func3 (by kernel_rfl)
    (of_decide_eq_true (by kernel_rfl)) (by unfold Func.isWrapper; first | (rw [if_pos (by decide +kernel)]; kernel_rfl) | (rw [if_neg (by decide +kernel)]; exact ⟨rfl, rfl⟩))
    (fun os started H enc _ => lifted os started H enc)

/-- ████ THE STATEMENT ████ -/
theorem proved : Rows.LruActsSaid := over
end Go.Proofs.Ytnedpmibmldbfaa.lruActs
