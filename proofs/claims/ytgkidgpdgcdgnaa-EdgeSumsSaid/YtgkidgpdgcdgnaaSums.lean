/- EdgeSums: how far a pixel is inside of the three edges is together the area; turned round, or begun at another corner, a triangle covers the same. At every input the law says true. -/
import Derived.Test.YtgkidgpdgcdgnaaOps
import Derived.Test.YtgkidgpdgcdgnaaSmall
import Derived.Test.YtgkidgpdgcdgnaaSumP
import Derived.Test.YtgkidgpdgcdgnaaArgs
import Derived.BigQuiet
import Derived.ProofKit
import Derived.OpenShut
import Derived.ShutString
import Derived.ChangeOld
import Derived.Below
namespace Go.Proofs.Ytgkidgpdgcdgnaa
open Go.RowKit

theorem run_neg3 {P : Program} (ρ : Operand → Value) (o : Oper) {x : Operand} (ho : o.op = .unOp .neg 3 x) (n : Int) (h : ρ x = .int .i64 n) (hn : -7200000000 ≤ n ∧ n ≤ 7200000000) (W : World) : (execOp ρ o).run P W = .ok (.value (.int .i64 (-n))) W := by
  have e : IntKind.i64.wrap (-n) = -n := by rw [IntKind.wrap_i64]; omega
  simp [execOp, ho, h, go_sem, e]
theorem run_max3 {P : Program} (ρ : Operand → Value) (o : Oper) {x y : Operand} {ts : Array TypeId} (ho : o.op = .call { callee := .builtin .max, args := #[x, y], argTypes := ts }) (m n : Int) (h1 : ρ x = .int .i64 m) (h2 : ρ y = .int .i64 n) (W : World) : (execOp ρ o).run P W = .ok (.value (.int .i64 (max m n))) W := by
  simp [execOp, ho, h1, h2, go_sem, resolve, invoke, builtin]
  split <;> omega
set_option maxRecDepth 100000 in
set_option maxHeartbeats 4000000 in
theorem Sums_walk (a b c : Spot) (w : World) : Calls Try.prog 5 #[.agg (triA a b c)] w fun e w' => e = .returned (.bool true) ∧ Below w.heap.size w w' := by
  have HT0 := Lib.hid (TriAt.new w a b c)
  have HB0 := Lib.hid (below_alloc w (.cells (triA a b c) 24))
  by_cases hs : allOk a b c = true
  rotate_left 1
  · have hs := Bool.eq_false_iff.2 hs
    go_enter Try.func5, Try.ntmps5
    go_wp2_with (first
      | refine arm_load24 rfl (.tmp 1) rfl w.heap.size a b c rfl HT0.out ?_)
    refine (small_walk a b c _).mono ?_
    rintro e w1 ⟨rfl, hb⟩
    have HB1 := Lib.hid (below_trans HB0.out hb)
    clear hb
    rw [hs]
    go_wp2_with fail
    refine (awake_walk _).mono ?_
    rintro e w2 ⟨rfl, hb⟩
    have HB2 := Lib.hid (below_trans HB1.out hb)
    clear hb
    go_wp2_with fail
    go_ret
    exact ⟨rfl, HB2.out⟩
  have hok := (allOk_iff a b c).1 hs
  have hs5 := sums_ok a b c hok.1 hok.2.1 hok.2.2
  have hn0 : -7200000000 ≤ area a b c ∧ area a b c ≤ 7200000000 := by
    have h := hok.2.2
    unfold Spot.ok at h
    exact side_le hok.1 hok.2.1 (by unfold Near; omega) (by unfold Near; omega)
  go_enter Try.func5, Try.ntmps5
  go_wp2_with (first
    | refine arm_load24 rfl (.tmp 1) rfl w.heap.size a b c rfl HT0.out ?_)
  refine (small_walk a b c _).mono ?_
  rintro e w1 ⟨rfl, hb⟩
  rw [hs]
  have HT := Lib.hid (And.intro (HT0.out.below hb) (below_trans HB0.out hb))
  clear hb HT0 HB0
  go_wp2_with fail
  refine wp_region_link 171 mixed (by kernel_rfl) (by rfl) (UpC w1) (UpC.start w1) ?_
  refine wpL_cons (is (.agg (triA a b c))) (stable_is _) (step_loadRow (go0 rfl) 24 (.tmp 1) rfl (w.heap.size) 24 (triA a b c) (0, 0) _ (opO' 1 (.pointer (some ⟨w.heap.size, 0, none⟩)) rfl rfl) (fun W h => (HT.out.1).below h) Try.underlying24 rfl (size24 a b c)) ?_
  refine wpL_cons (IsHits (allR (-1) (pix a b c 32 32))) (isHits_stable _) (step_all (go0 rfl) (.tmp 12) (.const (.int .i64 32)) (.const (.int .i64 32)) (.const (.int IntKind.i64 (-1))) _ rfl a b c hok.1 hok.2.1 hok.2.2 32 32 (-1) (opT' 12 0 rfl rfl) (opC _) (opC _) (opC _)) ?_
  refine wpL_cons (is (.pointer (some ⟨w.heap.size, 6, none⟩))) (stable_is _) (step_idx (go0 rfl) 24 (.tmp 1) (.const (.int .i64 1)) rfl _ _ _ (opO' 1 (.pointer (some ⟨w.heap.size, 0, none⟩)) rfl rfl) (opC _) (fun W => run_it1 _ W)) ?_
  refine wpL_cons (is (.agg (spotA b))) (stable_is _) (step_load23 (go0 rfl) (.tmp 14) rfl (w.heap.size) 6 b (opT' 14 2 rfl rfl) (fun W h => ((HT.out.1).below h).r1)) ?_
  refine wpL_cons (is (.pointer (some ⟨w.heap.size, 12, none⟩))) (stable_is _) (step_idx (go0 rfl) 24 (.tmp 1) (.const (.int .i64 2)) rfl _ _ _ (opO' 1 (.pointer (some ⟨w.heap.size, 0, none⟩)) rfl rfl) (opC _) (fun W => run_it2 _ W)) ?_
  refine wpL_cons (is (.agg (spotA c))) (stable_is _) (step_load23 (go0 rfl) (.tmp 16) rfl (w.heap.size) 12 c (opT' 16 4 rfl rfl) (fun W h => ((HT.out.1).below h).r2)) ?_
  refine wpL_cons (is (.pointer (some ⟨w.heap.size, 0, none⟩))) (stable_is _) (step_idx (go0 rfl) 24 (.tmp 1) (.const (.int .i64 0)) rfl _ _ _ (opO' 1 (.pointer (some ⟨w.heap.size, 0, none⟩)) rfl rfl) (opC _) (fun W => run_it0 _ W)) ?_
  refine wpL_cons (is (.agg (spotA a))) (stable_is _) (step_load23 (go0 rfl) (.tmp 18) rfl (w.heap.size) 0 a (opT' 18 6 rfl rfl) (fun W h => ((HT.out.1).below h).r0)) ?_
  refine wpL_cons (is (.agg (triA b c a))) (stable_is _) (step_build24 (go0 rfl) (.tmp 15) (.tmp 17) (.tmp 19) rfl b c a (opT' 15 3 rfl rfl) (opT' 17 5 rfl rfl) (opT' 19 7 rfl rfl)) ?_
  refine wpL_cons (IsHits (allR (-1) (pix b c a 32 32))) (isHits_stable _) (step_all (go0 rfl) (.tmp 20) (.const (.int .i64 32)) (.const (.int .i64 32)) (.const (.int IntKind.i64 (-1))) _ rfl b c a hok.2.1 hok.2.2 hok.1 32 32 (-1) (opT' 20 8 rfl rfl) (opC _) (opC _) (opC _)) ?_
  refine wpL_cons (is (.pointer (some ⟨w.heap.size, 0, none⟩))) (stable_is _) (step_idx (go0 rfl) 24 (.tmp 1) (.const (.int .i64 0)) rfl _ _ _ (opO' 1 (.pointer (some ⟨w.heap.size, 0, none⟩)) rfl rfl) (opC _) (fun W => run_it0 _ W)) ?_
  refine wpL_cons (is (.agg (spotA a))) (stable_is _) (step_load23 (go0 rfl) (.tmp 22) rfl (w.heap.size) 0 a (opT' 22 10 rfl rfl) (fun W h => ((HT.out.1).below h).r0)) ?_
  refine wpL_cons (is (.pointer (some ⟨w.heap.size, 12, none⟩))) (stable_is _) (step_idx (go0 rfl) 24 (.tmp 1) (.const (.int .i64 2)) rfl _ _ _ (opO' 1 (.pointer (some ⟨w.heap.size, 0, none⟩)) rfl rfl) (opC _) (fun W => run_it2 _ W)) ?_
  refine wpL_cons (is (.agg (spotA c))) (stable_is _) (step_load23 (go0 rfl) (.tmp 24) rfl (w.heap.size) 12 c (opT' 24 12 rfl rfl) (fun W h => ((HT.out.1).below h).r2)) ?_
  refine wpL_cons (is (.pointer (some ⟨w.heap.size, 6, none⟩))) (stable_is _) (step_idx (go0 rfl) 24 (.tmp 1) (.const (.int .i64 1)) rfl _ _ _ (opO' 1 (.pointer (some ⟨w.heap.size, 0, none⟩)) rfl rfl) (opC _) (fun W => run_it1 _ W)) ?_
  refine wpL_cons (is (.agg (spotA b))) (stable_is _) (step_load23 (go0 rfl) (.tmp 26) rfl (w.heap.size) 6 b (opT' 26 14 rfl rfl) (fun W h => ((HT.out.1).below h).r1)) ?_
  refine wpL_cons (is (.agg (triA a c b))) (stable_is _) (step_build24 (go0 rfl) (.tmp 23) (.tmp 25) (.tmp 27) rfl a c b (opT' 23 11 rfl rfl) (opT' 25 13 rfl rfl) (opT' 27 15 rfl rfl)) ?_
  refine wpL_cons (IsHits (allR (-1) (pix a c b 32 32))) (isHits_stable _) (step_all (go0 rfl) (.tmp 28) (.const (.int .i64 32)) (.const (.int .i64 32)) (.const (.int IntKind.i64 (-1))) _ rfl a c b hok.1 hok.2.2 hok.2.1 32 32 (-1) (opT' 28 16 rfl rfl) (opC _) (opC _) (opC _)) ?_
  refine wpL_cons (IsHits (allR (-1) (pix a b c 32 32))) (isHits_stable _) (step_assign (go0 rfl) (.tmp 13) rfl (opT' 13 1 rfl rfl)) ?_
  refine wpL_cons (IsHits (allR (-1) (pix b c a 32 32))) (isHits_stable _) (step_assign (go0 rfl) (.tmp 21) rfl (opT' 21 9 rfl rfl)) ?_
  refine wpL_cons (IsHits (allR (-1) (pix a c b 32 32))) (isHits_stable _) (step_assign (go0 rfl) (.tmp 29) rfl (opT' 29 17 rfl rfl)) ?_
  refine wpL_nil ?_
  intro v w2 hI _ hdone _
  obtain ⟨A1, cap1, e1, hr1, hc1⟩ := hdone 18 3 rfl
  obtain ⟨A2, cap2, e2, hr2, hc2⟩ := hdone 19 4 rfl
  obtain ⟨A3, cap3, e3, hr3, hc3⟩ := hdone 20 5 rfl
  have hI : Below w1.heap.size w1 w2 := hI
  have HB := Lib.hid (And.intro (HT.out.2.trans (hI.mono HT.out.2.size)) (And.intro (HT.out.1.below hI) (And.intro hr1 (And.intro hr2 hr3))))
  clear hdone hI hr1 hr2 hr3
  simp only [List.append_eq, List.cons_append, List.nil_append, putAll, Act.put, List.setIfInBounds_toArray, List.set_cons_zero, List.set_cons_succ, Nat.zero_add, Nat.reduceAdd, e1, e2, e3]
  clear e1 e2 e3
  go_wp2_with fail
  refine wp_region_link 171 mixed (by kernel_rfl) (by rfl) (UpC w2) (UpC.start w2) ?_
  refine wpL_cons (is (.agg (triA a b c))) (stable_is _) (step_loadRow (go0 rfl) 24 (.tmp 1) rfl (w.heap.size) 24 (triA a b c) (0, 0) _ (opO' 1 (.pointer (some ⟨w.heap.size, 0, none⟩)) rfl rfl) (fun W h => (HB.out.2.1).below h) Try.underlying24 rfl (size24 a b c)) ?_
  refine wpL_cons (is (.int .i64 (area a b c))) (stable_is _) (step_area (go0 rfl) (.tmp 30) _ rfl a b c hok.1 hok.2.1 hok.2.2 (opT' 30 0 rfl rfl)) ?_
  refine wpL_cons (is (.agg (triA a b c))) (stable_is _) (step_loadRow (go0 rfl) 24 (.tmp 1) rfl (w.heap.size) 24 (triA a b c) (0, 0) _ (opO' 1 (.pointer (some ⟨w.heap.size, 0, none⟩)) rfl rfl) (fun W h => (HB.out.2.1).below h) Try.underlying24 rfl (size24 a b c)) ?_
  refine wpL_cons (is (.int .i64 (area a b c))) (stable_is _) (step_area (go0 rfl) (.tmp 32) _ rfl a b c hok.1 hok.2.1 hok.2.2 (opT' 32 2 rfl rfl)) ?_
  refine wpL_cons (is (.int .i64 (-area a b c))) (stable_is _) (step_one (go0 rfl) (.tmp 33) _ _ (opT' 33 3 rfl rfl) (fun ρ W h => run_neg3 ρ _ rfl _ h (by omega) W)) ?_
  refine wpL_cons (is (.int .i64 (max (area a b c) (-area a b c)))) (stable_is _) (step_two (go0 rfl) (.tmp 31) (.tmp 34) _ _ _ (opT' 31 1 rfl rfl) (opT' 34 4 rfl rfl) (fun ρ W h1 h2 => run_max3 ρ _ rfl _ _ h1 h2 W)) ?_
  refine wpL_cons (is (.int .i64 (max (area a b c) (-area a b c)))) (stable_is _) (step_assign (go0 rfl) (.tmp 35) rfl (opT' 35 5 rfl rfl)) ?_
  refine wpL_nil ?_
  intro v2 w3 hI _ hdone _
  have e6 : v2 6 = .int .i64 (max (area a b c) (-area a b c)) := hdone 6 6 rfl
  have hI : Below w2.heap.size w2 w3 := hI
  have HC := Lib.hid (And.intro (HB.out.1.trans (hI.mono HB.out.1.size)) (And.intro (HB.out.2.2.1.below hI) (And.intro (HB.out.2.2.2.1.below hI) (HB.out.2.2.2.2.below hI))))
  clear hdone hI
  simp only [List.append_eq, List.cons_append, List.nil_append, putAll, Act.put, List.setIfInBounds_toArray, List.set_cons_zero, List.set_cons_succ, Nat.zero_add, Nat.reduceAdd, e6]
  clear e6 HT HB
  have hx0 : ∀ l : List Hit, allR (-1) l = l := fun l => rfl
  simp only [hx0] at HC hc1 hc2 hc3 ⊢
  clear hx0
  generalize hX : pix a b c 32 32 = X at *
  generalize hY : pix b c a 32 32 = Y at *
  generalize hZ : pix a c b 32 32 = Z at *
  have hnn : 0 ≤ max (area a b c) (-area a b c) ∧ max (area a b c) (-area a b c) ≤ 7200000000 := by omega
  generalize max (area a b c) (-area a b c) = n at *
  clear hX hY hZ hn0 hs hok
  rw [hs5.ly, hs5.lz]
  have hle := hs5.le
  by_cases hn : n = 0
  · have hl := hs5.zero hn
    rw [hl]
    have hn1 : (n == 0) = true := by simp [hn]
    clear hs5
    go_wp2_with fail
    go_loop [7] (fun v => v = .int .i64 0) (fun _ => 0)
    case atStart => rfl
    case round =>
      obtain rfl := hrel
      go_wp2_with fail
      refine (awake_walk _).mono ?_
      rintro e w4 ⟨rfl, hb⟩
      have HD := Lib.hid (below_trans HC.out.1 hb)
      clear hb
      go_wp2_with fail
      go_ret
      exact ⟨rfl, HD.out⟩
  have hn1 : (n == 0) = false := by simp [hn]
  have HS := Lib.hid hs5
  clear hs5
  go_wp2_with fail
  go_loopw [7] (fun v wr => ∃ i : Nat, i ≤ X.length ∧ v = .int .i64 i ∧ (Below w.heap.size w wr ∧ (HRow wr A1 X ∧ (HRow wr A2 Y ∧ HRow wr A3 Z)))) (fun v _ => X.length - (intOf v).toNat)
  case atStart => exact ⟨0, by omega, rfl, HC.out⟩
  case round =>
    obtain ⟨i, hi, rfl, hCC⟩ := hrel
    clear HC
    have HC := Lib.hid hCC
    clear hCC
    by_cases hlt : i = X.length
    · subst hlt
      have hl1 : ¬ ((X.length : Nat) : Int) < ((X.length : Nat) : Int) := by omega
      go_wp2_with fail
      refine (awake_walk _).mono ?_
      rintro e w4 ⟨rfl, hb⟩
      have HD := Lib.hid (below_trans HC.out.1 hb)
      clear hb
      go_wp2_with fail
      go_ret
      exact ⟨rfl, HD.out⟩
    have hlt : i < X.length := by omega
    obtain ⟨x, y, z, gx, gy, gz, k1, k2, k3, k4, k5, k6, k7, k8⟩ := HS.out.at_ i hlt
    obtain ⟨b1, rfl, p0, p1, p2, p3, p4⟩ := HC.out.2.1.get gx
    obtain ⟨b2, rfl, q0, q1, _⟩ := HC.out.2.2.1.get gy
    obtain ⟨b3, rfl, r0, r1, _⟩ := HC.out.2.2.2.get gz
    have hlt2 : ((i : Nat) : Int) < ((X.length : Nat) : Int) := by omega
    go_wp2_with fail
    by_cases hi0 : i = 0
    · refine wp_region_link 171 mixed (by kernel_rfl) (by rfl) (UpC wr) (UpC.start wr) ?_
      refine wpL_cons (is (.slice (some ⟨b1, 0, none⟩) X.length cap1)) (stable_is _) (step_move (go0 rfl) (.tmp 3) rfl (opO' 3 (.slice (some ⟨b1, 0, none⟩) X.length cap1) rfl rfl)) ?_
      refine wpL_cons (is (.int .i64 ((i : Nat) : Int))) (stable_is _) (step_move (go0 rfl) (.tmp 7) rfl (opO' 7 (.int .i64 ((i : Nat) : Int)) rfl rfl)) ?_
      refine wpL_cons (is (.pointer (some ⟨b1, i * 5, none⟩))) (stable_is _) (step_idx (go0 rfl) 38 (.tmp 63) (.tmp 64) rfl _ _ _ (opT' 63 0 rfl rfl) (opT' 64 1 rfl rfl) (fun W => run_idx38 b1 (X.length) cap1 i hlt W)) ?_
      refine wpL_cons (is (.pointer (some ⟨b1, i * 5 + 2, none⟩))) (stable_is _) (step_field (go0 rfl) 31 2 (.tmp 65) rfl _ _ (opT' 65 2 rfl rfl) (fun W => run_f31_2 _ _ W)) ?_
      refine wpL_cons (is (.pointer (some ⟨b1, i * 5 + 2, none⟩))) (stable_is _) (step_idx (go0 rfl) 29 (.tmp 66) (.const (.int .i64 0)) rfl _ _ _ (opT' 66 3 rfl rfl) (opC _) (fun W => run_i29_0 _ _ W)) ?_
      refine wpL_cons (is (.int .i64 x.e0)) (stable_is _) (step_cell (go0 rfl) 3 (.tmp 67) rfl ⟨b1, i * 5 + 2, none⟩ _ (opT' 67 4 rfl rfl) (fun W h => cellUp h p2) (fun W => by kernel_rfl)) ?_
      refine wpL_cons (is (.slice (some ⟨b1, 0, none⟩) X.length cap1)) (stable_is _) (step_move (go0 rfl) (.tmp 3) rfl (opO' 3 (.slice (some ⟨b1, 0, none⟩) X.length cap1) rfl rfl)) ?_
      refine wpL_cons (is (.int .i64 ((i : Nat) : Int))) (stable_is _) (step_move (go0 rfl) (.tmp 7) rfl (opO' 7 (.int .i64 ((i : Nat) : Int)) rfl rfl)) ?_
      refine wpL_cons (is (.pointer (some ⟨b1, i * 5, none⟩))) (stable_is _) (step_idx (go0 rfl) 38 (.tmp 69) (.tmp 70) rfl _ _ _ (opT' 69 6 rfl rfl) (opT' 70 7 rfl rfl) (fun W => run_idx38 b1 (X.length) cap1 i hlt W)) ?_
      refine wpL_cons (is (.pointer (some ⟨b1, i * 5 + 2, none⟩))) (stable_is _) (step_field (go0 rfl) 31 2 (.tmp 71) rfl _ _ (opT' 71 8 rfl rfl) (fun W => run_f31_2 _ _ W)) ?_
      refine wpL_cons (is (.pointer (some ⟨b1, i * 5 + 2 + 1, none⟩))) (stable_is _) (step_idx (go0 rfl) 29 (.tmp 72) (.const (.int .i64 1)) rfl _ _ _ (opT' 72 9 rfl rfl) (opC _) (fun W => run_i29_1 _ _ W)) ?_
      refine wpL_cons (is (.int .i64 x.e1)) (stable_is _) (step_cell (go0 rfl) 3 (.tmp 73) rfl ⟨b1, i * 5 + 2 + 1, none⟩ _ (opT' 73 10 rfl rfl) (fun W h => cellUp h p3) (fun W => by kernel_rfl)) ?_
      refine wpL_cons (is (.int .i64 (x.e0 + x.e1))) (stable_is _) (step_int (go0 rfl) .add 3 3 (.tmp 68) (.tmp 74) rfl .i64 .i64 _ _ _ (opT' 68 5 rfl rfl) (opT' 74 11 rfl rfl) (fun W => run_add3 _ _ (by omega) W)) ?_
      refine wpL_cons (is (.slice (some ⟨b1, 0, none⟩) X.length cap1)) (stable_is _) (step_move (go0 rfl) (.tmp 3) rfl (opO' 3 (.slice (some ⟨b1, 0, none⟩) X.length cap1) rfl rfl)) ?_
      refine wpL_cons (is (.int .i64 ((i : Nat) : Int))) (stable_is _) (step_move (go0 rfl) (.tmp 7) rfl (opO' 7 (.int .i64 ((i : Nat) : Int)) rfl rfl)) ?_
      refine wpL_cons (is (.pointer (some ⟨b1, i * 5, none⟩))) (stable_is _) (step_idx (go0 rfl) 38 (.tmp 76) (.tmp 77) rfl _ _ _ (opT' 76 13 rfl rfl) (opT' 77 14 rfl rfl) (fun W => run_idx38 b1 (X.length) cap1 i hlt W)) ?_
      refine wpL_cons (is (.pointer (some ⟨b1, i * 5 + 2, none⟩))) (stable_is _) (step_field (go0 rfl) 31 2 (.tmp 78) rfl _ _ (opT' 78 15 rfl rfl) (fun W => run_f31_2 _ _ W)) ?_
      refine wpL_cons (is (.pointer (some ⟨b1, i * 5 + 2 + 2, none⟩))) (stable_is _) (step_idx (go0 rfl) 29 (.tmp 79) (.const (.int .i64 2)) rfl _ _ _ (opT' 79 16 rfl rfl) (opC _) (fun W => run_i29_2 _ _ W)) ?_
      refine wpL_cons (is (.int .i64 x.e2)) (stable_is _) (step_cell (go0 rfl) 3 (.tmp 80) rfl ⟨b1, i * 5 + 2 + 2, none⟩ _ (opT' 80 17 rfl rfl) (fun W h => cellUp h p4) (fun W => by kernel_rfl)) ?_
      refine wpL_cons (is (.int .i64 (x.e0 + x.e1 + x.e2))) (stable_is _) (step_int (go0 rfl) .add 3 3 (.tmp 75) (.tmp 81) rfl .i64 .i64 _ _ _ (opT' 75 12 rfl rfl) (opT' 81 18 rfl rfl) (fun W => run_add3 _ _ (by omega) W)) ?_
      refine wpL_cons (is (.int .i64 n)) (stable_is _) (step_move (go0 rfl) (.tmp 6) rfl (opO' 6 (.int .i64 n) rfl rfl)) ?_
      refine wpL_cons (is (.bool false)) (stable_is _) (step_int (go0 rfl) .neq 3 3 (.tmp 82) (.tmp 83) rfl .i64 .i64 _ _ _ (opT' 82 19 rfl rfl) (opT' 83 20 rfl rfl) (fun W => run_neq3 _ _ false (bne_eq_false_iff_eq.2 (by omega)) W)) ?_
      refine wpL_cons (is (.bool false)) (stable_is _) (step_move (go0 rfl) (.tmp 84) rfl (opT' 84 21 rfl rfl)) ?_
      refine wpL_cons (is (.slice (some ⟨b1, 0, none⟩) X.length cap1)) (stable_is _) (step_move (go1 22 false 85 rfl rfl rfl rfl) (.tmp 3) rfl (opO' 3 (.slice (some ⟨b1, 0, none⟩) X.length cap1) rfl rfl)) ?_
      refine wpL_cons (is (.int .i64 ((i : Nat) : Int))) (stable_is _) (step_move (go1 22 false 85 rfl rfl rfl rfl) (.tmp 7) rfl (opO' 7 (.int .i64 ((i : Nat) : Int)) rfl rfl)) ?_
      refine wpL_cons (is (.pointer (some ⟨b1, i * 5, none⟩))) (stable_is _) (step_idx (go1 22 false 85 rfl rfl rfl rfl) 38 (.tmp 86) (.tmp 87) rfl _ _ _ (opT' 86 23 rfl rfl) (opT' 87 24 rfl rfl) (fun W => run_idx38 b1 (X.length) cap1 i hlt W)) ?_
      refine wpL_cons (is (.pointer (some ⟨b1, i * 5, none⟩))) (stable_is _) (step_field (go1 22 false 85 rfl rfl rfl rfl) 31 0 (.tmp 88) rfl _ _ (opT' 88 25 rfl rfl) (fun W => run_f31_0 _ _ W)) ?_
      refine wpL_cons (is (.int .i64 x.x)) (stable_is _) (step_cell (go1 22 false 85 rfl rfl rfl rfl) 3 (.tmp 89) rfl ⟨b1, i * 5, none⟩ _ (opT' 89 26 rfl rfl) (fun W h => cellUp h p0) (fun W => by kernel_rfl)) ?_
      refine wpL_cons (is (.slice (some ⟨b2, 0, none⟩) X.length cap2)) (stable_is _) (step_move (go1 22 false 85 rfl rfl rfl rfl) (.tmp 4) rfl (opO' 4 (.slice (some ⟨b2, 0, none⟩) X.length cap2) rfl rfl)) ?_
      refine wpL_cons (is (.int .i64 ((i : Nat) : Int))) (stable_is _) (step_move (go1 22 false 85 rfl rfl rfl rfl) (.tmp 7) rfl (opO' 7 (.int .i64 ((i : Nat) : Int)) rfl rfl)) ?_
      refine wpL_cons (is (.pointer (some ⟨b2, i * 5, none⟩))) (stable_is _) (step_idx (go1 22 false 85 rfl rfl rfl rfl) 38 (.tmp 91) (.tmp 92) rfl _ _ _ (opT' 91 28 rfl rfl) (opT' 92 29 rfl rfl) (fun W => run_idx38 b2 (X.length) cap2 i hlt W)) ?_
      refine wpL_cons (is (.pointer (some ⟨b2, i * 5, none⟩))) (stable_is _) (step_field (go1 22 false 85 rfl rfl rfl rfl) 31 0 (.tmp 93) rfl _ _ (opT' 93 30 rfl rfl) (fun W => run_f31_0 _ _ W)) ?_
      refine wpL_cons (is (.int .i64 y.x)) (stable_is _) (step_cell (go1 22 false 85 rfl rfl rfl rfl) 3 (.tmp 94) rfl ⟨b2, i * 5, none⟩ _ (opT' 94 31 rfl rfl) (fun W h => cellUp h q0) (fun W => by kernel_rfl)) ?_
      refine wpL_cons (is (.bool false)) (stable_is _) (step_int (go1 22 false 85 rfl rfl rfl rfl) .neq 3 3 (.tmp 90) (.tmp 95) rfl .i64 .i64 _ _ _ (opT' 90 27 rfl rfl) (opT' 95 32 rfl rfl) (fun W => run_neq3 _ _ false (bne_eq_false_iff_eq.2 (by omega)) W)) ?_
      refine wpL_cons (is (.bool false)) (stable_is _) (step_pickF (go0 rfl) (.tmp 85) (.const (.bool true)) (.tmp 96) rfl (opT' 85 22 rfl rfl) (opT' 96 33 rfl rfl)) ?_
      refine wpL_cons (is (.bool false)) (stable_is _) (step_move (go0 rfl) (.tmp 97) rfl (opT' 97 34 rfl rfl)) ?_
      refine wpL_cons (is (.slice (some ⟨b1, 0, none⟩) X.length cap1)) (stable_is _) (step_move (go1 35 false 98 rfl rfl rfl rfl) (.tmp 3) rfl (opO' 3 (.slice (some ⟨b1, 0, none⟩) X.length cap1) rfl rfl)) ?_
      refine wpL_cons (is (.int .i64 ((i : Nat) : Int))) (stable_is _) (step_move (go1 35 false 98 rfl rfl rfl rfl) (.tmp 7) rfl (opO' 7 (.int .i64 ((i : Nat) : Int)) rfl rfl)) ?_
      refine wpL_cons (is (.pointer (some ⟨b1, i * 5, none⟩))) (stable_is _) (step_idx (go1 35 false 98 rfl rfl rfl rfl) 38 (.tmp 99) (.tmp 100) rfl _ _ _ (opT' 99 36 rfl rfl) (opT' 100 37 rfl rfl) (fun W => run_idx38 b1 (X.length) cap1 i hlt W)) ?_
      refine wpL_cons (is (.pointer (some ⟨b1, i * 5 + 1, none⟩))) (stable_is _) (step_field (go1 35 false 98 rfl rfl rfl rfl) 31 1 (.tmp 101) rfl _ _ (opT' 101 38 rfl rfl) (fun W => run_f31_1 _ _ W)) ?_
      refine wpL_cons (is (.int .i64 x.y)) (stable_is _) (step_cell (go1 35 false 98 rfl rfl rfl rfl) 3 (.tmp 102) rfl ⟨b1, i * 5 + 1, none⟩ _ (opT' 102 39 rfl rfl) (fun W h => cellUp h p1) (fun W => by kernel_rfl)) ?_
      refine wpL_cons (is (.slice (some ⟨b2, 0, none⟩) X.length cap2)) (stable_is _) (step_move (go1 35 false 98 rfl rfl rfl rfl) (.tmp 4) rfl (opO' 4 (.slice (some ⟨b2, 0, none⟩) X.length cap2) rfl rfl)) ?_
      refine wpL_cons (is (.int .i64 ((i : Nat) : Int))) (stable_is _) (step_move (go1 35 false 98 rfl rfl rfl rfl) (.tmp 7) rfl (opO' 7 (.int .i64 ((i : Nat) : Int)) rfl rfl)) ?_
      refine wpL_cons (is (.pointer (some ⟨b2, i * 5, none⟩))) (stable_is _) (step_idx (go1 35 false 98 rfl rfl rfl rfl) 38 (.tmp 104) (.tmp 105) rfl _ _ _ (opT' 104 41 rfl rfl) (opT' 105 42 rfl rfl) (fun W => run_idx38 b2 (X.length) cap2 i hlt W)) ?_
      refine wpL_cons (is (.pointer (some ⟨b2, i * 5 + 1, none⟩))) (stable_is _) (step_field (go1 35 false 98 rfl rfl rfl rfl) 31 1 (.tmp 106) rfl _ _ (opT' 106 43 rfl rfl) (fun W => run_f31_1 _ _ W)) ?_
      refine wpL_cons (is (.int .i64 y.y)) (stable_is _) (step_cell (go1 35 false 98 rfl rfl rfl rfl) 3 (.tmp 107) rfl ⟨b2, i * 5 + 1, none⟩ _ (opT' 107 44 rfl rfl) (fun W h => cellUp h q1) (fun W => by kernel_rfl)) ?_
      refine wpL_cons (is (.bool false)) (stable_is _) (step_int (go1 35 false 98 rfl rfl rfl rfl) .neq 3 3 (.tmp 103) (.tmp 108) rfl .i64 .i64 _ _ _ (opT' 103 40 rfl rfl) (opT' 108 45 rfl rfl) (fun W => run_neq3 _ _ false (bne_eq_false_iff_eq.2 (by omega)) W)) ?_
      refine wpL_cons (is (.bool false)) (stable_is _) (step_pickF (go0 rfl) (.tmp 98) (.const (.bool true)) (.tmp 109) rfl (opT' 98 35 rfl rfl) (opT' 109 46 rfl rfl)) ?_
      refine wpL_cons (is (.bool false)) (stable_is _) (step_move (go0 rfl) (.tmp 110) rfl (opT' 110 47 rfl rfl)) ?_
      refine wpL_cons (is (.slice (some ⟨b1, 0, none⟩) X.length cap1)) (stable_is _) (step_move (go1 48 false 111 rfl rfl rfl rfl) (.tmp 3) rfl (opO' 3 (.slice (some ⟨b1, 0, none⟩) X.length cap1) rfl rfl)) ?_
      refine wpL_cons (is (.int .i64 ((i : Nat) : Int))) (stable_is _) (step_move (go1 48 false 111 rfl rfl rfl rfl) (.tmp 7) rfl (opO' 7 (.int .i64 ((i : Nat) : Int)) rfl rfl)) ?_
      refine wpL_cons (is (.pointer (some ⟨b1, i * 5, none⟩))) (stable_is _) (step_idx (go1 48 false 111 rfl rfl rfl rfl) 38 (.tmp 112) (.tmp 113) rfl _ _ _ (opT' 112 49 rfl rfl) (opT' 113 50 rfl rfl) (fun W => run_idx38 b1 (X.length) cap1 i hlt W)) ?_
      refine wpL_cons (is (.pointer (some ⟨b1, i * 5, none⟩))) (stable_is _) (step_field (go1 48 false 111 rfl rfl rfl rfl) 31 0 (.tmp 114) rfl _ _ (opT' 114 51 rfl rfl) (fun W => run_f31_0 _ _ W)) ?_
      refine wpL_cons (is (.int .i64 x.x)) (stable_is _) (step_cell (go1 48 false 111 rfl rfl rfl rfl) 3 (.tmp 115) rfl ⟨b1, i * 5, none⟩ _ (opT' 115 52 rfl rfl) (fun W h => cellUp h p0) (fun W => by kernel_rfl)) ?_
      refine wpL_cons (is (.slice (some ⟨b3, 0, none⟩) X.length cap3)) (stable_is _) (step_move (go1 48 false 111 rfl rfl rfl rfl) (.tmp 5) rfl (opO' 5 (.slice (some ⟨b3, 0, none⟩) X.length cap3) rfl rfl)) ?_
      refine wpL_cons (is (.int .i64 ((i : Nat) : Int))) (stable_is _) (step_move (go1 48 false 111 rfl rfl rfl rfl) (.tmp 7) rfl (opO' 7 (.int .i64 ((i : Nat) : Int)) rfl rfl)) ?_
      refine wpL_cons (is (.pointer (some ⟨b3, i * 5, none⟩))) (stable_is _) (step_idx (go1 48 false 111 rfl rfl rfl rfl) 38 (.tmp 117) (.tmp 118) rfl _ _ _ (opT' 117 54 rfl rfl) (opT' 118 55 rfl rfl) (fun W => run_idx38 b3 (X.length) cap3 i hlt W)) ?_
      refine wpL_cons (is (.pointer (some ⟨b3, i * 5, none⟩))) (stable_is _) (step_field (go1 48 false 111 rfl rfl rfl rfl) 31 0 (.tmp 119) rfl _ _ (opT' 119 56 rfl rfl) (fun W => run_f31_0 _ _ W)) ?_
      refine wpL_cons (is (.int .i64 z.x)) (stable_is _) (step_cell (go1 48 false 111 rfl rfl rfl rfl) 3 (.tmp 120) rfl ⟨b3, i * 5, none⟩ _ (opT' 120 57 rfl rfl) (fun W h => cellUp h r0) (fun W => by kernel_rfl)) ?_
      refine wpL_cons (is (.bool false)) (stable_is _) (step_int (go1 48 false 111 rfl rfl rfl rfl) .neq 3 3 (.tmp 116) (.tmp 121) rfl .i64 .i64 _ _ _ (opT' 116 53 rfl rfl) (opT' 121 58 rfl rfl) (fun W => run_neq3 _ _ false (bne_eq_false_iff_eq.2 (by omega)) W)) ?_
      refine wpL_cons (is (.bool false)) (stable_is _) (step_pickF (go0 rfl) (.tmp 111) (.const (.bool true)) (.tmp 122) rfl (opT' 111 48 rfl rfl) (opT' 122 59 rfl rfl)) ?_
      refine wpL_cons (is (.bool false)) (stable_is _) (step_move (go0 rfl) (.tmp 123) rfl (opT' 123 60 rfl rfl)) ?_
      refine wpL_cons (is (.slice (some ⟨b1, 0, none⟩) X.length cap1)) (stable_is _) (step_move (go1 61 false 124 rfl rfl rfl rfl) (.tmp 3) rfl (opO' 3 (.slice (some ⟨b1, 0, none⟩) X.length cap1) rfl rfl)) ?_
      refine wpL_cons (is (.int .i64 ((i : Nat) : Int))) (stable_is _) (step_move (go1 61 false 124 rfl rfl rfl rfl) (.tmp 7) rfl (opO' 7 (.int .i64 ((i : Nat) : Int)) rfl rfl)) ?_
      refine wpL_cons (is (.pointer (some ⟨b1, i * 5, none⟩))) (stable_is _) (step_idx (go1 61 false 124 rfl rfl rfl rfl) 38 (.tmp 125) (.tmp 126) rfl _ _ _ (opT' 125 62 rfl rfl) (opT' 126 63 rfl rfl) (fun W => run_idx38 b1 (X.length) cap1 i hlt W)) ?_
      refine wpL_cons (is (.pointer (some ⟨b1, i * 5 + 1, none⟩))) (stable_is _) (step_field (go1 61 false 124 rfl rfl rfl rfl) 31 1 (.tmp 127) rfl _ _ (opT' 127 64 rfl rfl) (fun W => run_f31_1 _ _ W)) ?_
      refine wpL_cons (is (.int .i64 x.y)) (stable_is _) (step_cell (go1 61 false 124 rfl rfl rfl rfl) 3 (.tmp 128) rfl ⟨b1, i * 5 + 1, none⟩ _ (opT' 128 65 rfl rfl) (fun W h => cellUp h p1) (fun W => by kernel_rfl)) ?_
      refine wpL_cons (is (.slice (some ⟨b3, 0, none⟩) X.length cap3)) (stable_is _) (step_move (go1 61 false 124 rfl rfl rfl rfl) (.tmp 5) rfl (opO' 5 (.slice (some ⟨b3, 0, none⟩) X.length cap3) rfl rfl)) ?_
      refine wpL_cons (is (.int .i64 ((i : Nat) : Int))) (stable_is _) (step_move (go1 61 false 124 rfl rfl rfl rfl) (.tmp 7) rfl (opO' 7 (.int .i64 ((i : Nat) : Int)) rfl rfl)) ?_
      refine wpL_cons (is (.pointer (some ⟨b3, i * 5, none⟩))) (stable_is _) (step_idx (go1 61 false 124 rfl rfl rfl rfl) 38 (.tmp 130) (.tmp 131) rfl _ _ _ (opT' 130 67 rfl rfl) (opT' 131 68 rfl rfl) (fun W => run_idx38 b3 (X.length) cap3 i hlt W)) ?_
      refine wpL_cons (is (.pointer (some ⟨b3, i * 5 + 1, none⟩))) (stable_is _) (step_field (go1 61 false 124 rfl rfl rfl rfl) 31 1 (.tmp 132) rfl _ _ (opT' 132 69 rfl rfl) (fun W => run_f31_1 _ _ W)) ?_
      refine wpL_cons (is (.int .i64 z.y)) (stable_is _) (step_cell (go1 61 false 124 rfl rfl rfl rfl) 3 (.tmp 133) rfl ⟨b3, i * 5 + 1, none⟩ _ (opT' 133 70 rfl rfl) (fun W h => cellUp h r1) (fun W => by kernel_rfl)) ?_
      refine wpL_cons (is (.bool false)) (stable_is _) (step_int (go1 61 false 124 rfl rfl rfl rfl) .neq 3 3 (.tmp 129) (.tmp 134) rfl .i64 .i64 _ _ _ (opT' 129 66 rfl rfl) (opT' 134 71 rfl rfl) (fun W => run_neq3 _ _ false (bne_eq_false_iff_eq.2 (by omega)) W)) ?_
      refine wpL_cons (is (.bool false)) (stable_is _) (step_pickF (go0 rfl) (.tmp 124) (.const (.bool true)) (.tmp 135) rfl (opT' 124 61 rfl rfl) (opT' 135 72 rfl rfl)) ?_
      refine wpL_cons (is (.bool false)) (stable_is _) (step_move (go0 rfl) (.tmp 136) rfl (opT' 136 73 rfl rfl)) ?_
      refine wpL_cons (is (.int .i64 ((i : Nat) : Int))) (stable_is _) (step_move (go1 74 false 137 rfl rfl rfl rfl) (.tmp 7) rfl (opO' 7 (.int .i64 ((i : Nat) : Int)) rfl rfl)) ?_
      refine wpL_cons (is (.bool false)) (stable_is _) (step_int (go1 74 false 137 rfl rfl rfl rfl) .gtr 3 3 (.tmp 138) (.const (.int .i64 0)) rfl .i64 .i64 _ _ _ (opT' 138 75 rfl rfl) (opC _) (fun W => run_gtr3 _ _ false (decide_eq_false (by omega)) W)) ?_
      refine wpL_cons (is (.bool false)) (stable_is _) (step_move (go1 74 false 137 rfl rfl rfl rfl) (.tmp 139) rfl (opT' 139 76 rfl rfl)) ?_
      refine wpL_cons (is (undef)) (stable_is _) (step_off 77 true 140 rfl rfl rfl rfl) ?_
      refine wpL_cons (is (undef)) (stable_is _) (step_off 77 true 140 rfl rfl rfl rfl) ?_
      refine wpL_cons (is (undef)) (stable_is _) (step_off 77 true 140 rfl rfl rfl rfl) ?_
      refine wpL_cons (is (undef)) (stable_is _) (step_off 77 true 140 rfl rfl rfl rfl) ?_
      refine wpL_cons (is (undef)) (stable_is _) (step_off 77 true 140 rfl rfl rfl rfl) ?_
      refine wpL_cons (is (undef)) (stable_is _) (step_off 77 true 140 rfl rfl rfl rfl) ?_
      refine wpL_cons (is (undef)) (stable_is _) (step_off 77 true 140 rfl rfl rfl rfl) ?_
      refine wpL_cons (is (undef)) (stable_is _) (step_off 77 true 140 rfl rfl rfl rfl) ?_
      refine wpL_cons (is (undef)) (stable_is _) (step_off 77 true 140 rfl rfl rfl rfl) ?_
      refine wpL_cons (is (undef)) (stable_is _) (step_off 77 true 140 rfl rfl rfl rfl) ?_
      refine wpL_cons (is (undef)) (stable_is _) (step_off 77 true 140 rfl rfl rfl rfl) ?_
      refine wpL_cons (is (undef)) (stable_is _) (step_off 77 true 140 rfl rfl rfl rfl) ?_
      refine wpL_cons (is (undef)) (stable_is _) (step_off 77 true 140 rfl rfl rfl rfl) ?_
      refine wpL_cons (is (undef)) (stable_is _) (step_off 77 true 140 rfl rfl rfl rfl) ?_
      refine wpL_cons (is (undef)) (stable_is _) (step_off 77 true 140 rfl rfl rfl rfl) ?_
      refine wpL_cons (is (undef)) (stable_is _) (step_off 77 true 140 rfl rfl rfl rfl) ?_
      refine wpL_cons (is (undef)) (stable_is _) (step_off 77 true 140 rfl rfl rfl rfl) ?_
      refine wpL_cons (is (undef)) (stable_is _) (step_off 77 true 140 rfl rfl rfl rfl) ?_
      refine wpL_cons (is (undef)) (stable_is _) (step_off 77 true 140 rfl rfl rfl rfl) ?_
      refine wpL_cons (is (undef)) (stable_is _) (step_off 77 true 140 rfl rfl rfl rfl) ?_
      refine wpL_cons (is (undef)) (stable_is _) (step_off 77 true 140 rfl rfl rfl rfl) ?_
      refine wpL_cons (is (undef)) (stable_is _) (step_off 77 true 140 rfl rfl rfl rfl) ?_
      refine wpL_cons (is (undef)) (stable_is _) (step_off 77 true 140 rfl rfl rfl rfl) ?_
      refine wpL_cons (is (undef)) (stable_is _) (step_off 77 true 140 rfl rfl rfl rfl) ?_
      refine wpL_cons (is (undef)) (stable_is _) (step_off 77 true 140 rfl rfl rfl rfl) ?_
      refine wpL_cons (is (undef)) (stable_is _) (step_off 77 true 140 rfl rfl rfl rfl) ?_
      refine wpL_cons (is (undef)) (stable_is _) (step_off 77 true 140 rfl rfl rfl rfl) ?_
      refine wpL_cons (is (.bool false)) (stable_is _) (step_pickF (go1 74 false 137 rfl rfl rfl rfl) (.tmp 140) (.tmp 167) (.const (.bool false)) rfl (opT' 140 77 rfl rfl) (opC _)) ?_
      refine wpL_cons (is (.bool false)) (stable_is _) (step_pickF (go0 rfl) (.tmp 137) (.const (.bool true)) (.tmp 168) rfl (opT' 137 74 rfl rfl) (opT' 168 105 rfl rfl)) ?_
      refine wpL_nil ?_
      intro v3 w4 hI2 _ hdone _
      have e169 : v3 106 = .bool false := hdone 106 169 rfl
      have hI2 : Below wr.heap.size wr w4 := hI2
      have HD := Lib.hid (And.intro (below_trans HC.out.1 hI2) (And.intro (HC.out.2.1.below hI2) (And.intro (HC.out.2.2.1.below hI2) (HC.out.2.2.2.below hI2))))
      clear hdone hI2
      simp only [List.append_eq, List.cons_append, List.nil_append, putAll, Act.put, List.setIfInBounds_toArray, List.set_cons_zero, List.set_cons_succ, Nat.zero_add, Nat.reduceAdd, e169]
      go_wp2_with fail
      go_roundw
      case rel => exact ⟨i + 1, by omega, by first | (simp; done) | (simp; omega), HD.out⟩
      case measure =>
        simp [intOf]
        omega
    · obtain ⟨u, gu, m1, m2⟩ := k8 (by omega)
      obtain ⟨b1', hb1, u0, u1, _⟩ := HC.out.2.1.get gu
      cases hb1
      refine wp_region_link 171 mixed (by kernel_rfl) (by rfl) (UpC wr) (UpC.start wr) ?_
      refine wpL_cons (is (.slice (some ⟨b1, 0, none⟩) X.length cap1)) (stable_is _) (step_move (go0 rfl) (.tmp 3) rfl (opO' 3 (.slice (some ⟨b1, 0, none⟩) X.length cap1) rfl rfl)) ?_
      refine wpL_cons (is (.int .i64 ((i : Nat) : Int))) (stable_is _) (step_move (go0 rfl) (.tmp 7) rfl (opO' 7 (.int .i64 ((i : Nat) : Int)) rfl rfl)) ?_
      refine wpL_cons (is (.pointer (some ⟨b1, i * 5, none⟩))) (stable_is _) (step_idx (go0 rfl) 38 (.tmp 63) (.tmp 64) rfl _ _ _ (opT' 63 0 rfl rfl) (opT' 64 1 rfl rfl) (fun W => run_idx38 b1 (X.length) cap1 i hlt W)) ?_
      refine wpL_cons (is (.pointer (some ⟨b1, i * 5 + 2, none⟩))) (stable_is _) (step_field (go0 rfl) 31 2 (.tmp 65) rfl _ _ (opT' 65 2 rfl rfl) (fun W => run_f31_2 _ _ W)) ?_
      refine wpL_cons (is (.pointer (some ⟨b1, i * 5 + 2, none⟩))) (stable_is _) (step_idx (go0 rfl) 29 (.tmp 66) (.const (.int .i64 0)) rfl _ _ _ (opT' 66 3 rfl rfl) (opC _) (fun W => run_i29_0 _ _ W)) ?_
      refine wpL_cons (is (.int .i64 x.e0)) (stable_is _) (step_cell (go0 rfl) 3 (.tmp 67) rfl ⟨b1, i * 5 + 2, none⟩ _ (opT' 67 4 rfl rfl) (fun W h => cellUp h p2) (fun W => by kernel_rfl)) ?_
      refine wpL_cons (is (.slice (some ⟨b1, 0, none⟩) X.length cap1)) (stable_is _) (step_move (go0 rfl) (.tmp 3) rfl (opO' 3 (.slice (some ⟨b1, 0, none⟩) X.length cap1) rfl rfl)) ?_
      refine wpL_cons (is (.int .i64 ((i : Nat) : Int))) (stable_is _) (step_move (go0 rfl) (.tmp 7) rfl (opO' 7 (.int .i64 ((i : Nat) : Int)) rfl rfl)) ?_
      refine wpL_cons (is (.pointer (some ⟨b1, i * 5, none⟩))) (stable_is _) (step_idx (go0 rfl) 38 (.tmp 69) (.tmp 70) rfl _ _ _ (opT' 69 6 rfl rfl) (opT' 70 7 rfl rfl) (fun W => run_idx38 b1 (X.length) cap1 i hlt W)) ?_
      refine wpL_cons (is (.pointer (some ⟨b1, i * 5 + 2, none⟩))) (stable_is _) (step_field (go0 rfl) 31 2 (.tmp 71) rfl _ _ (opT' 71 8 rfl rfl) (fun W => run_f31_2 _ _ W)) ?_
      refine wpL_cons (is (.pointer (some ⟨b1, i * 5 + 2 + 1, none⟩))) (stable_is _) (step_idx (go0 rfl) 29 (.tmp 72) (.const (.int .i64 1)) rfl _ _ _ (opT' 72 9 rfl rfl) (opC _) (fun W => run_i29_1 _ _ W)) ?_
      refine wpL_cons (is (.int .i64 x.e1)) (stable_is _) (step_cell (go0 rfl) 3 (.tmp 73) rfl ⟨b1, i * 5 + 2 + 1, none⟩ _ (opT' 73 10 rfl rfl) (fun W h => cellUp h p3) (fun W => by kernel_rfl)) ?_
      refine wpL_cons (is (.int .i64 (x.e0 + x.e1))) (stable_is _) (step_int (go0 rfl) .add 3 3 (.tmp 68) (.tmp 74) rfl .i64 .i64 _ _ _ (opT' 68 5 rfl rfl) (opT' 74 11 rfl rfl) (fun W => run_add3 _ _ (by omega) W)) ?_
      refine wpL_cons (is (.slice (some ⟨b1, 0, none⟩) X.length cap1)) (stable_is _) (step_move (go0 rfl) (.tmp 3) rfl (opO' 3 (.slice (some ⟨b1, 0, none⟩) X.length cap1) rfl rfl)) ?_
      refine wpL_cons (is (.int .i64 ((i : Nat) : Int))) (stable_is _) (step_move (go0 rfl) (.tmp 7) rfl (opO' 7 (.int .i64 ((i : Nat) : Int)) rfl rfl)) ?_
      refine wpL_cons (is (.pointer (some ⟨b1, i * 5, none⟩))) (stable_is _) (step_idx (go0 rfl) 38 (.tmp 76) (.tmp 77) rfl _ _ _ (opT' 76 13 rfl rfl) (opT' 77 14 rfl rfl) (fun W => run_idx38 b1 (X.length) cap1 i hlt W)) ?_
      refine wpL_cons (is (.pointer (some ⟨b1, i * 5 + 2, none⟩))) (stable_is _) (step_field (go0 rfl) 31 2 (.tmp 78) rfl _ _ (opT' 78 15 rfl rfl) (fun W => run_f31_2 _ _ W)) ?_
      refine wpL_cons (is (.pointer (some ⟨b1, i * 5 + 2 + 2, none⟩))) (stable_is _) (step_idx (go0 rfl) 29 (.tmp 79) (.const (.int .i64 2)) rfl _ _ _ (opT' 79 16 rfl rfl) (opC _) (fun W => run_i29_2 _ _ W)) ?_
      refine wpL_cons (is (.int .i64 x.e2)) (stable_is _) (step_cell (go0 rfl) 3 (.tmp 80) rfl ⟨b1, i * 5 + 2 + 2, none⟩ _ (opT' 80 17 rfl rfl) (fun W h => cellUp h p4) (fun W => by kernel_rfl)) ?_
      refine wpL_cons (is (.int .i64 (x.e0 + x.e1 + x.e2))) (stable_is _) (step_int (go0 rfl) .add 3 3 (.tmp 75) (.tmp 81) rfl .i64 .i64 _ _ _ (opT' 75 12 rfl rfl) (opT' 81 18 rfl rfl) (fun W => run_add3 _ _ (by omega) W)) ?_
      refine wpL_cons (is (.int .i64 n)) (stable_is _) (step_move (go0 rfl) (.tmp 6) rfl (opO' 6 (.int .i64 n) rfl rfl)) ?_
      refine wpL_cons (is (.bool false)) (stable_is _) (step_int (go0 rfl) .neq 3 3 (.tmp 82) (.tmp 83) rfl .i64 .i64 _ _ _ (opT' 82 19 rfl rfl) (opT' 83 20 rfl rfl) (fun W => run_neq3 _ _ false (bne_eq_false_iff_eq.2 (by omega)) W)) ?_
      refine wpL_cons (is (.bool false)) (stable_is _) (step_move (go0 rfl) (.tmp 84) rfl (opT' 84 21 rfl rfl)) ?_
      refine wpL_cons (is (.slice (some ⟨b1, 0, none⟩) X.length cap1)) (stable_is _) (step_move (go1 22 false 85 rfl rfl rfl rfl) (.tmp 3) rfl (opO' 3 (.slice (some ⟨b1, 0, none⟩) X.length cap1) rfl rfl)) ?_
      refine wpL_cons (is (.int .i64 ((i : Nat) : Int))) (stable_is _) (step_move (go1 22 false 85 rfl rfl rfl rfl) (.tmp 7) rfl (opO' 7 (.int .i64 ((i : Nat) : Int)) rfl rfl)) ?_
      refine wpL_cons (is (.pointer (some ⟨b1, i * 5, none⟩))) (stable_is _) (step_idx (go1 22 false 85 rfl rfl rfl rfl) 38 (.tmp 86) (.tmp 87) rfl _ _ _ (opT' 86 23 rfl rfl) (opT' 87 24 rfl rfl) (fun W => run_idx38 b1 (X.length) cap1 i hlt W)) ?_
      refine wpL_cons (is (.pointer (some ⟨b1, i * 5, none⟩))) (stable_is _) (step_field (go1 22 false 85 rfl rfl rfl rfl) 31 0 (.tmp 88) rfl _ _ (opT' 88 25 rfl rfl) (fun W => run_f31_0 _ _ W)) ?_
      refine wpL_cons (is (.int .i64 x.x)) (stable_is _) (step_cell (go1 22 false 85 rfl rfl rfl rfl) 3 (.tmp 89) rfl ⟨b1, i * 5, none⟩ _ (opT' 89 26 rfl rfl) (fun W h => cellUp h p0) (fun W => by kernel_rfl)) ?_
      refine wpL_cons (is (.slice (some ⟨b2, 0, none⟩) X.length cap2)) (stable_is _) (step_move (go1 22 false 85 rfl rfl rfl rfl) (.tmp 4) rfl (opO' 4 (.slice (some ⟨b2, 0, none⟩) X.length cap2) rfl rfl)) ?_
      refine wpL_cons (is (.int .i64 ((i : Nat) : Int))) (stable_is _) (step_move (go1 22 false 85 rfl rfl rfl rfl) (.tmp 7) rfl (opO' 7 (.int .i64 ((i : Nat) : Int)) rfl rfl)) ?_
      refine wpL_cons (is (.pointer (some ⟨b2, i * 5, none⟩))) (stable_is _) (step_idx (go1 22 false 85 rfl rfl rfl rfl) 38 (.tmp 91) (.tmp 92) rfl _ _ _ (opT' 91 28 rfl rfl) (opT' 92 29 rfl rfl) (fun W => run_idx38 b2 (X.length) cap2 i hlt W)) ?_
      refine wpL_cons (is (.pointer (some ⟨b2, i * 5, none⟩))) (stable_is _) (step_field (go1 22 false 85 rfl rfl rfl rfl) 31 0 (.tmp 93) rfl _ _ (opT' 93 30 rfl rfl) (fun W => run_f31_0 _ _ W)) ?_
      refine wpL_cons (is (.int .i64 y.x)) (stable_is _) (step_cell (go1 22 false 85 rfl rfl rfl rfl) 3 (.tmp 94) rfl ⟨b2, i * 5, none⟩ _ (opT' 94 31 rfl rfl) (fun W h => cellUp h q0) (fun W => by kernel_rfl)) ?_
      refine wpL_cons (is (.bool false)) (stable_is _) (step_int (go1 22 false 85 rfl rfl rfl rfl) .neq 3 3 (.tmp 90) (.tmp 95) rfl .i64 .i64 _ _ _ (opT' 90 27 rfl rfl) (opT' 95 32 rfl rfl) (fun W => run_neq3 _ _ false (bne_eq_false_iff_eq.2 (by omega)) W)) ?_
      refine wpL_cons (is (.bool false)) (stable_is _) (step_pickF (go0 rfl) (.tmp 85) (.const (.bool true)) (.tmp 96) rfl (opT' 85 22 rfl rfl) (opT' 96 33 rfl rfl)) ?_
      refine wpL_cons (is (.bool false)) (stable_is _) (step_move (go0 rfl) (.tmp 97) rfl (opT' 97 34 rfl rfl)) ?_
      refine wpL_cons (is (.slice (some ⟨b1, 0, none⟩) X.length cap1)) (stable_is _) (step_move (go1 35 false 98 rfl rfl rfl rfl) (.tmp 3) rfl (opO' 3 (.slice (some ⟨b1, 0, none⟩) X.length cap1) rfl rfl)) ?_
      refine wpL_cons (is (.int .i64 ((i : Nat) : Int))) (stable_is _) (step_move (go1 35 false 98 rfl rfl rfl rfl) (.tmp 7) rfl (opO' 7 (.int .i64 ((i : Nat) : Int)) rfl rfl)) ?_
      refine wpL_cons (is (.pointer (some ⟨b1, i * 5, none⟩))) (stable_is _) (step_idx (go1 35 false 98 rfl rfl rfl rfl) 38 (.tmp 99) (.tmp 100) rfl _ _ _ (opT' 99 36 rfl rfl) (opT' 100 37 rfl rfl) (fun W => run_idx38 b1 (X.length) cap1 i hlt W)) ?_
      refine wpL_cons (is (.pointer (some ⟨b1, i * 5 + 1, none⟩))) (stable_is _) (step_field (go1 35 false 98 rfl rfl rfl rfl) 31 1 (.tmp 101) rfl _ _ (opT' 101 38 rfl rfl) (fun W => run_f31_1 _ _ W)) ?_
      refine wpL_cons (is (.int .i64 x.y)) (stable_is _) (step_cell (go1 35 false 98 rfl rfl rfl rfl) 3 (.tmp 102) rfl ⟨b1, i * 5 + 1, none⟩ _ (opT' 102 39 rfl rfl) (fun W h => cellUp h p1) (fun W => by kernel_rfl)) ?_
      refine wpL_cons (is (.slice (some ⟨b2, 0, none⟩) X.length cap2)) (stable_is _) (step_move (go1 35 false 98 rfl rfl rfl rfl) (.tmp 4) rfl (opO' 4 (.slice (some ⟨b2, 0, none⟩) X.length cap2) rfl rfl)) ?_
      refine wpL_cons (is (.int .i64 ((i : Nat) : Int))) (stable_is _) (step_move (go1 35 false 98 rfl rfl rfl rfl) (.tmp 7) rfl (opO' 7 (.int .i64 ((i : Nat) : Int)) rfl rfl)) ?_
      refine wpL_cons (is (.pointer (some ⟨b2, i * 5, none⟩))) (stable_is _) (step_idx (go1 35 false 98 rfl rfl rfl rfl) 38 (.tmp 104) (.tmp 105) rfl _ _ _ (opT' 104 41 rfl rfl) (opT' 105 42 rfl rfl) (fun W => run_idx38 b2 (X.length) cap2 i hlt W)) ?_
      refine wpL_cons (is (.pointer (some ⟨b2, i * 5 + 1, none⟩))) (stable_is _) (step_field (go1 35 false 98 rfl rfl rfl rfl) 31 1 (.tmp 106) rfl _ _ (opT' 106 43 rfl rfl) (fun W => run_f31_1 _ _ W)) ?_
      refine wpL_cons (is (.int .i64 y.y)) (stable_is _) (step_cell (go1 35 false 98 rfl rfl rfl rfl) 3 (.tmp 107) rfl ⟨b2, i * 5 + 1, none⟩ _ (opT' 107 44 rfl rfl) (fun W h => cellUp h q1) (fun W => by kernel_rfl)) ?_
      refine wpL_cons (is (.bool false)) (stable_is _) (step_int (go1 35 false 98 rfl rfl rfl rfl) .neq 3 3 (.tmp 103) (.tmp 108) rfl .i64 .i64 _ _ _ (opT' 103 40 rfl rfl) (opT' 108 45 rfl rfl) (fun W => run_neq3 _ _ false (bne_eq_false_iff_eq.2 (by omega)) W)) ?_
      refine wpL_cons (is (.bool false)) (stable_is _) (step_pickF (go0 rfl) (.tmp 98) (.const (.bool true)) (.tmp 109) rfl (opT' 98 35 rfl rfl) (opT' 109 46 rfl rfl)) ?_
      refine wpL_cons (is (.bool false)) (stable_is _) (step_move (go0 rfl) (.tmp 110) rfl (opT' 110 47 rfl rfl)) ?_
      refine wpL_cons (is (.slice (some ⟨b1, 0, none⟩) X.length cap1)) (stable_is _) (step_move (go1 48 false 111 rfl rfl rfl rfl) (.tmp 3) rfl (opO' 3 (.slice (some ⟨b1, 0, none⟩) X.length cap1) rfl rfl)) ?_
      refine wpL_cons (is (.int .i64 ((i : Nat) : Int))) (stable_is _) (step_move (go1 48 false 111 rfl rfl rfl rfl) (.tmp 7) rfl (opO' 7 (.int .i64 ((i : Nat) : Int)) rfl rfl)) ?_
      refine wpL_cons (is (.pointer (some ⟨b1, i * 5, none⟩))) (stable_is _) (step_idx (go1 48 false 111 rfl rfl rfl rfl) 38 (.tmp 112) (.tmp 113) rfl _ _ _ (opT' 112 49 rfl rfl) (opT' 113 50 rfl rfl) (fun W => run_idx38 b1 (X.length) cap1 i hlt W)) ?_
      refine wpL_cons (is (.pointer (some ⟨b1, i * 5, none⟩))) (stable_is _) (step_field (go1 48 false 111 rfl rfl rfl rfl) 31 0 (.tmp 114) rfl _ _ (opT' 114 51 rfl rfl) (fun W => run_f31_0 _ _ W)) ?_
      refine wpL_cons (is (.int .i64 x.x)) (stable_is _) (step_cell (go1 48 false 111 rfl rfl rfl rfl) 3 (.tmp 115) rfl ⟨b1, i * 5, none⟩ _ (opT' 115 52 rfl rfl) (fun W h => cellUp h p0) (fun W => by kernel_rfl)) ?_
      refine wpL_cons (is (.slice (some ⟨b3, 0, none⟩) X.length cap3)) (stable_is _) (step_move (go1 48 false 111 rfl rfl rfl rfl) (.tmp 5) rfl (opO' 5 (.slice (some ⟨b3, 0, none⟩) X.length cap3) rfl rfl)) ?_
      refine wpL_cons (is (.int .i64 ((i : Nat) : Int))) (stable_is _) (step_move (go1 48 false 111 rfl rfl rfl rfl) (.tmp 7) rfl (opO' 7 (.int .i64 ((i : Nat) : Int)) rfl rfl)) ?_
      refine wpL_cons (is (.pointer (some ⟨b3, i * 5, none⟩))) (stable_is _) (step_idx (go1 48 false 111 rfl rfl rfl rfl) 38 (.tmp 117) (.tmp 118) rfl _ _ _ (opT' 117 54 rfl rfl) (opT' 118 55 rfl rfl) (fun W => run_idx38 b3 (X.length) cap3 i hlt W)) ?_
      refine wpL_cons (is (.pointer (some ⟨b3, i * 5, none⟩))) (stable_is _) (step_field (go1 48 false 111 rfl rfl rfl rfl) 31 0 (.tmp 119) rfl _ _ (opT' 119 56 rfl rfl) (fun W => run_f31_0 _ _ W)) ?_
      refine wpL_cons (is (.int .i64 z.x)) (stable_is _) (step_cell (go1 48 false 111 rfl rfl rfl rfl) 3 (.tmp 120) rfl ⟨b3, i * 5, none⟩ _ (opT' 120 57 rfl rfl) (fun W h => cellUp h r0) (fun W => by kernel_rfl)) ?_
      refine wpL_cons (is (.bool false)) (stable_is _) (step_int (go1 48 false 111 rfl rfl rfl rfl) .neq 3 3 (.tmp 116) (.tmp 121) rfl .i64 .i64 _ _ _ (opT' 116 53 rfl rfl) (opT' 121 58 rfl rfl) (fun W => run_neq3 _ _ false (bne_eq_false_iff_eq.2 (by omega)) W)) ?_
      refine wpL_cons (is (.bool false)) (stable_is _) (step_pickF (go0 rfl) (.tmp 111) (.const (.bool true)) (.tmp 122) rfl (opT' 111 48 rfl rfl) (opT' 122 59 rfl rfl)) ?_
      refine wpL_cons (is (.bool false)) (stable_is _) (step_move (go0 rfl) (.tmp 123) rfl (opT' 123 60 rfl rfl)) ?_
      refine wpL_cons (is (.slice (some ⟨b1, 0, none⟩) X.length cap1)) (stable_is _) (step_move (go1 61 false 124 rfl rfl rfl rfl) (.tmp 3) rfl (opO' 3 (.slice (some ⟨b1, 0, none⟩) X.length cap1) rfl rfl)) ?_
      refine wpL_cons (is (.int .i64 ((i : Nat) : Int))) (stable_is _) (step_move (go1 61 false 124 rfl rfl rfl rfl) (.tmp 7) rfl (opO' 7 (.int .i64 ((i : Nat) : Int)) rfl rfl)) ?_
      refine wpL_cons (is (.pointer (some ⟨b1, i * 5, none⟩))) (stable_is _) (step_idx (go1 61 false 124 rfl rfl rfl rfl) 38 (.tmp 125) (.tmp 126) rfl _ _ _ (opT' 125 62 rfl rfl) (opT' 126 63 rfl rfl) (fun W => run_idx38 b1 (X.length) cap1 i hlt W)) ?_
      refine wpL_cons (is (.pointer (some ⟨b1, i * 5 + 1, none⟩))) (stable_is _) (step_field (go1 61 false 124 rfl rfl rfl rfl) 31 1 (.tmp 127) rfl _ _ (opT' 127 64 rfl rfl) (fun W => run_f31_1 _ _ W)) ?_
      refine wpL_cons (is (.int .i64 x.y)) (stable_is _) (step_cell (go1 61 false 124 rfl rfl rfl rfl) 3 (.tmp 128) rfl ⟨b1, i * 5 + 1, none⟩ _ (opT' 128 65 rfl rfl) (fun W h => cellUp h p1) (fun W => by kernel_rfl)) ?_
      refine wpL_cons (is (.slice (some ⟨b3, 0, none⟩) X.length cap3)) (stable_is _) (step_move (go1 61 false 124 rfl rfl rfl rfl) (.tmp 5) rfl (opO' 5 (.slice (some ⟨b3, 0, none⟩) X.length cap3) rfl rfl)) ?_
      refine wpL_cons (is (.int .i64 ((i : Nat) : Int))) (stable_is _) (step_move (go1 61 false 124 rfl rfl rfl rfl) (.tmp 7) rfl (opO' 7 (.int .i64 ((i : Nat) : Int)) rfl rfl)) ?_
      refine wpL_cons (is (.pointer (some ⟨b3, i * 5, none⟩))) (stable_is _) (step_idx (go1 61 false 124 rfl rfl rfl rfl) 38 (.tmp 130) (.tmp 131) rfl _ _ _ (opT' 130 67 rfl rfl) (opT' 131 68 rfl rfl) (fun W => run_idx38 b3 (X.length) cap3 i hlt W)) ?_
      refine wpL_cons (is (.pointer (some ⟨b3, i * 5 + 1, none⟩))) (stable_is _) (step_field (go1 61 false 124 rfl rfl rfl rfl) 31 1 (.tmp 132) rfl _ _ (opT' 132 69 rfl rfl) (fun W => run_f31_1 _ _ W)) ?_
      refine wpL_cons (is (.int .i64 z.y)) (stable_is _) (step_cell (go1 61 false 124 rfl rfl rfl rfl) 3 (.tmp 133) rfl ⟨b3, i * 5 + 1, none⟩ _ (opT' 133 70 rfl rfl) (fun W h => cellUp h r1) (fun W => by kernel_rfl)) ?_
      refine wpL_cons (is (.bool false)) (stable_is _) (step_int (go1 61 false 124 rfl rfl rfl rfl) .neq 3 3 (.tmp 129) (.tmp 134) rfl .i64 .i64 _ _ _ (opT' 129 66 rfl rfl) (opT' 134 71 rfl rfl) (fun W => run_neq3 _ _ false (bne_eq_false_iff_eq.2 (by omega)) W)) ?_
      refine wpL_cons (is (.bool false)) (stable_is _) (step_pickF (go0 rfl) (.tmp 124) (.const (.bool true)) (.tmp 135) rfl (opT' 124 61 rfl rfl) (opT' 135 72 rfl rfl)) ?_
      refine wpL_cons (is (.bool false)) (stable_is _) (step_move (go0 rfl) (.tmp 136) rfl (opT' 136 73 rfl rfl)) ?_
      refine wpL_cons (is (.int .i64 ((i : Nat) : Int))) (stable_is _) (step_move (go1 74 false 137 rfl rfl rfl rfl) (.tmp 7) rfl (opO' 7 (.int .i64 ((i : Nat) : Int)) rfl rfl)) ?_
      refine wpL_cons (is (.bool true)) (stable_is _) (step_int (go1 74 false 137 rfl rfl rfl rfl) .gtr 3 3 (.tmp 138) (.const (.int .i64 0)) rfl .i64 .i64 _ _ _ (opT' 138 75 rfl rfl) (opC _) (fun W => run_gtr3 _ _ true (decide_eq_true (by omega)) W)) ?_
      refine wpL_cons (is (.bool true)) (stable_is _) (step_move (go1 74 false 137 rfl rfl rfl rfl) (.tmp 139) rfl (opT' 139 76 rfl rfl)) ?_
      refine wpL_cons (is (.slice (some ⟨b1, 0, none⟩) X.length cap1)) (stable_is _) (step_move (go1 77 true 140 rfl rfl rfl rfl) (.tmp 3) rfl (opO' 3 (.slice (some ⟨b1, 0, none⟩) X.length cap1) rfl rfl)) ?_
      refine wpL_cons (is (.int .i64 ((i : Nat) : Int))) (stable_is _) (step_move (go1 77 true 140 rfl rfl rfl rfl) (.tmp 7) rfl (opO' 7 (.int .i64 ((i : Nat) : Int)) rfl rfl)) ?_
      refine wpL_cons (is (.int .i64 ((i - 1 : Nat) : Int))) (stable_is _) (step_int (go1 77 true 140 rfl rfl rfl rfl) .sub 3 3 (.tmp 142) (.const (.int .i64 1)) rfl .i64 .i64 _ _ _ (opT' 142 79 rfl rfl) (opC _) (fun W => (run_sub3 _ _ (by omega) W).trans (by rw [show ((i : Nat) : Int) - 1 = ((i - 1 : Nat) : Int) by omega]))) ?_
      refine wpL_cons (is (.pointer (some ⟨b1, (i - 1) * 5, none⟩))) (stable_is _) (step_idx (go1 77 true 140 rfl rfl rfl rfl) 38 (.tmp 141) (.tmp 143) rfl _ _ _ (opT' 141 78 rfl rfl) (opT' 143 80 rfl rfl) (fun W => run_idx38 b1 (X.length) cap1 (i - 1) (by omega) W)) ?_
      refine wpL_cons (is (.pointer (some ⟨b1, (i - 1) * 5 + 1, none⟩))) (stable_is _) (step_field (go1 77 true 140 rfl rfl rfl rfl) 31 1 (.tmp 144) rfl _ _ (opT' 144 81 rfl rfl) (fun W => run_f31_1 _ _ W)) ?_
      refine wpL_cons (is (.int .i64 u.y)) (stable_is _) (step_cell (go1 77 true 140 rfl rfl rfl rfl) 3 (.tmp 145) rfl ⟨b1, (i - 1) * 5 + 1, none⟩ _ (opT' 145 82 rfl rfl) (fun W h => cellUp h u1) (fun W => by kernel_rfl)) ?_
      refine wpL_cons (is (.int .i64 ((32) * (u.y)))) (stable_is _) (step_int (go1 77 true 140 rfl rfl rfl rfl) .mul 3 3 (.const (.int .i64 32)) (.tmp 146) rfl .i64 .i64 _ _ _ (opC _) (opT' 146 83 rfl rfl) (fun W => run_mul3 _ _ (by omega) W)) ?_
      refine wpL_cons (is (.slice (some ⟨b1, 0, none⟩) X.length cap1)) (stable_is _) (step_move (go1 77 true 140 rfl rfl rfl rfl) (.tmp 3) rfl (opO' 3 (.slice (some ⟨b1, 0, none⟩) X.length cap1) rfl rfl)) ?_
      refine wpL_cons (is (.int .i64 ((i : Nat) : Int))) (stable_is _) (step_move (go1 77 true 140 rfl rfl rfl rfl) (.tmp 7) rfl (opO' 7 (.int .i64 ((i : Nat) : Int)) rfl rfl)) ?_
      refine wpL_cons (is (.int .i64 ((i - 1 : Nat) : Int))) (stable_is _) (step_int (go1 77 true 140 rfl rfl rfl rfl) .sub 3 3 (.tmp 149) (.const (.int .i64 1)) rfl .i64 .i64 _ _ _ (opT' 149 86 rfl rfl) (opC _) (fun W => (run_sub3 _ _ (by omega) W).trans (by rw [show ((i : Nat) : Int) - 1 = ((i - 1 : Nat) : Int) by omega]))) ?_
      refine wpL_cons (is (.pointer (some ⟨b1, (i - 1) * 5, none⟩))) (stable_is _) (step_idx (go1 77 true 140 rfl rfl rfl rfl) 38 (.tmp 148) (.tmp 150) rfl _ _ _ (opT' 148 85 rfl rfl) (opT' 150 87 rfl rfl) (fun W => run_idx38 b1 (X.length) cap1 (i - 1) (by omega) W)) ?_
      refine wpL_cons (is (.pointer (some ⟨b1, (i - 1) * 5, none⟩))) (stable_is _) (step_field (go1 77 true 140 rfl rfl rfl rfl) 31 0 (.tmp 151) rfl _ _ (opT' 151 88 rfl rfl) (fun W => run_f31_0 _ _ W)) ?_
      refine wpL_cons (is (.int .i64 u.x)) (stable_is _) (step_cell (go1 77 true 140 rfl rfl rfl rfl) 3 (.tmp 152) rfl ⟨b1, (i - 1) * 5, none⟩ _ (opT' 152 89 rfl rfl) (fun W h => cellUp h u0) (fun W => by kernel_rfl)) ?_
      refine wpL_cons (is (.int .i64 (((32) * (u.y)) + u.x))) (stable_is _) (step_int (go1 77 true 140 rfl rfl rfl rfl) .add 3 3 (.tmp 147) (.tmp 153) rfl .i64 .i64 _ _ _ (opT' 147 84 rfl rfl) (opT' 153 90 rfl rfl) (fun W => run_add3 _ _ (by omega) W)) ?_
      refine wpL_cons (is (.slice (some ⟨b1, 0, none⟩) X.length cap1)) (stable_is _) (step_move (go1 77 true 140 rfl rfl rfl rfl) (.tmp 3) rfl (opO' 3 (.slice (some ⟨b1, 0, none⟩) X.length cap1) rfl rfl)) ?_
      refine wpL_cons (is (.int .i64 ((i : Nat) : Int))) (stable_is _) (step_move (go1 77 true 140 rfl rfl rfl rfl) (.tmp 7) rfl (opO' 7 (.int .i64 ((i : Nat) : Int)) rfl rfl)) ?_
      refine wpL_cons (is (.pointer (some ⟨b1, i * 5, none⟩))) (stable_is _) (step_idx (go1 77 true 140 rfl rfl rfl rfl) 38 (.tmp 155) (.tmp 156) rfl _ _ _ (opT' 155 92 rfl rfl) (opT' 156 93 rfl rfl) (fun W => run_idx38 b1 (X.length) cap1 i hlt W)) ?_
      refine wpL_cons (is (.pointer (some ⟨b1, i * 5 + 1, none⟩))) (stable_is _) (step_field (go1 77 true 140 rfl rfl rfl rfl) 31 1 (.tmp 157) rfl _ _ (opT' 157 94 rfl rfl) (fun W => run_f31_1 _ _ W)) ?_
      refine wpL_cons (is (.int .i64 x.y)) (stable_is _) (step_cell (go1 77 true 140 rfl rfl rfl rfl) 3 (.tmp 158) rfl ⟨b1, i * 5 + 1, none⟩ _ (opT' 158 95 rfl rfl) (fun W h => cellUp h p1) (fun W => by kernel_rfl)) ?_
      refine wpL_cons (is (.int .i64 ((32) * (x.y)))) (stable_is _) (step_int (go1 77 true 140 rfl rfl rfl rfl) .mul 3 3 (.const (.int .i64 32)) (.tmp 159) rfl .i64 .i64 _ _ _ (opC _) (opT' 159 96 rfl rfl) (fun W => run_mul3 _ _ (by omega) W)) ?_
      refine wpL_cons (is (.slice (some ⟨b1, 0, none⟩) X.length cap1)) (stable_is _) (step_move (go1 77 true 140 rfl rfl rfl rfl) (.tmp 3) rfl (opO' 3 (.slice (some ⟨b1, 0, none⟩) X.length cap1) rfl rfl)) ?_
      refine wpL_cons (is (.int .i64 ((i : Nat) : Int))) (stable_is _) (step_move (go1 77 true 140 rfl rfl rfl rfl) (.tmp 7) rfl (opO' 7 (.int .i64 ((i : Nat) : Int)) rfl rfl)) ?_
      refine wpL_cons (is (.pointer (some ⟨b1, i * 5, none⟩))) (stable_is _) (step_idx (go1 77 true 140 rfl rfl rfl rfl) 38 (.tmp 161) (.tmp 162) rfl _ _ _ (opT' 161 98 rfl rfl) (opT' 162 99 rfl rfl) (fun W => run_idx38 b1 (X.length) cap1 i hlt W)) ?_
      refine wpL_cons (is (.pointer (some ⟨b1, i * 5, none⟩))) (stable_is _) (step_field (go1 77 true 140 rfl rfl rfl rfl) 31 0 (.tmp 163) rfl _ _ (opT' 163 100 rfl rfl) (fun W => run_f31_0 _ _ W)) ?_
      refine wpL_cons (is (.int .i64 x.x)) (stable_is _) (step_cell (go1 77 true 140 rfl rfl rfl rfl) 3 (.tmp 164) rfl ⟨b1, i * 5, none⟩ _ (opT' 164 101 rfl rfl) (fun W h => cellUp h p0) (fun W => by kernel_rfl)) ?_
      refine wpL_cons (is (.int .i64 (((32) * (x.y)) + x.x))) (stable_is _) (step_int (go1 77 true 140 rfl rfl rfl rfl) .add 3 3 (.tmp 160) (.tmp 165) rfl .i64 .i64 _ _ _ (opT' 160 97 rfl rfl) (opT' 165 102 rfl rfl) (fun W => run_add3 _ _ (by omega) W)) ?_
      refine wpL_cons (is (.bool false)) (stable_is _) (step_int (go1 77 true 140 rfl rfl rfl rfl) .geq 3 3 (.tmp 154) (.tmp 166) rfl .i64 .i64 _ _ _ (opT' 154 91 rfl rfl) (opT' 166 103 rfl rfl) (fun W => run_geq3 _ _ false (decide_eq_false (by omega)) W)) ?_
      refine wpL_cons (is (.bool false)) (stable_is _) (step_pickT (go1 74 false 137 rfl rfl rfl rfl) (.tmp 140) (.tmp 167) (.const (.bool false)) rfl (opT' 140 77 rfl rfl) (opT' 167 104 rfl rfl)) ?_
      refine wpL_cons (is (.bool false)) (stable_is _) (step_pickF (go0 rfl) (.tmp 137) (.const (.bool true)) (.tmp 168) rfl (opT' 137 74 rfl rfl) (opT' 168 105 rfl rfl)) ?_
      refine wpL_nil ?_
      intro v3 w4 hI2 _ hdone _
      have e169 : v3 106 = .bool false := hdone 106 169 rfl
      have hI2 : Below wr.heap.size wr w4 := hI2
      have HD := Lib.hid (And.intro (below_trans HC.out.1 hI2) (And.intro (HC.out.2.1.below hI2) (And.intro (HC.out.2.2.1.below hI2) (HC.out.2.2.2.below hI2))))
      clear hdone hI2
      simp only [List.append_eq, List.cons_append, List.nil_append, putAll, Act.put, List.setIfInBounds_toArray, List.set_cons_zero, List.set_cons_succ, Nat.zero_add, Nat.reduceAdd, e169]
      go_wp2_with fail
      go_roundw
      case rel => exact ⟨i + 1, by omega, by first | (simp; done) | (simp; omega), HD.out⟩
      case measure =>
        simp [intOf]
        omega

namespace edgeSums
open Go.ChangeShapes Go.WideShapes Go.ChangeAt Go.RowKit
set_option linter.unusedVariables false

theorem own : ownKnob Try.prog.godebug = none := by kernel_rfl
theorem laidOut : laidOutB Try.prog = true := by kernel_rfl
/-! ### THE ROW's STEP -/
set_option maxRecDepth 100000 in
theorem lifted (os : Os) (started : os.Started) (H : Type) (enc : TypeId × Value → H) :
    ReturnsInHanded {} Try.checked os 5 .any (Rows.edgeSumsSpec.pre6 enc Try.prog Try.f5 Rows.edgeSumsRow.domain false) (Rows.edgeSumsSpec.post enc Try.prog Try.f5 false true false false) := by
  refine returnsInHanded_of_change (C := Try.checked) own started (by kernel_rfl) Try.func5
    (ChangeSpec.witness6 (enc := enc) (C := Try.checked) false ⟨#[], #[.agg #[.int .i64 0, .int .i64 0, .int .i64 0, .int .i64 0, .int .i64 0, .int .i64 0, .int .i64 0, .int .i64 0, .int .i64 0, .int .i64 0, .int .i64 0, .int .i64 0, .int .i64 0, .int .i64 0, .int .i64 0, .int .i64 0, .int .i64 0, .int .i64 0]], []⟩ 8 (by kernel_rfl) (by kernel_rfl) (by kernel_rfl) (by kernel_rfl)) ?_
  intro W base args ds gs before hval0 hW hcnd _
  have hval : ∀ (j : Nat) t v, Try.f5.params[j]? = some t → args[j]? = some v → Value.okWide Try.prog W .any base t v := hval0
  have hW' := hW
  obtain ⟨p, q, hA0, hV, rfl, hfz, hnd⟩ := hW
  have hA : DataW.TrodAll enc Try.prog W 0 (fun _ => true) true Try.f5.params.toList args.toList ds p := hA0
  rw [Try.params5] at hA hval
  obtain ⟨v0, vs0, d0, ds0, p0, q0, hargs, rfl, rfl, h0, r0⟩ := trodAll_cons hA
  obtain ⟨rfl, rfl, rfl⟩ := trodAll_nil r0
  obtain rfl : args = #[v0] := by cases args; simp_all
  obtain ⟨rfl, rfl⟩ := trodVars_none hV
  obtain ⟨x0, y0, z0, rfl⟩ := arg_tri (hval 0 24 v0 rfl rfl) h0
  have lt0 : ∀ x ∈ p0, x.block < W.heap.size := by obtain ⟨m, hm⟩ := h0; exact DataW.trod_lt m _ _ _ hm
  clear hA0 hval0
  refine (Sums_walk x0 y0 z0 W).mono fun e W' ⟨he, bel⟩ => ?_
  subst he
  exact ⟨_, rfl, _, _, _, [], _, [], hW', trodAll_mk1 (shut_bool Try.underlying4 _), (trodAll_cons_mk (Below.trod laidOut (by kernel_rfl) (of_decide_eq_true (by kernel_rfl)) h0 bel lt0) trodAll_mk0), rfl, bel.frame _, fun h => by cases h⟩

theorem over : Rows.edgeSumsRow.holds Try.pinned (OpenSpec.ofChange Rows.edgeSumsSpec) :=
  OpenClaim.holds_of_wide 5 Try.f5 rfl rfl rfl rfl rfl rfl rfl ⟨rfl, rfl, rfl, rfl, rfl⟩ rfl rfl rfl rfl rfl (by kernel_rfl) Try.func5 (by kernel_rfl)
    (of_decide_eq_true (by kernel_rfl)) (by unfold Func.isWrapper; first | (rw [if_pos (by decide +kernel)]; kernel_rfl) | (rw [if_neg (by decide +kernel)]; exact ⟨rfl, rfl⟩))
    (fun os started H enc _ => lifted os started H enc)

/-- THE STATEMENT -/
theorem proved : Rows.EdgeSumsSaid := over
end edgeSums

end Go.Proofs.Ytgkidgpdgcdgnaa
