/- 'SuperNewer' returns true for every input: of two blocks the newer one is that with the greater number. -/
import Derived.Test.YtccdciokokcomaaAwake
import Derived.Test.YtccdciokokcomaaArgR
import Derived.Deep.QuietTactic
import Derived.BigQuiet
import Derived.ProofKit
import Derived.OpenShut
import Derived.ShutString
import Derived.ChangeOld
import Derived.Below
namespace Go.Proofs.Ytccdciokokcomaa
open Go.RowKit

theorem newer_val (a b : Blk) (p q : Bool) (n : Int) (h : newer a b p q = n) (w : World) : Calls Try.prog 15 #[.agg (blkA a), .agg (blkA b), .bool p, .bool q] w fun e w' => e = .returned (.int .i64 n) ∧ Below w.heap.size w w' := h ▸ newer_walk a b p q w
theorem BlkAt.gen {w : World} {t b : Nat} {x : Blk} (h : BlkAt w t b x) : w.cell? ⟨b, 0, none⟩ = some (.int .i64 x.gen) := by
  rw [cell_of_row _ _ _ _ _ _ h]; unfold blkA; rfl
set_option maxRecDepth 100000 in
theorem newer_law (x : Blk) (_ : x.sum < 4294967296) (y : Blk) (_ : y.sum < 4294967296) (p q : Bool) (w : World) : Calls Try.prog 5 #[.agg (blkA x), .agg (blkA y), .bool p, .bool q] w fun e w' => e = .returned (.bool true) ∧ Below w.heap.size w w' := by
  have hb1 : BlkAt ((w.alloc (.cells (blkA x) 24)).alloc (.cells (blkA y) 24)) 24 w.heap.size x := (BlkAt.new w 24 x).below (below_alloc _ _)
  have hb2 : BlkAt ((w.alloc (.cells (blkA x) 24)).alloc (.cells (blkA y) 24)) 24 (w.heap.size + 1) y := by have := BlkAt.new (w.alloc (.cells (blkA x) 24)) 24 y; simpa using this
  have HB0 := Lib.hid (And.intro (below_trans (below_alloc w (.cells (blkA x) 24)) (below_alloc _ (.cells (blkA y) 24))) (And.intro hb1 hb2))
  clear hb1 hb2
  obtain ⟨m, hm⟩ : ∃ m, newer x y p q = m := ⟨_, rfl⟩
  obtain ⟨n, hn⟩ : ∃ n, newer y x q p = n := ⟨_, rfl⟩
  have HM := Lib.hid hm
  have HN := Lib.hid hn
  go_enter Try.func5, Try.ntmps5
  go_upto_region 1 with fail
  obtain ⟨w1, hw1⟩ : ∃ w1, w1 = (w.alloc (.cells (blkA x) 24)).alloc (.cells (blkA y) 24) := ⟨_, rfl⟩
  rw [← hw1] at HB0 ⊢
  clear hw1
  have HB := HB0
  refine wp_region_link 88 mixed (by kernel_rfl) (by rfl) (UpC w1) (UpC.start w1) ?_
  refine wpL_cons (is (.agg (blkA x))) (stable_is _) (step_loadRow (go0 rfl) 24 (.tmp 4) rfl (w.heap.size) 24 (blkA x) (0, 0) _ (opO' 4 (.pointer (some ⟨w.heap.size, 0, none⟩)) rfl rfl) (fun W h => (HB.out.2.1.below h)) Try.underlying24 rfl (size24 x)) ?_
  refine wpL_cons (is (.agg (blkA y))) (stable_is _) (step_loadRow (go0 rfl) 24 (.tmp 5) rfl (w.heap.size + 1) 24 (blkA y) (0, 0) _ (opO' 5 (.pointer (some ⟨w.heap.size + 1, 0, none⟩)) rfl rfl) (fun W h => (HB.out.2.2.below h)) Try.underlying24 rfl (size24 y)) ?_
  refine wpL_cons (is (.bool p)) (stable_is _) (step_move (go0 rfl) (.tmp 2) rfl (opO' 2 (.bool p) rfl rfl)) ?_
  refine wpL_cons (is (.bool q)) (stable_is _) (step_move (go0 rfl) (.tmp 3) rfl (opO' 3 (.bool q) rfl rfl)) ?_
  refine wpL_cons (is (.int .i64 m)) (stable_is _) (step_newer (go0 rfl) (.tmp 13) (.tmp 14) (.tmp 15) (.tmp 16) _ rfl x y p q m HM.out (opT' 13 0 rfl rfl) (opT' 14 1 rfl rfl) (opT' 15 2 rfl rfl) (opT' 16 3 rfl rfl)) ?_
  refine wpL_cons (is (.agg (blkA y))) (stable_is _) (step_loadRow (go0 rfl) 24 (.tmp 5) rfl (w.heap.size + 1) 24 (blkA y) (0, 0) _ (opO' 5 (.pointer (some ⟨w.heap.size + 1, 0, none⟩)) rfl rfl) (fun W h => (HB.out.2.2.below h)) Try.underlying24 rfl (size24 y)) ?_
  refine wpL_cons (is (.agg (blkA x))) (stable_is _) (step_loadRow (go0 rfl) 24 (.tmp 4) rfl (w.heap.size) 24 (blkA x) (0, 0) _ (opO' 4 (.pointer (some ⟨w.heap.size, 0, none⟩)) rfl rfl) (fun W h => (HB.out.2.1.below h)) Try.underlying24 rfl (size24 x)) ?_
  refine wpL_cons (is (.bool q)) (stable_is _) (step_move (go0 rfl) (.tmp 3) rfl (opO' 3 (.bool q) rfl rfl)) ?_
  refine wpL_cons (is (.bool p)) (stable_is _) (step_move (go0 rfl) (.tmp 2) rfl (opO' 2 (.bool p) rfl rfl)) ?_
  refine wpL_cons (is (.int .i64 n)) (stable_is _) (step_newer (go0 rfl) (.tmp 18) (.tmp 19) (.tmp 20) (.tmp 21) _ rfl y x q p n HN.out (opT' 18 5 rfl rfl) (opT' 19 6 rfl rfl) (opT' 20 7 rfl rfl) (opT' 21 8 rfl rfl)) ?_
  refine wpL_cons (is (.int .i64 m)) (stable_is _) (step_assign (go0 rfl) (.tmp 17) rfl (opT' 17 4 rfl rfl)) ?_
  refine wpL_cons (is (.int .i64 n)) (stable_is _) (step_assign (go0 rfl) (.tmp 22) rfl (opT' 22 9 rfl rfl)) ?_
  refine wpL_nil ?_
  intro v w2 hI _ hdone _
  have e4 : v 10 = .int .i64 m := hdone 10 9 rfl
  have e9 : v 11 = .int .i64 n := hdone 11 10 rfl
  have hI : Below w1.heap.size w1 w2 := hI
  have HB2 := Lib.hid (And.intro (below_trans HB.out.1 hI) (And.intro (HB.out.2.1.below hI) (HB.out.2.2.below hI)))
  clear hdone hI HB HB0
  simp only [putAll, Act.put, List.setIfInBounds_toArray, List.set_cons_zero, List.set_cons_succ, Nat.zero_add, Nat.reduceAdd, e4, e9]
  have hx := HB2.out.2.1.gen
  have hy := HB2.out.2.2.gen
  obtain ⟨gx, hgx⟩ : ∃ g, g = x.gen := ⟨_, rfl⟩
  obtain ⟨gy, hgy⟩ : ∃ g, g = y.gen := ⟨_, rfl⟩
  unfold newer at hm hn
  rw [← hgx, ← hgy] at hm hn
  rw [← hgx] at hx
  rw [← hgy] at hy
  clear hgx hgy
  cases p <;> cases q
  · obtain rfl : -1 = m := by simpa using hm
    obtain rfl : -1 = n := by simpa using hn
    clear hm hn
    go_wp2_with (first
      | (go_at_call 6; with_reducible refine (awake_walk _).mono ?_
         rintro e w3 ⟨rfl, hb3⟩
         have HZ := Lib.hid (below_trans HB2.out.1 hb3)
         clear hb3)
      | fail)
    go_ret
    exact ⟨rfl, HZ.out⟩
  · obtain rfl : 1 = m := by simpa using hm
    obtain rfl : 0 = n := by simpa using hn
    clear hm hn
    go_wp2_with (first
      | (go_at_call 6; with_reducible refine (awake_walk _).mono ?_
         rintro e w3 ⟨rfl, hb3⟩
         have HZ := Lib.hid (below_trans HB2.out.1 hb3)
         clear hb3)
      | fail)
    go_ret
    exact ⟨rfl, HZ.out⟩
  · obtain rfl : 0 = m := by simpa using hm
    obtain rfl : 1 = n := by simpa using hn
    clear hm hn
    go_wp2_with (first
      | (go_at_call 6; with_reducible refine (awake_walk _).mono ?_
         rintro e w3 ⟨rfl, hb3⟩
         have HZ := Lib.hid (below_trans HB2.out.1 hb3)
         clear hb3)
      | fail)
    go_ret
    exact ⟨rfl, HZ.out⟩
  · have hc : gx = gy ∨ gx < gy ∨ gy < gx := by omega
    rcases hc with rfl | hc | hc
    · obtain rfl : 0 = m := by simpa using hm
      obtain rfl : 0 = n := by simpa using hn
      clear hm hn
      go_wp2_with (first
        | (go_at_call 6; with_reducible refine (awake_walk _).mono ?_
           rintro e w3 ⟨rfl, hb3⟩
           have HZ := Lib.hid (below_trans HB2.out.1 hb3)
           clear hb3)
        | fail)
      go_ret
      exact ⟨rfl, HZ.out⟩
    · obtain rfl : 1 = m := by rw [← hm]; simp [Int.not_le.2 hc]
      obtain rfl : 0 = n := by rw [← hn]; simp [Int.le_of_lt hc]
      have hne : ¬ gx = gy := by omega
      clear hm hn
      go_wp2_with (first
        | (go_at_call 6; with_reducible refine (awake_walk _).mono ?_
           rintro e w3 ⟨rfl, hb3⟩
           have HZ := Lib.hid (below_trans HB2.out.1 hb3)
           clear hb3)
        | fail)
      go_ret
      exact ⟨rfl, HZ.out⟩
    · obtain rfl : 0 = m := by rw [← hm]; simp [Int.le_of_lt hc]
      obtain rfl : 1 = n := by rw [← hn]; simp [Int.not_le.2 hc]
      have hne : ¬ gx = gy := by omega
      clear hm hn
      go_wp2_with (first
        | (go_at_call 6; with_reducible refine (awake_walk _).mono ?_
           rintro e w3 ⟨rfl, hb3⟩
           have HZ := Lib.hid (below_trans HB2.out.1 hb3)
           clear hb3)
        | fail)
      go_ret
      exact ⟨rfl, HZ.out⟩

namespace superNewer
open Go.ChangeShapes Go.WideShapes Go.ChangeAt Go.RowKit
set_option linter.unusedVariables false

theorem own : ownKnob Try.prog.godebug = none := by kernel_rfl
theorem laidOut : laidOutB Try.prog = true := by kernel_rfl
/-! ### THE ROW's STEP -/
set_option maxRecDepth 100000 in
theorem lifted (os : Os) (started : os.Started) (H : Type) (enc : TypeId × Value → H) :
    ReturnsInHanded {} Try.checked os 5 .any (Rows.superNewerSpec.pre6 enc Try.prog Try.f5 Rows.superNewerRow.domain false) (Rows.superNewerSpec.post enc Try.prog Try.f5 false true false false) := by
  refine returnsInHanded_of_change (C := Try.checked) own started (by kernel_rfl) Try.func5
    (ChangeSpec.witness6 (enc := enc) (C := Try.checked) false ⟨#[], #[.agg #[.int .i64 0, .int .i64 0, .bool false, .int .i64 0, .int .i64 0, .int .u32 0], .agg #[.int .i64 0, .int .i64 0, .bool false, .int .i64 0, .int .i64 0, .int .u32 0], .bool false, .bool false], []⟩ 8 (by kernel_rfl) (by kernel_rfl) (by kernel_rfl) (by kernel_rfl)) ?_
  intro W base args ds gs before hval0 hW hcnd _
  have hval : ∀ (j : Nat) t v, Try.f5.params[j]? = some t → args[j]? = some v → Value.okWide Try.prog W .any base t v := hval0
  have hW' := hW
  obtain ⟨p, q, hA0, hV, rfl, hfz, hnd⟩ := hW
  have hA : DataW.TrodAll enc Try.prog W 0 (fun _ => true) true Try.f5.params.toList args.toList ds p := hA0
  rw [Try.params5] at hA hval
  obtain ⟨v0, vs0, d0, ds0, p0, q0, hargs, rfl, rfl, h0, r0⟩ := trodAll_cons hA
  obtain ⟨v1, vs1, d1, ds1, p1, q1, rfl, rfl, rfl, h1, r1⟩ := trodAll_cons r0
  obtain ⟨v2, vs2, d2, ds2, p2, q2, rfl, rfl, rfl, h2, r2⟩ := trodAll_cons r1
  obtain ⟨v3, vs3, d3, ds3, p3, q3, rfl, rfl, rfl, h3, r3⟩ := trodAll_cons r2
  obtain ⟨rfl, rfl, rfl⟩ := trodAll_nil r3
  obtain rfl : args = #[v0, v1, v2, v3] := by cases args; simp_all
  obtain ⟨rfl, rfl⟩ := trodVars_none hV
  obtain ⟨x0, rfl, s0⟩ := arg_blk (hval 0 24 v0 rfl rfl) h0
  have lt0 : ∀ x ∈ p0, x.block < W.heap.size := by obtain ⟨m, hm⟩ := h0; exact DataW.trod_lt m _ _ _ hm
  obtain ⟨x1, rfl, s1⟩ := arg_blk (hval 1 24 v1 rfl rfl) h1
  have lt1 : ∀ x ∈ p1, x.block < W.heap.size := by obtain ⟨m, hm⟩ := h1; exact DataW.trod_lt m _ _ _ hm
  obtain ⟨a2, rfl, rfl, rfl⟩ := open_bool Try.underlying4 (hval 2 4 v2 rfl rfl) h2
  obtain ⟨a3, rfl, rfl, rfl⟩ := open_bool Try.underlying4 (hval 3 4 v3 rfl rfl) h3
  clear hA0 hval0
  refine (newer_law x0 s0 x1 s1 a2 a3 W).mono fun e W' ⟨he, bel⟩ => ?_
  subst he
  exact ⟨_, rfl, _, _, _, [], _, [], hW', trodAll_mk1 (shut_bool Try.underlying4 _), (trodAll_cons_mk (Below.trod laidOut (by kernel_rfl) (of_decide_eq_true (by kernel_rfl)) h0 bel lt0) (trodAll_cons_mk (Below.trod laidOut (by kernel_rfl) (of_decide_eq_true (by kernel_rfl)) h1 bel lt1) (trodAll_cons_mk (shut_bool Try.underlying4 _) (trodAll_cons_mk (shut_bool Try.underlying4 _) trodAll_mk0)))), rfl, bel.frame _, fun h => by cases h⟩

theorem over : Rows.superNewerRow.holds Try.pinned (OpenSpec.ofChange Rows.superNewerSpec) :=
  OpenClaim.holds_of_wide 5 Try.f5 rfl rfl rfl rfl rfl rfl rfl ⟨rfl, rfl, rfl, rfl, rfl⟩ rfl rfl rfl rfl rfl (by kernel_rfl) Try.func5 (by kernel_rfl)
    (of_decide_eq_true (by kernel_rfl)) (by unfold Func.isWrapper; first | (rw [if_pos (by decide +kernel)]; kernel_rfl) | (rw [if_neg (by decide +kernel)]; exact ⟨rfl, rfl⟩))
    (fun os started H enc _ => lifted os started H enc)

/-- THE STATEMENT -/
theorem proved : Rows.SuperNewerSaid := over
end superNewer
end Go.Proofs.Ytccdciokokcomaa
