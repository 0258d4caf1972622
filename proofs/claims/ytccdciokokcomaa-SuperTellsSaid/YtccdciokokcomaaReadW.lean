/- What the reference's ReadHead comes to. -/
import Derived.Test.YtccdciokokcomaaDec
namespace Go.Proofs.Ytccdciokokcomaa
open Go.RowKit

set_option maxRecDepth 100000 in
set_option maxHeartbeats 1000000 in
theorem rd_short (l : List Nat) (v : Value) (w : World) (hv : isBytes l v w) (hl : l.length ≠ 32) : Calls Try.prog 13 #[v] w fun e w' => e = .returned (.tuple #[.agg (blkA (blk0)), .bool false]) ∧ Below w.heap.size w w' := by
  obtain ⟨A, cap, rfl, hcap, hB⟩ := hv
  have h32 : (((l.length : Nat) : Int) != 32) = true := bne_iff_ne.2 (by omega)
  have h33 : ¬ ((l.length : Nat) : Int) = 32 := by omega
  go_enter Try.func13, Try.ntmps13
  have HK := Lib.hid (DecK.start0 w)
  go_wp2_with (first
    | (with_reducible refine at_op (.alloc 37) ?_; refine arm_allocB rfl 37 rfl alloc37 ?_)
    | (with_reducible refine at_op (.build 37 #[]) ?_; refine arm_build0 rfl 37 rfl built37 ?_)
    | (with_reducible refine at_op (.store 37 (.tmp 2) (.tmp 10)) ?_; refine arm_storeB rfl 37 size37 (.tmp 2) (.tmp 10) rfl (w.heap.size) blk0 (blk0) rfl rfl HK.out.cell ?_
       have HK2 := Lib.hid (HK.out.set (x := blk0) (by omega))
       generalize World.setRow _ _ _ = w9 at *)
    | fail)
  refine bodyPost_ret (results_ct rfl _ _ _ _ rfl (HK2.out.cell.load37)) rfl ?_
  exact ⟨rfl, HK2.out.below⟩
set_option maxRecDepth 100000 in
set_option maxHeartbeats 1000000 in
theorem rd_no (l : List Nat) (v : Value) (w : World) (hv : isBytes l v w) (hl : l.length = 32) (hok : okB (read l) = false) : Calls Try.prog 13 #[v] w fun e w' => e = .returned (.tuple #[.agg (blkA (blk0)), .bool false]) ∧ Below w.heap.size w w' := by
  obtain ⟨A, cap, rfl, hcap, hB⟩ := hv
  obtain ⟨b, off, rfl, _, _⟩ := hB.cell 0 (by omega)
  have hcap : 32 ≤ cap := by omega
  have hsum : val ((l.take 18).drop 14) < 4294967296 := read_sum l hl hB.byte
  have HSM := Lib.hid (show (read l).sum < 4294967296 from hsum)
  rw [hl]
  have HOK := Lib.hid hok
  clear hok
  go_enter Try.func13, Try.ntmps13
  have HK := Lib.hid (DecK.start0 w)
  go_wp2_with (first
    | (with_reducible refine at_op (.alloc 37) ?_; refine arm_allocB rfl 37 rfl alloc37 ?_)
    | fail)
  have HB1 := Lib.hid (hB.up HK.out.below)
  generalize (w.alloc (.cells (blkA blk0) 37)) = w1 at *
  have hB := HB1.out
  refine wp_region_link 49 mixed (by kernel_rfl) (by rfl) (BC 37 (read l) w1) (BC.start _ _ _) ?_
  refine wpL_cons (is (.slice (some ⟨b, off, none⟩) 32 cap)) (stable_is _) (step_move (go0 rfl) (.tmp 0) rfl (opO' 0 (.slice (some ⟨b, off, none⟩) 32 cap) rfl rfl)) ?_
  refine wpL_cons (is (.slice (some ⟨b, off + 4, none⟩) (8 - 4) (cap - 4))) (stable_is _) (step_sl (go0 rfl) 25 (.tmp 11) _ _ rfl _ _ (opT' 11 0 rfl rfl) (fun W => run_sl25 b off cap 4 8 (by omega) (by omega) hcap W)) ?_
  refine wpL_cons (is (.int .i64 (val ((l.take 8).drop 4) : Nat))) (stable_is _) (step_call1 (go0 rfl) 26 (.tmp 12) _ rfl enter26 (opT' 12 1 rfl rfl) (fun u w h e => num_ok (lo := 4) (hi := 8) hl hB (by omega) (by omega) u w h e)) ?_
  refine wpL_cons (is (.slice (some ⟨b, off, none⟩) 32 cap)) (stable_is _) (step_move (go0 rfl) (.tmp 0) rfl (opO' 0 (.slice (some ⟨b, off, none⟩) 32 cap) rfl rfl)) ?_
  refine wpL_cons (is (.pointer (some ⟨b, off + 8, none⟩))) (stable_is _) (step_idx (go0 rfl) 25 (.tmp 14) (.const (.int .i64 8)) rfl _ _ _ (opT' 14 3 rfl rfl) (opC _) (fun W => run_ix25 b off cap 8 (by omega) W)) ?_
  refine wpL_cons (is (.int .u8 (l.getD 8 0 : Nat))) (stable_is _) (step_cell (go0 rfl) 5 (.tmp 15) rfl ⟨b, off + 8, none⟩ _ (opT' 15 4 rfl rfl) (fun W h => cell_at hB 8 (by omega) h) (fun W => by kernel_rfl)) ?_
  refine wpL_cons (is (.int .i64 (l.getD 8 0 : Nat))) (stable_is _) (step_conv (go0 rfl) 5 3 (.tmp 16) rfl _ _ (opT' 16 5 rfl rfl) (fun W => run_conv53 _ (hB.lt 8 (by omega)) W)) ?_
  refine wpL_cons (is (.slice (some ⟨b, off, none⟩) 32 cap)) (stable_is _) (step_move (go0 rfl) (.tmp 0) rfl (opO' 0 (.slice (some ⟨b, off, none⟩) 32 cap) rfl rfl)) ?_
  refine wpL_cons (is (.pointer (some ⟨b, off + 9, none⟩))) (stable_is _) (step_idx (go0 rfl) 25 (.tmp 18) (.const (.int .i64 9)) rfl _ _ _ (opT' 18 7 rfl rfl) (opC _) (fun W => run_ix25 b off cap 9 (by omega) W)) ?_
  refine wpL_cons (is (.int .u8 (l.getD 9 0 : Nat))) (stable_is _) (step_cell (go0 rfl) 5 (.tmp 19) rfl ⟨b, off + 9, none⟩ _ (opT' 19 8 rfl rfl) (fun W h => cell_at hB 9 (by omega) h) (fun W => by kernel_rfl)) ?_
  refine wpL_cons (is (.bool (l.getD 9 0 == 1))) (stable_is _) (step_eq (go0 rfl) 5 5 (.tmp 20) (.const (.int .u8 1)) rfl .u8 _ _ _ (opT' 20 9 rfl rfl) (opC _) (one_beq _)) ?_
  refine wpL_cons (is (.slice (some ⟨b, off, none⟩) 32 cap)) (stable_is _) (step_move (go0 rfl) (.tmp 0) rfl (opO' 0 (.slice (some ⟨b, off, none⟩) 32 cap) rfl rfl)) ?_
  refine wpL_cons (is (.slice (some ⟨b, off + 10, none⟩) (12 - 10) (cap - 10))) (stable_is _) (step_sl (go0 rfl) 25 (.tmp 22) _ _ rfl _ _ (opT' 22 11 rfl rfl) (fun W => run_sl25 b off cap 10 12 (by omega) (by omega) hcap W)) ?_
  refine wpL_cons (is (.int .i64 (val ((l.take 12).drop 10) : Nat))) (stable_is _) (step_call1 (go0 rfl) 26 (.tmp 23) _ rfl enter26 (opT' 23 12 rfl rfl) (fun u w h e => num_ok (lo := 10) (hi := 12) hl hB (by omega) (by omega) u w h e)) ?_
  refine wpL_cons (is (.slice (some ⟨b, off, none⟩) 32 cap)) (stable_is _) (step_move (go0 rfl) (.tmp 0) rfl (opO' 0 (.slice (some ⟨b, off, none⟩) 32 cap) rfl rfl)) ?_
  refine wpL_cons (is (.slice (some ⟨b, off + 12, none⟩) (14 - 12) (cap - 12))) (stable_is _) (step_sl (go0 rfl) 25 (.tmp 25) _ _ rfl _ _ (opT' 25 14 rfl rfl) (fun W => run_sl25 b off cap 12 14 (by omega) (by omega) hcap W)) ?_
  refine wpL_cons (is (.int .i64 (val ((l.take 14).drop 12) : Nat))) (stable_is _) (step_call1 (go0 rfl) 26 (.tmp 26) _ rfl enter26 (opT' 26 15 rfl rfl) (fun u w h e => num_ok (lo := 12) (hi := 14) hl hB (by omega) (by omega) u w h e)) ?_
  refine wpL_cons (is (.slice (some ⟨b, off, none⟩) 32 cap)) (stable_is _) (step_move (go0 rfl) (.tmp 0) rfl (opO' 0 (.slice (some ⟨b, off, none⟩) 32 cap) rfl rfl)) ?_
  refine wpL_cons (is (.slice (some ⟨b, off + 14, none⟩) (18 - 14) (cap - 14))) (stable_is _) (step_sl (go0 rfl) 25 (.tmp 28) _ _ rfl _ _ (opT' 28 17 rfl rfl) (fun W => run_sl25 b off cap 14 18 (by omega) (by omega) hcap W)) ?_
  refine wpL_cons (is (.int .i64 (val ((l.take 18).drop 14) : Nat))) (stable_is _) (step_call1 (go0 rfl) 26 (.tmp 29) _ rfl enter26 (opT' 29 18 rfl rfl) (fun u w h e => num_ok (lo := 14) (hi := 18) hl hB (by omega) (by omega) u w h e)) ?_
  refine wpL_cons (is (.int .u32 (val ((l.take 18).drop 14) : Nat))) (stable_is _) (step_conv (go0 rfl) 3 22 (.tmp 30) rfl _ _ (opT' 30 19 rfl rfl) (fun W => run_conv322 _ hsum W)) ?_
  refine wpL_cons (is (.agg (blkA (read l)))) (stable_is _) (step_build6 (go0 rfl) 37 (.tmp 13) (.tmp 17) (.tmp 21) (.tmp 24) (.tmp 27) (.tmp 31) rfl (read l) (fun W => by unfold blkA Blk.cells; kernel_rfl) (opT' 13 2 rfl rfl) (opT' 17 6 rfl rfl) (opT' 21 10 rfl rfl) (opT' 24 13 rfl rfl) (opT' 27 16 rfl rfl) (opT' 31 20 rfl rfl)) ?_
  refine wpL_cons (BlkPtr w1.heap.size 37 (read l)) (blkPtr_stable _) (step_allocB (go0 rfl) rfl alloc37) ?_
  refine wpL_store 4 rfl (BlkSet w1.heap.size 37 (read l)) (blkSet_stable _) (step_storeB 4 (.tmp 32) rfl size37 (opT' 4 22 rfl rfl) (opT' 32 21 rfl rfl)) ?_
  refine wpL_nil ?_
  intro v w2 hI hrl hdone hsome
  clear hrl
  obtain ⟨u, ⟨bx, hub, hbB, hbH⟩, husA⟩ := hsome 23 (by decide)
  have hus := husA 4 rfl
  clear husA
  simp only [putAll, Act.put, List.setIfInBounds_toArray, List.set_cons_zero, List.set_cons_succ, Nat.zero_add, Nat.reduceAdd] at hus ⊢
  have h22 : v 22 = .pointer (some ⟨bx, 0, none⟩) := hus.symm.trans hub
  have hI : Below w1.heap.size w1 w2 := hI
  have HK2 := Lib.hid (HK.out.up hI)
  have HX := Lib.hid hbH
  have HB2 := Lib.hid (hB.up hI)
  clear hdone hsome hI hbH hbB hus hub u hB HB1 HK
  rw [h22]
  clear h22
  have HI := Lib.hid size28
  go_wp2_with (first
    | (with_reducible refine at_op (.load 37 (.tmp 4)) ?_; refine arm_loadB rfl 37 (fun _ _ _ h => h.load37) (.tmp 4) rfl bx (read l) rfl HX.out ?_)
    | (go_at_call 10; with_reducible refine (headA_no (read l) HOK.out _).mono ?_
       rintro e w3 ⟨rfl, hb3⟩
       have HK3 := Lib.hid (HK2.out.up hb3)
       clear hb3)
    | (with_reducible refine at_op (.build 37 #[]) ?_; refine arm_build0 rfl 37 rfl built37 ?_)
    | (with_reducible refine at_op (.store 37 (.tmp 2) (.tmp 47)) ?_; refine arm_storeB rfl 37 size37 (.tmp 2) (.tmp 47) rfl (w.heap.size) blk0 (blk0) rfl rfl HK3.out.cell ?_
       have HK4 := Lib.hid (HK3.out.set (x := blk0) (by omega))
       generalize World.setRow _ _ _ = w9 at *)
    | fail)
  refine bodyPost_ret (results_ct rfl _ _ _ _ rfl (HK4.out.cell.load37)) rfl ?_
  exact ⟨rfl, HK4.out.below⟩
set_option maxRecDepth 100000 in
set_option maxHeartbeats 1000000 in
theorem rd_differs (l : List Nat) (v : Value) (w : World) (hv : isBytes l v w) (hl : l.length = 32) (hok : okB (read l) = true) (heq : decide (enc (read l) = l) = false) : Calls Try.prog 13 #[v] w fun e w' => e = .returned (.tuple #[.agg (blkA (blk0)), .bool false]) ∧ Below w.heap.size w w' := by
  obtain ⟨A, cap, rfl, hcap, hB⟩ := hv
  obtain ⟨b, off, rfl, _, _⟩ := hB.cell 0 (by omega)
  have hcap : 32 ≤ cap := by omega
  have hsum : val ((l.take 18).drop 14) < 4294967296 := read_sum l hl hB.byte
  have HSM := Lib.hid (show (read l).sum < 4294967296 from hsum)
  rw [hl]
  have HOK := Lib.hid hok
  have HEQ := Lib.hid heq
  clear hok heq
  go_enter Try.func13, Try.ntmps13
  have HK := Lib.hid (DecK.start0 w)
  go_wp2_with (first
    | (with_reducible refine at_op (.alloc 37) ?_; refine arm_allocB rfl 37 rfl alloc37 ?_)
    | fail)
  have HB1 := Lib.hid (hB.up HK.out.below)
  generalize (w.alloc (.cells (blkA blk0) 37)) = w1 at *
  have hB := HB1.out
  refine wp_region_link 49 mixed (by kernel_rfl) (by rfl) (BC 37 (read l) w1) (BC.start _ _ _) ?_
  refine wpL_cons (is (.slice (some ⟨b, off, none⟩) 32 cap)) (stable_is _) (step_move (go0 rfl) (.tmp 0) rfl (opO' 0 (.slice (some ⟨b, off, none⟩) 32 cap) rfl rfl)) ?_
  refine wpL_cons (is (.slice (some ⟨b, off + 4, none⟩) (8 - 4) (cap - 4))) (stable_is _) (step_sl (go0 rfl) 25 (.tmp 11) _ _ rfl _ _ (opT' 11 0 rfl rfl) (fun W => run_sl25 b off cap 4 8 (by omega) (by omega) hcap W)) ?_
  refine wpL_cons (is (.int .i64 (val ((l.take 8).drop 4) : Nat))) (stable_is _) (step_call1 (go0 rfl) 26 (.tmp 12) _ rfl enter26 (opT' 12 1 rfl rfl) (fun u w h e => num_ok (lo := 4) (hi := 8) hl hB (by omega) (by omega) u w h e)) ?_
  refine wpL_cons (is (.slice (some ⟨b, off, none⟩) 32 cap)) (stable_is _) (step_move (go0 rfl) (.tmp 0) rfl (opO' 0 (.slice (some ⟨b, off, none⟩) 32 cap) rfl rfl)) ?_
  refine wpL_cons (is (.pointer (some ⟨b, off + 8, none⟩))) (stable_is _) (step_idx (go0 rfl) 25 (.tmp 14) (.const (.int .i64 8)) rfl _ _ _ (opT' 14 3 rfl rfl) (opC _) (fun W => run_ix25 b off cap 8 (by omega) W)) ?_
  refine wpL_cons (is (.int .u8 (l.getD 8 0 : Nat))) (stable_is _) (step_cell (go0 rfl) 5 (.tmp 15) rfl ⟨b, off + 8, none⟩ _ (opT' 15 4 rfl rfl) (fun W h => cell_at hB 8 (by omega) h) (fun W => by kernel_rfl)) ?_
  refine wpL_cons (is (.int .i64 (l.getD 8 0 : Nat))) (stable_is _) (step_conv (go0 rfl) 5 3 (.tmp 16) rfl _ _ (opT' 16 5 rfl rfl) (fun W => run_conv53 _ (hB.lt 8 (by omega)) W)) ?_
  refine wpL_cons (is (.slice (some ⟨b, off, none⟩) 32 cap)) (stable_is _) (step_move (go0 rfl) (.tmp 0) rfl (opO' 0 (.slice (some ⟨b, off, none⟩) 32 cap) rfl rfl)) ?_
  refine wpL_cons (is (.pointer (some ⟨b, off + 9, none⟩))) (stable_is _) (step_idx (go0 rfl) 25 (.tmp 18) (.const (.int .i64 9)) rfl _ _ _ (opT' 18 7 rfl rfl) (opC _) (fun W => run_ix25 b off cap 9 (by omega) W)) ?_
  refine wpL_cons (is (.int .u8 (l.getD 9 0 : Nat))) (stable_is _) (step_cell (go0 rfl) 5 (.tmp 19) rfl ⟨b, off + 9, none⟩ _ (opT' 19 8 rfl rfl) (fun W h => cell_at hB 9 (by omega) h) (fun W => by kernel_rfl)) ?_
  refine wpL_cons (is (.bool (l.getD 9 0 == 1))) (stable_is _) (step_eq (go0 rfl) 5 5 (.tmp 20) (.const (.int .u8 1)) rfl .u8 _ _ _ (opT' 20 9 rfl rfl) (opC _) (one_beq _)) ?_
  refine wpL_cons (is (.slice (some ⟨b, off, none⟩) 32 cap)) (stable_is _) (step_move (go0 rfl) (.tmp 0) rfl (opO' 0 (.slice (some ⟨b, off, none⟩) 32 cap) rfl rfl)) ?_
  refine wpL_cons (is (.slice (some ⟨b, off + 10, none⟩) (12 - 10) (cap - 10))) (stable_is _) (step_sl (go0 rfl) 25 (.tmp 22) _ _ rfl _ _ (opT' 22 11 rfl rfl) (fun W => run_sl25 b off cap 10 12 (by omega) (by omega) hcap W)) ?_
  refine wpL_cons (is (.int .i64 (val ((l.take 12).drop 10) : Nat))) (stable_is _) (step_call1 (go0 rfl) 26 (.tmp 23) _ rfl enter26 (opT' 23 12 rfl rfl) (fun u w h e => num_ok (lo := 10) (hi := 12) hl hB (by omega) (by omega) u w h e)) ?_
  refine wpL_cons (is (.slice (some ⟨b, off, none⟩) 32 cap)) (stable_is _) (step_move (go0 rfl) (.tmp 0) rfl (opO' 0 (.slice (some ⟨b, off, none⟩) 32 cap) rfl rfl)) ?_
  refine wpL_cons (is (.slice (some ⟨b, off + 12, none⟩) (14 - 12) (cap - 12))) (stable_is _) (step_sl (go0 rfl) 25 (.tmp 25) _ _ rfl _ _ (opT' 25 14 rfl rfl) (fun W => run_sl25 b off cap 12 14 (by omega) (by omega) hcap W)) ?_
  refine wpL_cons (is (.int .i64 (val ((l.take 14).drop 12) : Nat))) (stable_is _) (step_call1 (go0 rfl) 26 (.tmp 26) _ rfl enter26 (opT' 26 15 rfl rfl) (fun u w h e => num_ok (lo := 12) (hi := 14) hl hB (by omega) (by omega) u w h e)) ?_
  refine wpL_cons (is (.slice (some ⟨b, off, none⟩) 32 cap)) (stable_is _) (step_move (go0 rfl) (.tmp 0) rfl (opO' 0 (.slice (some ⟨b, off, none⟩) 32 cap) rfl rfl)) ?_
  refine wpL_cons (is (.slice (some ⟨b, off + 14, none⟩) (18 - 14) (cap - 14))) (stable_is _) (step_sl (go0 rfl) 25 (.tmp 28) _ _ rfl _ _ (opT' 28 17 rfl rfl) (fun W => run_sl25 b off cap 14 18 (by omega) (by omega) hcap W)) ?_
  refine wpL_cons (is (.int .i64 (val ((l.take 18).drop 14) : Nat))) (stable_is _) (step_call1 (go0 rfl) 26 (.tmp 29) _ rfl enter26 (opT' 29 18 rfl rfl) (fun u w h e => num_ok (lo := 14) (hi := 18) hl hB (by omega) (by omega) u w h e)) ?_
  refine wpL_cons (is (.int .u32 (val ((l.take 18).drop 14) : Nat))) (stable_is _) (step_conv (go0 rfl) 3 22 (.tmp 30) rfl _ _ (opT' 30 19 rfl rfl) (fun W => run_conv322 _ hsum W)) ?_
  refine wpL_cons (is (.agg (blkA (read l)))) (stable_is _) (step_build6 (go0 rfl) 37 (.tmp 13) (.tmp 17) (.tmp 21) (.tmp 24) (.tmp 27) (.tmp 31) rfl (read l) (fun W => by unfold blkA Blk.cells; kernel_rfl) (opT' 13 2 rfl rfl) (opT' 17 6 rfl rfl) (opT' 21 10 rfl rfl) (opT' 24 13 rfl rfl) (opT' 27 16 rfl rfl) (opT' 31 20 rfl rfl)) ?_
  refine wpL_cons (BlkPtr w1.heap.size 37 (read l)) (blkPtr_stable _) (step_allocB (go0 rfl) rfl alloc37) ?_
  refine wpL_store 4 rfl (BlkSet w1.heap.size 37 (read l)) (blkSet_stable _) (step_storeB 4 (.tmp 32) rfl size37 (opT' 4 22 rfl rfl) (opT' 32 21 rfl rfl)) ?_
  refine wpL_nil ?_
  intro v w2 hI hrl hdone hsome
  clear hrl
  obtain ⟨u, ⟨bx, hub, hbB, hbH⟩, husA⟩ := hsome 23 (by decide)
  have hus := husA 4 rfl
  clear husA
  simp only [putAll, Act.put, List.setIfInBounds_toArray, List.set_cons_zero, List.set_cons_succ, Nat.zero_add, Nat.reduceAdd] at hus ⊢
  have h22 : v 22 = .pointer (some ⟨bx, 0, none⟩) := hus.symm.trans hub
  have hI : Below w1.heap.size w1 w2 := hI
  have HK2 := Lib.hid (HK.out.up hI)
  have HX := Lib.hid hbH
  have HB2 := Lib.hid (hB.up hI)
  clear hdone hsome hI hbH hbB hus hub u hB HB1 HK
  rw [h22]
  clear h22
  have HI := Lib.hid size28
  go_wp2_with (first
    | (with_reducible refine at_op (.load 37 (.tmp 4)) ?_; refine arm_loadB rfl 37 (fun _ _ _ h => h.load37) (.tmp 4) rfl bx (read l) rfl HX.out ?_)
    | (go_at_call 10; with_reducible refine (headA_yes (read l) HOK.out HSM.out _).mono ?_
       rintro e w3 ⟨ve, rfl, hve, hb3⟩
       have hu := hve.is
       have hvv : isBytes l (.slice (some ⟨b, off, none⟩) 32 cap) w3 := ⟨_, cap, by rw [hl], by omega, HB2.out.up hb3⟩
       have HK3 := Lib.hid (HK2.out.up hb3)
       have HX3 := Lib.hid (HX.out.below hb3)
       have k1 := conv_str hu
       have k2 := conv_str hvv
       have k4 := str_list hu.byte hvv.byte
       rw [HEQ.out] at k4
       obtain ⟨A1, cap1, rfl, _, _⟩ := hu
       clear hb3 hve hvv)
    | (with_reducible refine at_op (.build 37 #[]) ?_; refine arm_build0 rfl 37 rfl built37 ?_)
    | (with_reducible refine at_op (.store 37 (.tmp 2) (.tmp 47)) ?_; refine arm_storeB rfl 37 size37 (.tmp 2) (.tmp 47) rfl (w.heap.size) blk0 (blk0) rfl rfl HK3.out.cell ?_
       have HK4 := Lib.hid (HK3.out.set (x := blk0) (by omega))
       generalize World.setRow _ _ _ = w9 at *)
    | fail)
  refine bodyPost_ret (results_ct rfl _ _ _ _ rfl (HK4.out.cell.load37)) rfl ?_
  exact ⟨rfl, HK4.out.below⟩
set_option maxRecDepth 100000 in
set_option maxHeartbeats 1000000 in
theorem rd_yes (l : List Nat) (v : Value) (w : World) (hv : isBytes l v w) (hl : l.length = 32) (hok : okB (read l) = true) (heq : decide (enc (read l) = l) = true) : Calls Try.prog 13 #[v] w fun e w' => e = .returned (.tuple #[.agg (blkA (read l)), .bool true]) ∧ Below w.heap.size w w' := by
  obtain ⟨A, cap, rfl, hcap, hB⟩ := hv
  obtain ⟨b, off, rfl, _, _⟩ := hB.cell 0 (by omega)
  have hcap : 32 ≤ cap := by omega
  have hsum : val ((l.take 18).drop 14) < 4294967296 := read_sum l hl hB.byte
  have HSM := Lib.hid (show (read l).sum < 4294967296 from hsum)
  rw [hl]
  have HOK := Lib.hid hok
  have HEQ := Lib.hid heq
  clear hok heq
  go_enter Try.func13, Try.ntmps13
  have HK := Lib.hid (DecK.start0 w)
  go_wp2_with (first
    | (with_reducible refine at_op (.alloc 37) ?_; refine arm_allocB rfl 37 rfl alloc37 ?_)
    | fail)
  have HB1 := Lib.hid (hB.up HK.out.below)
  generalize (w.alloc (.cells (blkA blk0) 37)) = w1 at *
  have hB := HB1.out
  refine wp_region_link 49 mixed (by kernel_rfl) (by rfl) (BC 37 (read l) w1) (BC.start _ _ _) ?_
  refine wpL_cons (is (.slice (some ⟨b, off, none⟩) 32 cap)) (stable_is _) (step_move (go0 rfl) (.tmp 0) rfl (opO' 0 (.slice (some ⟨b, off, none⟩) 32 cap) rfl rfl)) ?_
  refine wpL_cons (is (.slice (some ⟨b, off + 4, none⟩) (8 - 4) (cap - 4))) (stable_is _) (step_sl (go0 rfl) 25 (.tmp 11) _ _ rfl _ _ (opT' 11 0 rfl rfl) (fun W => run_sl25 b off cap 4 8 (by omega) (by omega) hcap W)) ?_
  refine wpL_cons (is (.int .i64 (val ((l.take 8).drop 4) : Nat))) (stable_is _) (step_call1 (go0 rfl) 26 (.tmp 12) _ rfl enter26 (opT' 12 1 rfl rfl) (fun u w h e => num_ok (lo := 4) (hi := 8) hl hB (by omega) (by omega) u w h e)) ?_
  refine wpL_cons (is (.slice (some ⟨b, off, none⟩) 32 cap)) (stable_is _) (step_move (go0 rfl) (.tmp 0) rfl (opO' 0 (.slice (some ⟨b, off, none⟩) 32 cap) rfl rfl)) ?_
  refine wpL_cons (is (.pointer (some ⟨b, off + 8, none⟩))) (stable_is _) (step_idx (go0 rfl) 25 (.tmp 14) (.const (.int .i64 8)) rfl _ _ _ (opT' 14 3 rfl rfl) (opC _) (fun W => run_ix25 b off cap 8 (by omega) W)) ?_
  refine wpL_cons (is (.int .u8 (l.getD 8 0 : Nat))) (stable_is _) (step_cell (go0 rfl) 5 (.tmp 15) rfl ⟨b, off + 8, none⟩ _ (opT' 15 4 rfl rfl) (fun W h => cell_at hB 8 (by omega) h) (fun W => by kernel_rfl)) ?_
  refine wpL_cons (is (.int .i64 (l.getD 8 0 : Nat))) (stable_is _) (step_conv (go0 rfl) 5 3 (.tmp 16) rfl _ _ (opT' 16 5 rfl rfl) (fun W => run_conv53 _ (hB.lt 8 (by omega)) W)) ?_
  refine wpL_cons (is (.slice (some ⟨b, off, none⟩) 32 cap)) (stable_is _) (step_move (go0 rfl) (.tmp 0) rfl (opO' 0 (.slice (some ⟨b, off, none⟩) 32 cap) rfl rfl)) ?_
  refine wpL_cons (is (.pointer (some ⟨b, off + 9, none⟩))) (stable_is _) (step_idx (go0 rfl) 25 (.tmp 18) (.const (.int .i64 9)) rfl _ _ _ (opT' 18 7 rfl rfl) (opC _) (fun W => run_ix25 b off cap 9 (by omega) W)) ?_
  refine wpL_cons (is (.int .u8 (l.getD 9 0 : Nat))) (stable_is _) (step_cell (go0 rfl) 5 (.tmp 19) rfl ⟨b, off + 9, none⟩ _ (opT' 19 8 rfl rfl) (fun W h => cell_at hB 9 (by omega) h) (fun W => by kernel_rfl)) ?_
  refine wpL_cons (is (.bool (l.getD 9 0 == 1))) (stable_is _) (step_eq (go0 rfl) 5 5 (.tmp 20) (.const (.int .u8 1)) rfl .u8 _ _ _ (opT' 20 9 rfl rfl) (opC _) (one_beq _)) ?_
  refine wpL_cons (is (.slice (some ⟨b, off, none⟩) 32 cap)) (stable_is _) (step_move (go0 rfl) (.tmp 0) rfl (opO' 0 (.slice (some ⟨b, off, none⟩) 32 cap) rfl rfl)) ?_
  refine wpL_cons (is (.slice (some ⟨b, off + 10, none⟩) (12 - 10) (cap - 10))) (stable_is _) (step_sl (go0 rfl) 25 (.tmp 22) _ _ rfl _ _ (opT' 22 11 rfl rfl) (fun W => run_sl25 b off cap 10 12 (by omega) (by omega) hcap W)) ?_
  refine wpL_cons (is (.int .i64 (val ((l.take 12).drop 10) : Nat))) (stable_is _) (step_call1 (go0 rfl) 26 (.tmp 23) _ rfl enter26 (opT' 23 12 rfl rfl) (fun u w h e => num_ok (lo := 10) (hi := 12) hl hB (by omega) (by omega) u w h e)) ?_
  refine wpL_cons (is (.slice (some ⟨b, off, none⟩) 32 cap)) (stable_is _) (step_move (go0 rfl) (.tmp 0) rfl (opO' 0 (.slice (some ⟨b, off, none⟩) 32 cap) rfl rfl)) ?_
  refine wpL_cons (is (.slice (some ⟨b, off + 12, none⟩) (14 - 12) (cap - 12))) (stable_is _) (step_sl (go0 rfl) 25 (.tmp 25) _ _ rfl _ _ (opT' 25 14 rfl rfl) (fun W => run_sl25 b off cap 12 14 (by omega) (by omega) hcap W)) ?_
  refine wpL_cons (is (.int .i64 (val ((l.take 14).drop 12) : Nat))) (stable_is _) (step_call1 (go0 rfl) 26 (.tmp 26) _ rfl enter26 (opT' 26 15 rfl rfl) (fun u w h e => num_ok (lo := 12) (hi := 14) hl hB (by omega) (by omega) u w h e)) ?_
  refine wpL_cons (is (.slice (some ⟨b, off, none⟩) 32 cap)) (stable_is _) (step_move (go0 rfl) (.tmp 0) rfl (opO' 0 (.slice (some ⟨b, off, none⟩) 32 cap) rfl rfl)) ?_
  refine wpL_cons (is (.slice (some ⟨b, off + 14, none⟩) (18 - 14) (cap - 14))) (stable_is _) (step_sl (go0 rfl) 25 (.tmp 28) _ _ rfl _ _ (opT' 28 17 rfl rfl) (fun W => run_sl25 b off cap 14 18 (by omega) (by omega) hcap W)) ?_
  refine wpL_cons (is (.int .i64 (val ((l.take 18).drop 14) : Nat))) (stable_is _) (step_call1 (go0 rfl) 26 (.tmp 29) _ rfl enter26 (opT' 29 18 rfl rfl) (fun u w h e => num_ok (lo := 14) (hi := 18) hl hB (by omega) (by omega) u w h e)) ?_
  refine wpL_cons (is (.int .u32 (val ((l.take 18).drop 14) : Nat))) (stable_is _) (step_conv (go0 rfl) 3 22 (.tmp 30) rfl _ _ (opT' 30 19 rfl rfl) (fun W => run_conv322 _ hsum W)) ?_
  refine wpL_cons (is (.agg (blkA (read l)))) (stable_is _) (step_build6 (go0 rfl) 37 (.tmp 13) (.tmp 17) (.tmp 21) (.tmp 24) (.tmp 27) (.tmp 31) rfl (read l) (fun W => by unfold blkA Blk.cells; kernel_rfl) (opT' 13 2 rfl rfl) (opT' 17 6 rfl rfl) (opT' 21 10 rfl rfl) (opT' 24 13 rfl rfl) (opT' 27 16 rfl rfl) (opT' 31 20 rfl rfl)) ?_
  refine wpL_cons (BlkPtr w1.heap.size 37 (read l)) (blkPtr_stable _) (step_allocB (go0 rfl) rfl alloc37) ?_
  refine wpL_store 4 rfl (BlkSet w1.heap.size 37 (read l)) (blkSet_stable _) (step_storeB 4 (.tmp 32) rfl size37 (opT' 4 22 rfl rfl) (opT' 32 21 rfl rfl)) ?_
  refine wpL_nil ?_
  intro v w2 hI hrl hdone hsome
  clear hrl
  obtain ⟨u, ⟨bx, hub, hbB, hbH⟩, husA⟩ := hsome 23 (by decide)
  have hus := husA 4 rfl
  clear husA
  simp only [putAll, Act.put, List.setIfInBounds_toArray, List.set_cons_zero, List.set_cons_succ, Nat.zero_add, Nat.reduceAdd] at hus ⊢
  have h22 : v 22 = .pointer (some ⟨bx, 0, none⟩) := hus.symm.trans hub
  have hI : Below w1.heap.size w1 w2 := hI
  have HK2 := Lib.hid (HK.out.up hI)
  have HX := Lib.hid hbH
  have HB2 := Lib.hid (hB.up hI)
  clear hdone hsome hI hbH hbB hus hub u hB HB1 HK
  rw [h22]
  clear h22
  have HI := Lib.hid size28
  go_wp2_with (first
    | (with_reducible refine at_op (.load 37 (.tmp 4)) ?_; refine arm_loadB rfl 37 (fun _ _ _ h => h.load37) (.tmp 4) rfl bx (read l) rfl HX.out ?_)
    | (go_at_call 10; with_reducible refine (headA_yes (read l) HOK.out HSM.out _).mono ?_
       rintro e w3 ⟨ve, rfl, hve, hb3⟩
       have hu := hve.is
       have hvv : isBytes l (.slice (some ⟨b, off, none⟩) 32 cap) w3 := ⟨_, cap, by rw [hl], by omega, HB2.out.up hb3⟩
       have HK3 := Lib.hid (HK2.out.up hb3)
       have HX3 := Lib.hid (HX.out.below hb3)
       have k1 := conv_str hu
       have k2 := conv_str hvv
       have k4 := str_list hu.byte hvv.byte
       rw [HEQ.out] at k4
       obtain ⟨A1, cap1, rfl, _, _⟩ := hu
       clear hb3 hve hvv)
    | (with_reducible refine at_op (.load 37 (.tmp 4)) ?_; refine arm_loadB rfl 37 (fun _ _ _ h => h.load37) (.tmp 4) rfl bx (read l) rfl HX3.out ?_)
    | (with_reducible refine at_op (.store 37 (.tmp 2) (.tmp 48)) ?_; refine arm_storeB rfl 37 size37 (.tmp 2) (.tmp 48) rfl (w.heap.size) blk0 (read l) rfl rfl HK3.out.cell ?_
       have HK4 := Lib.hid (HK3.out.set (x := read l) (by omega))
       generalize World.setRow _ _ _ = w9 at *)
    | fail)
  refine bodyPost_ret (results_ct rfl _ _ _ _ rfl (HK4.out.cell.load37)) rfl ?_
  exact ⟨rfl, HK4.out.below⟩
end Go.Proofs.Ytccdciokokcomaa
