/- 'SuperBack' returns true for every input: a block's bytes are read as that block; with one, two or three bits turned they are none. -/
import Derived.Test.YtccdciokokcomaaBackB
import Derived.ProofKit
import Derived.OpenShut
import Derived.ShutString
import Derived.ChangeOld
import Derived.Below
namespace Go.Proofs.Ytccdciokokcomaa
open Go.RowKit


set_option maxRecDepth 100000 in
set_option maxHeartbeats 4000000 in
theorem back_law (x : Blk) (hs : x.sum < 4294967296) (a b c : Int) (w : World) : Calls Try.prog 4 #[.agg (blkA x), .agg (threeA a b c)] w fun e w' => e = .returned (.bool true) ∧ Below w.heap.size w w' := by
  have HS := Lib.hid hs
  have HK0 := Lib.hid (BackK.start w x a b c)
  clear hs
  go_enter Try.func4, Try.ntmps4
  go_upto_region 1 with fail
  generalize (w.alloc (.cells (blkA x) 24)).alloc (.cells (threeA a b c) 47) = w1 at *
  have HT := Lib.hid (two_tab w1)
  have HK1 := Lib.hid (HK0.out.up (below_trans (below_alloc w1 (.cells (tabCells tab) 28)) (below_alloc _ (.cells (tabCells tab) 28))))
  clear HK0
  go_upto_region 2 with (first
    | (go_at_call 7; with_reducible refine (Make_walk _).mono ?_
       rintro e w' ⟨rfl, rfl⟩)
    | (with_reducible refine at_op (.alloc 28) ?_; refine wpList_alloc28 rfl rfl ?_)
    | (with_reducible refine at_op (.store 28 (.tmp 5) (.tmp 15)) ?_; refine wpList_store_row rfl 28 (.tmp 5) (.tmp 15) rfl (tabCells (fun _ => 0)) (tabCells tab) _ (by simp) rfl rfl size28 (tabCells_same _ _) (tabCells_one tab) ?_)
    | fail)
  simp only [World.size_alloc]
  generalize (w1.alloc (.cells (tabCells tab) 28)).alloc (.cells (tabCells tab) 28) = w2 at *
  obtain ⟨b5, hb5⟩ : ∃ b5, b5 = w1.heap.size + 1 := ⟨_, rfl⟩
  rw [← hb5] at HT ⊢
  clear hb5
  cases hok : okB x with
  | false =>
    have HV := Lib.hid (enc_vals0 x hok)
    clear hok
    go_wp2_with (first
      | (with_reducible refine at_op (.load 28 (.tmp 5)) ?_; refine arm_tab rfl (.tmp 5) rfl b5 rfl HT.out ?_)
      | (with_reducible refine at_op (.load 24 (.tmp 2)) ?_; refine arm_loadB rfl 24 (fun _ _ _ h => h.load24) (.tmp 2) rfl w.heap.size x rfl HK1.out.bx ?_)
      | (go_at_call 9; with_reducible refine (enc_walk x HS.out _).mono ?_
         rintro e w3 ⟨v3, rfl, hv3, hb3⟩
         rw [HV.out.1] at hv3
         rw [HV.out.2]
         obtain ⟨A3, cap3, rfl, hc3, hB3⟩ := hv3
         rw [List.length_nil]
         have HK3 := Lib.hid (HK1.out.up hb3)
         clear hb3 hc3 hB3)
      | (go_at_call 6; with_reducible refine (awake_walk _).mono ?_
         rintro e w4 ⟨rfl, hb4⟩
         have HZ := Lib.hid (HK3.out.up hb4).below
         clear hb4)
      | fail)
    go_ret
    exact ⟨rfl, HZ.out⟩
  | true =>
    have HV := Lib.hid (enc_vals x hok)
    have HD := Lib.hid (dec_enc x hok HS.out)
    have HOK := Lib.hid hok
    clear hok
    go_upto_region 9 with (first
      | (with_reducible refine at_op (.load 28 (.tmp 5)) ?_; first | refine arm_tab rfl (.tmp 5) rfl b5 rfl HT3.out ?_ | refine arm_tab rfl (.tmp 5) rfl b5 rfl HT.out ?_)
      | (with_reducible refine at_op (.load 24 (.tmp 2)) ?_; refine arm_loadB rfl 24 (fun _ _ _ h => h.load24) (.tmp 2) rfl w.heap.size x rfl HK1.out.bx ?_)
      | (go_at_call 9; with_reducible refine (enc_walk x HS.out _).mono ?_
         rintro e w3 ⟨v3, rfl, hv3, hb3⟩
         rw [HV.out.1] at hv3
         rw [HV.out.2]
         obtain ⟨A3, cap3, rfl, hc3, hB3⟩ := hv3
         have HV3 := Lib.hid (show isBytes (enc x) (.slice A3 32 cap3) w3 from ⟨A3, cap3, by rw [enc_length], hc3, hB3⟩)
         rw [enc_length]
         have HT3 := Lib.hid (tab_up HT.out hb3)
         have HK3 := Lib.hid (HK1.out.up hb3)
         clear hb3 hc3 hB3 HT HK1)
      | (go_at_call 12; refine (dec_walk (enc x) _ _ HV3.out).mono ?_
         rintro e w4 ⟨rfl, hb4⟩
         rw [HD.out.1, HD.out.2]
         have HV4 := Lib.hid (HV3.out.up hb4)
         have HT4 := Lib.hid (tab_up HT3.out hb4)
         have HK4 := Lib.hid (HK3.out.up hb4)
         clear hb4 HT3 HV3 HK3)
      | (with_reducible refine at_op (.alloc 24) ?_; refine arm_allocB rfl 24 rfl alloc24 ?_)
      | (with_reducible refine at_op (.store 24 (.tmp 8) (.tmp 37)) ?_; refine arm_storeB rfl 24 size24 (.tmp 8) (.tmp 37) rfl w4.heap.size blk0 x rfl rfl (BlkAt.new w4 24 blk0) ?_
         have hs := (below_alloc w4 (.cells (blkA blk0) 24)).trans (set_below _ w4.heap.size w4.heap.size x (Nat.le_refl _))
         have HA5 := Lib.hid (And.intro (tab_up HT4.out hs) (And.intro (HK4.out.up hs) (And.intro (HV4.out.up hs) (set_new _ _ _ x _ (BlkAt.new w4 24 blk0)))))
         generalize World.setRow (w4.alloc (.cells (blkA blk0) 24)) w4.heap.size (blkA x) = w5 at *
         obtain ⟨b8, hb8⟩ : ∃ b8, b8 = w4.heap.size := ⟨_, rfl⟩
         rw [← hb8] at HA5 ⊢
         clear hs hb8 HT4 HK4 HV4)
      | (at_builtin; refine arm_append rfl (.tmp 39) (.tmp 40) rfl w5.heap.size _ _ [] (enc x) rfl rfl (own_empty w5 _ (Nat.le_refl _)) (HA5.out.2.2.1.up (below_alloc _ _)) (by rw [enc_length]; omega) (by rw [enc_length]; simp) (by simp) ?_
         intro v6 w6 hv6 hb6
         obtain ⟨gc, cc, hvc, hgc, _⟩ := hv6.form (by simp [enc_length])
         rw [List.nil_append] at hv6 hvc
         rw [enc_length] at hvc
         subst hvc
         have HC := Lib.hid (And.intro hv6 (((Below.refl _ _).alloc (Nat.le_refl _) _).trans hb6))
         clear hv6 hb6)
      | fail)
    go_wp2_with fail
    have HG := Lib.hid hgc
    clear hgc
    go_loopw [11] (fun v wr => ∃ i : Nat, i ≤ 3 ∧ v = .int .i64 i ∧ Own wr w5.heap.size (.slice (some ⟨gc, 0, none⟩) 32 cc) (turned (enc x) a b c i) ∧ Below w5.heap.size w5 wr) (fun v _ => 3 - (intOf v).toNat)
    case atStart => exact ⟨0, by omega, rfl, HC.out.1, HC.out.2⟩
    case round =>
      obtain ⟨i, hi, rfl, hO, hBw⟩ := hrel
      have HO := Lib.hid hO
      have HBW := Lib.hid hBw
      clear HC hO hBw
      by_cases hi3 : i = 3
      · subst hi3
        have HT := Lib.hid (tab_up HA5.out.1 HBW.out)
        have HK := Lib.hid (HA5.out.2.1.up HBW.out)
        have HB := Lib.hid (HA5.out.2.2.1.up HBW.out)
        have HX := Lib.hid (HA5.out.2.2.2.below HBW.out)
        have HY := Lib.hid HO.out.is
        have HDT := Lib.hid (dec_turned x HOK.out a b c)
        have HNE := Lib.hid (turned_ne x HOK.out HS.out a b c)
        clear HA5 HBW HO HD HV
        generalize turned (enc x) a b c 3 = l3 at *
        have hl3 : (((str l3).toList == (str (enc x)).toList)) = false := by rw [str_list HY.out.byte HB.out.byte]; exact HNE.out
        go_upto_region 17 with (first
          | (with_reducible refine at_op (.load 28 (.tmp 5)) ?_; refine arm_tab rfl (.tmp 5) rfl b5 rfl HT.out ?_)
          | (go_at_call 12; refine (dec_walk l3 _ _ HY.out).mono ?_
             rintro e w7 ⟨rfl, hb7⟩
             rw [HDT.out.1, HDT.out.2]
             have HA7 := Lib.hid (And.intro (HK.out.up hb7) (And.intro (HB.out.up hb7) (And.intro (HX.out.below hb7) (HY.out.up hb7))))
             clear hb7 HK HB HX HY HT)
          | (with_reducible refine at_op (.alloc 24) ?_; refine arm_allocB rfl 24 rfl alloc24 ?_)
          | (with_reducible refine at_op (.store 24 (.tmp 13) (.tmp 64)) ?_; refine arm_storeB rfl 24 size24 (.tmp 13) (.tmp 64) rfl w7.heap.size blk0 blk0 rfl rfl (BlkAt.new w7 24 blk0) ?_
             have hs := (below_alloc w7 (.cells (blkA blk0) 24)).trans (set_below _ w7.heap.size w7.heap.size blk0 (Nat.le_refl _))
             have HA8 := Lib.hid (And.intro (HA7.out.1.up hs) (And.intro (HA7.out.2.1.up hs) (And.intro (HA7.out.2.2.1.below hs) (And.intro (HA7.out.2.2.2.up hs) (set_new _ _ _ blk0 _ (BlkAt.new w7 24 blk0))))))
             generalize World.setRow (w7.alloc (.cells (blkA blk0) 24)) w7.heap.size (blkA blk0) = w8 at *
             obtain ⟨b13, hb13⟩ : ∃ b13, b13 = w7.heap.size := ⟨_, rfl⟩
             rw [← hb13] at HA8 ⊢
             clear hs hb13 HA7)
          | (with_reducible refine at_op (.convert 25 9 (.tmp 66)) ?_; refine arm_str rfl (.tmp 66) rfl l3 (.slice (some ⟨gc, 0, none⟩) 32 cc) rfl HA8.out.2.2.2.1 ?_)
          | (with_reducible refine at_op (.convert 25 9 (.tmp 68)) ?_; refine arm_str rfl (.tmp 68) rfl (enc x) (.slice A3 32 cap3) rfl HA8.out.2.1 ?_)
          | fail)
        have HF := Lib.hid (And.intro HA8.out.1.below (And.intro HA8.out.1.bx (And.intro HA8.out.2.2.1 HA8.out.2.2.2.2)))
        clear HA8 hl3
        refine wp_region_text 109 (by kernel_rfl) (by rfl) (UpC w8) (show Below w8.heap.size w8 w8 from Below.refl _ _) ?_
        refine wpL_cons (is (.int .i64 0)) (stable_is _) (step_move (go0 rfl) (.tmp 9) rfl (opO' 9 (.int .i64 0) rfl rfl)) ?_
        refine wpL_cons (is (.bool true)) (stable_is _) (step_int (go0 rfl) .eql 32 32 (.tmp 90) (.const (.int .i64 0)) rfl .i64 .i64 _ _ _ (opT' 90 0 rfl rfl) (opC _) (fun W => by kernel_rfl)) ?_
        refine wpL_cons (is (.bool true)) (stable_is _) (step_move (go0 rfl) (.tmp 91) rfl (opT' 91 1 rfl rfl)) ?_
        refine wpL_cons (is (.agg (blkA x))) (stable_is _) (step_loadRow (go1 2 true 92 rfl rfl rfl rfl) 24 (.tmp 8) rfl (b8) 24 (blkA x) (0, 0) _ (opO' 8 (.pointer (some ⟨b8, 0, none⟩)) rfl rfl) (fun W h => (HF.out.2.2.1.below h)) Try.underlying24 rfl (size24 x)) ?_
        refine wpL_cons (is (.agg (blkA x))) (stable_is _) (step_loadRow (go1 2 true 92 rfl rfl rfl rfl) 24 (.tmp 2) rfl (w.heap.size) 24 (blkA x) (0, 0) _ (opO' 2 (.pointer (some ⟨w.heap.size, 0, none⟩)) rfl rfl) (fun W h => (HF.out.2.1.below h)) Try.underlying24 rfl (size24 x)) ?_
        refine wpL_cons (is (.bool true)) (stable_is _) (step_eql24 (go1 2 true 92 rfl rfl rfl rfl) (.tmp 93) (.tmp 94) rfl x (opT' 93 3 rfl rfl) (opT' 94 4 rfl rfl)) ?_
        refine wpL_cons (is (.bool true)) (stable_is _) (step_pickT (go0 rfl) (.tmp 92) (.tmp 95) (.const (.bool false)) rfl (opT' 92 2 rfl rfl) (opT' 95 5 rfl rfl)) ?_
        refine wpL_cons (is (.bool true)) (stable_is _) (step_move (go0 rfl) (.tmp 96) rfl (opT' 96 6 rfl rfl)) ?_
        refine wpL_cons (is (.int .i64 3)) (stable_is _) (step_move (go1 7 true 97 rfl rfl rfl rfl) (.tmp 14) rfl (opO' 14 (.int .i64 3) rfl rfl)) ?_
        refine wpL_cons (is (.bool true)) (stable_is _) (step_int (go1 7 true 97 rfl rfl rfl rfl) .eql 32 32 (.tmp 98) (.const (.int .i64 3)) rfl .i64 .i64 _ _ _ (opT' 98 8 rfl rfl) (opC _) (fun W => by kernel_rfl)) ?_
        refine wpL_cons (is (.bool true)) (stable_is _) (step_pickT (go0 rfl) (.tmp 97) (.tmp 99) (.const (.bool false)) rfl (opT' 97 7 rfl rfl) (opT' 99 9 rfl rfl)) ?_
        refine wpL_cons (is (.bool true)) (stable_is _) (step_move (go0 rfl) (.tmp 100) rfl (opT' 100 10 rfl rfl)) ?_
        refine wpL_cons (is (.agg (blkA blk0))) (stable_is _) (step_loadRow (go1 11 true 101 rfl rfl rfl rfl) 24 (.tmp 13) rfl (b13) 24 (blkA blk0) (0, 0) _ (opO' 13 (.pointer (some ⟨b13, 0, none⟩)) rfl rfl) (fun W h => (HF.out.2.2.2.below h)) Try.underlying24 rfl (size24 blk0)) ?_
        refine wpL_cons (is (.agg (blkA blk0))) (stable_is _) (step_build0 (go1 11 true 101 rfl rfl rfl rfl) 24 rfl built24) ?_
        refine wpL_cons (is (.bool true)) (stable_is _) (step_eql24 (go1 11 true 101 rfl rfl rfl rfl) (.tmp 102) (.tmp 103) rfl blk0 (opT' 102 12 rfl rfl) (opT' 103 13 rfl rfl)) ?_
        refine wpL_cons (is (.bool true)) (stable_is _) (step_pickT (go0 rfl) (.tmp 101) (.tmp 104) (.const (.bool false)) rfl (opT' 101 11 rfl rfl) (opT' 104 14 rfl rfl)) ?_
        refine wpL_cons (is (.bool true)) (stable_is _) (step_move (go0 rfl) (.tmp 105) rfl (opT' 105 15 rfl rfl)) ?_
        refine wpL_cons (is (.bool true)) (stable_is _) (step_awake (go1 16 true 106 rfl rfl rfl rfl) rfl) ?_
        refine wpL_cons (is (.bool true)) (stable_is _) (step_pickT (go0 rfl) (.tmp 106) (.tmp 107) (.const (.bool false)) rfl (opT' 106 16 rfl rfl) (opT' 107 17 rfl rfl)) ?_
        refine wpL_cons (is (.bool true)) (stable_is _) (step_assign (go0 rfl) (.tmp 108) rfl (opT' 108 18 rfl rfl)) ?_
        refine wpL_nil ?_
        intro v9 w9 hI _ hdone _
        have e0 : v9 19 = .bool true := hdone 19 4 rfl
        have hI : Below w8.heap.size w8 w9 := hI
        have HZ := Lib.hid (below_trans HF.out.1 hI)
        clear hdone hI
        simp only [putAll, Act.put, List.setIfInBounds_toArray, List.set_cons_zero, List.set_cons_succ, Nat.zero_add, Nat.reduceAdd, e0]
        go_wp2_with fail
        go_ret
        exact ⟨rfl, HZ.out⟩
      have hi3 : i < 3 := by omega
      have hi3i : ((i : Nat) : Int) < 3 := by omega
      have hci := three_cell (HA5.out.2.1.up HBW.out).th i hi3
      have hrv := bitAt_val a b c i
      obtain ⟨k, hk⟩ : ∃ k, k = bitAt a b c i := ⟨_, rfl⟩
      have hk256 : k < 256 := by rw [hk]; exact bitAt_lt a b c i
      rw [← hk] at hrv
      obtain ⟨z, hz⟩ : ∃ z, z = nth3 a b c i := ⟨_, rfl⟩
      rw [← hz] at hci hrv
      have HRV := Lib.hid hrv
      have HKZ := Lib.hid (And.intro hk hz)
      clear hk hz hrv
      go_upto_region 13 with (first
        | (go_at_call 17; refine (Round_walk z 256 (by omega) (by omega) _).mono ?_
           rintro e w' ⟨rfl, rfl⟩
           rw [HRV.out])
        | fail)
      clear hci
      have hlen : (turned (enc x) a b c i).length = 32 := by rw [turned_length, enc_length]
      obtain ⟨l, hl⟩ : ∃ l, l = turned (enc x) a b c i := ⟨_, rfl⟩
      rw [← hl] at HO hlen
      have hOs : Own wr w5.heap.size (.slice (some ⟨gc, 0, none⟩) l.length cc) l := by rw [hlen]; exact HO.out
      have hlb : l.getD (k / 8) 0 < 256 := hOs.byte _ (getD_mem l (k / 8) (by omega))
      have pc : wr.cell? ⟨gc, k / 8, none⟩ = some (.int .u8 (l.getD (k / 8) 0 : Nat)) := by
        obtain ⟨A, cap, e, _, hb, hoff⟩ := hOs.bytes
        simp only [Value.slice.injEq] at e
        obtain ⟨rfl, _, rfl⟩ := e
        obtain ⟨b', off, e2, _, hc⟩ := hb.cell (k / 8) (by omega)
        simp only [Option.some.injEq, Addr.mk.injEq, and_true] at e2
        obtain ⟨rfl, rfl⟩ := e2
        rwa [Nat.zero_add] at hc
      have HOS := Lib.hid hOs
      have HLL := Lib.hid (And.intro hl hlen)
      clear hl hlen hOs
      refine wp_region_store 109 rfl mixed (by kernel_rfl) (by rfl) (UpC wr) (UpC.start wr) (fun W' => ∃ W, Below wr.heap.size wr W ∧ W' = W.setCell ⟨gc, k / 8, none⟩ (.int .u8 ((l.getD (k / 8) 0 ^^^ 2 ^ (k % 8) : Nat) : Int))) rfl rfl (by kernel_rfl) ?_
      refine wpI_cons (is (.slice (some ⟨gc, 0, none⟩) 32 cc)) (stable_is _) (step_move (go0 rfl) (.tmp 10) rfl (opO' 10 (.slice (some ⟨gc, 0, none⟩) 32 cc) rfl rfl)) ?_
      refine wpI_cons (is (.int .i64 ((k : Nat) : Int))) (stable_is _) (step_move (go0 rfl) (.tmp 12) rfl (opO' 12 (.int .i64 ((k : Nat) : Int)) rfl rfl)) ?_
      refine wpI_cons (is (.int .i64 ((k / 8 : Nat) : Int))) (stable_is _) (step_int (go0 rfl) .quo 3 3 (.tmp 51) (.const (.int .i64 8)) rfl .i64 .i64 _ _ _ (opT' 51 1 rfl rfl) (opC _) (fun W => run_quo8 k (by omega) W)) ?_
      refine wpI_cons (is (.pointer (some ⟨gc, k / 8, none⟩))) (stable_is _) (step_idx (go0 rfl) 25 (.tmp 50) (.tmp 52) rfl _ _ _ (opT' 50 0 rfl rfl) (opT' 52 2 rfl rfl) (fun W => run_ixc gc cc (k / 8) (by omega) W)) ?_
      refine wpI_cons (is (.int .u8 (l.getD (k / 8) 0 : Nat))) (stable_is _) (step_cell (go0 rfl) 5 (.tmp 53) rfl ⟨gc, k / 8, none⟩ _ (opT' 53 3 rfl rfl) (fun W h => (h.cell (block_lt_of_cell pc)).trans pc) (fun W => by kernel_rfl)) ?_
      refine wpI_cons (is (.int .i64 ((k : Nat) : Int))) (stable_is _) (step_move (go0 rfl) (.tmp 12) rfl (opO' 12 (.int .i64 ((k : Nat) : Int)) rfl rfl)) ?_
      refine wpI_cons (is (.int .i64 ((k % 8 : Nat) : Int))) (stable_is _) (step_int (go0 rfl) .rem 3 3 (.tmp 55) (.const (.int .i64 8)) rfl .i64 .i64 _ _ _ (opT' 55 5 rfl rfl) (opC _) (fun W => run_rem8 k W)) ?_
      refine wpI_cons (is (.int .u8 ((2 ^ (k % 8) : Nat) : Int))) (stable_is _) (step_int (go0 rfl) .shl 5 3 (.const (.int .u8 1)) (.tmp 56) rfl .u8 .i64 _ _ _ (opC _) (opT' 56 6 rfl rfl) (fun W => run_shl8 (k % 8) (by omega) W)) ?_
      refine wpI_cons (is (.int .u8 ((l.getD (k / 8) 0 ^^^ 2 ^ (k % 8) : Nat) : Int))) (stable_is _) (step_int (go0 rfl) .xor 5 5 (.tmp 54) (.tmp 57) rfl .u8 .u8 _ _ _ (opT' 54 4 rfl rfl) (opT' 57 7 rfl rfl) (fun W => run_xor8 _ _ hlb (pow_lt8 k) W)) ?_
      refine wpI_cons (is (.pointer (some ⟨gc, k / 8, none⟩))) (stable_is _) (step_idx (go0 rfl) 25 (.tmp 50) (.tmp 52) rfl _ _ _ (opT' 50 0 rfl rfl) (opT' 52 2 rfl rfl) (fun W => run_ixc gc cc (k / 8) (by omega) W)) ?_
      refine wpI_nil ?_
      have hfl : ∀ W, Below wr.heap.size wr W → W.frozen? ⟨gc, k / 8, none⟩ = false ∧ Own (W.setCell ⟨gc, k / 8, none⟩ (.int .u8 ((l.getD (k / 8) 0 ^^^ 2 ^ (k % 8) : Nat) : Int))) w5.heap.size (.slice (some ⟨gc, 0, none⟩) 32 cc) (turned (enc x) a b c (i + 1)) ∧
          Below w5.heap.size w5 (W.setCell ⟨gc, k / 8, none⟩ (.int .u8 ((l.getD (k / 8) 0 ^^^ 2 ^ (k % 8) : Nat) : Int))) := fun W hW => by
        have h1 := Own.set (HOS.out.below hW) (k / 8) (l.getD (k / 8) 0 ^^^ 2 ^ (k % 8)) (by rw [HLL.out.2]; omega) (xor_lt8 hlb (pow_lt8 k))
        rw [HLL.out.2] at h1
        have e2 : turned (enc x) a b c (i + 1) = l.set (k / 8) (l.getD (k / 8) 0 ^^^ 2 ^ (k % 8)) := by rw [turned, ← HLL.out.1, ← HKZ.out.1]; rfl
        exact ⟨h1.1, by rw [e2]; exact h1.2.2.1, (below_trans HBW.out hW).trans h1.2.2.2⟩
      have HFL := Lib.hid hfl
      clear hfl
      refine ⟨?_, ?_, ?_⟩
      · repeat (first | exact pure_base | refine pure_upd _ _ ?_)
      · intro a W K
        have k1 : a.tmps.getD 59 undef = .pointer (some ⟨gc, k / 8, none⟩) := K.got 59 9 rfl
        have k2 : a.tmps.getD 58 undef = .int .u8 ((l.getD (k / 8) 0 ^^^ 2 ^ (k % 8) : Nat) : Int) := K.got 58 8 rfl
        have hW : Below wr.heap.size wr W := K.inv
        exact ⟨_, exec_store5 _ _ rfl ⟨gc, k / 8, none⟩ _ _ k1 k2 W ((hW.cell (block_lt_of_cell pc)).trans pc) (HFL.out W hW).1, W, hW, rfl⟩
      · rintro v4 w8 ⟨W, hW, rfl⟩ _
        have HZ := Lib.hid (HFL.out W hW).2
        clear hW pc
        simp only [putAll, Act.put, List.setIfInBounds_toArray, List.set_cons_zero, List.set_cons_succ, Nat.zero_add, Nat.reduceAdd]
        generalize W.setCell ⟨gc, k / 8, none⟩ (.int .u8 ((l.getD (k / 8) 0 ^^^ 2 ^ (k % 8) : Nat) : Int)) = w9 at *
        go_wp2_with fail
        go_roundw
        case rel => exact ⟨i + 1, by omega, by simp, HZ.out.1, HZ.out.2⟩
        case measure =>
          simp [intOf]
          omega

namespace superBack
open Go.ChangeShapes Go.WideShapes Go.ChangeAt Go.RowKit
set_option linter.unusedVariables false

theorem own : ownKnob Try.prog.godebug = none := by kernel_rfl
theorem laidOut : laidOutB Try.prog = true := by kernel_rfl
/-! ### THE ROW's STEP -/
set_option maxRecDepth 100000 in
theorem lifted (os : Os) (started : os.Started) (H : Type) (enc : TypeId × Value → H) :
    ReturnsInHanded {} Try.checked os 4 .any (Rows.superBackSpec.pre6 enc Try.prog Try.f4 Rows.superBackRow.domain false) (Rows.superBackSpec.post enc Try.prog Try.f4 false true false false) := by
  refine returnsInHanded_of_change (C := Try.checked) own started (by kernel_rfl) Try.func4
    (ChangeSpec.witness6 (enc := enc) (C := Try.checked) false ⟨#[], #[.agg #[.int .i64 0, .int .i64 0, .bool false, .int .i64 0, .int .i64 0, .int .u32 0], .agg #[.int .i64 0, .int .i64 0, .int .i64 0]], []⟩ 8 (by kernel_rfl) (by kernel_rfl) (by kernel_rfl) (by kernel_rfl)) ?_
  intro W base args ds gs before hval0 hW hcnd _
  have hval : ∀ (j : Nat) t v, Try.f4.params[j]? = some t → args[j]? = some v → Value.okWide Try.prog W .any base t v := hval0
  have hW' := hW
  obtain ⟨p, q, hA0, hV, rfl, hfz, hnd⟩ := hW
  have hA : DataW.TrodAll enc Try.prog W 0 (fun _ => true) true Try.f4.params.toList args.toList ds p := hA0
  rw [Try.params4] at hA hval
  obtain ⟨v0, vs0, d0, ds0, p0, q0, hargs, rfl, rfl, h0, r0⟩ := trodAll_cons hA
  obtain ⟨v1, vs1, d1, ds1, p1, q1, rfl, rfl, rfl, h1, r1⟩ := trodAll_cons r0
  obtain ⟨rfl, rfl, rfl⟩ := trodAll_nil r1
  obtain rfl : args = #[v0, v1] := by cases args; simp_all
  obtain ⟨rfl, rfl⟩ := trodVars_none hV
  obtain ⟨x0, rfl, s0⟩ := arg_blk (hval 0 24 v0 rfl rfl) h0
  have lt0 : ∀ x ∈ p0, x.block < W.heap.size := by obtain ⟨m, hm⟩ := h0; exact DataW.trod_lt m _ _ _ hm
  obtain ⟨x1, y1, z1, rfl⟩ := arg_three (hval 1 47 v1 rfl rfl) h1
  have lt1 : ∀ x ∈ p1, x.block < W.heap.size := by obtain ⟨m, hm⟩ := h1; exact DataW.trod_lt m _ _ _ hm
  clear hA0 hval0
  refine (back_law x0 s0 x1 y1 z1 W).mono fun e W' ⟨he, bel⟩ => ?_
  subst he
  exact ⟨_, rfl, _, _, _, [], _, [], hW', trodAll_mk1 (shut_bool Try.underlying4 _), (trodAll_cons_mk (Below.trod laidOut (by kernel_rfl) (of_decide_eq_true (by kernel_rfl)) h0 bel lt0) (trodAll_cons_mk (Below.trod laidOut (by kernel_rfl) (of_decide_eq_true (by kernel_rfl)) h1 bel lt1) trodAll_mk0)), rfl, bel.frame _, fun h => by cases h⟩

theorem over : Rows.superBackRow.holds Try.pinned (OpenSpec.ofChange Rows.superBackSpec) :=
  OpenClaim.holds_of_wide 4 Try.f4 rfl rfl rfl rfl rfl rfl rfl ⟨rfl, rfl, rfl, rfl, rfl⟩ rfl rfl rfl rfl rfl (by kernel_rfl) Try.func4 (by kernel_rfl)
    (of_decide_eq_true (by kernel_rfl)) (by unfold Func.isWrapper; first | (rw [if_pos (by decide +kernel)]; kernel_rfl) | (rw [if_neg (by decide +kernel)]; exact ⟨rfl, rfl⟩))
    (fun os started H enc _ => lifted os started H enc)

/-- THE STATEMENT -/
theorem proved : Rows.SuperBackSaid := over
end superBack
end Go.Proofs.Ytccdciokokcomaa
