/- 'SuperTells' returns true for every input: of any block the bytes, of any bytes the block, and of two the newer one, is as the reference has it. -/
import Derived.Test.YtccdciokokcomaaBackB
import Derived.ProofKit
import Derived.OpenShut
import Derived.ShutString
import Derived.ChangeOld
import Derived.Below
namespace Go.Proofs.Ytccdciokokcomaa
open Go.RowKit

/-- what lies there: blocks, rows of bytes, the table -/
structure Pack (w0 : World) (tb : Nat) (L : List (Nat × Nat × Blk)) (M : List (List Nat × Value)) (W : World) : Prop where
  blks : ∀ e ∈ L, BlkAt W e.1 e.2.1 e.2.2
  vals : ∀ e ∈ M, isBytes e.1 e.2 W
  tabl : W.heap[tb]? = some (.cells (tabCells tab) 28 (0, 0))
  below : Below w0.heap.size w0 W
theorem Pack.up {w0 W W' : World} {tb : Nat} {L : List (Nat × Nat × Blk)} {M : List (List Nat × Value)} (h : Pack w0 tb L M W) (hb : Below W.heap.size W W') : Pack w0 tb L M W' :=
  ⟨fun e he => (h.blks e he).below hb, fun e he => (h.vals e he).up hb, tab_up h.tabl hb, below_trans h.below hb⟩
theorem Pack.addB {w0 W : World} {tb : Nat} {L : List (Nat × Nat × Blk)} {M : List (List Nat × Value)} (h : Pack w0 tb L M W) {t b : Nat} {x : Blk} (hx : BlkAt W t b x) : Pack w0 tb ((t, b, x) :: L) M W :=
  ⟨fun e he => by
    rcases List.mem_cons.1 he with rfl | he
    · exact hx
    · exact h.blks e he, h.vals, h.tabl, h.below⟩
theorem Pack.addV {w0 W : World} {tb : Nat} {L : List (Nat × Nat × Blk)} {M : List (List Nat × Value)} (h : Pack w0 tb L M W) {l : List Nat} {v : Value} (hx : isBytes l v W) : Pack w0 tb L ((l, v) :: M) W :=
  ⟨h.blks, fun e he => by
    rcases List.mem_cons.1 he with rfl | he
    · exact hx
    · exact h.vals e he, h.tabl, h.below⟩
theorem decE_val (l : List Nat) (c : Bool) (h : decOk l = c) : decE l = if c = true then 0 else 3 := by unfold decE; rw [h]
theorem encE_val (x : Blk) (c : Bool) (h : okB x = c) : encE x = if c = true then 0 else 1 := by unfold encE; rw [h]
theorem be4_eq (c : Nat) : be 4 c = [c / 16777216 % 256, c / 65536 % 256, c / 256 % 256, c % 256] := be4 c
theorem bytes4 (w : World) (n1 n2 n3 n4 : Int) (c : Nat) (h1 : n1 = ((c / 16777216 % 256 : Nat) : Int)) (h2 : n2 = ((c / 65536 % 256 : Nat) : Int)) (h3 : n3 = ((c / 256 % 256 : Nat) : Int)) (h4 : n4 = ((c % 256 : Nat) : Int)) :
    isBytes (be 4 c) (.slice (some ⟨w.heap.size, 0, none⟩) 4 4) (w.alloc (.cells #[.int .u8 n1, .int .u8 n2, .int .u8 n3, .int .u8 n4] 5)) := by
  subst h1 h2 h3 h4
  have h := bytes_new w (be 4 c) (be_byte 4 c) 5 (0, 0)
  rw [be4_eq] at h ⊢
  exact ⟨_, 4, rfl, Nat.le_refl _, h⟩

set_option maxRecDepth 100000 in
set_option maxHeartbeats 8000000 in
theorem tells_law (x : Blk) (hs : x.sum < 4294967296) (y : Blk) (_ : y.sum < 4294967296) (l : List Nat) (vb : Value) (w : World) (hv : isBytes l vb w) (p q fix : Bool) : Calls Try.prog 3 #[.agg (blkA x), .agg (blkA y), vb, .bool p, .bool q, .bool fix] w fun e w' => e = .returned (.bool true) ∧ Below w.heap.size w w' := by
  have HS := Lib.hid hs
  obtain ⟨A, cap, rfl, hcap, hB⟩ := hv
  have hv : isBytes l (.slice A l.length cap) w := ⟨A, cap, rfl, hcap, hB⟩
  have hb1 : BlkAt ((w.alloc (.cells (blkA x) 24)).alloc (.cells (blkA y) 24)) 24 w.heap.size x := (BlkAt.new w 24 x).below (below_alloc _ _)
  have hb2 : BlkAt ((w.alloc (.cells (blkA x) 24)).alloc (.cells (blkA y) 24)) 24 (w.heap.size + 1) y := by have := BlkAt.new (w.alloc (.cells (blkA x) 24)) 24 y; simpa using this
  have hb0 := below_trans (below_alloc w (.cells (blkA x) 24)) (below_alloc _ (.cells (blkA y) 24))
  have HB0 := Lib.hid (And.intro hb0 (And.intro hb1 (And.intro hb2 (hv.up hb0))))
  have HCAP := Lib.hid (And.intro hcap hB.byte)
  clear hb0 hb1 hb2 hs hv hB hcap
  obtain ⟨n, hn⟩ : ∃ n, n = l.length := ⟨_, rfl⟩
  rw [← hn] at HB0 HCAP ⊢
  have HN := Lib.hid hn
  clear hn
  by_cases hbig : 100 < n
  · go_enter Try.func3, Try.ntmps3
    go_wp2_with (first
      | (go_at_call 6; with_reducible refine (awake_walk _).mono ?_
         rintro e w3 ⟨rfl, hb3⟩
         have HZ := Lib.hid (below_trans HB0.out.1 hb3)
         clear hb3)
      | fail)
    go_ret
    exact ⟨rfl, HZ.out⟩
  go_enter Try.func3, Try.ntmps3
  go_upto_region 3 with fail
  generalize (w.alloc (.cells (blkA x) 24)).alloc (.cells (blkA y) 24) = w1 at *
  have HT := Lib.hid (two_tab w1)
  have HP1 := Lib.hid (show Pack w (w1.heap.size + 1) [(24, w.heap.size, x), (24, w.heap.size + 1, y)] [(l, .slice A n cap)] ((w1.alloc (.cells (tabCells tab) 28)).alloc (.cells (tabCells tab) 28)) from by
    have hb := below_trans (below_alloc w1 (.cells (tabCells tab) 28)) (below_alloc _ (.cells (tabCells tab) 28))
    have hP := Pack.mk (w0 := w) (tb := w1.heap.size + 1) (L := []) (M := []) (fun e he => by cases he) (fun e he => by cases he) (two_tab w1) (below_trans HB0.out.1 hb)
    exact ((hP.addB (HB0.out.2.2.1.below hb)).addB (HB0.out.2.1.below hb)).addV (HB0.out.2.2.2.up hb))
  go_upto_region 4 with (first
    | (go_at_call 7; with_reducible refine (Make_walk _).mono ?_
       rintro e w' ⟨rfl, rfl⟩)
    | (with_reducible refine at_op (.alloc 28) ?_; refine wpList_alloc28 rfl rfl ?_)
    | (with_reducible refine at_op (.store 28 (.tmp 13) (.tmp 28)) ?_; refine wpList_store_row rfl 28 (.tmp 13) (.tmp 28) rfl (tabCells (fun _ => 0)) (tabCells tab) _ (by simp) rfl rfl size28 (tabCells_same _ _) (tabCells_one tab) ?_)
    | fail)
  simp only [World.size_alloc]
  generalize (w1.alloc (.cells (tabCells tab) 28)).alloc (.cells (tabCells tab) 28) = w2 at *
  obtain ⟨b13, hb13⟩ : ∃ b13, b13 = w1.heap.size + 1 := ⟨_, rfl⟩
  rw [← hb13] at HP1 ⊢
  clear hb13 HT HB0
  cases fix with
  | false =>
    obtain ⟨l2, hl2⟩ : ∃ l2, l2 = l := ⟨_, rfl⟩
    rw [← hl2] at HP1
    clear hl2
    go_upto_region 12 with (first
      | (with_reducible refine at_op (.load 28 (.tmp 13)) ?_; first | refine arm_tab rfl (.tmp 13) rfl b13 rfl HP4.out.tabl ?_ | refine arm_tab rfl (.tmp 13) rfl b13 rfl HP1.out.tabl ?_)
      | (with_reducible refine at_op (.load 24 (.tmp 6)) ?_; first | refine arm_loadB rfl 24 (fun _ _ _ h => h.load24) (.tmp 6) rfl w.heap.size x rfl (HP2.out.blks (24, w.heap.size, x) (by simp)) ?_ | refine arm_loadB rfl 24 (fun _ _ _ h => h.load24) (.tmp 6) rfl w.heap.size x rfl (HP1.out.blks (24, w.heap.size, x) (by simp)) ?_)
      | (go_at_call 9; with_reducible refine (enc_walk x HS.out _).mono ?_
         rintro e w3 ⟨va, rfl, hv3, hb3⟩
         have HP2 := Lib.hid ((HP1.out.up hb3).addV hv3)
         clear hb3 hv3)
      | (go_at_call 11; with_reducible refine (flat_walk x _).mono ?_
         rintro e w4 ⟨rfl, hb4⟩
         have HP3 := Lib.hid (HP2.out.up hb4)
         clear hb4)
      | (go_at_call 10; with_reducible refine (head_walk x HS.out _).mono ?_
         rintro e w5 ⟨vc, rfl, hv5, hb5⟩
         have HP4 := Lib.hid ((HP3.out.up hb5).addV hv5)
         clear hb5 hv5 HP3)
      | (go_at_call 12; refine (dec_walk l2 _ _ (HP4.out.vals (l2, .slice A n cap) (by simp))).mono ?_
         rintro e w6 ⟨rfl, hb6⟩
         have HP5 := Lib.hid (HP4.out.up hb6)
         clear hb6)
      | (with_reducible refine at_op (.alloc 24) ?_; refine arm_allocB rfl 24 rfl alloc24 ?_)
      | (with_reducible refine at_op (.store 24 (.tmp 20) (.tmp 71)) ?_; refine arm_storeB rfl 24 size24 (.tmp 20) (.tmp 71) rfl w6.heap.size blk0 (dec l2) rfl rfl (BlkAt.new w6 24 blk0) ?_
         have hs := (below_alloc w6 (.cells (blkA blk0) 24)).trans (set_below _ w6.heap.size w6.heap.size (dec l2) (Nat.le_refl _))
         have HP6 := Lib.hid ((HP5.out.up hs).addB (set_new _ _ _ (dec l2) _ (BlkAt.new w6 24 blk0)))
         generalize World.setRow (w6.alloc (.cells (blkA blk0) 24)) w6.heap.size (blkA (dec l2)) = w7 at *
         obtain ⟨b20, hb20⟩ : ∃ b20, b20 = w6.heap.size := ⟨_, rfl⟩
         rw [← hb20] at HP6 ⊢
         clear hs hb20 HP5)
      | (go_at_call 13; refine (rd_walk l2 _ _ (HP6.out.vals (l2, .slice A n cap) (by simp))).mono ?_
         rintro e w8 ⟨rfl, hb8⟩
         have HP7 := Lib.hid (HP6.out.up hb8)
         clear hb8)
      | (with_reducible refine at_op (.alloc 37) ?_; refine arm_allocB rfl 37 rfl alloc37 ?_)
      | (with_reducible refine at_op (.store 37 (.tmp 22) (.tmp 76)) ?_; refine arm_storeB rfl 37 size37 (.tmp 22) (.tmp 76) rfl w8.heap.size blk0 (dec l2) rfl rfl (BlkAt.new w8 37 blk0) ?_
         have hs := (below_alloc w8 (.cells (blkA blk0) 37)).trans (set_below _ w8.heap.size w8.heap.size (dec l2) (Nat.le_refl _))
         have HP8 := Lib.hid ((HP7.out.up hs).addB (set_new _ _ _ (dec l2) _ (BlkAt.new w8 37 blk0)))
         generalize World.setRow (w8.alloc (.cells (blkA blk0) 37)) w8.heap.size (blkA (dec l2)) = w9 at *
         obtain ⟨b22, hb22⟩ : ∃ b22, b22 = w8.heap.size := ⟨_, rfl⟩
         rw [← hb22] at HP8 ⊢
         clear hs hb22 HP7)
      | fail)
    clear HP1 HP2 HP4 HP6
    cases hok : okB x <;> cases hdk : decOk l2
    · rw [show encE x = 1 from encE_val x _ hok, show decE l2 = 3 from decE_val l2 _ hdk]
      clear hok hdk
      refine wp_region_link 132 mixed (by kernel_rfl) (by rfl) (UpC w9) (UpC.start w9) ?_
      refine wpL_cons (is (va)) (stable_is _) (step_move (go0 rfl) (.tmp 16) rfl (opO' 16 (va) rfl rfl)) ?_
      refine wpL_cons (is (.string (str (encL x)))) (stable_is _) (step_str (go0 rfl) (.tmp 78) rfl (encL x) (OpIs.imp (opT' 78 0 rfl rfl) (fun v W h e => by rw [show v = (va) from e]; exact ((HP8.out.up h).vals (encL x, va) (by simp))))) ?_
      refine wpL_cons (is (vc)) (stable_is _) (step_move (go0 rfl) (.tmp 18) rfl (opO' 18 (vc) rfl rfl)) ?_
      refine wpL_cons (is (.string (str (encL x)))) (stable_is _) (step_str (go0 rfl) (.tmp 80) rfl (encL x) (OpIs.imp (opT' 80 2 rfl rfl) (fun v W h e => by rw [show v = (vc) from e]; exact ((HP8.out.up h).vals (encL x, vc) (by simp))))) ?_
      refine wpL_cons (is (.bool true)) (stable_is _) (step_eqs (go0 rfl) (.tmp 79) (.tmp 81) rfl (encL x) (opT' 79 1 rfl rfl) (opT' 81 3 rfl rfl)) ?_
      refine wpL_cons (is (.bool true)) (stable_is _) (step_move (go0 rfl) (.tmp 82) rfl (opT' 82 4 rfl rfl)) ?_
      refine wpL_cons (is (.int .i64 1)) (stable_is _) (step_move (go1 5 true 83 rfl rfl rfl rfl) (.tmp 17) rfl (opO' 17 (.int .i64 1) rfl rfl)) ?_
      refine wpL_cons (is (.bool false)) (stable_is _) (step_int (go1 5 true 83 rfl rfl rfl rfl) .eql 32 32 (.tmp 84) (.const (.int .i64 0)) rfl .i64 .i64 _ _ _ (opT' 84 6 rfl rfl) (opC _) (fun W => by kernel_rfl)) ?_
      refine wpL_cons (is (.bool false)) (stable_is _) (step_move (go1 5 true 83 rfl rfl rfl rfl) (.tmp 19) rfl (opO' 19 (.bool false) rfl rfl)) ?_
      refine wpL_cons (is (.bool true)) (stable_is _) (step_eqb (go1 5 true 83 rfl rfl rfl rfl) 4 4 (.tmp 85) (.tmp 86) rfl false false true (opT' 85 7 rfl rfl) (opT' 86 8 rfl rfl) (fun W => by kernel_rfl)) ?_
      refine wpL_cons (is (.bool true)) (stable_is _) (step_pickT (go0 rfl) (.tmp 83) (.tmp 87) (.const (.bool false)) rfl (opT' 83 5 rfl rfl) (opT' 87 9 rfl rfl)) ?_
      refine wpL_cons (is (.bool true)) (stable_is _) (step_move (go0 rfl) (.tmp 88) rfl (opT' 88 10 rfl rfl)) ?_
      refine wpL_cons (is (.bool false)) (stable_is _) (step_move (go1 11 true 89 rfl rfl rfl rfl) (.tmp 19) rfl (opO' 19 (.bool false) rfl rfl)) ?_
      refine wpL_cons (is (.bool false)) (stable_is _) (step_move (go1 11 true 89 rfl rfl rfl rfl) (.tmp 90) rfl (opT' 90 12 rfl rfl)) ?_
      refine wpL_cons (is (.int .i64 1)) (stable_is _) (step_move (go1 13 false 91 rfl rfl rfl rfl) (.tmp 17) rfl (opO' 17 (.int .i64 1) rfl rfl)) ?_
      refine wpL_cons (is (.bool true)) (stable_is _) (step_int (go1 13 false 91 rfl rfl rfl rfl) .eql 32 32 (.tmp 92) (.const (.int .i64 1)) rfl .i64 .i64 _ _ _ (opT' 92 14 rfl rfl) (opC _) (fun W => by kernel_rfl)) ?_
      refine wpL_cons (is (.bool true)) (stable_is _) (step_pickF (go1 11 true 89 rfl rfl rfl rfl) (.tmp 91) (.const (.bool true)) (.tmp 93) rfl (opT' 91 13 rfl rfl) (opT' 93 15 rfl rfl)) ?_
      refine wpL_cons (is (.bool true)) (stable_is _) (step_pickT (go0 rfl) (.tmp 89) (.tmp 94) (.const (.bool false)) rfl (opT' 89 11 rfl rfl) (opT' 94 16 rfl rfl)) ?_
      refine wpL_cons (is (.bool true)) (stable_is _) (step_move (go0 rfl) (.tmp 95) rfl (opT' 95 17 rfl rfl)) ?_
      refine wpL_cons (is (.agg (blkA (dec l2)))) (stable_is _) (step_loadRow (go1 18 true 96 rfl rfl rfl rfl) 24 (.tmp 20) rfl (b20) 24 (blkA (dec l2)) (0, 0) _ (opO' 20 (.pointer (some ⟨b20, 0, none⟩)) rfl rfl) (fun W h => ((HP8.out.up h).blks (24, b20, dec l2) (by simp))) Try.underlying24 rfl (size24 (dec l2))) ?_
      refine wpL_cons (is (.agg (blkA (dec l2)))) (stable_is _) (step_loadRow (go1 18 true 96 rfl rfl rfl rfl) 37 (.tmp 22) rfl (b22) 37 (blkA (dec l2)) (0, 0) _ (opO' 22 (.pointer (some ⟨b22, 0, none⟩)) rfl rfl) (fun W h => ((HP8.out.up h).blks (37, b22, dec l2) (by simp))) Try.underlying37 rfl (size37 (dec l2))) ?_
      refine wpL_cons (is (.bool true)) (stable_is _) (step_same' (go1 18 true 96 rfl rfl rfl rfl) (.tmp 97) (.tmp 98) _ rfl (dec l2) (opT' 97 19 rfl rfl) (opT' 98 20 rfl rfl)) ?_
      refine wpL_cons (is (.bool true)) (stable_is _) (step_pickT (go0 rfl) (.tmp 96) (.tmp 99) (.const (.bool false)) rfl (opT' 96 18 rfl rfl) (opT' 99 21 rfl rfl)) ?_
      refine wpL_cons (is (.bool true)) (stable_is _) (step_move (go0 rfl) (.tmp 100) rfl (opT' 100 22 rfl rfl)) ?_
      refine wpL_cons (is (.int .i64 3)) (stable_is _) (step_move (go1 23 true 101 rfl rfl rfl rfl) (.tmp 21) rfl (opO' 21 (.int .i64 3) rfl rfl)) ?_
      refine wpL_cons (is (.bool false)) (stable_is _) (step_int (go1 23 true 101 rfl rfl rfl rfl) .eql 32 32 (.tmp 102) (.const (.int .i64 0)) rfl .i64 .i64 _ _ _ (opT' 102 24 rfl rfl) (opC _) (fun W => by kernel_rfl)) ?_
      refine wpL_cons (is (.bool false)) (stable_is _) (step_move (go1 23 true 101 rfl rfl rfl rfl) (.tmp 23) rfl (opO' 23 (.bool false) rfl rfl)) ?_
      refine wpL_cons (is (.bool true)) (stable_is _) (step_eqb (go1 23 true 101 rfl rfl rfl rfl) 4 4 (.tmp 103) (.tmp 104) rfl false false true (opT' 103 25 rfl rfl) (opT' 104 26 rfl rfl) (fun W => by kernel_rfl)) ?_
      refine wpL_cons (is (.bool true)) (stable_is _) (step_pickT (go0 rfl) (.tmp 101) (.tmp 105) (.const (.bool false)) rfl (opT' 101 23 rfl rfl) (opT' 105 27 rfl rfl)) ?_
      refine wpL_cons (is (.bool true)) (stable_is _) (step_move (go0 rfl) (.tmp 106) rfl (opT' 106 28 rfl rfl)) ?_
      refine wpL_cons (is (.bool false)) (stable_is _) (step_move (go1 29 true 107 rfl rfl rfl rfl) (.tmp 23) rfl (opO' 23 (.bool false) rfl rfl)) ?_
      refine wpL_cons (is (.bool false)) (stable_is _) (step_move (go1 29 true 107 rfl rfl rfl rfl) (.tmp 108) rfl (opT' 108 30 rfl rfl)) ?_
      refine wpL_cons (is (.int .i64 3)) (stable_is _) (step_move (go1 31 false 109 rfl rfl rfl rfl) (.tmp 21) rfl (opO' 21 (.int .i64 3) rfl rfl)) ?_
      refine wpL_cons (is (.bool true)) (stable_is _) (step_int (go1 31 false 109 rfl rfl rfl rfl) .eql 32 32 (.tmp 110) (.const (.int .i64 3)) rfl .i64 .i64 _ _ _ (opT' 110 32 rfl rfl) (opC _) (fun W => by kernel_rfl)) ?_
      refine wpL_cons (is (.bool true)) (stable_is _) (step_pickF (go1 29 true 107 rfl rfl rfl rfl) (.tmp 109) (.const (.bool true)) (.tmp 111) rfl (opT' 109 31 rfl rfl) (opT' 111 33 rfl rfl)) ?_
      refine wpL_cons (is (.bool true)) (stable_is _) (step_pickT (go0 rfl) (.tmp 107) (.tmp 112) (.const (.bool false)) rfl (opT' 107 29 rfl rfl) (opT' 112 34 rfl rfl)) ?_
      refine wpL_cons (is (.bool true)) (stable_is _) (step_move (go0 rfl) (.tmp 113) rfl (opT' 113 35 rfl rfl)) ?_
      refine wpL_cons (is (.agg (blkA x))) (stable_is _) (step_loadRow (go1 36 true 114 rfl rfl rfl rfl) 24 (.tmp 6) rfl (w.heap.size) 24 (blkA x) (0, 0) _ (opO' 6 (.pointer (some ⟨w.heap.size, 0, none⟩)) rfl rfl) (fun W h => ((HP8.out.up h).blks (24, w.heap.size, x) (by simp))) Try.underlying24 rfl (size24 x)) ?_
      refine wpL_cons (is (.agg (blkA y))) (stable_is _) (step_loadRow (go1 36 true 114 rfl rfl rfl rfl) 24 (.tmp 7) rfl (w.heap.size + 1) 24 (blkA y) (0, 0) _ (opO' 7 (.pointer (some ⟨w.heap.size + 1, 0, none⟩)) rfl rfl) (fun W h => ((HP8.out.up h).blks (24, w.heap.size + 1, y) (by simp))) Try.underlying24 rfl (size24 y)) ?_
      refine wpL_cons (is (.bool p)) (stable_is _) (step_move (go1 36 true 114 rfl rfl rfl rfl) (.tmp 3) rfl (opO' 3 (.bool p) rfl rfl)) ?_
      refine wpL_cons (is (.bool q)) (stable_is _) (step_move (go1 36 true 114 rfl rfl rfl rfl) (.tmp 4) rfl (opO' 4 (.bool q) rfl rfl)) ?_
      refine wpL_cons (is (.int .i64 (newer x y p q))) (stable_is _) (step_newer (go1 36 true 114 rfl rfl rfl rfl) (.tmp 115) (.tmp 116) (.tmp 117) (.tmp 118) _ rfl x y p q (newer x y p q) rfl (opT' 115 37 rfl rfl) (opT' 116 38 rfl rfl) (opT' 117 39 rfl rfl) (opT' 118 40 rfl rfl)) ?_
      refine wpL_cons (is (.agg (blkA x))) (stable_is _) (step_loadRow (go1 36 true 114 rfl rfl rfl rfl) 24 (.tmp 6) rfl (w.heap.size) 24 (blkA x) (0, 0) _ (opO' 6 (.pointer (some ⟨w.heap.size, 0, none⟩)) rfl rfl) (fun W h => ((HP8.out.up h).blks (24, w.heap.size, x) (by simp))) Try.underlying24 rfl (size24 x)) ?_
      refine wpL_cons (is (.agg (blkA x))) (stable_is _) (step_flat (go1 36 true 114 rfl rfl rfl rfl) (.tmp 120) _ rfl x (opT' 120 42 rfl rfl)) ?_
      refine wpL_cons (is (.agg (blkA y))) (stable_is _) (step_loadRow (go1 36 true 114 rfl rfl rfl rfl) 24 (.tmp 7) rfl (w.heap.size + 1) 24 (blkA y) (0, 0) _ (opO' 7 (.pointer (some ⟨w.heap.size + 1, 0, none⟩)) rfl rfl) (fun W h => ((HP8.out.up h).blks (24, w.heap.size + 1, y) (by simp))) Try.underlying24 rfl (size24 y)) ?_
      refine wpL_cons (is (.agg (blkA y))) (stable_is _) (step_flat (go1 36 true 114 rfl rfl rfl rfl) (.tmp 122) _ rfl y (opT' 122 44 rfl rfl)) ?_
      refine wpL_cons (is (.bool p)) (stable_is _) (step_move (go1 36 true 114 rfl rfl rfl rfl) (.tmp 3) rfl (opO' 3 (.bool p) rfl rfl)) ?_
      refine wpL_cons (is (.bool q)) (stable_is _) (step_move (go1 36 true 114 rfl rfl rfl rfl) (.tmp 4) rfl (opO' 4 (.bool q) rfl rfl)) ?_
      refine wpL_cons (is (.int .i64 (newer x y p q))) (stable_is _) (step_newerR (go1 36 true 114 rfl rfl rfl rfl) (.tmp 121) (.tmp 123) (.tmp 124) (.tmp 125) _ rfl x y p q (newer x y p q) rfl (opT' 121 43 rfl rfl) (opT' 123 45 rfl rfl) (opT' 124 46 rfl rfl) (opT' 125 47 rfl rfl)) ?_
      refine wpL_cons (is (.bool true)) (stable_is _) (step_eq (go1 36 true 114 rfl rfl rfl rfl) 3 3 (.tmp 119) (.tmp 126) rfl .i64 _ _ true (opT' 119 41 rfl rfl) (opT' 126 48 rfl rfl) (beq_self_eq_true _)) ?_
      refine wpL_cons (is (.bool true)) (stable_is _) (step_pickT (go0 rfl) (.tmp 114) (.tmp 127) (.const (.bool false)) rfl (opT' 114 36 rfl rfl) (opT' 127 49 rfl rfl)) ?_
      refine wpL_cons (is (.bool true)) (stable_is _) (step_move (go0 rfl) (.tmp 128) rfl (opT' 128 50 rfl rfl)) ?_
      refine wpL_cons (is (.bool true)) (stable_is _) (step_awake (go1 51 true 129 rfl rfl rfl rfl) rfl) ?_
      refine wpL_cons (is (.bool true)) (stable_is _) (step_pickT (go0 rfl) (.tmp 129) (.tmp 130) (.const (.bool false)) rfl (opT' 129 51 rfl rfl) (opT' 130 52 rfl rfl)) ?_
      refine wpL_cons (is (.bool true)) (stable_is _) (step_assign (go0 rfl) (.tmp 131) rfl (opT' 131 53 rfl rfl)) ?_
      refine wpL_nil ?_
      intro v w10 hI _ hdone _
      have e0 : v 54 = .bool true := hdone 54 12 rfl
      have hI : Below w9.heap.size w9 w10 := hI
      have HZ := Lib.hid (below_trans HP8.out.below hI)
      clear hdone hI
      simp only [putAll, Act.put, List.setIfInBounds_toArray, List.set_cons_zero, List.set_cons_succ, Nat.zero_add, Nat.reduceAdd, e0]
      go_wp2_with fail
      go_ret
      exact ⟨rfl, HZ.out⟩
    · rw [show encE x = 1 from encE_val x _ hok, show decE l2 = 0 from decE_val l2 _ hdk]
      clear hok hdk
      refine wp_region_link 132 mixed (by kernel_rfl) (by rfl) (UpC w9) (UpC.start w9) ?_
      refine wpL_cons (is (va)) (stable_is _) (step_move (go0 rfl) (.tmp 16) rfl (opO' 16 (va) rfl rfl)) ?_
      refine wpL_cons (is (.string (str (encL x)))) (stable_is _) (step_str (go0 rfl) (.tmp 78) rfl (encL x) (OpIs.imp (opT' 78 0 rfl rfl) (fun v W h e => by rw [show v = (va) from e]; exact ((HP8.out.up h).vals (encL x, va) (by simp))))) ?_
      refine wpL_cons (is (vc)) (stable_is _) (step_move (go0 rfl) (.tmp 18) rfl (opO' 18 (vc) rfl rfl)) ?_
      refine wpL_cons (is (.string (str (encL x)))) (stable_is _) (step_str (go0 rfl) (.tmp 80) rfl (encL x) (OpIs.imp (opT' 80 2 rfl rfl) (fun v W h e => by rw [show v = (vc) from e]; exact ((HP8.out.up h).vals (encL x, vc) (by simp))))) ?_
      refine wpL_cons (is (.bool true)) (stable_is _) (step_eqs (go0 rfl) (.tmp 79) (.tmp 81) rfl (encL x) (opT' 79 1 rfl rfl) (opT' 81 3 rfl rfl)) ?_
      refine wpL_cons (is (.bool true)) (stable_is _) (step_move (go0 rfl) (.tmp 82) rfl (opT' 82 4 rfl rfl)) ?_
      refine wpL_cons (is (.int .i64 1)) (stable_is _) (step_move (go1 5 true 83 rfl rfl rfl rfl) (.tmp 17) rfl (opO' 17 (.int .i64 1) rfl rfl)) ?_
      refine wpL_cons (is (.bool false)) (stable_is _) (step_int (go1 5 true 83 rfl rfl rfl rfl) .eql 32 32 (.tmp 84) (.const (.int .i64 0)) rfl .i64 .i64 _ _ _ (opT' 84 6 rfl rfl) (opC _) (fun W => by kernel_rfl)) ?_
      refine wpL_cons (is (.bool false)) (stable_is _) (step_move (go1 5 true 83 rfl rfl rfl rfl) (.tmp 19) rfl (opO' 19 (.bool false) rfl rfl)) ?_
      refine wpL_cons (is (.bool true)) (stable_is _) (step_eqb (go1 5 true 83 rfl rfl rfl rfl) 4 4 (.tmp 85) (.tmp 86) rfl false false true (opT' 85 7 rfl rfl) (opT' 86 8 rfl rfl) (fun W => by kernel_rfl)) ?_
      refine wpL_cons (is (.bool true)) (stable_is _) (step_pickT (go0 rfl) (.tmp 83) (.tmp 87) (.const (.bool false)) rfl (opT' 83 5 rfl rfl) (opT' 87 9 rfl rfl)) ?_
      refine wpL_cons (is (.bool true)) (stable_is _) (step_move (go0 rfl) (.tmp 88) rfl (opT' 88 10 rfl rfl)) ?_
      refine wpL_cons (is (.bool false)) (stable_is _) (step_move (go1 11 true 89 rfl rfl rfl rfl) (.tmp 19) rfl (opO' 19 (.bool false) rfl rfl)) ?_
      refine wpL_cons (is (.bool false)) (stable_is _) (step_move (go1 11 true 89 rfl rfl rfl rfl) (.tmp 90) rfl (opT' 90 12 rfl rfl)) ?_
      refine wpL_cons (is (.int .i64 1)) (stable_is _) (step_move (go1 13 false 91 rfl rfl rfl rfl) (.tmp 17) rfl (opO' 17 (.int .i64 1) rfl rfl)) ?_
      refine wpL_cons (is (.bool true)) (stable_is _) (step_int (go1 13 false 91 rfl rfl rfl rfl) .eql 32 32 (.tmp 92) (.const (.int .i64 1)) rfl .i64 .i64 _ _ _ (opT' 92 14 rfl rfl) (opC _) (fun W => by kernel_rfl)) ?_
      refine wpL_cons (is (.bool true)) (stable_is _) (step_pickF (go1 11 true 89 rfl rfl rfl rfl) (.tmp 91) (.const (.bool true)) (.tmp 93) rfl (opT' 91 13 rfl rfl) (opT' 93 15 rfl rfl)) ?_
      refine wpL_cons (is (.bool true)) (stable_is _) (step_pickT (go0 rfl) (.tmp 89) (.tmp 94) (.const (.bool false)) rfl (opT' 89 11 rfl rfl) (opT' 94 16 rfl rfl)) ?_
      refine wpL_cons (is (.bool true)) (stable_is _) (step_move (go0 rfl) (.tmp 95) rfl (opT' 95 17 rfl rfl)) ?_
      refine wpL_cons (is (.agg (blkA (dec l2)))) (stable_is _) (step_loadRow (go1 18 true 96 rfl rfl rfl rfl) 24 (.tmp 20) rfl (b20) 24 (blkA (dec l2)) (0, 0) _ (opO' 20 (.pointer (some ⟨b20, 0, none⟩)) rfl rfl) (fun W h => ((HP8.out.up h).blks (24, b20, dec l2) (by simp))) Try.underlying24 rfl (size24 (dec l2))) ?_
      refine wpL_cons (is (.agg (blkA (dec l2)))) (stable_is _) (step_loadRow (go1 18 true 96 rfl rfl rfl rfl) 37 (.tmp 22) rfl (b22) 37 (blkA (dec l2)) (0, 0) _ (opO' 22 (.pointer (some ⟨b22, 0, none⟩)) rfl rfl) (fun W h => ((HP8.out.up h).blks (37, b22, dec l2) (by simp))) Try.underlying37 rfl (size37 (dec l2))) ?_
      refine wpL_cons (is (.bool true)) (stable_is _) (step_same' (go1 18 true 96 rfl rfl rfl rfl) (.tmp 97) (.tmp 98) _ rfl (dec l2) (opT' 97 19 rfl rfl) (opT' 98 20 rfl rfl)) ?_
      refine wpL_cons (is (.bool true)) (stable_is _) (step_pickT (go0 rfl) (.tmp 96) (.tmp 99) (.const (.bool false)) rfl (opT' 96 18 rfl rfl) (opT' 99 21 rfl rfl)) ?_
      refine wpL_cons (is (.bool true)) (stable_is _) (step_move (go0 rfl) (.tmp 100) rfl (opT' 100 22 rfl rfl)) ?_
      refine wpL_cons (is (.int .i64 0)) (stable_is _) (step_move (go1 23 true 101 rfl rfl rfl rfl) (.tmp 21) rfl (opO' 21 (.int .i64 0) rfl rfl)) ?_
      refine wpL_cons (is (.bool true)) (stable_is _) (step_int (go1 23 true 101 rfl rfl rfl rfl) .eql 32 32 (.tmp 102) (.const (.int .i64 0)) rfl .i64 .i64 _ _ _ (opT' 102 24 rfl rfl) (opC _) (fun W => by kernel_rfl)) ?_
      refine wpL_cons (is (.bool true)) (stable_is _) (step_move (go1 23 true 101 rfl rfl rfl rfl) (.tmp 23) rfl (opO' 23 (.bool true) rfl rfl)) ?_
      refine wpL_cons (is (.bool true)) (stable_is _) (step_eqb (go1 23 true 101 rfl rfl rfl rfl) 4 4 (.tmp 103) (.tmp 104) rfl true true true (opT' 103 25 rfl rfl) (opT' 104 26 rfl rfl) (fun W => by kernel_rfl)) ?_
      refine wpL_cons (is (.bool true)) (stable_is _) (step_pickT (go0 rfl) (.tmp 101) (.tmp 105) (.const (.bool false)) rfl (opT' 101 23 rfl rfl) (opT' 105 27 rfl rfl)) ?_
      refine wpL_cons (is (.bool true)) (stable_is _) (step_move (go0 rfl) (.tmp 106) rfl (opT' 106 28 rfl rfl)) ?_
      refine wpL_cons (is (.bool true)) (stable_is _) (step_move (go1 29 true 107 rfl rfl rfl rfl) (.tmp 23) rfl (opO' 23 (.bool true) rfl rfl)) ?_
      refine wpL_cons (is (.bool true)) (stable_is _) (step_move (go1 29 true 107 rfl rfl rfl rfl) (.tmp 108) rfl (opT' 108 30 rfl rfl)) ?_
      refine wpL_cons (is (undef)) (stable_is _) (step_off 31 false 109 rfl rfl rfl rfl) ?_
      refine wpL_cons (is (undef)) (stable_is _) (step_off 31 false 109 rfl rfl rfl rfl) ?_
      refine wpL_cons (is (.bool true)) (stable_is _) (step_pickT (go1 29 true 107 rfl rfl rfl rfl) (.tmp 109) (.const (.bool true)) (.tmp 111) rfl (opT' 109 31 rfl rfl) (opC _)) ?_
      refine wpL_cons (is (.bool true)) (stable_is _) (step_pickT (go0 rfl) (.tmp 107) (.tmp 112) (.const (.bool false)) rfl (opT' 107 29 rfl rfl) (opT' 112 34 rfl rfl)) ?_
      refine wpL_cons (is (.bool true)) (stable_is _) (step_move (go0 rfl) (.tmp 113) rfl (opT' 113 35 rfl rfl)) ?_
      refine wpL_cons (is (.agg (blkA x))) (stable_is _) (step_loadRow (go1 36 true 114 rfl rfl rfl rfl) 24 (.tmp 6) rfl (w.heap.size) 24 (blkA x) (0, 0) _ (opO' 6 (.pointer (some ⟨w.heap.size, 0, none⟩)) rfl rfl) (fun W h => ((HP8.out.up h).blks (24, w.heap.size, x) (by simp))) Try.underlying24 rfl (size24 x)) ?_
      refine wpL_cons (is (.agg (blkA y))) (stable_is _) (step_loadRow (go1 36 true 114 rfl rfl rfl rfl) 24 (.tmp 7) rfl (w.heap.size + 1) 24 (blkA y) (0, 0) _ (opO' 7 (.pointer (some ⟨w.heap.size + 1, 0, none⟩)) rfl rfl) (fun W h => ((HP8.out.up h).blks (24, w.heap.size + 1, y) (by simp))) Try.underlying24 rfl (size24 y)) ?_
      refine wpL_cons (is (.bool p)) (stable_is _) (step_move (go1 36 true 114 rfl rfl rfl rfl) (.tmp 3) rfl (opO' 3 (.bool p) rfl rfl)) ?_
      refine wpL_cons (is (.bool q)) (stable_is _) (step_move (go1 36 true 114 rfl rfl rfl rfl) (.tmp 4) rfl (opO' 4 (.bool q) rfl rfl)) ?_
      refine wpL_cons (is (.int .i64 (newer x y p q))) (stable_is _) (step_newer (go1 36 true 114 rfl rfl rfl rfl) (.tmp 115) (.tmp 116) (.tmp 117) (.tmp 118) _ rfl x y p q (newer x y p q) rfl (opT' 115 37 rfl rfl) (opT' 116 38 rfl rfl) (opT' 117 39 rfl rfl) (opT' 118 40 rfl rfl)) ?_
      refine wpL_cons (is (.agg (blkA x))) (stable_is _) (step_loadRow (go1 36 true 114 rfl rfl rfl rfl) 24 (.tmp 6) rfl (w.heap.size) 24 (blkA x) (0, 0) _ (opO' 6 (.pointer (some ⟨w.heap.size, 0, none⟩)) rfl rfl) (fun W h => ((HP8.out.up h).blks (24, w.heap.size, x) (by simp))) Try.underlying24 rfl (size24 x)) ?_
      refine wpL_cons (is (.agg (blkA x))) (stable_is _) (step_flat (go1 36 true 114 rfl rfl rfl rfl) (.tmp 120) _ rfl x (opT' 120 42 rfl rfl)) ?_
      refine wpL_cons (is (.agg (blkA y))) (stable_is _) (step_loadRow (go1 36 true 114 rfl rfl rfl rfl) 24 (.tmp 7) rfl (w.heap.size + 1) 24 (blkA y) (0, 0) _ (opO' 7 (.pointer (some ⟨w.heap.size + 1, 0, none⟩)) rfl rfl) (fun W h => ((HP8.out.up h).blks (24, w.heap.size + 1, y) (by simp))) Try.underlying24 rfl (size24 y)) ?_
      refine wpL_cons (is (.agg (blkA y))) (stable_is _) (step_flat (go1 36 true 114 rfl rfl rfl rfl) (.tmp 122) _ rfl y (opT' 122 44 rfl rfl)) ?_
      refine wpL_cons (is (.bool p)) (stable_is _) (step_move (go1 36 true 114 rfl rfl rfl rfl) (.tmp 3) rfl (opO' 3 (.bool p) rfl rfl)) ?_
      refine wpL_cons (is (.bool q)) (stable_is _) (step_move (go1 36 true 114 rfl rfl rfl rfl) (.tmp 4) rfl (opO' 4 (.bool q) rfl rfl)) ?_
      refine wpL_cons (is (.int .i64 (newer x y p q))) (stable_is _) (step_newerR (go1 36 true 114 rfl rfl rfl rfl) (.tmp 121) (.tmp 123) (.tmp 124) (.tmp 125) _ rfl x y p q (newer x y p q) rfl (opT' 121 43 rfl rfl) (opT' 123 45 rfl rfl) (opT' 124 46 rfl rfl) (opT' 125 47 rfl rfl)) ?_
      refine wpL_cons (is (.bool true)) (stable_is _) (step_eq (go1 36 true 114 rfl rfl rfl rfl) 3 3 (.tmp 119) (.tmp 126) rfl .i64 _ _ true (opT' 119 41 rfl rfl) (opT' 126 48 rfl rfl) (beq_self_eq_true _)) ?_
      refine wpL_cons (is (.bool true)) (stable_is _) (step_pickT (go0 rfl) (.tmp 114) (.tmp 127) (.const (.bool false)) rfl (opT' 114 36 rfl rfl) (opT' 127 49 rfl rfl)) ?_
      refine wpL_cons (is (.bool true)) (stable_is _) (step_move (go0 rfl) (.tmp 128) rfl (opT' 128 50 rfl rfl)) ?_
      refine wpL_cons (is (.bool true)) (stable_is _) (step_awake (go1 51 true 129 rfl rfl rfl rfl) rfl) ?_
      refine wpL_cons (is (.bool true)) (stable_is _) (step_pickT (go0 rfl) (.tmp 129) (.tmp 130) (.const (.bool false)) rfl (opT' 129 51 rfl rfl) (opT' 130 52 rfl rfl)) ?_
      refine wpL_cons (is (.bool true)) (stable_is _) (step_assign (go0 rfl) (.tmp 131) rfl (opT' 131 53 rfl rfl)) ?_
      refine wpL_nil ?_
      intro v w10 hI _ hdone _
      have e0 : v 54 = .bool true := hdone 54 12 rfl
      have hI : Below w9.heap.size w9 w10 := hI
      have HZ := Lib.hid (below_trans HP8.out.below hI)
      clear hdone hI
      simp only [putAll, Act.put, List.setIfInBounds_toArray, List.set_cons_zero, List.set_cons_succ, Nat.zero_add, Nat.reduceAdd, e0]
      go_wp2_with fail
      go_ret
      exact ⟨rfl, HZ.out⟩
    · rw [show encE x = 0 from encE_val x _ hok, show decE l2 = 3 from decE_val l2 _ hdk]
      clear hok hdk
      refine wp_region_link 132 mixed (by kernel_rfl) (by rfl) (UpC w9) (UpC.start w9) ?_
      refine wpL_cons (is (va)) (stable_is _) (step_move (go0 rfl) (.tmp 16) rfl (opO' 16 (va) rfl rfl)) ?_
      refine wpL_cons (is (.string (str (encL x)))) (stable_is _) (step_str (go0 rfl) (.tmp 78) rfl (encL x) (OpIs.imp (opT' 78 0 rfl rfl) (fun v W h e => by rw [show v = (va) from e]; exact ((HP8.out.up h).vals (encL x, va) (by simp))))) ?_
      refine wpL_cons (is (vc)) (stable_is _) (step_move (go0 rfl) (.tmp 18) rfl (opO' 18 (vc) rfl rfl)) ?_
      refine wpL_cons (is (.string (str (encL x)))) (stable_is _) (step_str (go0 rfl) (.tmp 80) rfl (encL x) (OpIs.imp (opT' 80 2 rfl rfl) (fun v W h e => by rw [show v = (vc) from e]; exact ((HP8.out.up h).vals (encL x, vc) (by simp))))) ?_
      refine wpL_cons (is (.bool true)) (stable_is _) (step_eqs (go0 rfl) (.tmp 79) (.tmp 81) rfl (encL x) (opT' 79 1 rfl rfl) (opT' 81 3 rfl rfl)) ?_
      refine wpL_cons (is (.bool true)) (stable_is _) (step_move (go0 rfl) (.tmp 82) rfl (opT' 82 4 rfl rfl)) ?_
      refine wpL_cons (is (.int .i64 0)) (stable_is _) (step_move (go1 5 true 83 rfl rfl rfl rfl) (.tmp 17) rfl (opO' 17 (.int .i64 0) rfl rfl)) ?_
      refine wpL_cons (is (.bool true)) (stable_is _) (step_int (go1 5 true 83 rfl rfl rfl rfl) .eql 32 32 (.tmp 84) (.const (.int .i64 0)) rfl .i64 .i64 _ _ _ (opT' 84 6 rfl rfl) (opC _) (fun W => by kernel_rfl)) ?_
      refine wpL_cons (is (.bool true)) (stable_is _) (step_move (go1 5 true 83 rfl rfl rfl rfl) (.tmp 19) rfl (opO' 19 (.bool true) rfl rfl)) ?_
      refine wpL_cons (is (.bool true)) (stable_is _) (step_eqb (go1 5 true 83 rfl rfl rfl rfl) 4 4 (.tmp 85) (.tmp 86) rfl true true true (opT' 85 7 rfl rfl) (opT' 86 8 rfl rfl) (fun W => by kernel_rfl)) ?_
      refine wpL_cons (is (.bool true)) (stable_is _) (step_pickT (go0 rfl) (.tmp 83) (.tmp 87) (.const (.bool false)) rfl (opT' 83 5 rfl rfl) (opT' 87 9 rfl rfl)) ?_
      refine wpL_cons (is (.bool true)) (stable_is _) (step_move (go0 rfl) (.tmp 88) rfl (opT' 88 10 rfl rfl)) ?_
      refine wpL_cons (is (.bool true)) (stable_is _) (step_move (go1 11 true 89 rfl rfl rfl rfl) (.tmp 19) rfl (opO' 19 (.bool true) rfl rfl)) ?_
      refine wpL_cons (is (.bool true)) (stable_is _) (step_move (go1 11 true 89 rfl rfl rfl rfl) (.tmp 90) rfl (opT' 90 12 rfl rfl)) ?_
      refine wpL_cons (is (undef)) (stable_is _) (step_off 13 false 91 rfl rfl rfl rfl) ?_
      refine wpL_cons (is (undef)) (stable_is _) (step_off 13 false 91 rfl rfl rfl rfl) ?_
      refine wpL_cons (is (.bool true)) (stable_is _) (step_pickT (go1 11 true 89 rfl rfl rfl rfl) (.tmp 91) (.const (.bool true)) (.tmp 93) rfl (opT' 91 13 rfl rfl) (opC _)) ?_
      refine wpL_cons (is (.bool true)) (stable_is _) (step_pickT (go0 rfl) (.tmp 89) (.tmp 94) (.const (.bool false)) rfl (opT' 89 11 rfl rfl) (opT' 94 16 rfl rfl)) ?_
      refine wpL_cons (is (.bool true)) (stable_is _) (step_move (go0 rfl) (.tmp 95) rfl (opT' 95 17 rfl rfl)) ?_
      refine wpL_cons (is (.agg (blkA (dec l2)))) (stable_is _) (step_loadRow (go1 18 true 96 rfl rfl rfl rfl) 24 (.tmp 20) rfl (b20) 24 (blkA (dec l2)) (0, 0) _ (opO' 20 (.pointer (some ⟨b20, 0, none⟩)) rfl rfl) (fun W h => ((HP8.out.up h).blks (24, b20, dec l2) (by simp))) Try.underlying24 rfl (size24 (dec l2))) ?_
      refine wpL_cons (is (.agg (blkA (dec l2)))) (stable_is _) (step_loadRow (go1 18 true 96 rfl rfl rfl rfl) 37 (.tmp 22) rfl (b22) 37 (blkA (dec l2)) (0, 0) _ (opO' 22 (.pointer (some ⟨b22, 0, none⟩)) rfl rfl) (fun W h => ((HP8.out.up h).blks (37, b22, dec l2) (by simp))) Try.underlying37 rfl (size37 (dec l2))) ?_
      refine wpL_cons (is (.bool true)) (stable_is _) (step_same' (go1 18 true 96 rfl rfl rfl rfl) (.tmp 97) (.tmp 98) _ rfl (dec l2) (opT' 97 19 rfl rfl) (opT' 98 20 rfl rfl)) ?_
      refine wpL_cons (is (.bool true)) (stable_is _) (step_pickT (go0 rfl) (.tmp 96) (.tmp 99) (.const (.bool false)) rfl (opT' 96 18 rfl rfl) (opT' 99 21 rfl rfl)) ?_
      refine wpL_cons (is (.bool true)) (stable_is _) (step_move (go0 rfl) (.tmp 100) rfl (opT' 100 22 rfl rfl)) ?_
      refine wpL_cons (is (.int .i64 3)) (stable_is _) (step_move (go1 23 true 101 rfl rfl rfl rfl) (.tmp 21) rfl (opO' 21 (.int .i64 3) rfl rfl)) ?_
      refine wpL_cons (is (.bool false)) (stable_is _) (step_int (go1 23 true 101 rfl rfl rfl rfl) .eql 32 32 (.tmp 102) (.const (.int .i64 0)) rfl .i64 .i64 _ _ _ (opT' 102 24 rfl rfl) (opC _) (fun W => by kernel_rfl)) ?_
      refine wpL_cons (is (.bool false)) (stable_is _) (step_move (go1 23 true 101 rfl rfl rfl rfl) (.tmp 23) rfl (opO' 23 (.bool false) rfl rfl)) ?_
      refine wpL_cons (is (.bool true)) (stable_is _) (step_eqb (go1 23 true 101 rfl rfl rfl rfl) 4 4 (.tmp 103) (.tmp 104) rfl false false true (opT' 103 25 rfl rfl) (opT' 104 26 rfl rfl) (fun W => by kernel_rfl)) ?_
      refine wpL_cons (is (.bool true)) (stable_is _) (step_pickT (go0 rfl) (.tmp 101) (.tmp 105) (.const (.bool false)) rfl (opT' 101 23 rfl rfl) (opT' 105 27 rfl rfl)) ?_
      refine wpL_cons (is (.bool true)) (stable_is _) (step_move (go0 rfl) (.tmp 106) rfl (opT' 106 28 rfl rfl)) ?_
      refine wpL_cons (is (.bool false)) (stable_is _) (step_move (go1 29 true 107 rfl rfl rfl rfl) (.tmp 23) rfl (opO' 23 (.bool false) rfl rfl)) ?_
      refine wpL_cons (is (.bool false)) (stable_is _) (step_move (go1 29 true 107 rfl rfl rfl rfl) (.tmp 108) rfl (opT' 108 30 rfl rfl)) ?_
      refine wpL_cons (is (.int .i64 3)) (stable_is _) (step_move (go1 31 false 109 rfl rfl rfl rfl) (.tmp 21) rfl (opO' 21 (.int .i64 3) rfl rfl)) ?_
      refine wpL_cons (is (.bool true)) (stable_is _) (step_int (go1 31 false 109 rfl rfl rfl rfl) .eql 32 32 (.tmp 110) (.const (.int .i64 3)) rfl .i64 .i64 _ _ _ (opT' 110 32 rfl rfl) (opC _) (fun W => by kernel_rfl)) ?_
      refine wpL_cons (is (.bool true)) (stable_is _) (step_pickF (go1 29 true 107 rfl rfl rfl rfl) (.tmp 109) (.const (.bool true)) (.tmp 111) rfl (opT' 109 31 rfl rfl) (opT' 111 33 rfl rfl)) ?_
      refine wpL_cons (is (.bool true)) (stable_is _) (step_pickT (go0 rfl) (.tmp 107) (.tmp 112) (.const (.bool false)) rfl (opT' 107 29 rfl rfl) (opT' 112 34 rfl rfl)) ?_
      refine wpL_cons (is (.bool true)) (stable_is _) (step_move (go0 rfl) (.tmp 113) rfl (opT' 113 35 rfl rfl)) ?_
      refine wpL_cons (is (.agg (blkA x))) (stable_is _) (step_loadRow (go1 36 true 114 rfl rfl rfl rfl) 24 (.tmp 6) rfl (w.heap.size) 24 (blkA x) (0, 0) _ (opO' 6 (.pointer (some ⟨w.heap.size, 0, none⟩)) rfl rfl) (fun W h => ((HP8.out.up h).blks (24, w.heap.size, x) (by simp))) Try.underlying24 rfl (size24 x)) ?_
      refine wpL_cons (is (.agg (blkA y))) (stable_is _) (step_loadRow (go1 36 true 114 rfl rfl rfl rfl) 24 (.tmp 7) rfl (w.heap.size + 1) 24 (blkA y) (0, 0) _ (opO' 7 (.pointer (some ⟨w.heap.size + 1, 0, none⟩)) rfl rfl) (fun W h => ((HP8.out.up h).blks (24, w.heap.size + 1, y) (by simp))) Try.underlying24 rfl (size24 y)) ?_
      refine wpL_cons (is (.bool p)) (stable_is _) (step_move (go1 36 true 114 rfl rfl rfl rfl) (.tmp 3) rfl (opO' 3 (.bool p) rfl rfl)) ?_
      refine wpL_cons (is (.bool q)) (stable_is _) (step_move (go1 36 true 114 rfl rfl rfl rfl) (.tmp 4) rfl (opO' 4 (.bool q) rfl rfl)) ?_
      refine wpL_cons (is (.int .i64 (newer x y p q))) (stable_is _) (step_newer (go1 36 true 114 rfl rfl rfl rfl) (.tmp 115) (.tmp 116) (.tmp 117) (.tmp 118) _ rfl x y p q (newer x y p q) rfl (opT' 115 37 rfl rfl) (opT' 116 38 rfl rfl) (opT' 117 39 rfl rfl) (opT' 118 40 rfl rfl)) ?_
      refine wpL_cons (is (.agg (blkA x))) (stable_is _) (step_loadRow (go1 36 true 114 rfl rfl rfl rfl) 24 (.tmp 6) rfl (w.heap.size) 24 (blkA x) (0, 0) _ (opO' 6 (.pointer (some ⟨w.heap.size, 0, none⟩)) rfl rfl) (fun W h => ((HP8.out.up h).blks (24, w.heap.size, x) (by simp))) Try.underlying24 rfl (size24 x)) ?_
      refine wpL_cons (is (.agg (blkA x))) (stable_is _) (step_flat (go1 36 true 114 rfl rfl rfl rfl) (.tmp 120) _ rfl x (opT' 120 42 rfl rfl)) ?_
      refine wpL_cons (is (.agg (blkA y))) (stable_is _) (step_loadRow (go1 36 true 114 rfl rfl rfl rfl) 24 (.tmp 7) rfl (w.heap.size + 1) 24 (blkA y) (0, 0) _ (opO' 7 (.pointer (some ⟨w.heap.size + 1, 0, none⟩)) rfl rfl) (fun W h => ((HP8.out.up h).blks (24, w.heap.size + 1, y) (by simp))) Try.underlying24 rfl (size24 y)) ?_
      refine wpL_cons (is (.agg (blkA y))) (stable_is _) (step_flat (go1 36 true 114 rfl rfl rfl rfl) (.tmp 122) _ rfl y (opT' 122 44 rfl rfl)) ?_
      refine wpL_cons (is (.bool p)) (stable_is _) (step_move (go1 36 true 114 rfl rfl rfl rfl) (.tmp 3) rfl (opO' 3 (.bool p) rfl rfl)) ?_
      refine wpL_cons (is (.bool q)) (stable_is _) (step_move (go1 36 true 114 rfl rfl rfl rfl) (.tmp 4) rfl (opO' 4 (.bool q) rfl rfl)) ?_
      refine wpL_cons (is (.int .i64 (newer x y p q))) (stable_is _) (step_newerR (go1 36 true 114 rfl rfl rfl rfl) (.tmp 121) (.tmp 123) (.tmp 124) (.tmp 125) _ rfl x y p q (newer x y p q) rfl (opT' 121 43 rfl rfl) (opT' 123 45 rfl rfl) (opT' 124 46 rfl rfl) (opT' 125 47 rfl rfl)) ?_
      refine wpL_cons (is (.bool true)) (stable_is _) (step_eq (go1 36 true 114 rfl rfl rfl rfl) 3 3 (.tmp 119) (.tmp 126) rfl .i64 _ _ true (opT' 119 41 rfl rfl) (opT' 126 48 rfl rfl) (beq_self_eq_true _)) ?_
      refine wpL_cons (is (.bool true)) (stable_is _) (step_pickT (go0 rfl) (.tmp 114) (.tmp 127) (.const (.bool false)) rfl (opT' 114 36 rfl rfl) (opT' 127 49 rfl rfl)) ?_
      refine wpL_cons (is (.bool true)) (stable_is _) (step_move (go0 rfl) (.tmp 128) rfl (opT' 128 50 rfl rfl)) ?_
      refine wpL_cons (is (.bool true)) (stable_is _) (step_awake (go1 51 true 129 rfl rfl rfl rfl) rfl) ?_
      refine wpL_cons (is (.bool true)) (stable_is _) (step_pickT (go0 rfl) (.tmp 129) (.tmp 130) (.const (.bool false)) rfl (opT' 129 51 rfl rfl) (opT' 130 52 rfl rfl)) ?_
      refine wpL_cons (is (.bool true)) (stable_is _) (step_assign (go0 rfl) (.tmp 131) rfl (opT' 131 53 rfl rfl)) ?_
      refine wpL_nil ?_
      intro v w10 hI _ hdone _
      have e0 : v 54 = .bool true := hdone 54 12 rfl
      have hI : Below w9.heap.size w9 w10 := hI
      have HZ := Lib.hid (below_trans HP8.out.below hI)
      clear hdone hI
      simp only [putAll, Act.put, List.setIfInBounds_toArray, List.set_cons_zero, List.set_cons_succ, Nat.zero_add, Nat.reduceAdd, e0]
      go_wp2_with fail
      go_ret
      exact ⟨rfl, HZ.out⟩
    · rw [show encE x = 0 from encE_val x _ hok, show decE l2 = 0 from decE_val l2 _ hdk]
      clear hok hdk
      refine wp_region_link 132 mixed (by kernel_rfl) (by rfl) (UpC w9) (UpC.start w9) ?_
      refine wpL_cons (is (va)) (stable_is _) (step_move (go0 rfl) (.tmp 16) rfl (opO' 16 (va) rfl rfl)) ?_
      refine wpL_cons (is (.string (str (encL x)))) (stable_is _) (step_str (go0 rfl) (.tmp 78) rfl (encL x) (OpIs.imp (opT' 78 0 rfl rfl) (fun v W h e => by rw [show v = (va) from e]; exact ((HP8.out.up h).vals (encL x, va) (by simp))))) ?_
      refine wpL_cons (is (vc)) (stable_is _) (step_move (go0 rfl) (.tmp 18) rfl (opO' 18 (vc) rfl rfl)) ?_
      refine wpL_cons (is (.string (str (encL x)))) (stable_is _) (step_str (go0 rfl) (.tmp 80) rfl (encL x) (OpIs.imp (opT' 80 2 rfl rfl) (fun v W h e => by rw [show v = (vc) from e]; exact ((HP8.out.up h).vals (encL x, vc) (by simp))))) ?_
      refine wpL_cons (is (.bool true)) (stable_is _) (step_eqs (go0 rfl) (.tmp 79) (.tmp 81) rfl (encL x) (opT' 79 1 rfl rfl) (opT' 81 3 rfl rfl)) ?_
      refine wpL_cons (is (.bool true)) (stable_is _) (step_move (go0 rfl) (.tmp 82) rfl (opT' 82 4 rfl rfl)) ?_
      refine wpL_cons (is (.int .i64 0)) (stable_is _) (step_move (go1 5 true 83 rfl rfl rfl rfl) (.tmp 17) rfl (opO' 17 (.int .i64 0) rfl rfl)) ?_
      refine wpL_cons (is (.bool true)) (stable_is _) (step_int (go1 5 true 83 rfl rfl rfl rfl) .eql 32 32 (.tmp 84) (.const (.int .i64 0)) rfl .i64 .i64 _ _ _ (opT' 84 6 rfl rfl) (opC _) (fun W => by kernel_rfl)) ?_
      refine wpL_cons (is (.bool true)) (stable_is _) (step_move (go1 5 true 83 rfl rfl rfl rfl) (.tmp 19) rfl (opO' 19 (.bool true) rfl rfl)) ?_
      refine wpL_cons (is (.bool true)) (stable_is _) (step_eqb (go1 5 true 83 rfl rfl rfl rfl) 4 4 (.tmp 85) (.tmp 86) rfl true true true (opT' 85 7 rfl rfl) (opT' 86 8 rfl rfl) (fun W => by kernel_rfl)) ?_
      refine wpL_cons (is (.bool true)) (stable_is _) (step_pickT (go0 rfl) (.tmp 83) (.tmp 87) (.const (.bool false)) rfl (opT' 83 5 rfl rfl) (opT' 87 9 rfl rfl)) ?_
      refine wpL_cons (is (.bool true)) (stable_is _) (step_move (go0 rfl) (.tmp 88) rfl (opT' 88 10 rfl rfl)) ?_
      refine wpL_cons (is (.bool true)) (stable_is _) (step_move (go1 11 true 89 rfl rfl rfl rfl) (.tmp 19) rfl (opO' 19 (.bool true) rfl rfl)) ?_
      refine wpL_cons (is (.bool true)) (stable_is _) (step_move (go1 11 true 89 rfl rfl rfl rfl) (.tmp 90) rfl (opT' 90 12 rfl rfl)) ?_
      refine wpL_cons (is (undef)) (stable_is _) (step_off 13 false 91 rfl rfl rfl rfl) ?_
      refine wpL_cons (is (undef)) (stable_is _) (step_off 13 false 91 rfl rfl rfl rfl) ?_
      refine wpL_cons (is (.bool true)) (stable_is _) (step_pickT (go1 11 true 89 rfl rfl rfl rfl) (.tmp 91) (.const (.bool true)) (.tmp 93) rfl (opT' 91 13 rfl rfl) (opC _)) ?_
      refine wpL_cons (is (.bool true)) (stable_is _) (step_pickT (go0 rfl) (.tmp 89) (.tmp 94) (.const (.bool false)) rfl (opT' 89 11 rfl rfl) (opT' 94 16 rfl rfl)) ?_
      refine wpL_cons (is (.bool true)) (stable_is _) (step_move (go0 rfl) (.tmp 95) rfl (opT' 95 17 rfl rfl)) ?_
      refine wpL_cons (is (.agg (blkA (dec l2)))) (stable_is _) (step_loadRow (go1 18 true 96 rfl rfl rfl rfl) 24 (.tmp 20) rfl (b20) 24 (blkA (dec l2)) (0, 0) _ (opO' 20 (.pointer (some ⟨b20, 0, none⟩)) rfl rfl) (fun W h => ((HP8.out.up h).blks (24, b20, dec l2) (by simp))) Try.underlying24 rfl (size24 (dec l2))) ?_
      refine wpL_cons (is (.agg (blkA (dec l2)))) (stable_is _) (step_loadRow (go1 18 true 96 rfl rfl rfl rfl) 37 (.tmp 22) rfl (b22) 37 (blkA (dec l2)) (0, 0) _ (opO' 22 (.pointer (some ⟨b22, 0, none⟩)) rfl rfl) (fun W h => ((HP8.out.up h).blks (37, b22, dec l2) (by simp))) Try.underlying37 rfl (size37 (dec l2))) ?_
      refine wpL_cons (is (.bool true)) (stable_is _) (step_same' (go1 18 true 96 rfl rfl rfl rfl) (.tmp 97) (.tmp 98) _ rfl (dec l2) (opT' 97 19 rfl rfl) (opT' 98 20 rfl rfl)) ?_
      refine wpL_cons (is (.bool true)) (stable_is _) (step_pickT (go0 rfl) (.tmp 96) (.tmp 99) (.const (.bool false)) rfl (opT' 96 18 rfl rfl) (opT' 99 21 rfl rfl)) ?_
      refine wpL_cons (is (.bool true)) (stable_is _) (step_move (go0 rfl) (.tmp 100) rfl (opT' 100 22 rfl rfl)) ?_
      refine wpL_cons (is (.int .i64 0)) (stable_is _) (step_move (go1 23 true 101 rfl rfl rfl rfl) (.tmp 21) rfl (opO' 21 (.int .i64 0) rfl rfl)) ?_
      refine wpL_cons (is (.bool true)) (stable_is _) (step_int (go1 23 true 101 rfl rfl rfl rfl) .eql 32 32 (.tmp 102) (.const (.int .i64 0)) rfl .i64 .i64 _ _ _ (opT' 102 24 rfl rfl) (opC _) (fun W => by kernel_rfl)) ?_
      refine wpL_cons (is (.bool true)) (stable_is _) (step_move (go1 23 true 101 rfl rfl rfl rfl) (.tmp 23) rfl (opO' 23 (.bool true) rfl rfl)) ?_
      refine wpL_cons (is (.bool true)) (stable_is _) (step_eqb (go1 23 true 101 rfl rfl rfl rfl) 4 4 (.tmp 103) (.tmp 104) rfl true true true (opT' 103 25 rfl rfl) (opT' 104 26 rfl rfl) (fun W => by kernel_rfl)) ?_
      refine wpL_cons (is (.bool true)) (stable_is _) (step_pickT (go0 rfl) (.tmp 101) (.tmp 105) (.const (.bool false)) rfl (opT' 101 23 rfl rfl) (opT' 105 27 rfl rfl)) ?_
      refine wpL_cons (is (.bool true)) (stable_is _) (step_move (go0 rfl) (.tmp 106) rfl (opT' 106 28 rfl rfl)) ?_
      refine wpL_cons (is (.bool true)) (stable_is _) (step_move (go1 29 true 107 rfl rfl rfl rfl) (.tmp 23) rfl (opO' 23 (.bool true) rfl rfl)) ?_
      refine wpL_cons (is (.bool true)) (stable_is _) (step_move (go1 29 true 107 rfl rfl rfl rfl) (.tmp 108) rfl (opT' 108 30 rfl rfl)) ?_
      refine wpL_cons (is (undef)) (stable_is _) (step_off 31 false 109 rfl rfl rfl rfl) ?_
      refine wpL_cons (is (undef)) (stable_is _) (step_off 31 false 109 rfl rfl rfl rfl) ?_
      refine wpL_cons (is (.bool true)) (stable_is _) (step_pickT (go1 29 true 107 rfl rfl rfl rfl) (.tmp 109) (.const (.bool true)) (.tmp 111) rfl (opT' 109 31 rfl rfl) (opC _)) ?_
      refine wpL_cons (is (.bool true)) (stable_is _) (step_pickT (go0 rfl) (.tmp 107) (.tmp 112) (.const (.bool false)) rfl (opT' 107 29 rfl rfl) (opT' 112 34 rfl rfl)) ?_
      refine wpL_cons (is (.bool true)) (stable_is _) (step_move (go0 rfl) (.tmp 113) rfl (opT' 113 35 rfl rfl)) ?_
      refine wpL_cons (is (.agg (blkA x))) (stable_is _) (step_loadRow (go1 36 true 114 rfl rfl rfl rfl) 24 (.tmp 6) rfl (w.heap.size) 24 (blkA x) (0, 0) _ (opO' 6 (.pointer (some ⟨w.heap.size, 0, none⟩)) rfl rfl) (fun W h => ((HP8.out.up h).blks (24, w.heap.size, x) (by simp))) Try.underlying24 rfl (size24 x)) ?_
      refine wpL_cons (is (.agg (blkA y))) (stable_is _) (step_loadRow (go1 36 true 114 rfl rfl rfl rfl) 24 (.tmp 7) rfl (w.heap.size + 1) 24 (blkA y) (0, 0) _ (opO' 7 (.pointer (some ⟨w.heap.size + 1, 0, none⟩)) rfl rfl) (fun W h => ((HP8.out.up h).blks (24, w.heap.size + 1, y) (by simp))) Try.underlying24 rfl (size24 y)) ?_
      refine wpL_cons (is (.bool p)) (stable_is _) (step_move (go1 36 true 114 rfl rfl rfl rfl) (.tmp 3) rfl (opO' 3 (.bool p) rfl rfl)) ?_
      refine wpL_cons (is (.bool q)) (stable_is _) (step_move (go1 36 true 114 rfl rfl rfl rfl) (.tmp 4) rfl (opO' 4 (.bool q) rfl rfl)) ?_
      refine wpL_cons (is (.int .i64 (newer x y p q))) (stable_is _) (step_newer (go1 36 true 114 rfl rfl rfl rfl) (.tmp 115) (.tmp 116) (.tmp 117) (.tmp 118) _ rfl x y p q (newer x y p q) rfl (opT' 115 37 rfl rfl) (opT' 116 38 rfl rfl) (opT' 117 39 rfl rfl) (opT' 118 40 rfl rfl)) ?_
      refine wpL_cons (is (.agg (blkA x))) (stable_is _) (step_loadRow (go1 36 true 114 rfl rfl rfl rfl) 24 (.tmp 6) rfl (w.heap.size) 24 (blkA x) (0, 0) _ (opO' 6 (.pointer (some ⟨w.heap.size, 0, none⟩)) rfl rfl) (fun W h => ((HP8.out.up h).blks (24, w.heap.size, x) (by simp))) Try.underlying24 rfl (size24 x)) ?_
      refine wpL_cons (is (.agg (blkA x))) (stable_is _) (step_flat (go1 36 true 114 rfl rfl rfl rfl) (.tmp 120) _ rfl x (opT' 120 42 rfl rfl)) ?_
      refine wpL_cons (is (.agg (blkA y))) (stable_is _) (step_loadRow (go1 36 true 114 rfl rfl rfl rfl) 24 (.tmp 7) rfl (w.heap.size + 1) 24 (blkA y) (0, 0) _ (opO' 7 (.pointer (some ⟨w.heap.size + 1, 0, none⟩)) rfl rfl) (fun W h => ((HP8.out.up h).blks (24, w.heap.size + 1, y) (by simp))) Try.underlying24 rfl (size24 y)) ?_
      refine wpL_cons (is (.agg (blkA y))) (stable_is _) (step_flat (go1 36 true 114 rfl rfl rfl rfl) (.tmp 122) _ rfl y (opT' 122 44 rfl rfl)) ?_
      refine wpL_cons (is (.bool p)) (stable_is _) (step_move (go1 36 true 114 rfl rfl rfl rfl) (.tmp 3) rfl (opO' 3 (.bool p) rfl rfl)) ?_
      refine wpL_cons (is (.bool q)) (stable_is _) (step_move (go1 36 true 114 rfl rfl rfl rfl) (.tmp 4) rfl (opO' 4 (.bool q) rfl rfl)) ?_
      refine wpL_cons (is (.int .i64 (newer x y p q))) (stable_is _) (step_newerR (go1 36 true 114 rfl rfl rfl rfl) (.tmp 121) (.tmp 123) (.tmp 124) (.tmp 125) _ rfl x y p q (newer x y p q) rfl (opT' 121 43 rfl rfl) (opT' 123 45 rfl rfl) (opT' 124 46 rfl rfl) (opT' 125 47 rfl rfl)) ?_
      refine wpL_cons (is (.bool true)) (stable_is _) (step_eq (go1 36 true 114 rfl rfl rfl rfl) 3 3 (.tmp 119) (.tmp 126) rfl .i64 _ _ true (opT' 119 41 rfl rfl) (opT' 126 48 rfl rfl) (beq_self_eq_true _)) ?_
      refine wpL_cons (is (.bool true)) (stable_is _) (step_pickT (go0 rfl) (.tmp 114) (.tmp 127) (.const (.bool false)) rfl (opT' 114 36 rfl rfl) (opT' 127 49 rfl rfl)) ?_
      refine wpL_cons (is (.bool true)) (stable_is _) (step_move (go0 rfl) (.tmp 128) rfl (opT' 128 50 rfl rfl)) ?_
      refine wpL_cons (is (.bool true)) (stable_is _) (step_awake (go1 51 true 129 rfl rfl rfl rfl) rfl) ?_
      refine wpL_cons (is (.bool true)) (stable_is _) (step_pickT (go0 rfl) (.tmp 129) (.tmp 130) (.const (.bool false)) rfl (opT' 129 51 rfl rfl) (opT' 130 52 rfl rfl)) ?_
      refine wpL_cons (is (.bool true)) (stable_is _) (step_assign (go0 rfl) (.tmp 131) rfl (opT' 131 53 rfl rfl)) ?_
      refine wpL_nil ?_
      intro v w10 hI _ hdone _
      have e0 : v 54 = .bool true := hdone 54 12 rfl
      have hI : Below w9.heap.size w9 w10 := hI
      have HZ := Lib.hid (below_trans HP8.out.below hI)
      clear hdone hI
      simp only [putAll, Act.put, List.setIfInBounds_toArray, List.set_cons_zero, List.set_cons_succ, Nat.zero_add, Nat.reduceAdd, e0]
      go_wp2_with fail
      go_ret
      exact ⟨rfl, HZ.out⟩
  | true =>
    by_cases h32 : n = 32
    · have hcap : 32 ≤ cap := by have := HCAP.out.1; have := HN.out; omega
      have hcap2 : (28 : Int) ≤ (cap : Int) := by omega
      subst h32
      have hbt : isBytes (l.take 28) (.slice A 28 cap) w2 := by
        obtain ⟨A', cap', e, _, hb⟩ := HP1.out.vals (l, .slice A 32 cap) (by simp)
        simp only [Value.slice.injEq] at e
        obtain ⟨rfl, _, rfl⟩ := e
        exact ⟨A, cap, by rw [List.length_take, ← HN.out]; rfl, by rw [List.length_take, ← HN.out]; omega, hb.take 28⟩
      have HBT := Lib.hid hbt
      have hlt : (l.take 28).length = 28 := by rw [List.length_take, ← HN.out]; rfl
      have HLT := Lib.hid hlt
      obtain ⟨l28, hl28⟩ : ∃ l28, l28 = l.take 28 := ⟨_, rfl⟩
      rw [← hl28] at HBT HLT
      have hcr : crcOn 0 l28 < 4294967296 := crc_lt _ HBT.out.byte
      clear hbt hlt hl28
      obtain ⟨c, hc⟩ : ∃ c, c = crcOn 0 l28 := ⟨_, rfl⟩
      rw [← hc] at hcr
      have HC := Lib.hid hc
      clear hc
      have hci : (c : Int) < 4294967296 := by omega
      go_upto_region 8 with (first
        | (at_builtin; refine arm_append rfl (.tmp 35) (.tmp 37) rfl w2.heap.size _ (.slice A 28 cap) [] l28 rfl rfl (own_empty w2 _ (Nat.le_refl _)) (HBT.out.up (below_alloc _ _)) (by rw [HLT.out]; omega) (by rw [HLT.out]; simp) (by simp) ?_
           intro v6 w6 hv6 hb6
           rw [List.nil_append] at hv6
           obtain ⟨gc, cc, hvc, hgc, _⟩ := hv6.form (by rw [HLT.out]; omega)
           rw [HLT.out] at hvc
           subst hvc
           have HV6 := Lib.hid hv6
           have HW6 := Lib.hid (((Below.refl _ _).alloc (Nat.le_refl _) _).trans hb6)
           clear hv6 hb6 hgc)
        | (go_at_call 8; refine (crc_own HV6.out HLT.out).mono ?_
           rintro e w7 ⟨rfl, hb7⟩
           rw [← HC.out]
           have HV7 := Lib.hid (HV6.out.below hb7)
           have HW7 := Lib.hid (HW6.out.trans (hb7.mono HW6.out.size))
           clear hb7 HV6)
        | (at_builtin; refine arm_append rfl (.tmp 41) (.tmp 53) rfl w2.heap.size _ _ l28 (be 4 c) rfl rfl (HV7.out.below (below_alloc _ _)) (bytes4 w7 _ _ _ _ c (by omega) (by omega) (by omega) (by omega)) (by simp [be_length]) (by simp [be_length, HLT.out]) (by have := HW7.out.size; simp; omega) ?_
           intro v8 w8 hv8 hb8
           have HP9 := Lib.hid ((HP1.out.up ((HW7.out.alloc HW7.out.size _).trans hb8)).addV hv8.is)
           clear hv8 hb8)
        | fail)
      obtain ⟨l2, hl2⟩ : ∃ l2, l2 = l28 ++ be 4 c := ⟨_, rfl⟩
      rw [← hl2] at HP9
      clear hl2 HP1
      have HP1 := HP9
      clear HP9
      go_upto_region 12 with (first
        | (with_reducible refine at_op (.load 28 (.tmp 13)) ?_; first | refine arm_tab rfl (.tmp 13) rfl b13 rfl HP4.out.tabl ?_ | refine arm_tab rfl (.tmp 13) rfl b13 rfl HP1.out.tabl ?_)
        | (with_reducible refine at_op (.load 24 (.tmp 6)) ?_; first | refine arm_loadB rfl 24 (fun _ _ _ h => h.load24) (.tmp 6) rfl w.heap.size x rfl (HP2.out.blks (24, w.heap.size, x) (by simp)) ?_ | refine arm_loadB rfl 24 (fun _ _ _ h => h.load24) (.tmp 6) rfl w.heap.size x rfl (HP1.out.blks (24, w.heap.size, x) (by simp)) ?_)
        | (go_at_call 9; with_reducible refine (enc_walk x HS.out _).mono ?_
           rintro e w3 ⟨va, rfl, hv3, hb3⟩
           have HP2 := Lib.hid ((HP1.out.up hb3).addV hv3)
           clear hb3 hv3)
        | (go_at_call 11; with_reducible refine (flat_walk x _).mono ?_
           rintro e w4 ⟨rfl, hb4⟩
           have HP3 := Lib.hid (HP2.out.up hb4)
           clear hb4)
        | (go_at_call 10; with_reducible refine (head_walk x HS.out _).mono ?_
           rintro e w5 ⟨vc, rfl, hv5, hb5⟩
           have HP4 := Lib.hid ((HP3.out.up hb5).addV hv5)
           clear hb5 hv5 HP3)
        | (go_at_call 12; refine (dec_walk l2 _ _ (HP4.out.vals (l2, v8) (by simp))).mono ?_
           rintro e w6 ⟨rfl, hb6⟩
           have HP5 := Lib.hid (HP4.out.up hb6)
           clear hb6)
        | (with_reducible refine at_op (.alloc 24) ?_; refine arm_allocB rfl 24 rfl alloc24 ?_)
        | (with_reducible refine at_op (.store 24 (.tmp 20) (.tmp 71)) ?_; refine arm_storeB rfl 24 size24 (.tmp 20) (.tmp 71) rfl w6.heap.size blk0 (dec l2) rfl rfl (BlkAt.new w6 24 blk0) ?_
           have hs := (below_alloc w6 (.cells (blkA blk0) 24)).trans (set_below _ w6.heap.size w6.heap.size (dec l2) (Nat.le_refl _))
           have HP6 := Lib.hid ((HP5.out.up hs).addB (set_new _ _ _ (dec l2) _ (BlkAt.new w6 24 blk0)))
           generalize World.setRow (w6.alloc (.cells (blkA blk0) 24)) w6.heap.size (blkA (dec l2)) = w7 at *
           obtain ⟨b20, hb20⟩ : ∃ b20, b20 = w6.heap.size := ⟨_, rfl⟩
           rw [← hb20] at HP6 ⊢
           clear hs hb20 HP5)
        | (go_at_call 13; refine (rd_walk l2 _ _ (HP6.out.vals (l2, v8) (by simp))).mono ?_
           rintro e w8 ⟨rfl, hb8⟩
           have HP7 := Lib.hid (HP6.out.up hb8)
           clear hb8)
        | (with_reducible refine at_op (.alloc 37) ?_; refine arm_allocB rfl 37 rfl alloc37 ?_)
        | (with_reducible refine at_op (.store 37 (.tmp 22) (.tmp 76)) ?_; refine arm_storeB rfl 37 size37 (.tmp 22) (.tmp 76) rfl w8.heap.size blk0 (dec l2) rfl rfl (BlkAt.new w8 37 blk0) ?_
           have hs := (below_alloc w8 (.cells (blkA blk0) 37)).trans (set_below _ w8.heap.size w8.heap.size (dec l2) (Nat.le_refl _))
           have HP8 := Lib.hid ((HP7.out.up hs).addB (set_new _ _ _ (dec l2) _ (BlkAt.new w8 37 blk0)))
           generalize World.setRow (w8.alloc (.cells (blkA blk0) 37)) w8.heap.size (blkA (dec l2)) = w9 at *
           obtain ⟨b22, hb22⟩ : ∃ b22, b22 = w8.heap.size := ⟨_, rfl⟩
           rw [← hb22] at HP8 ⊢
           clear hs hb22 HP7)
        | fail)
      clear HP1 HP2 HP4 HP6
      cases hok : okB x <;> cases hdk : decOk l2
      · rw [show encE x = 1 from encE_val x _ hok, show decE l2 = 3 from decE_val l2 _ hdk]
        clear hok hdk
        refine wp_region_link 132 mixed (by kernel_rfl) (by rfl) (UpC w9) (UpC.start w9) ?_
        refine wpL_cons (is (va)) (stable_is _) (step_move (go0 rfl) (.tmp 16) rfl (opO' 16 (va) rfl rfl)) ?_
        refine wpL_cons (is (.string (str (encL x)))) (stable_is _) (step_str (go0 rfl) (.tmp 78) rfl (encL x) (OpIs.imp (opT' 78 0 rfl rfl) (fun v W h e => by rw [show v = (va) from e]; exact ((HP8.out.up h).vals (encL x, va) (by simp))))) ?_
        refine wpL_cons (is (vc)) (stable_is _) (step_move (go0 rfl) (.tmp 18) rfl (opO' 18 (vc) rfl rfl)) ?_
        refine wpL_cons (is (.string (str (encL x)))) (stable_is _) (step_str (go0 rfl) (.tmp 80) rfl (encL x) (OpIs.imp (opT' 80 2 rfl rfl) (fun v W h e => by rw [show v = (vc) from e]; exact ((HP8.out.up h).vals (encL x, vc) (by simp))))) ?_
        refine wpL_cons (is (.bool true)) (stable_is _) (step_eqs (go0 rfl) (.tmp 79) (.tmp 81) rfl (encL x) (opT' 79 1 rfl rfl) (opT' 81 3 rfl rfl)) ?_
        refine wpL_cons (is (.bool true)) (stable_is _) (step_move (go0 rfl) (.tmp 82) rfl (opT' 82 4 rfl rfl)) ?_
        refine wpL_cons (is (.int .i64 1)) (stable_is _) (step_move (go1 5 true 83 rfl rfl rfl rfl) (.tmp 17) rfl (opO' 17 (.int .i64 1) rfl rfl)) ?_
        refine wpL_cons (is (.bool false)) (stable_is _) (step_int (go1 5 true 83 rfl rfl rfl rfl) .eql 32 32 (.tmp 84) (.const (.int .i64 0)) rfl .i64 .i64 _ _ _ (opT' 84 6 rfl rfl) (opC _) (fun W => by kernel_rfl)) ?_
        refine wpL_cons (is (.bool false)) (stable_is _) (step_move (go1 5 true 83 rfl rfl rfl rfl) (.tmp 19) rfl (opO' 19 (.bool false) rfl rfl)) ?_
        refine wpL_cons (is (.bool true)) (stable_is _) (step_eqb (go1 5 true 83 rfl rfl rfl rfl) 4 4 (.tmp 85) (.tmp 86) rfl false false true (opT' 85 7 rfl rfl) (opT' 86 8 rfl rfl) (fun W => by kernel_rfl)) ?_
        refine wpL_cons (is (.bool true)) (stable_is _) (step_pickT (go0 rfl) (.tmp 83) (.tmp 87) (.const (.bool false)) rfl (opT' 83 5 rfl rfl) (opT' 87 9 rfl rfl)) ?_
        refine wpL_cons (is (.bool true)) (stable_is _) (step_move (go0 rfl) (.tmp 88) rfl (opT' 88 10 rfl rfl)) ?_
        refine wpL_cons (is (.bool false)) (stable_is _) (step_move (go1 11 true 89 rfl rfl rfl rfl) (.tmp 19) rfl (opO' 19 (.bool false) rfl rfl)) ?_
        refine wpL_cons (is (.bool false)) (stable_is _) (step_move (go1 11 true 89 rfl rfl rfl rfl) (.tmp 90) rfl (opT' 90 12 rfl rfl)) ?_
        refine wpL_cons (is (.int .i64 1)) (stable_is _) (step_move (go1 13 false 91 rfl rfl rfl rfl) (.tmp 17) rfl (opO' 17 (.int .i64 1) rfl rfl)) ?_
        refine wpL_cons (is (.bool true)) (stable_is _) (step_int (go1 13 false 91 rfl rfl rfl rfl) .eql 32 32 (.tmp 92) (.const (.int .i64 1)) rfl .i64 .i64 _ _ _ (opT' 92 14 rfl rfl) (opC _) (fun W => by kernel_rfl)) ?_
        refine wpL_cons (is (.bool true)) (stable_is _) (step_pickF (go1 11 true 89 rfl rfl rfl rfl) (.tmp 91) (.const (.bool true)) (.tmp 93) rfl (opT' 91 13 rfl rfl) (opT' 93 15 rfl rfl)) ?_
        refine wpL_cons (is (.bool true)) (stable_is _) (step_pickT (go0 rfl) (.tmp 89) (.tmp 94) (.const (.bool false)) rfl (opT' 89 11 rfl rfl) (opT' 94 16 rfl rfl)) ?_
        refine wpL_cons (is (.bool true)) (stable_is _) (step_move (go0 rfl) (.tmp 95) rfl (opT' 95 17 rfl rfl)) ?_
        refine wpL_cons (is (.agg (blkA (dec l2)))) (stable_is _) (step_loadRow (go1 18 true 96 rfl rfl rfl rfl) 24 (.tmp 20) rfl (b20) 24 (blkA (dec l2)) (0, 0) _ (opO' 20 (.pointer (some ⟨b20, 0, none⟩)) rfl rfl) (fun W h => ((HP8.out.up h).blks (24, b20, dec l2) (by simp))) Try.underlying24 rfl (size24 (dec l2))) ?_
        refine wpL_cons (is (.agg (blkA (dec l2)))) (stable_is _) (step_loadRow (go1 18 true 96 rfl rfl rfl rfl) 37 (.tmp 22) rfl (b22) 37 (blkA (dec l2)) (0, 0) _ (opO' 22 (.pointer (some ⟨b22, 0, none⟩)) rfl rfl) (fun W h => ((HP8.out.up h).blks (37, b22, dec l2) (by simp))) Try.underlying37 rfl (size37 (dec l2))) ?_
        refine wpL_cons (is (.bool true)) (stable_is _) (step_same' (go1 18 true 96 rfl rfl rfl rfl) (.tmp 97) (.tmp 98) _ rfl (dec l2) (opT' 97 19 rfl rfl) (opT' 98 20 rfl rfl)) ?_
        refine wpL_cons (is (.bool true)) (stable_is _) (step_pickT (go0 rfl) (.tmp 96) (.tmp 99) (.const (.bool false)) rfl (opT' 96 18 rfl rfl) (opT' 99 21 rfl rfl)) ?_
        refine wpL_cons (is (.bool true)) (stable_is _) (step_move (go0 rfl) (.tmp 100) rfl (opT' 100 22 rfl rfl)) ?_
        refine wpL_cons (is (.int .i64 3)) (stable_is _) (step_move (go1 23 true 101 rfl rfl rfl rfl) (.tmp 21) rfl (opO' 21 (.int .i64 3) rfl rfl)) ?_
        refine wpL_cons (is (.bool false)) (stable_is _) (step_int (go1 23 true 101 rfl rfl rfl rfl) .eql 32 32 (.tmp 102) (.const (.int .i64 0)) rfl .i64 .i64 _ _ _ (opT' 102 24 rfl rfl) (opC _) (fun W => by kernel_rfl)) ?_
        refine wpL_cons (is (.bool false)) (stable_is _) (step_move (go1 23 true 101 rfl rfl rfl rfl) (.tmp 23) rfl (opO' 23 (.bool false) rfl rfl)) ?_
        refine wpL_cons (is (.bool true)) (stable_is _) (step_eqb (go1 23 true 101 rfl rfl rfl rfl) 4 4 (.tmp 103) (.tmp 104) rfl false false true (opT' 103 25 rfl rfl) (opT' 104 26 rfl rfl) (fun W => by kernel_rfl)) ?_
        refine wpL_cons (is (.bool true)) (stable_is _) (step_pickT (go0 rfl) (.tmp 101) (.tmp 105) (.const (.bool false)) rfl (opT' 101 23 rfl rfl) (opT' 105 27 rfl rfl)) ?_
        refine wpL_cons (is (.bool true)) (stable_is _) (step_move (go0 rfl) (.tmp 106) rfl (opT' 106 28 rfl rfl)) ?_
        refine wpL_cons (is (.bool false)) (stable_is _) (step_move (go1 29 true 107 rfl rfl rfl rfl) (.tmp 23) rfl (opO' 23 (.bool false) rfl rfl)) ?_
        refine wpL_cons (is (.bool false)) (stable_is _) (step_move (go1 29 true 107 rfl rfl rfl rfl) (.tmp 108) rfl (opT' 108 30 rfl rfl)) ?_
        refine wpL_cons (is (.int .i64 3)) (stable_is _) (step_move (go1 31 false 109 rfl rfl rfl rfl) (.tmp 21) rfl (opO' 21 (.int .i64 3) rfl rfl)) ?_
        refine wpL_cons (is (.bool true)) (stable_is _) (step_int (go1 31 false 109 rfl rfl rfl rfl) .eql 32 32 (.tmp 110) (.const (.int .i64 3)) rfl .i64 .i64 _ _ _ (opT' 110 32 rfl rfl) (opC _) (fun W => by kernel_rfl)) ?_
        refine wpL_cons (is (.bool true)) (stable_is _) (step_pickF (go1 29 true 107 rfl rfl rfl rfl) (.tmp 109) (.const (.bool true)) (.tmp 111) rfl (opT' 109 31 rfl rfl) (opT' 111 33 rfl rfl)) ?_
        refine wpL_cons (is (.bool true)) (stable_is _) (step_pickT (go0 rfl) (.tmp 107) (.tmp 112) (.const (.bool false)) rfl (opT' 107 29 rfl rfl) (opT' 112 34 rfl rfl)) ?_
        refine wpL_cons (is (.bool true)) (stable_is _) (step_move (go0 rfl) (.tmp 113) rfl (opT' 113 35 rfl rfl)) ?_
        refine wpL_cons (is (.agg (blkA x))) (stable_is _) (step_loadRow (go1 36 true 114 rfl rfl rfl rfl) 24 (.tmp 6) rfl (w.heap.size) 24 (blkA x) (0, 0) _ (opO' 6 (.pointer (some ⟨w.heap.size, 0, none⟩)) rfl rfl) (fun W h => ((HP8.out.up h).blks (24, w.heap.size, x) (by simp))) Try.underlying24 rfl (size24 x)) ?_
        refine wpL_cons (is (.agg (blkA y))) (stable_is _) (step_loadRow (go1 36 true 114 rfl rfl rfl rfl) 24 (.tmp 7) rfl (w.heap.size + 1) 24 (blkA y) (0, 0) _ (opO' 7 (.pointer (some ⟨w.heap.size + 1, 0, none⟩)) rfl rfl) (fun W h => ((HP8.out.up h).blks (24, w.heap.size + 1, y) (by simp))) Try.underlying24 rfl (size24 y)) ?_
        refine wpL_cons (is (.bool p)) (stable_is _) (step_move (go1 36 true 114 rfl rfl rfl rfl) (.tmp 3) rfl (opO' 3 (.bool p) rfl rfl)) ?_
        refine wpL_cons (is (.bool q)) (stable_is _) (step_move (go1 36 true 114 rfl rfl rfl rfl) (.tmp 4) rfl (opO' 4 (.bool q) rfl rfl)) ?_
        refine wpL_cons (is (.int .i64 (newer x y p q))) (stable_is _) (step_newer (go1 36 true 114 rfl rfl rfl rfl) (.tmp 115) (.tmp 116) (.tmp 117) (.tmp 118) _ rfl x y p q (newer x y p q) rfl (opT' 115 37 rfl rfl) (opT' 116 38 rfl rfl) (opT' 117 39 rfl rfl) (opT' 118 40 rfl rfl)) ?_
        refine wpL_cons (is (.agg (blkA x))) (stable_is _) (step_loadRow (go1 36 true 114 rfl rfl rfl rfl) 24 (.tmp 6) rfl (w.heap.size) 24 (blkA x) (0, 0) _ (opO' 6 (.pointer (some ⟨w.heap.size, 0, none⟩)) rfl rfl) (fun W h => ((HP8.out.up h).blks (24, w.heap.size, x) (by simp))) Try.underlying24 rfl (size24 x)) ?_
        refine wpL_cons (is (.agg (blkA x))) (stable_is _) (step_flat (go1 36 true 114 rfl rfl rfl rfl) (.tmp 120) _ rfl x (opT' 120 42 rfl rfl)) ?_
        refine wpL_cons (is (.agg (blkA y))) (stable_is _) (step_loadRow (go1 36 true 114 rfl rfl rfl rfl) 24 (.tmp 7) rfl (w.heap.size + 1) 24 (blkA y) (0, 0) _ (opO' 7 (.pointer (some ⟨w.heap.size + 1, 0, none⟩)) rfl rfl) (fun W h => ((HP8.out.up h).blks (24, w.heap.size + 1, y) (by simp))) Try.underlying24 rfl (size24 y)) ?_
        refine wpL_cons (is (.agg (blkA y))) (stable_is _) (step_flat (go1 36 true 114 rfl rfl rfl rfl) (.tmp 122) _ rfl y (opT' 122 44 rfl rfl)) ?_
        refine wpL_cons (is (.bool p)) (stable_is _) (step_move (go1 36 true 114 rfl rfl rfl rfl) (.tmp 3) rfl (opO' 3 (.bool p) rfl rfl)) ?_
        refine wpL_cons (is (.bool q)) (stable_is _) (step_move (go1 36 true 114 rfl rfl rfl rfl) (.tmp 4) rfl (opO' 4 (.bool q) rfl rfl)) ?_
        refine wpL_cons (is (.int .i64 (newer x y p q))) (stable_is _) (step_newerR (go1 36 true 114 rfl rfl rfl rfl) (.tmp 121) (.tmp 123) (.tmp 124) (.tmp 125) _ rfl x y p q (newer x y p q) rfl (opT' 121 43 rfl rfl) (opT' 123 45 rfl rfl) (opT' 124 46 rfl rfl) (opT' 125 47 rfl rfl)) ?_
        refine wpL_cons (is (.bool true)) (stable_is _) (step_eq (go1 36 true 114 rfl rfl rfl rfl) 3 3 (.tmp 119) (.tmp 126) rfl .i64 _ _ true (opT' 119 41 rfl rfl) (opT' 126 48 rfl rfl) (beq_self_eq_true _)) ?_
        refine wpL_cons (is (.bool true)) (stable_is _) (step_pickT (go0 rfl) (.tmp 114) (.tmp 127) (.const (.bool false)) rfl (opT' 114 36 rfl rfl) (opT' 127 49 rfl rfl)) ?_
        refine wpL_cons (is (.bool true)) (stable_is _) (step_move (go0 rfl) (.tmp 128) rfl (opT' 128 50 rfl rfl)) ?_
        refine wpL_cons (is (.bool true)) (stable_is _) (step_awake (go1 51 true 129 rfl rfl rfl rfl) rfl) ?_
        refine wpL_cons (is (.bool true)) (stable_is _) (step_pickT (go0 rfl) (.tmp 129) (.tmp 130) (.const (.bool false)) rfl (opT' 129 51 rfl rfl) (opT' 130 52 rfl rfl)) ?_
        refine wpL_cons (is (.bool true)) (stable_is _) (step_assign (go0 rfl) (.tmp 131) rfl (opT' 131 53 rfl rfl)) ?_
        refine wpL_nil ?_
        intro v w10 hI _ hdone _
        have e0 : v 54 = .bool true := hdone 54 12 rfl
        have hI : Below w9.heap.size w9 w10 := hI
        have HZ := Lib.hid (below_trans HP8.out.below hI)
        clear hdone hI
        simp only [putAll, Act.put, List.setIfInBounds_toArray, List.set_cons_zero, List.set_cons_succ, Nat.zero_add, Nat.reduceAdd, e0]
        go_wp2_with fail
        go_ret
        exact ⟨rfl, HZ.out⟩
      · rw [show encE x = 1 from encE_val x _ hok, show decE l2 = 0 from decE_val l2 _ hdk]
        clear hok hdk
        refine wp_region_link 132 mixed (by kernel_rfl) (by rfl) (UpC w9) (UpC.start w9) ?_
        refine wpL_cons (is (va)) (stable_is _) (step_move (go0 rfl) (.tmp 16) rfl (opO' 16 (va) rfl rfl)) ?_
        refine wpL_cons (is (.string (str (encL x)))) (stable_is _) (step_str (go0 rfl) (.tmp 78) rfl (encL x) (OpIs.imp (opT' 78 0 rfl rfl) (fun v W h e => by rw [show v = (va) from e]; exact ((HP8.out.up h).vals (encL x, va) (by simp))))) ?_
        refine wpL_cons (is (vc)) (stable_is _) (step_move (go0 rfl) (.tmp 18) rfl (opO' 18 (vc) rfl rfl)) ?_
        refine wpL_cons (is (.string (str (encL x)))) (stable_is _) (step_str (go0 rfl) (.tmp 80) rfl (encL x) (OpIs.imp (opT' 80 2 rfl rfl) (fun v W h e => by rw [show v = (vc) from e]; exact ((HP8.out.up h).vals (encL x, vc) (by simp))))) ?_
        refine wpL_cons (is (.bool true)) (stable_is _) (step_eqs (go0 rfl) (.tmp 79) (.tmp 81) rfl (encL x) (opT' 79 1 rfl rfl) (opT' 81 3 rfl rfl)) ?_
        refine wpL_cons (is (.bool true)) (stable_is _) (step_move (go0 rfl) (.tmp 82) rfl (opT' 82 4 rfl rfl)) ?_
        refine wpL_cons (is (.int .i64 1)) (stable_is _) (step_move (go1 5 true 83 rfl rfl rfl rfl) (.tmp 17) rfl (opO' 17 (.int .i64 1) rfl rfl)) ?_
        refine wpL_cons (is (.bool false)) (stable_is _) (step_int (go1 5 true 83 rfl rfl rfl rfl) .eql 32 32 (.tmp 84) (.const (.int .i64 0)) rfl .i64 .i64 _ _ _ (opT' 84 6 rfl rfl) (opC _) (fun W => by kernel_rfl)) ?_
        refine wpL_cons (is (.bool false)) (stable_is _) (step_move (go1 5 true 83 rfl rfl rfl rfl) (.tmp 19) rfl (opO' 19 (.bool false) rfl rfl)) ?_
        refine wpL_cons (is (.bool true)) (stable_is _) (step_eqb (go1 5 true 83 rfl rfl rfl rfl) 4 4 (.tmp 85) (.tmp 86) rfl false false true (opT' 85 7 rfl rfl) (opT' 86 8 rfl rfl) (fun W => by kernel_rfl)) ?_
        refine wpL_cons (is (.bool true)) (stable_is _) (step_pickT (go0 rfl) (.tmp 83) (.tmp 87) (.const (.bool false)) rfl (opT' 83 5 rfl rfl) (opT' 87 9 rfl rfl)) ?_
        refine wpL_cons (is (.bool true)) (stable_is _) (step_move (go0 rfl) (.tmp 88) rfl (opT' 88 10 rfl rfl)) ?_
        refine wpL_cons (is (.bool false)) (stable_is _) (step_move (go1 11 true 89 rfl rfl rfl rfl) (.tmp 19) rfl (opO' 19 (.bool false) rfl rfl)) ?_
        refine wpL_cons (is (.bool false)) (stable_is _) (step_move (go1 11 true 89 rfl rfl rfl rfl) (.tmp 90) rfl (opT' 90 12 rfl rfl)) ?_
        refine wpL_cons (is (.int .i64 1)) (stable_is _) (step_move (go1 13 false 91 rfl rfl rfl rfl) (.tmp 17) rfl (opO' 17 (.int .i64 1) rfl rfl)) ?_
        refine wpL_cons (is (.bool true)) (stable_is _) (step_int (go1 13 false 91 rfl rfl rfl rfl) .eql 32 32 (.tmp 92) (.const (.int .i64 1)) rfl .i64 .i64 _ _ _ (opT' 92 14 rfl rfl) (opC _) (fun W => by kernel_rfl)) ?_
        refine wpL_cons (is (.bool true)) (stable_is _) (step_pickF (go1 11 true 89 rfl rfl rfl rfl) (.tmp 91) (.const (.bool true)) (.tmp 93) rfl (opT' 91 13 rfl rfl) (opT' 93 15 rfl rfl)) ?_
        refine wpL_cons (is (.bool true)) (stable_is _) (step_pickT (go0 rfl) (.tmp 89) (.tmp 94) (.const (.bool false)) rfl (opT' 89 11 rfl rfl) (opT' 94 16 rfl rfl)) ?_
        refine wpL_cons (is (.bool true)) (stable_is _) (step_move (go0 rfl) (.tmp 95) rfl (opT' 95 17 rfl rfl)) ?_
        refine wpL_cons (is (.agg (blkA (dec l2)))) (stable_is _) (step_loadRow (go1 18 true 96 rfl rfl rfl rfl) 24 (.tmp 20) rfl (b20) 24 (blkA (dec l2)) (0, 0) _ (opO' 20 (.pointer (some ⟨b20, 0, none⟩)) rfl rfl) (fun W h => ((HP8.out.up h).blks (24, b20, dec l2) (by simp))) Try.underlying24 rfl (size24 (dec l2))) ?_
        refine wpL_cons (is (.agg (blkA (dec l2)))) (stable_is _) (step_loadRow (go1 18 true 96 rfl rfl rfl rfl) 37 (.tmp 22) rfl (b22) 37 (blkA (dec l2)) (0, 0) _ (opO' 22 (.pointer (some ⟨b22, 0, none⟩)) rfl rfl) (fun W h => ((HP8.out.up h).blks (37, b22, dec l2) (by simp))) Try.underlying37 rfl (size37 (dec l2))) ?_
        refine wpL_cons (is (.bool true)) (stable_is _) (step_same' (go1 18 true 96 rfl rfl rfl rfl) (.tmp 97) (.tmp 98) _ rfl (dec l2) (opT' 97 19 rfl rfl) (opT' 98 20 rfl rfl)) ?_
        refine wpL_cons (is (.bool true)) (stable_is _) (step_pickT (go0 rfl) (.tmp 96) (.tmp 99) (.const (.bool false)) rfl (opT' 96 18 rfl rfl) (opT' 99 21 rfl rfl)) ?_
        refine wpL_cons (is (.bool true)) (stable_is _) (step_move (go0 rfl) (.tmp 100) rfl (opT' 100 22 rfl rfl)) ?_
        refine wpL_cons (is (.int .i64 0)) (stable_is _) (step_move (go1 23 true 101 rfl rfl rfl rfl) (.tmp 21) rfl (opO' 21 (.int .i64 0) rfl rfl)) ?_
        refine wpL_cons (is (.bool true)) (stable_is _) (step_int (go1 23 true 101 rfl rfl rfl rfl) .eql 32 32 (.tmp 102) (.const (.int .i64 0)) rfl .i64 .i64 _ _ _ (opT' 102 24 rfl rfl) (opC _) (fun W => by kernel_rfl)) ?_
        refine wpL_cons (is (.bool true)) (stable_is _) (step_move (go1 23 true 101 rfl rfl rfl rfl) (.tmp 23) rfl (opO' 23 (.bool true) rfl rfl)) ?_
        refine wpL_cons (is (.bool true)) (stable_is _) (step_eqb (go1 23 true 101 rfl rfl rfl rfl) 4 4 (.tmp 103) (.tmp 104) rfl true true true (opT' 103 25 rfl rfl) (opT' 104 26 rfl rfl) (fun W => by kernel_rfl)) ?_
        refine wpL_cons (is (.bool true)) (stable_is _) (step_pickT (go0 rfl) (.tmp 101) (.tmp 105) (.const (.bool false)) rfl (opT' 101 23 rfl rfl) (opT' 105 27 rfl rfl)) ?_
        refine wpL_cons (is (.bool true)) (stable_is _) (step_move (go0 rfl) (.tmp 106) rfl (opT' 106 28 rfl rfl)) ?_
        refine wpL_cons (is (.bool true)) (stable_is _) (step_move (go1 29 true 107 rfl rfl rfl rfl) (.tmp 23) rfl (opO' 23 (.bool true) rfl rfl)) ?_
        refine wpL_cons (is (.bool true)) (stable_is _) (step_move (go1 29 true 107 rfl rfl rfl rfl) (.tmp 108) rfl (opT' 108 30 rfl rfl)) ?_
        refine wpL_cons (is (undef)) (stable_is _) (step_off 31 false 109 rfl rfl rfl rfl) ?_
        refine wpL_cons (is (undef)) (stable_is _) (step_off 31 false 109 rfl rfl rfl rfl) ?_
        refine wpL_cons (is (.bool true)) (stable_is _) (step_pickT (go1 29 true 107 rfl rfl rfl rfl) (.tmp 109) (.const (.bool true)) (.tmp 111) rfl (opT' 109 31 rfl rfl) (opC _)) ?_
        refine wpL_cons (is (.bool true)) (stable_is _) (step_pickT (go0 rfl) (.tmp 107) (.tmp 112) (.const (.bool false)) rfl (opT' 107 29 rfl rfl) (opT' 112 34 rfl rfl)) ?_
        refine wpL_cons (is (.bool true)) (stable_is _) (step_move (go0 rfl) (.tmp 113) rfl (opT' 113 35 rfl rfl)) ?_
        refine wpL_cons (is (.agg (blkA x))) (stable_is _) (step_loadRow (go1 36 true 114 rfl rfl rfl rfl) 24 (.tmp 6) rfl (w.heap.size) 24 (blkA x) (0, 0) _ (opO' 6 (.pointer (some ⟨w.heap.size, 0, none⟩)) rfl rfl) (fun W h => ((HP8.out.up h).blks (24, w.heap.size, x) (by simp))) Try.underlying24 rfl (size24 x)) ?_
        refine wpL_cons (is (.agg (blkA y))) (stable_is _) (step_loadRow (go1 36 true 114 rfl rfl rfl rfl) 24 (.tmp 7) rfl (w.heap.size + 1) 24 (blkA y) (0, 0) _ (opO' 7 (.pointer (some ⟨w.heap.size + 1, 0, none⟩)) rfl rfl) (fun W h => ((HP8.out.up h).blks (24, w.heap.size + 1, y) (by simp))) Try.underlying24 rfl (size24 y)) ?_
        refine wpL_cons (is (.bool p)) (stable_is _) (step_move (go1 36 true 114 rfl rfl rfl rfl) (.tmp 3) rfl (opO' 3 (.bool p) rfl rfl)) ?_
        refine wpL_cons (is (.bool q)) (stable_is _) (step_move (go1 36 true 114 rfl rfl rfl rfl) (.tmp 4) rfl (opO' 4 (.bool q) rfl rfl)) ?_
        refine wpL_cons (is (.int .i64 (newer x y p q))) (stable_is _) (step_newer (go1 36 true 114 rfl rfl rfl rfl) (.tmp 115) (.tmp 116) (.tmp 117) (.tmp 118) _ rfl x y p q (newer x y p q) rfl (opT' 115 37 rfl rfl) (opT' 116 38 rfl rfl) (opT' 117 39 rfl rfl) (opT' 118 40 rfl rfl)) ?_
        refine wpL_cons (is (.agg (blkA x))) (stable_is _) (step_loadRow (go1 36 true 114 rfl rfl rfl rfl) 24 (.tmp 6) rfl (w.heap.size) 24 (blkA x) (0, 0) _ (opO' 6 (.pointer (some ⟨w.heap.size, 0, none⟩)) rfl rfl) (fun W h => ((HP8.out.up h).blks (24, w.heap.size, x) (by simp))) Try.underlying24 rfl (size24 x)) ?_
        refine wpL_cons (is (.agg (blkA x))) (stable_is _) (step_flat (go1 36 true 114 rfl rfl rfl rfl) (.tmp 120) _ rfl x (opT' 120 42 rfl rfl)) ?_
        refine wpL_cons (is (.agg (blkA y))) (stable_is _) (step_loadRow (go1 36 true 114 rfl rfl rfl rfl) 24 (.tmp 7) rfl (w.heap.size + 1) 24 (blkA y) (0, 0) _ (opO' 7 (.pointer (some ⟨w.heap.size + 1, 0, none⟩)) rfl rfl) (fun W h => ((HP8.out.up h).blks (24, w.heap.size + 1, y) (by simp))) Try.underlying24 rfl (size24 y)) ?_
        refine wpL_cons (is (.agg (blkA y))) (stable_is _) (step_flat (go1 36 true 114 rfl rfl rfl rfl) (.tmp 122) _ rfl y (opT' 122 44 rfl rfl)) ?_
        refine wpL_cons (is (.bool p)) (stable_is _) (step_move (go1 36 true 114 rfl rfl rfl rfl) (.tmp 3) rfl (opO' 3 (.bool p) rfl rfl)) ?_
        refine wpL_cons (is (.bool q)) (stable_is _) (step_move (go1 36 true 114 rfl rfl rfl rfl) (.tmp 4) rfl (opO' 4 (.bool q) rfl rfl)) ?_
        refine wpL_cons (is (.int .i64 (newer x y p q))) (stable_is _) (step_newerR (go1 36 true 114 rfl rfl rfl rfl) (.tmp 121) (.tmp 123) (.tmp 124) (.tmp 125) _ rfl x y p q (newer x y p q) rfl (opT' 121 43 rfl rfl) (opT' 123 45 rfl rfl) (opT' 124 46 rfl rfl) (opT' 125 47 rfl rfl)) ?_
        refine wpL_cons (is (.bool true)) (stable_is _) (step_eq (go1 36 true 114 rfl rfl rfl rfl) 3 3 (.tmp 119) (.tmp 126) rfl .i64 _ _ true (opT' 119 41 rfl rfl) (opT' 126 48 rfl rfl) (beq_self_eq_true _)) ?_
        refine wpL_cons (is (.bool true)) (stable_is _) (step_pickT (go0 rfl) (.tmp 114) (.tmp 127) (.const (.bool false)) rfl (opT' 114 36 rfl rfl) (opT' 127 49 rfl rfl)) ?_
        refine wpL_cons (is (.bool true)) (stable_is _) (step_move (go0 rfl) (.tmp 128) rfl (opT' 128 50 rfl rfl)) ?_
        refine wpL_cons (is (.bool true)) (stable_is _) (step_awake (go1 51 true 129 rfl rfl rfl rfl) rfl) ?_
        refine wpL_cons (is (.bool true)) (stable_is _) (step_pickT (go0 rfl) (.tmp 129) (.tmp 130) (.const (.bool false)) rfl (opT' 129 51 rfl rfl) (opT' 130 52 rfl rfl)) ?_
        refine wpL_cons (is (.bool true)) (stable_is _) (step_assign (go0 rfl) (.tmp 131) rfl (opT' 131 53 rfl rfl)) ?_
        refine wpL_nil ?_
        intro v w10 hI _ hdone _
        have e0 : v 54 = .bool true := hdone 54 12 rfl
        have hI : Below w9.heap.size w9 w10 := hI
        have HZ := Lib.hid (below_trans HP8.out.below hI)
        clear hdone hI
        simp only [putAll, Act.put, List.setIfInBounds_toArray, List.set_cons_zero, List.set_cons_succ, Nat.zero_add, Nat.reduceAdd, e0]
        go_wp2_with fail
        go_ret
        exact ⟨rfl, HZ.out⟩
      · rw [show encE x = 0 from encE_val x _ hok, show decE l2 = 3 from decE_val l2 _ hdk]
        clear hok hdk
        refine wp_region_link 132 mixed (by kernel_rfl) (by rfl) (UpC w9) (UpC.start w9) ?_
        refine wpL_cons (is (va)) (stable_is _) (step_move (go0 rfl) (.tmp 16) rfl (opO' 16 (va) rfl rfl)) ?_
        refine wpL_cons (is (.string (str (encL x)))) (stable_is _) (step_str (go0 rfl) (.tmp 78) rfl (encL x) (OpIs.imp (opT' 78 0 rfl rfl) (fun v W h e => by rw [show v = (va) from e]; exact ((HP8.out.up h).vals (encL x, va) (by simp))))) ?_
        refine wpL_cons (is (vc)) (stable_is _) (step_move (go0 rfl) (.tmp 18) rfl (opO' 18 (vc) rfl rfl)) ?_
        refine wpL_cons (is (.string (str (encL x)))) (stable_is _) (step_str (go0 rfl) (.tmp 80) rfl (encL x) (OpIs.imp (opT' 80 2 rfl rfl) (fun v W h e => by rw [show v = (vc) from e]; exact ((HP8.out.up h).vals (encL x, vc) (by simp))))) ?_
        refine wpL_cons (is (.bool true)) (stable_is _) (step_eqs (go0 rfl) (.tmp 79) (.tmp 81) rfl (encL x) (opT' 79 1 rfl rfl) (opT' 81 3 rfl rfl)) ?_
        refine wpL_cons (is (.bool true)) (stable_is _) (step_move (go0 rfl) (.tmp 82) rfl (opT' 82 4 rfl rfl)) ?_
        refine wpL_cons (is (.int .i64 0)) (stable_is _) (step_move (go1 5 true 83 rfl rfl rfl rfl) (.tmp 17) rfl (opO' 17 (.int .i64 0) rfl rfl)) ?_
        refine wpL_cons (is (.bool true)) (stable_is _) (step_int (go1 5 true 83 rfl rfl rfl rfl) .eql 32 32 (.tmp 84) (.const (.int .i64 0)) rfl .i64 .i64 _ _ _ (opT' 84 6 rfl rfl) (opC _) (fun W => by kernel_rfl)) ?_
        refine wpL_cons (is (.bool true)) (stable_is _) (step_move (go1 5 true 83 rfl rfl rfl rfl) (.tmp 19) rfl (opO' 19 (.bool true) rfl rfl)) ?_
        refine wpL_cons (is (.bool true)) (stable_is _) (step_eqb (go1 5 true 83 rfl rfl rfl rfl) 4 4 (.tmp 85) (.tmp 86) rfl true true true (opT' 85 7 rfl rfl) (opT' 86 8 rfl rfl) (fun W => by kernel_rfl)) ?_
        refine wpL_cons (is (.bool true)) (stable_is _) (step_pickT (go0 rfl) (.tmp 83) (.tmp 87) (.const (.bool false)) rfl (opT' 83 5 rfl rfl) (opT' 87 9 rfl rfl)) ?_
        refine wpL_cons (is (.bool true)) (stable_is _) (step_move (go0 rfl) (.tmp 88) rfl (opT' 88 10 rfl rfl)) ?_
        refine wpL_cons (is (.bool true)) (stable_is _) (step_move (go1 11 true 89 rfl rfl rfl rfl) (.tmp 19) rfl (opO' 19 (.bool true) rfl rfl)) ?_
        refine wpL_cons (is (.bool true)) (stable_is _) (step_move (go1 11 true 89 rfl rfl rfl rfl) (.tmp 90) rfl (opT' 90 12 rfl rfl)) ?_
        refine wpL_cons (is (undef)) (stable_is _) (step_off 13 false 91 rfl rfl rfl rfl) ?_
        refine wpL_cons (is (undef)) (stable_is _) (step_off 13 false 91 rfl rfl rfl rfl) ?_
        refine wpL_cons (is (.bool true)) (stable_is _) (step_pickT (go1 11 true 89 rfl rfl rfl rfl) (.tmp 91) (.const (.bool true)) (.tmp 93) rfl (opT' 91 13 rfl rfl) (opC _)) ?_
        refine wpL_cons (is (.bool true)) (stable_is _) (step_pickT (go0 rfl) (.tmp 89) (.tmp 94) (.const (.bool false)) rfl (opT' 89 11 rfl rfl) (opT' 94 16 rfl rfl)) ?_
        refine wpL_cons (is (.bool true)) (stable_is _) (step_move (go0 rfl) (.tmp 95) rfl (opT' 95 17 rfl rfl)) ?_
        refine wpL_cons (is (.agg (blkA (dec l2)))) (stable_is _) (step_loadRow (go1 18 true 96 rfl rfl rfl rfl) 24 (.tmp 20) rfl (b20) 24 (blkA (dec l2)) (0, 0) _ (opO' 20 (.pointer (some ⟨b20, 0, none⟩)) rfl rfl) (fun W h => ((HP8.out.up h).blks (24, b20, dec l2) (by simp))) Try.underlying24 rfl (size24 (dec l2))) ?_
        refine wpL_cons (is (.agg (blkA (dec l2)))) (stable_is _) (step_loadRow (go1 18 true 96 rfl rfl rfl rfl) 37 (.tmp 22) rfl (b22) 37 (blkA (dec l2)) (0, 0) _ (opO' 22 (.pointer (some ⟨b22, 0, none⟩)) rfl rfl) (fun W h => ((HP8.out.up h).blks (37, b22, dec l2) (by simp))) Try.underlying37 rfl (size37 (dec l2))) ?_
        refine wpL_cons (is (.bool true)) (stable_is _) (step_same' (go1 18 true 96 rfl rfl rfl rfl) (.tmp 97) (.tmp 98) _ rfl (dec l2) (opT' 97 19 rfl rfl) (opT' 98 20 rfl rfl)) ?_
        refine wpL_cons (is (.bool true)) (stable_is _) (step_pickT (go0 rfl) (.tmp 96) (.tmp 99) (.const (.bool false)) rfl (opT' 96 18 rfl rfl) (opT' 99 21 rfl rfl)) ?_
        refine wpL_cons (is (.bool true)) (stable_is _) (step_move (go0 rfl) (.tmp 100) rfl (opT' 100 22 rfl rfl)) ?_
        refine wpL_cons (is (.int .i64 3)) (stable_is _) (step_move (go1 23 true 101 rfl rfl rfl rfl) (.tmp 21) rfl (opO' 21 (.int .i64 3) rfl rfl)) ?_
        refine wpL_cons (is (.bool false)) (stable_is _) (step_int (go1 23 true 101 rfl rfl rfl rfl) .eql 32 32 (.tmp 102) (.const (.int .i64 0)) rfl .i64 .i64 _ _ _ (opT' 102 24 rfl rfl) (opC _) (fun W => by kernel_rfl)) ?_
        refine wpL_cons (is (.bool false)) (stable_is _) (step_move (go1 23 true 101 rfl rfl rfl rfl) (.tmp 23) rfl (opO' 23 (.bool false) rfl rfl)) ?_
        refine wpL_cons (is (.bool true)) (stable_is _) (step_eqb (go1 23 true 101 rfl rfl rfl rfl) 4 4 (.tmp 103) (.tmp 104) rfl false false true (opT' 103 25 rfl rfl) (opT' 104 26 rfl rfl) (fun W => by kernel_rfl)) ?_
        refine wpL_cons (is (.bool true)) (stable_is _) (step_pickT (go0 rfl) (.tmp 101) (.tmp 105) (.const (.bool false)) rfl (opT' 101 23 rfl rfl) (opT' 105 27 rfl rfl)) ?_
        refine wpL_cons (is (.bool true)) (stable_is _) (step_move (go0 rfl) (.tmp 106) rfl (opT' 106 28 rfl rfl)) ?_
        refine wpL_cons (is (.bool false)) (stable_is _) (step_move (go1 29 true 107 rfl rfl rfl rfl) (.tmp 23) rfl (opO' 23 (.bool false) rfl rfl)) ?_
        refine wpL_cons (is (.bool false)) (stable_is _) (step_move (go1 29 true 107 rfl rfl rfl rfl) (.tmp 108) rfl (opT' 108 30 rfl rfl)) ?_
        refine wpL_cons (is (.int .i64 3)) (stable_is _) (step_move (go1 31 false 109 rfl rfl rfl rfl) (.tmp 21) rfl (opO' 21 (.int .i64 3) rfl rfl)) ?_
        refine wpL_cons (is (.bool true)) (stable_is _) (step_int (go1 31 false 109 rfl rfl rfl rfl) .eql 32 32 (.tmp 110) (.const (.int .i64 3)) rfl .i64 .i64 _ _ _ (opT' 110 32 rfl rfl) (opC _) (fun W => by kernel_rfl)) ?_
        refine wpL_cons (is (.bool true)) (stable_is _) (step_pickF (go1 29 true 107 rfl rfl rfl rfl) (.tmp 109) (.const (.bool true)) (.tmp 111) rfl (opT' 109 31 rfl rfl) (opT' 111 33 rfl rfl)) ?_
        refine wpL_cons (is (.bool true)) (stable_is _) (step_pickT (go0 rfl) (.tmp 107) (.tmp 112) (.const (.bool false)) rfl (opT' 107 29 rfl rfl) (opT' 112 34 rfl rfl)) ?_
        refine wpL_cons (is (.bool true)) (stable_is _) (step_move (go0 rfl) (.tmp 113) rfl (opT' 113 35 rfl rfl)) ?_
        refine wpL_cons (is (.agg (blkA x))) (stable_is _) (step_loadRow (go1 36 true 114 rfl rfl rfl rfl) 24 (.tmp 6) rfl (w.heap.size) 24 (blkA x) (0, 0) _ (opO' 6 (.pointer (some ⟨w.heap.size, 0, none⟩)) rfl rfl) (fun W h => ((HP8.out.up h).blks (24, w.heap.size, x) (by simp))) Try.underlying24 rfl (size24 x)) ?_
        refine wpL_cons (is (.agg (blkA y))) (stable_is _) (step_loadRow (go1 36 true 114 rfl rfl rfl rfl) 24 (.tmp 7) rfl (w.heap.size + 1) 24 (blkA y) (0, 0) _ (opO' 7 (.pointer (some ⟨w.heap.size + 1, 0, none⟩)) rfl rfl) (fun W h => ((HP8.out.up h).blks (24, w.heap.size + 1, y) (by simp))) Try.underlying24 rfl (size24 y)) ?_
        refine wpL_cons (is (.bool p)) (stable_is _) (step_move (go1 36 true 114 rfl rfl rfl rfl) (.tmp 3) rfl (opO' 3 (.bool p) rfl rfl)) ?_
        refine wpL_cons (is (.bool q)) (stable_is _) (step_move (go1 36 true 114 rfl rfl rfl rfl) (.tmp 4) rfl (opO' 4 (.bool q) rfl rfl)) ?_
        refine wpL_cons (is (.int .i64 (newer x y p q))) (stable_is _) (step_newer (go1 36 true 114 rfl rfl rfl rfl) (.tmp 115) (.tmp 116) (.tmp 117) (.tmp 118) _ rfl x y p q (newer x y p q) rfl (opT' 115 37 rfl rfl) (opT' 116 38 rfl rfl) (opT' 117 39 rfl rfl) (opT' 118 40 rfl rfl)) ?_
        refine wpL_cons (is (.agg (blkA x))) (stable_is _) (step_loadRow (go1 36 true 114 rfl rfl rfl rfl) 24 (.tmp 6) rfl (w.heap.size) 24 (blkA x) (0, 0) _ (opO' 6 (.pointer (some ⟨w.heap.size, 0, none⟩)) rfl rfl) (fun W h => ((HP8.out.up h).blks (24, w.heap.size, x) (by simp))) Try.underlying24 rfl (size24 x)) ?_
        refine wpL_cons (is (.agg (blkA x))) (stable_is _) (step_flat (go1 36 true 114 rfl rfl rfl rfl) (.tmp 120) _ rfl x (opT' 120 42 rfl rfl)) ?_
        refine wpL_cons (is (.agg (blkA y))) (stable_is _) (step_loadRow (go1 36 true 114 rfl rfl rfl rfl) 24 (.tmp 7) rfl (w.heap.size + 1) 24 (blkA y) (0, 0) _ (opO' 7 (.pointer (some ⟨w.heap.size + 1, 0, none⟩)) rfl rfl) (fun W h => ((HP8.out.up h).blks (24, w.heap.size + 1, y) (by simp))) Try.underlying24 rfl (size24 y)) ?_
        refine wpL_cons (is (.agg (blkA y))) (stable_is _) (step_flat (go1 36 true 114 rfl rfl rfl rfl) (.tmp 122) _ rfl y (opT' 122 44 rfl rfl)) ?_
        refine wpL_cons (is (.bool p)) (stable_is _) (step_move (go1 36 true 114 rfl rfl rfl rfl) (.tmp 3) rfl (opO' 3 (.bool p) rfl rfl)) ?_
        refine wpL_cons (is (.bool q)) (stable_is _) (step_move (go1 36 true 114 rfl rfl rfl rfl) (.tmp 4) rfl (opO' 4 (.bool q) rfl rfl)) ?_
        refine wpL_cons (is (.int .i64 (newer x y p q))) (stable_is _) (step_newerR (go1 36 true 114 rfl rfl rfl rfl) (.tmp 121) (.tmp 123) (.tmp 124) (.tmp 125) _ rfl x y p q (newer x y p q) rfl (opT' 121 43 rfl rfl) (opT' 123 45 rfl rfl) (opT' 124 46 rfl rfl) (opT' 125 47 rfl rfl)) ?_
        refine wpL_cons (is (.bool true)) (stable_is _) (step_eq (go1 36 true 114 rfl rfl rfl rfl) 3 3 (.tmp 119) (.tmp 126) rfl .i64 _ _ true (opT' 119 41 rfl rfl) (opT' 126 48 rfl rfl) (beq_self_eq_true _)) ?_
        refine wpL_cons (is (.bool true)) (stable_is _) (step_pickT (go0 rfl) (.tmp 114) (.tmp 127) (.const (.bool false)) rfl (opT' 114 36 rfl rfl) (opT' 127 49 rfl rfl)) ?_
        refine wpL_cons (is (.bool true)) (stable_is _) (step_move (go0 rfl) (.tmp 128) rfl (opT' 128 50 rfl rfl)) ?_
        refine wpL_cons (is (.bool true)) (stable_is _) (step_awake (go1 51 true 129 rfl rfl rfl rfl) rfl) ?_
        refine wpL_cons (is (.bool true)) (stable_is _) (step_pickT (go0 rfl) (.tmp 129) (.tmp 130) (.const (.bool false)) rfl (opT' 129 51 rfl rfl) (opT' 130 52 rfl rfl)) ?_
        refine wpL_cons (is (.bool true)) (stable_is _) (step_assign (go0 rfl) (.tmp 131) rfl (opT' 131 53 rfl rfl)) ?_
        refine wpL_nil ?_
        intro v w10 hI _ hdone _
        have e0 : v 54 = .bool true := hdone 54 12 rfl
        have hI : Below w9.heap.size w9 w10 := hI
        have HZ := Lib.hid (below_trans HP8.out.below hI)
        clear hdone hI
        simp only [putAll, Act.put, List.setIfInBounds_toArray, List.set_cons_zero, List.set_cons_succ, Nat.zero_add, Nat.reduceAdd, e0]
        go_wp2_with fail
        go_ret
        exact ⟨rfl, HZ.out⟩
      · rw [show encE x = 0 from encE_val x _ hok, show decE l2 = 0 from decE_val l2 _ hdk]
        clear hok hdk
        refine wp_region_link 132 mixed (by kernel_rfl) (by rfl) (UpC w9) (UpC.start w9) ?_
        refine wpL_cons (is (va)) (stable_is _) (step_move (go0 rfl) (.tmp 16) rfl (opO' 16 (va) rfl rfl)) ?_
        refine wpL_cons (is (.string (str (encL x)))) (stable_is _) (step_str (go0 rfl) (.tmp 78) rfl (encL x) (OpIs.imp (opT' 78 0 rfl rfl) (fun v W h e => by rw [show v = (va) from e]; exact ((HP8.out.up h).vals (encL x, va) (by simp))))) ?_
        refine wpL_cons (is (vc)) (stable_is _) (step_move (go0 rfl) (.tmp 18) rfl (opO' 18 (vc) rfl rfl)) ?_
        refine wpL_cons (is (.string (str (encL x)))) (stable_is _) (step_str (go0 rfl) (.tmp 80) rfl (encL x) (OpIs.imp (opT' 80 2 rfl rfl) (fun v W h e => by rw [show v = (vc) from e]; exact ((HP8.out.up h).vals (encL x, vc) (by simp))))) ?_
        refine wpL_cons (is (.bool true)) (stable_is _) (step_eqs (go0 rfl) (.tmp 79) (.tmp 81) rfl (encL x) (opT' 79 1 rfl rfl) (opT' 81 3 rfl rfl)) ?_
        refine wpL_cons (is (.bool true)) (stable_is _) (step_move (go0 rfl) (.tmp 82) rfl (opT' 82 4 rfl rfl)) ?_
        refine wpL_cons (is (.int .i64 0)) (stable_is _) (step_move (go1 5 true 83 rfl rfl rfl rfl) (.tmp 17) rfl (opO' 17 (.int .i64 0) rfl rfl)) ?_
        refine wpL_cons (is (.bool true)) (stable_is _) (step_int (go1 5 true 83 rfl rfl rfl rfl) .eql 32 32 (.tmp 84) (.const (.int .i64 0)) rfl .i64 .i64 _ _ _ (opT' 84 6 rfl rfl) (opC _) (fun W => by kernel_rfl)) ?_
        refine wpL_cons (is (.bool true)) (stable_is _) (step_move (go1 5 true 83 rfl rfl rfl rfl) (.tmp 19) rfl (opO' 19 (.bool true) rfl rfl)) ?_
        refine wpL_cons (is (.bool true)) (stable_is _) (step_eqb (go1 5 true 83 rfl rfl rfl rfl) 4 4 (.tmp 85) (.tmp 86) rfl true true true (opT' 85 7 rfl rfl) (opT' 86 8 rfl rfl) (fun W => by kernel_rfl)) ?_
        refine wpL_cons (is (.bool true)) (stable_is _) (step_pickT (go0 rfl) (.tmp 83) (.tmp 87) (.const (.bool false)) rfl (opT' 83 5 rfl rfl) (opT' 87 9 rfl rfl)) ?_
        refine wpL_cons (is (.bool true)) (stable_is _) (step_move (go0 rfl) (.tmp 88) rfl (opT' 88 10 rfl rfl)) ?_
        refine wpL_cons (is (.bool true)) (stable_is _) (step_move (go1 11 true 89 rfl rfl rfl rfl) (.tmp 19) rfl (opO' 19 (.bool true) rfl rfl)) ?_
        refine wpL_cons (is (.bool true)) (stable_is _) (step_move (go1 11 true 89 rfl rfl rfl rfl) (.tmp 90) rfl (opT' 90 12 rfl rfl)) ?_
        refine wpL_cons (is (undef)) (stable_is _) (step_off 13 false 91 rfl rfl rfl rfl) ?_
        refine wpL_cons (is (undef)) (stable_is _) (step_off 13 false 91 rfl rfl rfl rfl) ?_
        refine wpL_cons (is (.bool true)) (stable_is _) (step_pickT (go1 11 true 89 rfl rfl rfl rfl) (.tmp 91) (.const (.bool true)) (.tmp 93) rfl (opT' 91 13 rfl rfl) (opC _)) ?_
        refine wpL_cons (is (.bool true)) (stable_is _) (step_pickT (go0 rfl) (.tmp 89) (.tmp 94) (.const (.bool false)) rfl (opT' 89 11 rfl rfl) (opT' 94 16 rfl rfl)) ?_
        refine wpL_cons (is (.bool true)) (stable_is _) (step_move (go0 rfl) (.tmp 95) rfl (opT' 95 17 rfl rfl)) ?_
        refine wpL_cons (is (.agg (blkA (dec l2)))) (stable_is _) (step_loadRow (go1 18 true 96 rfl rfl rfl rfl) 24 (.tmp 20) rfl (b20) 24 (blkA (dec l2)) (0, 0) _ (opO' 20 (.pointer (some ⟨b20, 0, none⟩)) rfl rfl) (fun W h => ((HP8.out.up h).blks (24, b20, dec l2) (by simp))) Try.underlying24 rfl (size24 (dec l2))) ?_
        refine wpL_cons (is (.agg (blkA (dec l2)))) (stable_is _) (step_loadRow (go1 18 true 96 rfl rfl rfl rfl) 37 (.tmp 22) rfl (b22) 37 (blkA (dec l2)) (0, 0) _ (opO' 22 (.pointer (some ⟨b22, 0, none⟩)) rfl rfl) (fun W h => ((HP8.out.up h).blks (37, b22, dec l2) (by simp))) Try.underlying37 rfl (size37 (dec l2))) ?_
        refine wpL_cons (is (.bool true)) (stable_is _) (step_same' (go1 18 true 96 rfl rfl rfl rfl) (.tmp 97) (.tmp 98) _ rfl (dec l2) (opT' 97 19 rfl rfl) (opT' 98 20 rfl rfl)) ?_
        refine wpL_cons (is (.bool true)) (stable_is _) (step_pickT (go0 rfl) (.tmp 96) (.tmp 99) (.const (.bool false)) rfl (opT' 96 18 rfl rfl) (opT' 99 21 rfl rfl)) ?_
        refine wpL_cons (is (.bool true)) (stable_is _) (step_move (go0 rfl) (.tmp 100) rfl (opT' 100 22 rfl rfl)) ?_
        refine wpL_cons (is (.int .i64 0)) (stable_is _) (step_move (go1 23 true 101 rfl rfl rfl rfl) (.tmp 21) rfl (opO' 21 (.int .i64 0) rfl rfl)) ?_
        refine wpL_cons (is (.bool true)) (stable_is _) (step_int (go1 23 true 101 rfl rfl rfl rfl) .eql 32 32 (.tmp 102) (.const (.int .i64 0)) rfl .i64 .i64 _ _ _ (opT' 102 24 rfl rfl) (opC _) (fun W => by kernel_rfl)) ?_
        refine wpL_cons (is (.bool true)) (stable_is _) (step_move (go1 23 true 101 rfl rfl rfl rfl) (.tmp 23) rfl (opO' 23 (.bool true) rfl rfl)) ?_
        refine wpL_cons (is (.bool true)) (stable_is _) (step_eqb (go1 23 true 101 rfl rfl rfl rfl) 4 4 (.tmp 103) (.tmp 104) rfl true true true (opT' 103 25 rfl rfl) (opT' 104 26 rfl rfl) (fun W => by kernel_rfl)) ?_
        refine wpL_cons (is (.bool true)) (stable_is _) (step_pickT (go0 rfl) (.tmp 101) (.tmp 105) (.const (.bool false)) rfl (opT' 101 23 rfl rfl) (opT' 105 27 rfl rfl)) ?_
        refine wpL_cons (is (.bool true)) (stable_is _) (step_move (go0 rfl) (.tmp 106) rfl (opT' 106 28 rfl rfl)) ?_
        refine wpL_cons (is (.bool true)) (stable_is _) (step_move (go1 29 true 107 rfl rfl rfl rfl) (.tmp 23) rfl (opO' 23 (.bool true) rfl rfl)) ?_
        refine wpL_cons (is (.bool true)) (stable_is _) (step_move (go1 29 true 107 rfl rfl rfl rfl) (.tmp 108) rfl (opT' 108 30 rfl rfl)) ?_
        refine wpL_cons (is (undef)) (stable_is _) (step_off 31 false 109 rfl rfl rfl rfl) ?_
        refine wpL_cons (is (undef)) (stable_is _) (step_off 31 false 109 rfl rfl rfl rfl) ?_
        refine wpL_cons (is (.bool true)) (stable_is _) (step_pickT (go1 29 true 107 rfl rfl rfl rfl) (.tmp 109) (.const (.bool true)) (.tmp 111) rfl (opT' 109 31 rfl rfl) (opC _)) ?_
        refine wpL_cons (is (.bool true)) (stable_is _) (step_pickT (go0 rfl) (.tmp 107) (.tmp 112) (.const (.bool false)) rfl (opT' 107 29 rfl rfl) (opT' 112 34 rfl rfl)) ?_
        refine wpL_cons (is (.bool true)) (stable_is _) (step_move (go0 rfl) (.tmp 113) rfl (opT' 113 35 rfl rfl)) ?_
        refine wpL_cons (is (.agg (blkA x))) (stable_is _) (step_loadRow (go1 36 true 114 rfl rfl rfl rfl) 24 (.tmp 6) rfl (w.heap.size) 24 (blkA x) (0, 0) _ (opO' 6 (.pointer (some ⟨w.heap.size, 0, none⟩)) rfl rfl) (fun W h => ((HP8.out.up h).blks (24, w.heap.size, x) (by simp))) Try.underlying24 rfl (size24 x)) ?_
        refine wpL_cons (is (.agg (blkA y))) (stable_is _) (step_loadRow (go1 36 true 114 rfl rfl rfl rfl) 24 (.tmp 7) rfl (w.heap.size + 1) 24 (blkA y) (0, 0) _ (opO' 7 (.pointer (some ⟨w.heap.size + 1, 0, none⟩)) rfl rfl) (fun W h => ((HP8.out.up h).blks (24, w.heap.size + 1, y) (by simp))) Try.underlying24 rfl (size24 y)) ?_
        refine wpL_cons (is (.bool p)) (stable_is _) (step_move (go1 36 true 114 rfl rfl rfl rfl) (.tmp 3) rfl (opO' 3 (.bool p) rfl rfl)) ?_
        refine wpL_cons (is (.bool q)) (stable_is _) (step_move (go1 36 true 114 rfl rfl rfl rfl) (.tmp 4) rfl (opO' 4 (.bool q) rfl rfl)) ?_
        refine wpL_cons (is (.int .i64 (newer x y p q))) (stable_is _) (step_newer (go1 36 true 114 rfl rfl rfl rfl) (.tmp 115) (.tmp 116) (.tmp 117) (.tmp 118) _ rfl x y p q (newer x y p q) rfl (opT' 115 37 rfl rfl) (opT' 116 38 rfl rfl) (opT' 117 39 rfl rfl) (opT' 118 40 rfl rfl)) ?_
        refine wpL_cons (is (.agg (blkA x))) (stable_is _) (step_loadRow (go1 36 true 114 rfl rfl rfl rfl) 24 (.tmp 6) rfl (w.heap.size) 24 (blkA x) (0, 0) _ (opO' 6 (.pointer (some ⟨w.heap.size, 0, none⟩)) rfl rfl) (fun W h => ((HP8.out.up h).blks (24, w.heap.size, x) (by simp))) Try.underlying24 rfl (size24 x)) ?_
        refine wpL_cons (is (.agg (blkA x))) (stable_is _) (step_flat (go1 36 true 114 rfl rfl rfl rfl) (.tmp 120) _ rfl x (opT' 120 42 rfl rfl)) ?_
        refine wpL_cons (is (.agg (blkA y))) (stable_is _) (step_loadRow (go1 36 true 114 rfl rfl rfl rfl) 24 (.tmp 7) rfl (w.heap.size + 1) 24 (blkA y) (0, 0) _ (opO' 7 (.pointer (some ⟨w.heap.size + 1, 0, none⟩)) rfl rfl) (fun W h => ((HP8.out.up h).blks (24, w.heap.size + 1, y) (by simp))) Try.underlying24 rfl (size24 y)) ?_
        refine wpL_cons (is (.agg (blkA y))) (stable_is _) (step_flat (go1 36 true 114 rfl rfl rfl rfl) (.tmp 122) _ rfl y (opT' 122 44 rfl rfl)) ?_
        refine wpL_cons (is (.bool p)) (stable_is _) (step_move (go1 36 true 114 rfl rfl rfl rfl) (.tmp 3) rfl (opO' 3 (.bool p) rfl rfl)) ?_
        refine wpL_cons (is (.bool q)) (stable_is _) (step_move (go1 36 true 114 rfl rfl rfl rfl) (.tmp 4) rfl (opO' 4 (.bool q) rfl rfl)) ?_
        refine wpL_cons (is (.int .i64 (newer x y p q))) (stable_is _) (step_newerR (go1 36 true 114 rfl rfl rfl rfl) (.tmp 121) (.tmp 123) (.tmp 124) (.tmp 125) _ rfl x y p q (newer x y p q) rfl (opT' 121 43 rfl rfl) (opT' 123 45 rfl rfl) (opT' 124 46 rfl rfl) (opT' 125 47 rfl rfl)) ?_
        refine wpL_cons (is (.bool true)) (stable_is _) (step_eq (go1 36 true 114 rfl rfl rfl rfl) 3 3 (.tmp 119) (.tmp 126) rfl .i64 _ _ true (opT' 119 41 rfl rfl) (opT' 126 48 rfl rfl) (beq_self_eq_true _)) ?_
        refine wpL_cons (is (.bool true)) (stable_is _) (step_pickT (go0 rfl) (.tmp 114) (.tmp 127) (.const (.bool false)) rfl (opT' 114 36 rfl rfl) (opT' 127 49 rfl rfl)) ?_
        refine wpL_cons (is (.bool true)) (stable_is _) (step_move (go0 rfl) (.tmp 128) rfl (opT' 128 50 rfl rfl)) ?_
        refine wpL_cons (is (.bool true)) (stable_is _) (step_awake (go1 51 true 129 rfl rfl rfl rfl) rfl) ?_
        refine wpL_cons (is (.bool true)) (stable_is _) (step_pickT (go0 rfl) (.tmp 129) (.tmp 130) (.const (.bool false)) rfl (opT' 129 51 rfl rfl) (opT' 130 52 rfl rfl)) ?_
        refine wpL_cons (is (.bool true)) (stable_is _) (step_assign (go0 rfl) (.tmp 131) rfl (opT' 131 53 rfl rfl)) ?_
        refine wpL_nil ?_
        intro v w10 hI _ hdone _
        have e0 : v 54 = .bool true := hdone 54 12 rfl
        have hI : Below w9.heap.size w9 w10 := hI
        have HZ := Lib.hid (below_trans HP8.out.below hI)
        clear hdone hI
        simp only [putAll, Act.put, List.setIfInBounds_toArray, List.set_cons_zero, List.set_cons_succ, Nat.zero_add, Nat.reduceAdd, e0]
        go_wp2_with fail
        go_ret
        exact ⟨rfl, HZ.out⟩
    · obtain ⟨l2, hl2⟩ : ∃ l2, l2 = l := ⟨_, rfl⟩
      rw [← hl2] at HP1
      clear hl2
      have h32i : ¬ ((n : Int) = 32) := by omega
      go_upto_region 12 with (first
        | (with_reducible refine at_op (.load 28 (.tmp 13)) ?_; first | refine arm_tab rfl (.tmp 13) rfl b13 rfl HP4.out.tabl ?_ | refine arm_tab rfl (.tmp 13) rfl b13 rfl HP1.out.tabl ?_)
        | (with_reducible refine at_op (.load 24 (.tmp 6)) ?_; first | refine arm_loadB rfl 24 (fun _ _ _ h => h.load24) (.tmp 6) rfl w.heap.size x rfl (HP2.out.blks (24, w.heap.size, x) (by simp)) ?_ | refine arm_loadB rfl 24 (fun _ _ _ h => h.load24) (.tmp 6) rfl w.heap.size x rfl (HP1.out.blks (24, w.heap.size, x) (by simp)) ?_)
        | (go_at_call 9; with_reducible refine (enc_walk x HS.out _).mono ?_
           rintro e w3 ⟨va, rfl, hv3, hb3⟩
           have HP2 := Lib.hid ((HP1.out.up hb3).addV hv3)
           clear hb3 hv3)
        | (go_at_call 11; with_reducible refine (flat_walk x _).mono ?_
           rintro e w4 ⟨rfl, hb4⟩
           have HP3 := Lib.hid (HP2.out.up hb4)
           clear hb4)
        | (go_at_call 10; with_reducible refine (head_walk x HS.out _).mono ?_
           rintro e w5 ⟨vc, rfl, hv5, hb5⟩
           have HP4 := Lib.hid ((HP3.out.up hb5).addV hv5)
           clear hb5 hv5 HP3)
        | (go_at_call 12; refine (dec_walk l2 _ _ (HP4.out.vals (l2, .slice A n cap) (by simp))).mono ?_
           rintro e w6 ⟨rfl, hb6⟩
           have HP5 := Lib.hid (HP4.out.up hb6)
           clear hb6)
        | (with_reducible refine at_op (.alloc 24) ?_; refine arm_allocB rfl 24 rfl alloc24 ?_)
        | (with_reducible refine at_op (.store 24 (.tmp 20) (.tmp 71)) ?_; refine arm_storeB rfl 24 size24 (.tmp 20) (.tmp 71) rfl w6.heap.size blk0 (dec l2) rfl rfl (BlkAt.new w6 24 blk0) ?_
           have hs := (below_alloc w6 (.cells (blkA blk0) 24)).trans (set_below _ w6.heap.size w6.heap.size (dec l2) (Nat.le_refl _))
           have HP6 := Lib.hid ((HP5.out.up hs).addB (set_new _ _ _ (dec l2) _ (BlkAt.new w6 24 blk0)))
           generalize World.setRow (w6.alloc (.cells (blkA blk0) 24)) w6.heap.size (blkA (dec l2)) = w7 at *
           obtain ⟨b20, hb20⟩ : ∃ b20, b20 = w6.heap.size := ⟨_, rfl⟩
           rw [← hb20] at HP6 ⊢
           clear hs hb20 HP5)
        | (go_at_call 13; refine (rd_walk l2 _ _ (HP6.out.vals (l2, .slice A n cap) (by simp))).mono ?_
           rintro e w8 ⟨rfl, hb8⟩
           have HP7 := Lib.hid (HP6.out.up hb8)
           clear hb8)
        | (with_reducible refine at_op (.alloc 37) ?_; refine arm_allocB rfl 37 rfl alloc37 ?_)
        | (with_reducible refine at_op (.store 37 (.tmp 22) (.tmp 76)) ?_; refine arm_storeB rfl 37 size37 (.tmp 22) (.tmp 76) rfl w8.heap.size blk0 (dec l2) rfl rfl (BlkAt.new w8 37 blk0) ?_
           have hs := (below_alloc w8 (.cells (blkA blk0) 37)).trans (set_below _ w8.heap.size w8.heap.size (dec l2) (Nat.le_refl _))
           have HP8 := Lib.hid ((HP7.out.up hs).addB (set_new _ _ _ (dec l2) _ (BlkAt.new w8 37 blk0)))
           generalize World.setRow (w8.alloc (.cells (blkA blk0) 37)) w8.heap.size (blkA (dec l2)) = w9 at *
           obtain ⟨b22, hb22⟩ : ∃ b22, b22 = w8.heap.size := ⟨_, rfl⟩
           rw [← hb22] at HP8 ⊢
           clear hs hb22 HP7)
        | fail)
      clear HP1 HP2 HP4 HP6
      cases hok : okB x <;> cases hdk : decOk l2
      · rw [show encE x = 1 from encE_val x _ hok, show decE l2 = 3 from decE_val l2 _ hdk]
        clear hok hdk
        refine wp_region_link 132 mixed (by kernel_rfl) (by rfl) (UpC w9) (UpC.start w9) ?_
        refine wpL_cons (is (va)) (stable_is _) (step_move (go0 rfl) (.tmp 16) rfl (opO' 16 (va) rfl rfl)) ?_
        refine wpL_cons (is (.string (str (encL x)))) (stable_is _) (step_str (go0 rfl) (.tmp 78) rfl (encL x) (OpIs.imp (opT' 78 0 rfl rfl) (fun v W h e => by rw [show v = (va) from e]; exact ((HP8.out.up h).vals (encL x, va) (by simp))))) ?_
        refine wpL_cons (is (vc)) (stable_is _) (step_move (go0 rfl) (.tmp 18) rfl (opO' 18 (vc) rfl rfl)) ?_
        refine wpL_cons (is (.string (str (encL x)))) (stable_is _) (step_str (go0 rfl) (.tmp 80) rfl (encL x) (OpIs.imp (opT' 80 2 rfl rfl) (fun v W h e => by rw [show v = (vc) from e]; exact ((HP8.out.up h).vals (encL x, vc) (by simp))))) ?_
        refine wpL_cons (is (.bool true)) (stable_is _) (step_eqs (go0 rfl) (.tmp 79) (.tmp 81) rfl (encL x) (opT' 79 1 rfl rfl) (opT' 81 3 rfl rfl)) ?_
        refine wpL_cons (is (.bool true)) (stable_is _) (step_move (go0 rfl) (.tmp 82) rfl (opT' 82 4 rfl rfl)) ?_
        refine wpL_cons (is (.int .i64 1)) (stable_is _) (step_move (go1 5 true 83 rfl rfl rfl rfl) (.tmp 17) rfl (opO' 17 (.int .i64 1) rfl rfl)) ?_
        refine wpL_cons (is (.bool false)) (stable_is _) (step_int (go1 5 true 83 rfl rfl rfl rfl) .eql 32 32 (.tmp 84) (.const (.int .i64 0)) rfl .i64 .i64 _ _ _ (opT' 84 6 rfl rfl) (opC _) (fun W => by kernel_rfl)) ?_
        refine wpL_cons (is (.bool false)) (stable_is _) (step_move (go1 5 true 83 rfl rfl rfl rfl) (.tmp 19) rfl (opO' 19 (.bool false) rfl rfl)) ?_
        refine wpL_cons (is (.bool true)) (stable_is _) (step_eqb (go1 5 true 83 rfl rfl rfl rfl) 4 4 (.tmp 85) (.tmp 86) rfl false false true (opT' 85 7 rfl rfl) (opT' 86 8 rfl rfl) (fun W => by kernel_rfl)) ?_
        refine wpL_cons (is (.bool true)) (stable_is _) (step_pickT (go0 rfl) (.tmp 83) (.tmp 87) (.const (.bool false)) rfl (opT' 83 5 rfl rfl) (opT' 87 9 rfl rfl)) ?_
        refine wpL_cons (is (.bool true)) (stable_is _) (step_move (go0 rfl) (.tmp 88) rfl (opT' 88 10 rfl rfl)) ?_
        refine wpL_cons (is (.bool false)) (stable_is _) (step_move (go1 11 true 89 rfl rfl rfl rfl) (.tmp 19) rfl (opO' 19 (.bool false) rfl rfl)) ?_
        refine wpL_cons (is (.bool false)) (stable_is _) (step_move (go1 11 true 89 rfl rfl rfl rfl) (.tmp 90) rfl (opT' 90 12 rfl rfl)) ?_
        refine wpL_cons (is (.int .i64 1)) (stable_is _) (step_move (go1 13 false 91 rfl rfl rfl rfl) (.tmp 17) rfl (opO' 17 (.int .i64 1) rfl rfl)) ?_
        refine wpL_cons (is (.bool true)) (stable_is _) (step_int (go1 13 false 91 rfl rfl rfl rfl) .eql 32 32 (.tmp 92) (.const (.int .i64 1)) rfl .i64 .i64 _ _ _ (opT' 92 14 rfl rfl) (opC _) (fun W => by kernel_rfl)) ?_
        refine wpL_cons (is (.bool true)) (stable_is _) (step_pickF (go1 11 true 89 rfl rfl rfl rfl) (.tmp 91) (.const (.bool true)) (.tmp 93) rfl (opT' 91 13 rfl rfl) (opT' 93 15 rfl rfl)) ?_
        refine wpL_cons (is (.bool true)) (stable_is _) (step_pickT (go0 rfl) (.tmp 89) (.tmp 94) (.const (.bool false)) rfl (opT' 89 11 rfl rfl) (opT' 94 16 rfl rfl)) ?_
        refine wpL_cons (is (.bool true)) (stable_is _) (step_move (go0 rfl) (.tmp 95) rfl (opT' 95 17 rfl rfl)) ?_
        refine wpL_cons (is (.agg (blkA (dec l2)))) (stable_is _) (step_loadRow (go1 18 true 96 rfl rfl rfl rfl) 24 (.tmp 20) rfl (b20) 24 (blkA (dec l2)) (0, 0) _ (opO' 20 (.pointer (some ⟨b20, 0, none⟩)) rfl rfl) (fun W h => ((HP8.out.up h).blks (24, b20, dec l2) (by simp))) Try.underlying24 rfl (size24 (dec l2))) ?_
        refine wpL_cons (is (.agg (blkA (dec l2)))) (stable_is _) (step_loadRow (go1 18 true 96 rfl rfl rfl rfl) 37 (.tmp 22) rfl (b22) 37 (blkA (dec l2)) (0, 0) _ (opO' 22 (.pointer (some ⟨b22, 0, none⟩)) rfl rfl) (fun W h => ((HP8.out.up h).blks (37, b22, dec l2) (by simp))) Try.underlying37 rfl (size37 (dec l2))) ?_
        refine wpL_cons (is (.bool true)) (stable_is _) (step_same' (go1 18 true 96 rfl rfl rfl rfl) (.tmp 97) (.tmp 98) _ rfl (dec l2) (opT' 97 19 rfl rfl) (opT' 98 20 rfl rfl)) ?_
        refine wpL_cons (is (.bool true)) (stable_is _) (step_pickT (go0 rfl) (.tmp 96) (.tmp 99) (.const (.bool false)) rfl (opT' 96 18 rfl rfl) (opT' 99 21 rfl rfl)) ?_
        refine wpL_cons (is (.bool true)) (stable_is _) (step_move (go0 rfl) (.tmp 100) rfl (opT' 100 22 rfl rfl)) ?_
        refine wpL_cons (is (.int .i64 3)) (stable_is _) (step_move (go1 23 true 101 rfl rfl rfl rfl) (.tmp 21) rfl (opO' 21 (.int .i64 3) rfl rfl)) ?_
        refine wpL_cons (is (.bool false)) (stable_is _) (step_int (go1 23 true 101 rfl rfl rfl rfl) .eql 32 32 (.tmp 102) (.const (.int .i64 0)) rfl .i64 .i64 _ _ _ (opT' 102 24 rfl rfl) (opC _) (fun W => by kernel_rfl)) ?_
        refine wpL_cons (is (.bool false)) (stable_is _) (step_move (go1 23 true 101 rfl rfl rfl rfl) (.tmp 23) rfl (opO' 23 (.bool false) rfl rfl)) ?_
        refine wpL_cons (is (.bool true)) (stable_is _) (step_eqb (go1 23 true 101 rfl rfl rfl rfl) 4 4 (.tmp 103) (.tmp 104) rfl false false true (opT' 103 25 rfl rfl) (opT' 104 26 rfl rfl) (fun W => by kernel_rfl)) ?_
        refine wpL_cons (is (.bool true)) (stable_is _) (step_pickT (go0 rfl) (.tmp 101) (.tmp 105) (.const (.bool false)) rfl (opT' 101 23 rfl rfl) (opT' 105 27 rfl rfl)) ?_
        refine wpL_cons (is (.bool true)) (stable_is _) (step_move (go0 rfl) (.tmp 106) rfl (opT' 106 28 rfl rfl)) ?_
        refine wpL_cons (is (.bool false)) (stable_is _) (step_move (go1 29 true 107 rfl rfl rfl rfl) (.tmp 23) rfl (opO' 23 (.bool false) rfl rfl)) ?_
        refine wpL_cons (is (.bool false)) (stable_is _) (step_move (go1 29 true 107 rfl rfl rfl rfl) (.tmp 108) rfl (opT' 108 30 rfl rfl)) ?_
        refine wpL_cons (is (.int .i64 3)) (stable_is _) (step_move (go1 31 false 109 rfl rfl rfl rfl) (.tmp 21) rfl (opO' 21 (.int .i64 3) rfl rfl)) ?_
        refine wpL_cons (is (.bool true)) (stable_is _) (step_int (go1 31 false 109 rfl rfl rfl rfl) .eql 32 32 (.tmp 110) (.const (.int .i64 3)) rfl .i64 .i64 _ _ _ (opT' 110 32 rfl rfl) (opC _) (fun W => by kernel_rfl)) ?_
        refine wpL_cons (is (.bool true)) (stable_is _) (step_pickF (go1 29 true 107 rfl rfl rfl rfl) (.tmp 109) (.const (.bool true)) (.tmp 111) rfl (opT' 109 31 rfl rfl) (opT' 111 33 rfl rfl)) ?_
        refine wpL_cons (is (.bool true)) (stable_is _) (step_pickT (go0 rfl) (.tmp 107) (.tmp 112) (.const (.bool false)) rfl (opT' 107 29 rfl rfl) (opT' 112 34 rfl rfl)) ?_
        refine wpL_cons (is (.bool true)) (stable_is _) (step_move (go0 rfl) (.tmp 113) rfl (opT' 113 35 rfl rfl)) ?_
        refine wpL_cons (is (.agg (blkA x))) (stable_is _) (step_loadRow (go1 36 true 114 rfl rfl rfl rfl) 24 (.tmp 6) rfl (w.heap.size) 24 (blkA x) (0, 0) _ (opO' 6 (.pointer (some ⟨w.heap.size, 0, none⟩)) rfl rfl) (fun W h => ((HP8.out.up h).blks (24, w.heap.size, x) (by simp))) Try.underlying24 rfl (size24 x)) ?_
        refine wpL_cons (is (.agg (blkA y))) (stable_is _) (step_loadRow (go1 36 true 114 rfl rfl rfl rfl) 24 (.tmp 7) rfl (w.heap.size + 1) 24 (blkA y) (0, 0) _ (opO' 7 (.pointer (some ⟨w.heap.size + 1, 0, none⟩)) rfl rfl) (fun W h => ((HP8.out.up h).blks (24, w.heap.size + 1, y) (by simp))) Try.underlying24 rfl (size24 y)) ?_
        refine wpL_cons (is (.bool p)) (stable_is _) (step_move (go1 36 true 114 rfl rfl rfl rfl) (.tmp 3) rfl (opO' 3 (.bool p) rfl rfl)) ?_
        refine wpL_cons (is (.bool q)) (stable_is _) (step_move (go1 36 true 114 rfl rfl rfl rfl) (.tmp 4) rfl (opO' 4 (.bool q) rfl rfl)) ?_
        refine wpL_cons (is (.int .i64 (newer x y p q))) (stable_is _) (step_newer (go1 36 true 114 rfl rfl rfl rfl) (.tmp 115) (.tmp 116) (.tmp 117) (.tmp 118) _ rfl x y p q (newer x y p q) rfl (opT' 115 37 rfl rfl) (opT' 116 38 rfl rfl) (opT' 117 39 rfl rfl) (opT' 118 40 rfl rfl)) ?_
        refine wpL_cons (is (.agg (blkA x))) (stable_is _) (step_loadRow (go1 36 true 114 rfl rfl rfl rfl) 24 (.tmp 6) rfl (w.heap.size) 24 (blkA x) (0, 0) _ (opO' 6 (.pointer (some ⟨w.heap.size, 0, none⟩)) rfl rfl) (fun W h => ((HP8.out.up h).blks (24, w.heap.size, x) (by simp))) Try.underlying24 rfl (size24 x)) ?_
        refine wpL_cons (is (.agg (blkA x))) (stable_is _) (step_flat (go1 36 true 114 rfl rfl rfl rfl) (.tmp 120) _ rfl x (opT' 120 42 rfl rfl)) ?_
        refine wpL_cons (is (.agg (blkA y))) (stable_is _) (step_loadRow (go1 36 true 114 rfl rfl rfl rfl) 24 (.tmp 7) rfl (w.heap.size + 1) 24 (blkA y) (0, 0) _ (opO' 7 (.pointer (some ⟨w.heap.size + 1, 0, none⟩)) rfl rfl) (fun W h => ((HP8.out.up h).blks (24, w.heap.size + 1, y) (by simp))) Try.underlying24 rfl (size24 y)) ?_
        refine wpL_cons (is (.agg (blkA y))) (stable_is _) (step_flat (go1 36 true 114 rfl rfl rfl rfl) (.tmp 122) _ rfl y (opT' 122 44 rfl rfl)) ?_
        refine wpL_cons (is (.bool p)) (stable_is _) (step_move (go1 36 true 114 rfl rfl rfl rfl) (.tmp 3) rfl (opO' 3 (.bool p) rfl rfl)) ?_
        refine wpL_cons (is (.bool q)) (stable_is _) (step_move (go1 36 true 114 rfl rfl rfl rfl) (.tmp 4) rfl (opO' 4 (.bool q) rfl rfl)) ?_
        refine wpL_cons (is (.int .i64 (newer x y p q))) (stable_is _) (step_newerR (go1 36 true 114 rfl rfl rfl rfl) (.tmp 121) (.tmp 123) (.tmp 124) (.tmp 125) _ rfl x y p q (newer x y p q) rfl (opT' 121 43 rfl rfl) (opT' 123 45 rfl rfl) (opT' 124 46 rfl rfl) (opT' 125 47 rfl rfl)) ?_
        refine wpL_cons (is (.bool true)) (stable_is _) (step_eq (go1 36 true 114 rfl rfl rfl rfl) 3 3 (.tmp 119) (.tmp 126) rfl .i64 _ _ true (opT' 119 41 rfl rfl) (opT' 126 48 rfl rfl) (beq_self_eq_true _)) ?_
        refine wpL_cons (is (.bool true)) (stable_is _) (step_pickT (go0 rfl) (.tmp 114) (.tmp 127) (.const (.bool false)) rfl (opT' 114 36 rfl rfl) (opT' 127 49 rfl rfl)) ?_
        refine wpL_cons (is (.bool true)) (stable_is _) (step_move (go0 rfl) (.tmp 128) rfl (opT' 128 50 rfl rfl)) ?_
        refine wpL_cons (is (.bool true)) (stable_is _) (step_awake (go1 51 true 129 rfl rfl rfl rfl) rfl) ?_
        refine wpL_cons (is (.bool true)) (stable_is _) (step_pickT (go0 rfl) (.tmp 129) (.tmp 130) (.const (.bool false)) rfl (opT' 129 51 rfl rfl) (opT' 130 52 rfl rfl)) ?_
        refine wpL_cons (is (.bool true)) (stable_is _) (step_assign (go0 rfl) (.tmp 131) rfl (opT' 131 53 rfl rfl)) ?_
        refine wpL_nil ?_
        intro v w10 hI _ hdone _
        have e0 : v 54 = .bool true := hdone 54 12 rfl
        have hI : Below w9.heap.size w9 w10 := hI
        have HZ := Lib.hid (below_trans HP8.out.below hI)
        clear hdone hI
        simp only [putAll, Act.put, List.setIfInBounds_toArray, List.set_cons_zero, List.set_cons_succ, Nat.zero_add, Nat.reduceAdd, e0]
        go_wp2_with fail
        go_ret
        exact ⟨rfl, HZ.out⟩
      · rw [show encE x = 1 from encE_val x _ hok, show decE l2 = 0 from decE_val l2 _ hdk]
        clear hok hdk
        refine wp_region_link 132 mixed (by kernel_rfl) (by rfl) (UpC w9) (UpC.start w9) ?_
        refine wpL_cons (is (va)) (stable_is _) (step_move (go0 rfl) (.tmp 16) rfl (opO' 16 (va) rfl rfl)) ?_
        refine wpL_cons (is (.string (str (encL x)))) (stable_is _) (step_str (go0 rfl) (.tmp 78) rfl (encL x) (OpIs.imp (opT' 78 0 rfl rfl) (fun v W h e => by rw [show v = (va) from e]; exact ((HP8.out.up h).vals (encL x, va) (by simp))))) ?_
        refine wpL_cons (is (vc)) (stable_is _) (step_move (go0 rfl) (.tmp 18) rfl (opO' 18 (vc) rfl rfl)) ?_
        refine wpL_cons (is (.string (str (encL x)))) (stable_is _) (step_str (go0 rfl) (.tmp 80) rfl (encL x) (OpIs.imp (opT' 80 2 rfl rfl) (fun v W h e => by rw [show v = (vc) from e]; exact ((HP8.out.up h).vals (encL x, vc) (by simp))))) ?_
        refine wpL_cons (is (.bool true)) (stable_is _) (step_eqs (go0 rfl) (.tmp 79) (.tmp 81) rfl (encL x) (opT' 79 1 rfl rfl) (opT' 81 3 rfl rfl)) ?_
        refine wpL_cons (is (.bool true)) (stable_is _) (step_move (go0 rfl) (.tmp 82) rfl (opT' 82 4 rfl rfl)) ?_
        refine wpL_cons (is (.int .i64 1)) (stable_is _) (step_move (go1 5 true 83 rfl rfl rfl rfl) (.tmp 17) rfl (opO' 17 (.int .i64 1) rfl rfl)) ?_
        refine wpL_cons (is (.bool false)) (stable_is _) (step_int (go1 5 true 83 rfl rfl rfl rfl) .eql 32 32 (.tmp 84) (.const (.int .i64 0)) rfl .i64 .i64 _ _ _ (opT' 84 6 rfl rfl) (opC _) (fun W => by kernel_rfl)) ?_
        refine wpL_cons (is (.bool false)) (stable_is _) (step_move (go1 5 true 83 rfl rfl rfl rfl) (.tmp 19) rfl (opO' 19 (.bool false) rfl rfl)) ?_
        refine wpL_cons (is (.bool true)) (stable_is _) (step_eqb (go1 5 true 83 rfl rfl rfl rfl) 4 4 (.tmp 85) (.tmp 86) rfl false false true (opT' 85 7 rfl rfl) (opT' 86 8 rfl rfl) (fun W => by kernel_rfl)) ?_
        refine wpL_cons (is (.bool true)) (stable_is _) (step_pickT (go0 rfl) (.tmp 83) (.tmp 87) (.const (.bool false)) rfl (opT' 83 5 rfl rfl) (opT' 87 9 rfl rfl)) ?_
        refine wpL_cons (is (.bool true)) (stable_is _) (step_move (go0 rfl) (.tmp 88) rfl (opT' 88 10 rfl rfl)) ?_
        refine wpL_cons (is (.bool false)) (stable_is _) (step_move (go1 11 true 89 rfl rfl rfl rfl) (.tmp 19) rfl (opO' 19 (.bool false) rfl rfl)) ?_
        refine wpL_cons (is (.bool false)) (stable_is _) (step_move (go1 11 true 89 rfl rfl rfl rfl) (.tmp 90) rfl (opT' 90 12 rfl rfl)) ?_
        refine wpL_cons (is (.int .i64 1)) (stable_is _) (step_move (go1 13 false 91 rfl rfl rfl rfl) (.tmp 17) rfl (opO' 17 (.int .i64 1) rfl rfl)) ?_
        refine wpL_cons (is (.bool true)) (stable_is _) (step_int (go1 13 false 91 rfl rfl rfl rfl) .eql 32 32 (.tmp 92) (.const (.int .i64 1)) rfl .i64 .i64 _ _ _ (opT' 92 14 rfl rfl) (opC _) (fun W => by kernel_rfl)) ?_
        refine wpL_cons (is (.bool true)) (stable_is _) (step_pickF (go1 11 true 89 rfl rfl rfl rfl) (.tmp 91) (.const (.bool true)) (.tmp 93) rfl (opT' 91 13 rfl rfl) (opT' 93 15 rfl rfl)) ?_
        refine wpL_cons (is (.bool true)) (stable_is _) (step_pickT (go0 rfl) (.tmp 89) (.tmp 94) (.const (.bool false)) rfl (opT' 89 11 rfl rfl) (opT' 94 16 rfl rfl)) ?_
        refine wpL_cons (is (.bool true)) (stable_is _) (step_move (go0 rfl) (.tmp 95) rfl (opT' 95 17 rfl rfl)) ?_
        refine wpL_cons (is (.agg (blkA (dec l2)))) (stable_is _) (step_loadRow (go1 18 true 96 rfl rfl rfl rfl) 24 (.tmp 20) rfl (b20) 24 (blkA (dec l2)) (0, 0) _ (opO' 20 (.pointer (some ⟨b20, 0, none⟩)) rfl rfl) (fun W h => ((HP8.out.up h).blks (24, b20, dec l2) (by simp))) Try.underlying24 rfl (size24 (dec l2))) ?_
        refine wpL_cons (is (.agg (blkA (dec l2)))) (stable_is _) (step_loadRow (go1 18 true 96 rfl rfl rfl rfl) 37 (.tmp 22) rfl (b22) 37 (blkA (dec l2)) (0, 0) _ (opO' 22 (.pointer (some ⟨b22, 0, none⟩)) rfl rfl) (fun W h => ((HP8.out.up h).blks (37, b22, dec l2) (by simp))) Try.underlying37 rfl (size37 (dec l2))) ?_
        refine wpL_cons (is (.bool true)) (stable_is _) (step_same' (go1 18 true 96 rfl rfl rfl rfl) (.tmp 97) (.tmp 98) _ rfl (dec l2) (opT' 97 19 rfl rfl) (opT' 98 20 rfl rfl)) ?_
        refine wpL_cons (is (.bool true)) (stable_is _) (step_pickT (go0 rfl) (.tmp 96) (.tmp 99) (.const (.bool false)) rfl (opT' 96 18 rfl rfl) (opT' 99 21 rfl rfl)) ?_
        refine wpL_cons (is (.bool true)) (stable_is _) (step_move (go0 rfl) (.tmp 100) rfl (opT' 100 22 rfl rfl)) ?_
        refine wpL_cons (is (.int .i64 0)) (stable_is _) (step_move (go1 23 true 101 rfl rfl rfl rfl) (.tmp 21) rfl (opO' 21 (.int .i64 0) rfl rfl)) ?_
        refine wpL_cons (is (.bool true)) (stable_is _) (step_int (go1 23 true 101 rfl rfl rfl rfl) .eql 32 32 (.tmp 102) (.const (.int .i64 0)) rfl .i64 .i64 _ _ _ (opT' 102 24 rfl rfl) (opC _) (fun W => by kernel_rfl)) ?_
        refine wpL_cons (is (.bool true)) (stable_is _) (step_move (go1 23 true 101 rfl rfl rfl rfl) (.tmp 23) rfl (opO' 23 (.bool true) rfl rfl)) ?_
        refine wpL_cons (is (.bool true)) (stable_is _) (step_eqb (go1 23 true 101 rfl rfl rfl rfl) 4 4 (.tmp 103) (.tmp 104) rfl true true true (opT' 103 25 rfl rfl) (opT' 104 26 rfl rfl) (fun W => by kernel_rfl)) ?_
        refine wpL_cons (is (.bool true)) (stable_is _) (step_pickT (go0 rfl) (.tmp 101) (.tmp 105) (.const (.bool false)) rfl (opT' 101 23 rfl rfl) (opT' 105 27 rfl rfl)) ?_
        refine wpL_cons (is (.bool true)) (stable_is _) (step_move (go0 rfl) (.tmp 106) rfl (opT' 106 28 rfl rfl)) ?_
        refine wpL_cons (is (.bool true)) (stable_is _) (step_move (go1 29 true 107 rfl rfl rfl rfl) (.tmp 23) rfl (opO' 23 (.bool true) rfl rfl)) ?_
        refine wpL_cons (is (.bool true)) (stable_is _) (step_move (go1 29 true 107 rfl rfl rfl rfl) (.tmp 108) rfl (opT' 108 30 rfl rfl)) ?_
        refine wpL_cons (is (undef)) (stable_is _) (step_off 31 false 109 rfl rfl rfl rfl) ?_
        refine wpL_cons (is (undef)) (stable_is _) (step_off 31 false 109 rfl rfl rfl rfl) ?_
        refine wpL_cons (is (.bool true)) (stable_is _) (step_pickT (go1 29 true 107 rfl rfl rfl rfl) (.tmp 109) (.const (.bool true)) (.tmp 111) rfl (opT' 109 31 rfl rfl) (opC _)) ?_
        refine wpL_cons (is (.bool true)) (stable_is _) (step_pickT (go0 rfl) (.tmp 107) (.tmp 112) (.const (.bool false)) rfl (opT' 107 29 rfl rfl) (opT' 112 34 rfl rfl)) ?_
        refine wpL_cons (is (.bool true)) (stable_is _) (step_move (go0 rfl) (.tmp 113) rfl (opT' 113 35 rfl rfl)) ?_
        refine wpL_cons (is (.agg (blkA x))) (stable_is _) (step_loadRow (go1 36 true 114 rfl rfl rfl rfl) 24 (.tmp 6) rfl (w.heap.size) 24 (blkA x) (0, 0) _ (opO' 6 (.pointer (some ⟨w.heap.size, 0, none⟩)) rfl rfl) (fun W h => ((HP8.out.up h).blks (24, w.heap.size, x) (by simp))) Try.underlying24 rfl (size24 x)) ?_
        refine wpL_cons (is (.agg (blkA y))) (stable_is _) (step_loadRow (go1 36 true 114 rfl rfl rfl rfl) 24 (.tmp 7) rfl (w.heap.size + 1) 24 (blkA y) (0, 0) _ (opO' 7 (.pointer (some ⟨w.heap.size + 1, 0, none⟩)) rfl rfl) (fun W h => ((HP8.out.up h).blks (24, w.heap.size + 1, y) (by simp))) Try.underlying24 rfl (size24 y)) ?_
        refine wpL_cons (is (.bool p)) (stable_is _) (step_move (go1 36 true 114 rfl rfl rfl rfl) (.tmp 3) rfl (opO' 3 (.bool p) rfl rfl)) ?_
        refine wpL_cons (is (.bool q)) (stable_is _) (step_move (go1 36 true 114 rfl rfl rfl rfl) (.tmp 4) rfl (opO' 4 (.bool q) rfl rfl)) ?_
        refine wpL_cons (is (.int .i64 (newer x y p q))) (stable_is _) (step_newer (go1 36 true 114 rfl rfl rfl rfl) (.tmp 115) (.tmp 116) (.tmp 117) (.tmp 118) _ rfl x y p q (newer x y p q) rfl (opT' 115 37 rfl rfl) (opT' 116 38 rfl rfl) (opT' 117 39 rfl rfl) (opT' 118 40 rfl rfl)) ?_
        refine wpL_cons (is (.agg (blkA x))) (stable_is _) (step_loadRow (go1 36 true 114 rfl rfl rfl rfl) 24 (.tmp 6) rfl (w.heap.size) 24 (blkA x) (0, 0) _ (opO' 6 (.pointer (some ⟨w.heap.size, 0, none⟩)) rfl rfl) (fun W h => ((HP8.out.up h).blks (24, w.heap.size, x) (by simp))) Try.underlying24 rfl (size24 x)) ?_
        refine wpL_cons (is (.agg (blkA x))) (stable_is _) (step_flat (go1 36 true 114 rfl rfl rfl rfl) (.tmp 120) _ rfl x (opT' 120 42 rfl rfl)) ?_
        refine wpL_cons (is (.agg (blkA y))) (stable_is _) (step_loadRow (go1 36 true 114 rfl rfl rfl rfl) 24 (.tmp 7) rfl (w.heap.size + 1) 24 (blkA y) (0, 0) _ (opO' 7 (.pointer (some ⟨w.heap.size + 1, 0, none⟩)) rfl rfl) (fun W h => ((HP8.out.up h).blks (24, w.heap.size + 1, y) (by simp))) Try.underlying24 rfl (size24 y)) ?_
        refine wpL_cons (is (.agg (blkA y))) (stable_is _) (step_flat (go1 36 true 114 rfl rfl rfl rfl) (.tmp 122) _ rfl y (opT' 122 44 rfl rfl)) ?_
        refine wpL_cons (is (.bool p)) (stable_is _) (step_move (go1 36 true 114 rfl rfl rfl rfl) (.tmp 3) rfl (opO' 3 (.bool p) rfl rfl)) ?_
        refine wpL_cons (is (.bool q)) (stable_is _) (step_move (go1 36 true 114 rfl rfl rfl rfl) (.tmp 4) rfl (opO' 4 (.bool q) rfl rfl)) ?_
        refine wpL_cons (is (.int .i64 (newer x y p q))) (stable_is _) (step_newerR (go1 36 true 114 rfl rfl rfl rfl) (.tmp 121) (.tmp 123) (.tmp 124) (.tmp 125) _ rfl x y p q (newer x y p q) rfl (opT' 121 43 rfl rfl) (opT' 123 45 rfl rfl) (opT' 124 46 rfl rfl) (opT' 125 47 rfl rfl)) ?_
        refine wpL_cons (is (.bool true)) (stable_is _) (step_eq (go1 36 true 114 rfl rfl rfl rfl) 3 3 (.tmp 119) (.tmp 126) rfl .i64 _ _ true (opT' 119 41 rfl rfl) (opT' 126 48 rfl rfl) (beq_self_eq_true _)) ?_
        refine wpL_cons (is (.bool true)) (stable_is _) (step_pickT (go0 rfl) (.tmp 114) (.tmp 127) (.const (.bool false)) rfl (opT' 114 36 rfl rfl) (opT' 127 49 rfl rfl)) ?_
        refine wpL_cons (is (.bool true)) (stable_is _) (step_move (go0 rfl) (.tmp 128) rfl (opT' 128 50 rfl rfl)) ?_
        refine wpL_cons (is (.bool true)) (stable_is _) (step_awake (go1 51 true 129 rfl rfl rfl rfl) rfl) ?_
        refine wpL_cons (is (.bool true)) (stable_is _) (step_pickT (go0 rfl) (.tmp 129) (.tmp 130) (.const (.bool false)) rfl (opT' 129 51 rfl rfl) (opT' 130 52 rfl rfl)) ?_
        refine wpL_cons (is (.bool true)) (stable_is _) (step_assign (go0 rfl) (.tmp 131) rfl (opT' 131 53 rfl rfl)) ?_
        refine wpL_nil ?_
        intro v w10 hI _ hdone _
        have e0 : v 54 = .bool true := hdone 54 12 rfl
        have hI : Below w9.heap.size w9 w10 := hI
        have HZ := Lib.hid (below_trans HP8.out.below hI)
        clear hdone hI
        simp only [putAll, Act.put, List.setIfInBounds_toArray, List.set_cons_zero, List.set_cons_succ, Nat.zero_add, Nat.reduceAdd, e0]
        go_wp2_with fail
        go_ret
        exact ⟨rfl, HZ.out⟩
      · rw [show encE x = 0 from encE_val x _ hok, show decE l2 = 3 from decE_val l2 _ hdk]
        clear hok hdk
        refine wp_region_link 132 mixed (by kernel_rfl) (by rfl) (UpC w9) (UpC.start w9) ?_
        refine wpL_cons (is (va)) (stable_is _) (step_move (go0 rfl) (.tmp 16) rfl (opO' 16 (va) rfl rfl)) ?_
        refine wpL_cons (is (.string (str (encL x)))) (stable_is _) (step_str (go0 rfl) (.tmp 78) rfl (encL x) (OpIs.imp (opT' 78 0 rfl rfl) (fun v W h e => by rw [show v = (va) from e]; exact ((HP8.out.up h).vals (encL x, va) (by simp))))) ?_
        refine wpL_cons (is (vc)) (stable_is _) (step_move (go0 rfl) (.tmp 18) rfl (opO' 18 (vc) rfl rfl)) ?_
        refine wpL_cons (is (.string (str (encL x)))) (stable_is _) (step_str (go0 rfl) (.tmp 80) rfl (encL x) (OpIs.imp (opT' 80 2 rfl rfl) (fun v W h e => by rw [show v = (vc) from e]; exact ((HP8.out.up h).vals (encL x, vc) (by simp))))) ?_
        refine wpL_cons (is (.bool true)) (stable_is _) (step_eqs (go0 rfl) (.tmp 79) (.tmp 81) rfl (encL x) (opT' 79 1 rfl rfl) (opT' 81 3 rfl rfl)) ?_
        refine wpL_cons (is (.bool true)) (stable_is _) (step_move (go0 rfl) (.tmp 82) rfl (opT' 82 4 rfl rfl)) ?_
        refine wpL_cons (is (.int .i64 0)) (stable_is _) (step_move (go1 5 true 83 rfl rfl rfl rfl) (.tmp 17) rfl (opO' 17 (.int .i64 0) rfl rfl)) ?_
        refine wpL_cons (is (.bool true)) (stable_is _) (step_int (go1 5 true 83 rfl rfl rfl rfl) .eql 32 32 (.tmp 84) (.const (.int .i64 0)) rfl .i64 .i64 _ _ _ (opT' 84 6 rfl rfl) (opC _) (fun W => by kernel_rfl)) ?_
        refine wpL_cons (is (.bool true)) (stable_is _) (step_move (go1 5 true 83 rfl rfl rfl rfl) (.tmp 19) rfl (opO' 19 (.bool true) rfl rfl)) ?_
        refine wpL_cons (is (.bool true)) (stable_is _) (step_eqb (go1 5 true 83 rfl rfl rfl rfl) 4 4 (.tmp 85) (.tmp 86) rfl true true true (opT' 85 7 rfl rfl) (opT' 86 8 rfl rfl) (fun W => by kernel_rfl)) ?_
        refine wpL_cons (is (.bool true)) (stable_is _) (step_pickT (go0 rfl) (.tmp 83) (.tmp 87) (.const (.bool false)) rfl (opT' 83 5 rfl rfl) (opT' 87 9 rfl rfl)) ?_
        refine wpL_cons (is (.bool true)) (stable_is _) (step_move (go0 rfl) (.tmp 88) rfl (opT' 88 10 rfl rfl)) ?_
        refine wpL_cons (is (.bool true)) (stable_is _) (step_move (go1 11 true 89 rfl rfl rfl rfl) (.tmp 19) rfl (opO' 19 (.bool true) rfl rfl)) ?_
        refine wpL_cons (is (.bool true)) (stable_is _) (step_move (go1 11 true 89 rfl rfl rfl rfl) (.tmp 90) rfl (opT' 90 12 rfl rfl)) ?_
        refine wpL_cons (is (undef)) (stable_is _) (step_off 13 false 91 rfl rfl rfl rfl) ?_
        refine wpL_cons (is (undef)) (stable_is _) (step_off 13 false 91 rfl rfl rfl rfl) ?_
        refine wpL_cons (is (.bool true)) (stable_is _) (step_pickT (go1 11 true 89 rfl rfl rfl rfl) (.tmp 91) (.const (.bool true)) (.tmp 93) rfl (opT' 91 13 rfl rfl) (opC _)) ?_
        refine wpL_cons (is (.bool true)) (stable_is _) (step_pickT (go0 rfl) (.tmp 89) (.tmp 94) (.const (.bool false)) rfl (opT' 89 11 rfl rfl) (opT' 94 16 rfl rfl)) ?_
        refine wpL_cons (is (.bool true)) (stable_is _) (step_move (go0 rfl) (.tmp 95) rfl (opT' 95 17 rfl rfl)) ?_
        refine wpL_cons (is (.agg (blkA (dec l2)))) (stable_is _) (step_loadRow (go1 18 true 96 rfl rfl rfl rfl) 24 (.tmp 20) rfl (b20) 24 (blkA (dec l2)) (0, 0) _ (opO' 20 (.pointer (some ⟨b20, 0, none⟩)) rfl rfl) (fun W h => ((HP8.out.up h).blks (24, b20, dec l2) (by simp))) Try.underlying24 rfl (size24 (dec l2))) ?_
        refine wpL_cons (is (.agg (blkA (dec l2)))) (stable_is _) (step_loadRow (go1 18 true 96 rfl rfl rfl rfl) 37 (.tmp 22) rfl (b22) 37 (blkA (dec l2)) (0, 0) _ (opO' 22 (.pointer (some ⟨b22, 0, none⟩)) rfl rfl) (fun W h => ((HP8.out.up h).blks (37, b22, dec l2) (by simp))) Try.underlying37 rfl (size37 (dec l2))) ?_
        refine wpL_cons (is (.bool true)) (stable_is _) (step_same' (go1 18 true 96 rfl rfl rfl rfl) (.tmp 97) (.tmp 98) _ rfl (dec l2) (opT' 97 19 rfl rfl) (opT' 98 20 rfl rfl)) ?_
        refine wpL_cons (is (.bool true)) (stable_is _) (step_pickT (go0 rfl) (.tmp 96) (.tmp 99) (.const (.bool false)) rfl (opT' 96 18 rfl rfl) (opT' 99 21 rfl rfl)) ?_
        refine wpL_cons (is (.bool true)) (stable_is _) (step_move (go0 rfl) (.tmp 100) rfl (opT' 100 22 rfl rfl)) ?_
        refine wpL_cons (is (.int .i64 3)) (stable_is _) (step_move (go1 23 true 101 rfl rfl rfl rfl) (.tmp 21) rfl (opO' 21 (.int .i64 3) rfl rfl)) ?_
        refine wpL_cons (is (.bool false)) (stable_is _) (step_int (go1 23 true 101 rfl rfl rfl rfl) .eql 32 32 (.tmp 102) (.const (.int .i64 0)) rfl .i64 .i64 _ _ _ (opT' 102 24 rfl rfl) (opC _) (fun W => by kernel_rfl)) ?_
        refine wpL_cons (is (.bool false)) (stable_is _) (step_move (go1 23 true 101 rfl rfl rfl rfl) (.tmp 23) rfl (opO' 23 (.bool false) rfl rfl)) ?_
        refine wpL_cons (is (.bool true)) (stable_is _) (step_eqb (go1 23 true 101 rfl rfl rfl rfl) 4 4 (.tmp 103) (.tmp 104) rfl false false true (opT' 103 25 rfl rfl) (opT' 104 26 rfl rfl) (fun W => by kernel_rfl)) ?_
        refine wpL_cons (is (.bool true)) (stable_is _) (step_pickT (go0 rfl) (.tmp 101) (.tmp 105) (.const (.bool false)) rfl (opT' 101 23 rfl rfl) (opT' 105 27 rfl rfl)) ?_
        refine wpL_cons (is (.bool true)) (stable_is _) (step_move (go0 rfl) (.tmp 106) rfl (opT' 106 28 rfl rfl)) ?_
        refine wpL_cons (is (.bool false)) (stable_is _) (step_move (go1 29 true 107 rfl rfl rfl rfl) (.tmp 23) rfl (opO' 23 (.bool false) rfl rfl)) ?_
        refine wpL_cons (is (.bool false)) (stable_is _) (step_move (go1 29 true 107 rfl rfl rfl rfl) (.tmp 108) rfl (opT' 108 30 rfl rfl)) ?_
        refine wpL_cons (is (.int .i64 3)) (stable_is _) (step_move (go1 31 false 109 rfl rfl rfl rfl) (.tmp 21) rfl (opO' 21 (.int .i64 3) rfl rfl)) ?_
        refine wpL_cons (is (.bool true)) (stable_is _) (step_int (go1 31 false 109 rfl rfl rfl rfl) .eql 32 32 (.tmp 110) (.const (.int .i64 3)) rfl .i64 .i64 _ _ _ (opT' 110 32 rfl rfl) (opC _) (fun W => by kernel_rfl)) ?_
        refine wpL_cons (is (.bool true)) (stable_is _) (step_pickF (go1 29 true 107 rfl rfl rfl rfl) (.tmp 109) (.const (.bool true)) (.tmp 111) rfl (opT' 109 31 rfl rfl) (opT' 111 33 rfl rfl)) ?_
        refine wpL_cons (is (.bool true)) (stable_is _) (step_pickT (go0 rfl) (.tmp 107) (.tmp 112) (.const (.bool false)) rfl (opT' 107 29 rfl rfl) (opT' 112 34 rfl rfl)) ?_
        refine wpL_cons (is (.bool true)) (stable_is _) (step_move (go0 rfl) (.tmp 113) rfl (opT' 113 35 rfl rfl)) ?_
        refine wpL_cons (is (.agg (blkA x))) (stable_is _) (step_loadRow (go1 36 true 114 rfl rfl rfl rfl) 24 (.tmp 6) rfl (w.heap.size) 24 (blkA x) (0, 0) _ (opO' 6 (.pointer (some ⟨w.heap.size, 0, none⟩)) rfl rfl) (fun W h => ((HP8.out.up h).blks (24, w.heap.size, x) (by simp))) Try.underlying24 rfl (size24 x)) ?_
        refine wpL_cons (is (.agg (blkA y))) (stable_is _) (step_loadRow (go1 36 true 114 rfl rfl rfl rfl) 24 (.tmp 7) rfl (w.heap.size + 1) 24 (blkA y) (0, 0) _ (opO' 7 (.pointer (some ⟨w.heap.size + 1, 0, none⟩)) rfl rfl) (fun W h => ((HP8.out.up h).blks (24, w.heap.size + 1, y) (by simp))) Try.underlying24 rfl (size24 y)) ?_
        refine wpL_cons (is (.bool p)) (stable_is _) (step_move (go1 36 true 114 rfl rfl rfl rfl) (.tmp 3) rfl (opO' 3 (.bool p) rfl rfl)) ?_
        refine wpL_cons (is (.bool q)) (stable_is _) (step_move (go1 36 true 114 rfl rfl rfl rfl) (.tmp 4) rfl (opO' 4 (.bool q) rfl rfl)) ?_
        refine wpL_cons (is (.int .i64 (newer x y p q))) (stable_is _) (step_newer (go1 36 true 114 rfl rfl rfl rfl) (.tmp 115) (.tmp 116) (.tmp 117) (.tmp 118) _ rfl x y p q (newer x y p q) rfl (opT' 115 37 rfl rfl) (opT' 116 38 rfl rfl) (opT' 117 39 rfl rfl) (opT' 118 40 rfl rfl)) ?_
        refine wpL_cons (is (.agg (blkA x))) (stable_is _) (step_loadRow (go1 36 true 114 rfl rfl rfl rfl) 24 (.tmp 6) rfl (w.heap.size) 24 (blkA x) (0, 0) _ (opO' 6 (.pointer (some ⟨w.heap.size, 0, none⟩)) rfl rfl) (fun W h => ((HP8.out.up h).blks (24, w.heap.size, x) (by simp))) Try.underlying24 rfl (size24 x)) ?_
        refine wpL_cons (is (.agg (blkA x))) (stable_is _) (step_flat (go1 36 true 114 rfl rfl rfl rfl) (.tmp 120) _ rfl x (opT' 120 42 rfl rfl)) ?_
        refine wpL_cons (is (.agg (blkA y))) (stable_is _) (step_loadRow (go1 36 true 114 rfl rfl rfl rfl) 24 (.tmp 7) rfl (w.heap.size + 1) 24 (blkA y) (0, 0) _ (opO' 7 (.pointer (some ⟨w.heap.size + 1, 0, none⟩)) rfl rfl) (fun W h => ((HP8.out.up h).blks (24, w.heap.size + 1, y) (by simp))) Try.underlying24 rfl (size24 y)) ?_
        refine wpL_cons (is (.agg (blkA y))) (stable_is _) (step_flat (go1 36 true 114 rfl rfl rfl rfl) (.tmp 122) _ rfl y (opT' 122 44 rfl rfl)) ?_
        refine wpL_cons (is (.bool p)) (stable_is _) (step_move (go1 36 true 114 rfl rfl rfl rfl) (.tmp 3) rfl (opO' 3 (.bool p) rfl rfl)) ?_
        refine wpL_cons (is (.bool q)) (stable_is _) (step_move (go1 36 true 114 rfl rfl rfl rfl) (.tmp 4) rfl (opO' 4 (.bool q) rfl rfl)) ?_
        refine wpL_cons (is (.int .i64 (newer x y p q))) (stable_is _) (step_newerR (go1 36 true 114 rfl rfl rfl rfl) (.tmp 121) (.tmp 123) (.tmp 124) (.tmp 125) _ rfl x y p q (newer x y p q) rfl (opT' 121 43 rfl rfl) (opT' 123 45 rfl rfl) (opT' 124 46 rfl rfl) (opT' 125 47 rfl rfl)) ?_
        refine wpL_cons (is (.bool true)) (stable_is _) (step_eq (go1 36 true 114 rfl rfl rfl rfl) 3 3 (.tmp 119) (.tmp 126) rfl .i64 _ _ true (opT' 119 41 rfl rfl) (opT' 126 48 rfl rfl) (beq_self_eq_true _)) ?_
        refine wpL_cons (is (.bool true)) (stable_is _) (step_pickT (go0 rfl) (.tmp 114) (.tmp 127) (.const (.bool false)) rfl (opT' 114 36 rfl rfl) (opT' 127 49 rfl rfl)) ?_
        refine wpL_cons (is (.bool true)) (stable_is _) (step_move (go0 rfl) (.tmp 128) rfl (opT' 128 50 rfl rfl)) ?_
        refine wpL_cons (is (.bool true)) (stable_is _) (step_awake (go1 51 true 129 rfl rfl rfl rfl) rfl) ?_
        refine wpL_cons (is (.bool true)) (stable_is _) (step_pickT (go0 rfl) (.tmp 129) (.tmp 130) (.const (.bool false)) rfl (opT' 129 51 rfl rfl) (opT' 130 52 rfl rfl)) ?_
        refine wpL_cons (is (.bool true)) (stable_is _) (step_assign (go0 rfl) (.tmp 131) rfl (opT' 131 53 rfl rfl)) ?_
        refine wpL_nil ?_
        intro v w10 hI _ hdone _
        have e0 : v 54 = .bool true := hdone 54 12 rfl
        have hI : Below w9.heap.size w9 w10 := hI
        have HZ := Lib.hid (below_trans HP8.out.below hI)
        clear hdone hI
        simp only [putAll, Act.put, List.setIfInBounds_toArray, List.set_cons_zero, List.set_cons_succ, Nat.zero_add, Nat.reduceAdd, e0]
        go_wp2_with fail
        go_ret
        exact ⟨rfl, HZ.out⟩
      · rw [show encE x = 0 from encE_val x _ hok, show decE l2 = 0 from decE_val l2 _ hdk]
        clear hok hdk
        refine wp_region_link 132 mixed (by kernel_rfl) (by rfl) (UpC w9) (UpC.start w9) ?_
        refine wpL_cons (is (va)) (stable_is _) (step_move (go0 rfl) (.tmp 16) rfl (opO' 16 (va) rfl rfl)) ?_
        refine wpL_cons (is (.string (str (encL x)))) (stable_is _) (step_str (go0 rfl) (.tmp 78) rfl (encL x) (OpIs.imp (opT' 78 0 rfl rfl) (fun v W h e => by rw [show v = (va) from e]; exact ((HP8.out.up h).vals (encL x, va) (by simp))))) ?_
        refine wpL_cons (is (vc)) (stable_is _) (step_move (go0 rfl) (.tmp 18) rfl (opO' 18 (vc) rfl rfl)) ?_
        refine wpL_cons (is (.string (str (encL x)))) (stable_is _) (step_str (go0 rfl) (.tmp 80) rfl (encL x) (OpIs.imp (opT' 80 2 rfl rfl) (fun v W h e => by rw [show v = (vc) from e]; exact ((HP8.out.up h).vals (encL x, vc) (by simp))))) ?_
        refine wpL_cons (is (.bool true)) (stable_is _) (step_eqs (go0 rfl) (.tmp 79) (.tmp 81) rfl (encL x) (opT' 79 1 rfl rfl) (opT' 81 3 rfl rfl)) ?_
        refine wpL_cons (is (.bool true)) (stable_is _) (step_move (go0 rfl) (.tmp 82) rfl (opT' 82 4 rfl rfl)) ?_
        refine wpL_cons (is (.int .i64 0)) (stable_is _) (step_move (go1 5 true 83 rfl rfl rfl rfl) (.tmp 17) rfl (opO' 17 (.int .i64 0) rfl rfl)) ?_
        refine wpL_cons (is (.bool true)) (stable_is _) (step_int (go1 5 true 83 rfl rfl rfl rfl) .eql 32 32 (.tmp 84) (.const (.int .i64 0)) rfl .i64 .i64 _ _ _ (opT' 84 6 rfl rfl) (opC _) (fun W => by kernel_rfl)) ?_
        refine wpL_cons (is (.bool true)) (stable_is _) (step_move (go1 5 true 83 rfl rfl rfl rfl) (.tmp 19) rfl (opO' 19 (.bool true) rfl rfl)) ?_
        refine wpL_cons (is (.bool true)) (stable_is _) (step_eqb (go1 5 true 83 rfl rfl rfl rfl) 4 4 (.tmp 85) (.tmp 86) rfl true true true (opT' 85 7 rfl rfl) (opT' 86 8 rfl rfl) (fun W => by kernel_rfl)) ?_
        refine wpL_cons (is (.bool true)) (stable_is _) (step_pickT (go0 rfl) (.tmp 83) (.tmp 87) (.const (.bool false)) rfl (opT' 83 5 rfl rfl) (opT' 87 9 rfl rfl)) ?_
        refine wpL_cons (is (.bool true)) (stable_is _) (step_move (go0 rfl) (.tmp 88) rfl (opT' 88 10 rfl rfl)) ?_
        refine wpL_cons (is (.bool true)) (stable_is _) (step_move (go1 11 true 89 rfl rfl rfl rfl) (.tmp 19) rfl (opO' 19 (.bool true) rfl rfl)) ?_
        refine wpL_cons (is (.bool true)) (stable_is _) (step_move (go1 11 true 89 rfl rfl rfl rfl) (.tmp 90) rfl (opT' 90 12 rfl rfl)) ?_
        refine wpL_cons (is (undef)) (stable_is _) (step_off 13 false 91 rfl rfl rfl rfl) ?_
        refine wpL_cons (is (undef)) (stable_is _) (step_off 13 false 91 rfl rfl rfl rfl) ?_
        refine wpL_cons (is (.bool true)) (stable_is _) (step_pickT (go1 11 true 89 rfl rfl rfl rfl) (.tmp 91) (.const (.bool true)) (.tmp 93) rfl (opT' 91 13 rfl rfl) (opC _)) ?_
        refine wpL_cons (is (.bool true)) (stable_is _) (step_pickT (go0 rfl) (.tmp 89) (.tmp 94) (.const (.bool false)) rfl (opT' 89 11 rfl rfl) (opT' 94 16 rfl rfl)) ?_
        refine wpL_cons (is (.bool true)) (stable_is _) (step_move (go0 rfl) (.tmp 95) rfl (opT' 95 17 rfl rfl)) ?_
        refine wpL_cons (is (.agg (blkA (dec l2)))) (stable_is _) (step_loadRow (go1 18 true 96 rfl rfl rfl rfl) 24 (.tmp 20) rfl (b20) 24 (blkA (dec l2)) (0, 0) _ (opO' 20 (.pointer (some ⟨b20, 0, none⟩)) rfl rfl) (fun W h => ((HP8.out.up h).blks (24, b20, dec l2) (by simp))) Try.underlying24 rfl (size24 (dec l2))) ?_
        refine wpL_cons (is (.agg (blkA (dec l2)))) (stable_is _) (step_loadRow (go1 18 true 96 rfl rfl rfl rfl) 37 (.tmp 22) rfl (b22) 37 (blkA (dec l2)) (0, 0) _ (opO' 22 (.pointer (some ⟨b22, 0, none⟩)) rfl rfl) (fun W h => ((HP8.out.up h).blks (37, b22, dec l2) (by simp))) Try.underlying37 rfl (size37 (dec l2))) ?_
        refine wpL_cons (is (.bool true)) (stable_is _) (step_same' (go1 18 true 96 rfl rfl rfl rfl) (.tmp 97) (.tmp 98) _ rfl (dec l2) (opT' 97 19 rfl rfl) (opT' 98 20 rfl rfl)) ?_
        refine wpL_cons (is (.bool true)) (stable_is _) (step_pickT (go0 rfl) (.tmp 96) (.tmp 99) (.const (.bool false)) rfl (opT' 96 18 rfl rfl) (opT' 99 21 rfl rfl)) ?_
        refine wpL_cons (is (.bool true)) (stable_is _) (step_move (go0 rfl) (.tmp 100) rfl (opT' 100 22 rfl rfl)) ?_
        refine wpL_cons (is (.int .i64 0)) (stable_is _) (step_move (go1 23 true 101 rfl rfl rfl rfl) (.tmp 21) rfl (opO' 21 (.int .i64 0) rfl rfl)) ?_
        refine wpL_cons (is (.bool true)) (stable_is _) (step_int (go1 23 true 101 rfl rfl rfl rfl) .eql 32 32 (.tmp 102) (.const (.int .i64 0)) rfl .i64 .i64 _ _ _ (opT' 102 24 rfl rfl) (opC _) (fun W => by kernel_rfl)) ?_
        refine wpL_cons (is (.bool true)) (stable_is _) (step_move (go1 23 true 101 rfl rfl rfl rfl) (.tmp 23) rfl (opO' 23 (.bool true) rfl rfl)) ?_
        refine wpL_cons (is (.bool true)) (stable_is _) (step_eqb (go1 23 true 101 rfl rfl rfl rfl) 4 4 (.tmp 103) (.tmp 104) rfl true true true (opT' 103 25 rfl rfl) (opT' 104 26 rfl rfl) (fun W => by kernel_rfl)) ?_
        refine wpL_cons (is (.bool true)) (stable_is _) (step_pickT (go0 rfl) (.tmp 101) (.tmp 105) (.const (.bool false)) rfl (opT' 101 23 rfl rfl) (opT' 105 27 rfl rfl)) ?_
        refine wpL_cons (is (.bool true)) (stable_is _) (step_move (go0 rfl) (.tmp 106) rfl (opT' 106 28 rfl rfl)) ?_
        refine wpL_cons (is (.bool true)) (stable_is _) (step_move (go1 29 true 107 rfl rfl rfl rfl) (.tmp 23) rfl (opO' 23 (.bool true) rfl rfl)) ?_
        refine wpL_cons (is (.bool true)) (stable_is _) (step_move (go1 29 true 107 rfl rfl rfl rfl) (.tmp 108) rfl (opT' 108 30 rfl rfl)) ?_
        refine wpL_cons (is (undef)) (stable_is _) (step_off 31 false 109 rfl rfl rfl rfl) ?_
        refine wpL_cons (is (undef)) (stable_is _) (step_off 31 false 109 rfl rfl rfl rfl) ?_
        refine wpL_cons (is (.bool true)) (stable_is _) (step_pickT (go1 29 true 107 rfl rfl rfl rfl) (.tmp 109) (.const (.bool true)) (.tmp 111) rfl (opT' 109 31 rfl rfl) (opC _)) ?_
        refine wpL_cons (is (.bool true)) (stable_is _) (step_pickT (go0 rfl) (.tmp 107) (.tmp 112) (.const (.bool false)) rfl (opT' 107 29 rfl rfl) (opT' 112 34 rfl rfl)) ?_
        refine wpL_cons (is (.bool true)) (stable_is _) (step_move (go0 rfl) (.tmp 113) rfl (opT' 113 35 rfl rfl)) ?_
        refine wpL_cons (is (.agg (blkA x))) (stable_is _) (step_loadRow (go1 36 true 114 rfl rfl rfl rfl) 24 (.tmp 6) rfl (w.heap.size) 24 (blkA x) (0, 0) _ (opO' 6 (.pointer (some ⟨w.heap.size, 0, none⟩)) rfl rfl) (fun W h => ((HP8.out.up h).blks (24, w.heap.size, x) (by simp))) Try.underlying24 rfl (size24 x)) ?_
        refine wpL_cons (is (.agg (blkA y))) (stable_is _) (step_loadRow (go1 36 true 114 rfl rfl rfl rfl) 24 (.tmp 7) rfl (w.heap.size + 1) 24 (blkA y) (0, 0) _ (opO' 7 (.pointer (some ⟨w.heap.size + 1, 0, none⟩)) rfl rfl) (fun W h => ((HP8.out.up h).blks (24, w.heap.size + 1, y) (by simp))) Try.underlying24 rfl (size24 y)) ?_
        refine wpL_cons (is (.bool p)) (stable_is _) (step_move (go1 36 true 114 rfl rfl rfl rfl) (.tmp 3) rfl (opO' 3 (.bool p) rfl rfl)) ?_
        refine wpL_cons (is (.bool q)) (stable_is _) (step_move (go1 36 true 114 rfl rfl rfl rfl) (.tmp 4) rfl (opO' 4 (.bool q) rfl rfl)) ?_
        refine wpL_cons (is (.int .i64 (newer x y p q))) (stable_is _) (step_newer (go1 36 true 114 rfl rfl rfl rfl) (.tmp 115) (.tmp 116) (.tmp 117) (.tmp 118) _ rfl x y p q (newer x y p q) rfl (opT' 115 37 rfl rfl) (opT' 116 38 rfl rfl) (opT' 117 39 rfl rfl) (opT' 118 40 rfl rfl)) ?_
        refine wpL_cons (is (.agg (blkA x))) (stable_is _) (step_loadRow (go1 36 true 114 rfl rfl rfl rfl) 24 (.tmp 6) rfl (w.heap.size) 24 (blkA x) (0, 0) _ (opO' 6 (.pointer (some ⟨w.heap.size, 0, none⟩)) rfl rfl) (fun W h => ((HP8.out.up h).blks (24, w.heap.size, x) (by simp))) Try.underlying24 rfl (size24 x)) ?_
        refine wpL_cons (is (.agg (blkA x))) (stable_is _) (step_flat (go1 36 true 114 rfl rfl rfl rfl) (.tmp 120) _ rfl x (opT' 120 42 rfl rfl)) ?_
        refine wpL_cons (is (.agg (blkA y))) (stable_is _) (step_loadRow (go1 36 true 114 rfl rfl rfl rfl) 24 (.tmp 7) rfl (w.heap.size + 1) 24 (blkA y) (0, 0) _ (opO' 7 (.pointer (some ⟨w.heap.size + 1, 0, none⟩)) rfl rfl) (fun W h => ((HP8.out.up h).blks (24, w.heap.size + 1, y) (by simp))) Try.underlying24 rfl (size24 y)) ?_
        refine wpL_cons (is (.agg (blkA y))) (stable_is _) (step_flat (go1 36 true 114 rfl rfl rfl rfl) (.tmp 122) _ rfl y (opT' 122 44 rfl rfl)) ?_
        refine wpL_cons (is (.bool p)) (stable_is _) (step_move (go1 36 true 114 rfl rfl rfl rfl) (.tmp 3) rfl (opO' 3 (.bool p) rfl rfl)) ?_
        refine wpL_cons (is (.bool q)) (stable_is _) (step_move (go1 36 true 114 rfl rfl rfl rfl) (.tmp 4) rfl (opO' 4 (.bool q) rfl rfl)) ?_
        refine wpL_cons (is (.int .i64 (newer x y p q))) (stable_is _) (step_newerR (go1 36 true 114 rfl rfl rfl rfl) (.tmp 121) (.tmp 123) (.tmp 124) (.tmp 125) _ rfl x y p q (newer x y p q) rfl (opT' 121 43 rfl rfl) (opT' 123 45 rfl rfl) (opT' 124 46 rfl rfl) (opT' 125 47 rfl rfl)) ?_
        refine wpL_cons (is (.bool true)) (stable_is _) (step_eq (go1 36 true 114 rfl rfl rfl rfl) 3 3 (.tmp 119) (.tmp 126) rfl .i64 _ _ true (opT' 119 41 rfl rfl) (opT' 126 48 rfl rfl) (beq_self_eq_true _)) ?_
        refine wpL_cons (is (.bool true)) (stable_is _) (step_pickT (go0 rfl) (.tmp 114) (.tmp 127) (.const (.bool false)) rfl (opT' 114 36 rfl rfl) (opT' 127 49 rfl rfl)) ?_
        refine wpL_cons (is (.bool true)) (stable_is _) (step_move (go0 rfl) (.tmp 128) rfl (opT' 128 50 rfl rfl)) ?_
        refine wpL_cons (is (.bool true)) (stable_is _) (step_awake (go1 51 true 129 rfl rfl rfl rfl) rfl) ?_
        refine wpL_cons (is (.bool true)) (stable_is _) (step_pickT (go0 rfl) (.tmp 129) (.tmp 130) (.const (.bool false)) rfl (opT' 129 51 rfl rfl) (opT' 130 52 rfl rfl)) ?_
        refine wpL_cons (is (.bool true)) (stable_is _) (step_assign (go0 rfl) (.tmp 131) rfl (opT' 131 53 rfl rfl)) ?_
        refine wpL_nil ?_
        intro v w10 hI _ hdone _
        have e0 : v 54 = .bool true := hdone 54 12 rfl
        have hI : Below w9.heap.size w9 w10 := hI
        have HZ := Lib.hid (below_trans HP8.out.below hI)
        clear hdone hI
        simp only [putAll, Act.put, List.setIfInBounds_toArray, List.set_cons_zero, List.set_cons_succ, Nat.zero_add, Nat.reduceAdd, e0]
        go_wp2_with fail
        go_ret
        exact ⟨rfl, HZ.out⟩
theorem tells_w (x : Blk) (hs : x.sum < 4294967296) (y : Blk) (hy : y.sum < 4294967296) (l : List Nat) (vb : Value) {w0 : World} (hv : isBytes l vb w0) (p q fix : Bool) (w : World) (hw : w0 = w := by rfl) : Calls Try.prog 3 #[.agg (blkA x), .agg (blkA y), vb, .bool p, .bool q, .bool fix] w fun e w' => e = .returned (.bool true) ∧ Below w.heap.size w w' := by
  subst hw
  exact tells_law x hs y hy l vb w0 hv p q fix

namespace superTells
open Go.ChangeShapes Go.WideShapes Go.ChangeAt Go.RowKit
set_option linter.unusedVariables false

theorem own : ownKnob Try.prog.godebug = none := by kernel_rfl
theorem laidOut : laidOutB Try.prog = true := by kernel_rfl
/-! ### THE ROW's STEP -/
set_option maxRecDepth 100000 in
theorem lifted (os : Os) (started : os.Started) (H : Type) (enc : TypeId × Value → H) :
    ReturnsInHanded {} Try.checked os 3 .any (Rows.superTellsSpec.pre6 enc Try.prog Try.f3 Rows.superTellsRow.domain false) (Rows.superTellsSpec.post enc Try.prog Try.f3 false true false false) := by
  refine returnsInHanded_of_change (C := Try.checked) own started (by kernel_rfl) Try.func3
    (ChangeSpec.witness6 (enc := enc) (C := Try.checked) false ⟨#[], #[.agg #[.int .i64 0, .int .i64 0, .bool false, .int .i64 0, .int .i64 0, .int .u32 0], .agg #[.int .i64 0, .int .i64 0, .bool false, .int .i64 0, .int .i64 0, .int .u32 0], .slice none 0 0, .bool false, .bool false, .bool false], []⟩ 8 (by kernel_rfl) (by kernel_rfl) (by kernel_rfl) (by kernel_rfl)) ?_
  intro W base args ds gs before hval0 hW hcnd _
  have hval : ∀ (j : Nat) t v, Try.f3.params[j]? = some t → args[j]? = some v → Value.okWide Try.prog W .any base t v := hval0
  have hW' := hW
  obtain ⟨p, q, hA0, hV, rfl, hfz, hnd⟩ := hW
  have hA : DataW.TrodAll enc Try.prog W 0 (fun _ => true) true Try.f3.params.toList args.toList ds p := hA0
  rw [Try.params3] at hA hval
  obtain ⟨v0, vs0, d0, ds0, p0, q0, hargs, rfl, rfl, h0, r0⟩ := trodAll_cons hA
  obtain ⟨v1, vs1, d1, ds1, p1, q1, rfl, rfl, rfl, h1, r1⟩ := trodAll_cons r0
  obtain ⟨v2, vs2, d2, ds2, p2, q2, rfl, rfl, rfl, h2, r2⟩ := trodAll_cons r1
  obtain ⟨v3, vs3, d3, ds3, p3, q3, rfl, rfl, rfl, h3, r3⟩ := trodAll_cons r2
  obtain ⟨v4, vs4, d4, ds4, p4, q4, rfl, rfl, rfl, h4, r4⟩ := trodAll_cons r3
  obtain ⟨v5, vs5, d5, ds5, p5, q5, rfl, rfl, rfl, h5, r5⟩ := trodAll_cons r4
  obtain ⟨rfl, rfl, rfl⟩ := trodAll_nil r5
  obtain rfl : args = #[v0, v1, v2, v3, v4, v5] := by cases args; simp_all
  obtain ⟨rfl, rfl⟩ := trodVars_none hV
  obtain ⟨x0, rfl, s0⟩ := arg_blk (hval 0 24 v0 rfl rfl) h0
  have lt0 : ∀ x ∈ p0, x.block < W.heap.size := by obtain ⟨m, hm⟩ := h0; exact DataW.trod_lt m _ _ _ hm
  obtain ⟨x1, rfl, s1⟩ := arg_blk (hval 1 24 v1 rfl rfl) h1
  have lt1 : ∀ x ∈ p1, x.block < W.heap.size := by obtain ⟨m, hm⟩ := h1; exact DataW.trod_lt m _ _ _ hm
  obtain ⟨a2, len2, cap2, rfl⟩ := okWide_slice Try.underlying25 (hval 2 25 v2 rfl rfl)
  have k2 := h2
  obtain ⟨l2, w2⟩ : ∃ l, isBytes l (.slice a2 len2 cap2) W := by
    obtain ⟨fuel, hf⟩ := h2
    have hrow : ∃ zs, IsRow .u8 W a2 len2 cap2 zs := by
      rcases open_ints Try.underlying25 Try.underlying5 (by kernel_rfl) hf with ⟨hcs, _⟩ | ⟨x, l, c, zs, hcs, _, hl, hm, hz, _, hcell, hwz⟩
      · simp [Value.cells] at hcs
        obtain ⟨rfl, rfl, rfl⟩ := hcs
        exact ⟨[], .inl ⟨rfl, rfl, rfl, rfl⟩⟩
      · simp [Value.cells] at hcs
        obtain ⟨rfl, rfl, rfl⟩ := hcs
        exact ⟨zs, .inr ⟨_, rfl, hl, hm, by simpa using hz, hcell, hwz⟩⟩
    obtain ⟨zs, hzs⟩ := hrow
    obtain ⟨l, hl, hc, hb⟩ := bytes_of_row hzs
    subst hl
    exact ⟨l, _, _, rfl, hc, hb⟩
  have lt2 : ∀ x ∈ p2, x.block < W.heap.size := by obtain ⟨m, hm⟩ := k2; exact DataW.trod_lt m _ _ _ hm
  obtain ⟨a3, rfl, rfl, rfl⟩ := open_bool Try.underlying4 (hval 3 4 v3 rfl rfl) h3
  obtain ⟨a4, rfl, rfl, rfl⟩ := open_bool Try.underlying4 (hval 4 4 v4 rfl rfl) h4
  obtain ⟨a5, rfl, rfl, rfl⟩ := open_bool Try.underlying4 (hval 5 4 v5 rfl rfl) h5
  clear hA0 hval0
  refine (tells_w x0 s0 x1 s1 l2 _ w2 a3 a4 a5 W).mono fun e W' ⟨he, bel⟩ => ?_
  subst he
  exact ⟨_, rfl, _, _, _, [], _, [], hW', trodAll_mk1 (shut_bool Try.underlying4 _), (trodAll_cons_mk (Below.trod laidOut (by kernel_rfl) (of_decide_eq_true (by kernel_rfl)) h0 bel lt0) (trodAll_cons_mk (Below.trod laidOut (by kernel_rfl) (of_decide_eq_true (by kernel_rfl)) h1 bel lt1) (trodAll_cons_mk (Below.trod laidOut (by kernel_rfl) (of_decide_eq_true (by kernel_rfl)) k2 bel lt2) (trodAll_cons_mk (shut_bool Try.underlying4 _) (trodAll_cons_mk (shut_bool Try.underlying4 _) (trodAll_cons_mk (shut_bool Try.underlying4 _) trodAll_mk0)))))), rfl, bel.frame _, fun h => by cases h⟩

theorem over : Rows.superTellsRow.holds Try.pinned (OpenSpec.ofChange Rows.superTellsSpec) :=
  OpenClaim.holds_of_wide 3 Try.f3 rfl rfl rfl rfl rfl rfl rfl ⟨rfl, rfl, rfl, rfl, rfl⟩ rfl rfl rfl rfl rfl (by kernel_rfl) Try.func3 (by kernel_rfl)
    (of_decide_eq_true (by kernel_rfl)) (by unfold Func.isWrapper; first | (rw [if_pos (by decide +kernel)]; kernel_rfl) | (rw [if_neg (by decide +kernel)]; exact ⟨rfl, rfl⟩))
    (fun os started H enc _ => lifted os started H enc)

/-- THE STATEMENT -/
theorem proved : Rows.SuperTellsSaid := over
end superTells
end Go.Proofs.Ytccdciokokcomaa
