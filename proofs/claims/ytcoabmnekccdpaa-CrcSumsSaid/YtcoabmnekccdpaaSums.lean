/- 'CrcSums' returns true for every input: of two rows as long as each other the sum of their exclusive or is that of both sums, and that of as many noughts. -/
import Derived.Test.YtcoabmnekccdpaaSumsA
import Derived.Test.YtcoabmnekccdpaaRow
import Derived.ProofKit
import Derived.OpenShut
import Derived.ShutString
import Derived.ChangeOld
namespace Go.Proofs.Ytcoabmnekccdpaa.crcSums
open Go.ChangeShapes Go.WideShapes Go.ChangeAt Go.RowKit
open Go.ChangeMaps (open_string shut_string)
set_option linter.unusedVariables false

theorem own : ownKnob Try.prog.godebug = none := by kernel_rfl
theorem laidOut : laidOutB Try.prog = true := by kernel_rfl

/-- the row's places behind k rounds -/
def mixTo (a b : List Nat) (k i : Nat) : Nat := if i < k then a.getD i 0 ^^^ b.getD i 0 else 0

set_option maxRecDepth 100000 in
theorem walk (a0 : Option Addr) (len0 cap0 : Nat) (z0 : List Int) (a1 : Option Addr) (len1 cap1 : Nat) (z1 : List Int) (w : World) (w0 : IsRow .u8 w a0 len0 cap0 z0) (w1 : IsRow .u8 w a1 len1 cap1 z1) :
    Calls Try.prog 6 #[.slice a0 len0 cap0, .slice a1 len1 cap1] w fun e w' => e = .returned (.bool true) ∧ Below w.heap.size w w' := by
  obtain ⟨l, hl, hcap, hb⟩ := bytes_of_row w0
  obtain ⟨m, hm, hcapm, hbm⟩ := bytes_of_row w1
  clear w0 w1
  by_cases hbig : 1000 < len0
  · have haw := awake_walk w
    have HAW := Lib.hid haw; clear haw hb hbm hl hm
    go_enter Try.func6, Try.ntmps6
    go_wp2_with fail
    refine HAW.out.mono ?_
    rintro e w' ⟨rfl, hbw⟩
    go_wp2_with fail
    go_ret
    exact ⟨rfl, hbw⟩
  by_cases hbig1 : 1000 < len1
  · have haw := awake_walk w
    have HAW := Lib.hid haw; clear haw hb hbm hl hm
    go_enter Try.func6, Try.ntmps6
    go_wp2_with fail
    refine HAW.out.mono ?_
    rintro e w' ⟨rfl, hbw⟩
    go_wp2_with fail
    go_ret
    exact ⟨rfl, hbw⟩
  have hnl : ∃ n, (n = len0 ∧ len0 ≤ len1) ∨ (n = len1 ∧ len1 < len0) := by
    rcases Nat.lt_or_ge len1 len0 with h | h
    · exact ⟨len1, .inr ⟨rfl, h⟩⟩
    · exact ⟨len0, .inl ⟨rfl, h⟩⟩
  obtain ⟨n, hn⟩ := hnl
  have hnl0 : n ≤ l.length := by omega
  have hnm0 : n ≤ m.length := by omega
  have HNL := Lib.hid hnl0
  have HNM := Lib.hid hnm0
  clear hnl0 hnm0
  rcases hn with ⟨rfl, hle⟩ | ⟨rfl, hle⟩
  · have hmk := make22 n (by omega)
    have HL := Lib.hid hl; have HM := Lib.hid hm; clear hl hm
    go_enter Try.func6, Try.ntmps6
    go_wp2_with fail
    have hB0 := belowAlloc w (.cells (byteCells (List.replicate n 0)) 5)
    have hC0 := heap_alloc_new w (.cells (byteCells (List.replicate n 0)) 5)
    have hlt0 : w.heap.size < (w.alloc (.cells (byteCells (List.replicate n 0)) 5)).heap.size := by simp
    rw [replicate_fn n] at hB0 hC0 hlt0 ⊢
    rw [fnList_congr n (fun _ => 0) (mixTo l m 0) (fun i _ => by unfold mixTo; rw [if_neg (by omega)])] at hB0 hC0 hlt0 ⊢
    generalize w.alloc (.cells (byteCells (fnList n (mixTo l m 0))) 5) = W0 at *
    have hC : ∃ C, C = w.heap.size := ⟨_, rfl⟩
    obtain ⟨C, hC⟩ := hC
    rw [← hC] at hC0 hlt0 ⊢
    have HC := Lib.hid hC
    clear hC hmk
    go_loopw [7] (fun i wr => ∃ k : Nat, k ≤ n ∧ i = .int .i64 k ∧ Below w.heap.size w wr ∧ C < wr.heap.size ∧ wr.heap[C]? = some (.cells (byteCells (fnList n (mixTo l m k))) 5 (0, 0))) (fun i _ => n - (intOf i).toNat)
    case atStart => exact ⟨0, by omega, rfl, hB0, hlt0, hC0⟩
    case round =>
      obtain ⟨k, hk, rfl, hB, hlt, hrow⟩ := hrel
      clear hB0 hC0 hlt0
      by_cases hkn : k < n
      · have hkl : k < l.length := by have := HNL.out; omega
        have hkm : k < m.length := by have := HNM.out; omega
        obtain ⟨b, off, rfl, hbB, hc⟩ := hb.cell k hkl
        obtain ⟨b', off', rfl, hbB', hc'⟩ := hbm.cell k hkm
        rw [← hB.cell (p := ⟨b, off + k, none⟩) hbB] at hc
        rw [← hB.cell (p := ⟨b', off' + k, none⟩) hbB'] at hc'
        have hx := hb.lt k hkl
        have hy := hbm.lt k hkm
        have hbx := byte_xor _ _ hx hy
        have hcc := cell_of_row wr C k _ _ _ hrow
        rw [fnCells_get n (mixTo l m k) k hkn] at hcc
        have hfz := frozen_of_row wr C k _ _ hrow
        have hset := fnCells_set n (mixTo l m k) (mixTo l m (k + 1)) k (l.getD k 0 ^^^ m.getD k 0) (by unfold mixTo; rw [if_pos (by omega)]) (fun i hi => by
          unfold mixTo
          by_cases h : i < k
          · rw [if_pos h, if_pos (by omega)]
          · rw [if_neg h, if_neg (by omega)])
        have hnx : (wr.setCell ⟨C, k, none⟩ (.int .u8 ((l.getD k 0 ^^^ m.getD k 0 : Nat) : Int))).drew.heap[C]? = some (.cells (byteCells (fnList n (mixTo l m (k + 1)))) 5 (0, 0)) := by
          have := heap_setCell_same wr C k _ 5 (.int .u8 ((l.getD k 0 ^^^ m.getD k 0 : Nat) : Int)) hrow
          rw [hset] at this
          exact this
        have hbn : Below w.heap.size w (wr.setCell ⟨C, k, none⟩ (.int .u8 ((l.getD k 0 ^^^ m.getD k 0 : Nat) : Int))).drew := (hB.setCell (by have := HC.out; simp; omega) _).drew
        have hltn : C < (wr.setCell ⟨C, k, none⟩ (.int .u8 ((l.getD k 0 ^^^ m.getD k 0 : Nat) : Int))).drew.heap.size := by
          simp [World.setCell]; exact hlt
        have HNX := Lib.hid hnx; have HBN := Lib.hid hbn; have HLT := Lib.hid hltn
        clear hnx hbn hltn hset hrow hB hlt
        generalize l.getD k 0 = x at *
        generalize m.getD k 0 = y at *
        generalize mixTo l m k k = old at *
        have hC' : 0 ≤ C := Nat.zero_le _
        clear hb hbm hbB hbB'
        go_wp2_with fail
        go_region
        go_wp2_with fail
        go_roundw
        case rel => exact ⟨k + 1, by omega, by go_num, HBN.out, HLT.out, HNX.out⟩
        case measure => simp [intOf]; omega
      · have e : k = n := by omega
        subst e
        have hlist : fnList k (mixTo l m k) = xorL (l.take k) (m.take k) := by
          rw [← xorL_fn l m k HNL.out HNM.out]
          exact fnList_congr k _ _ fun i hi => by unfold mixTo; rw [if_pos hi]
        rw [hlist] at hrow
        have hbytes : isBytes (xorL (l.take k) (m.take k)) (.slice (some ⟨C, 0, none⟩) k k) wr := by
          have hlen : (xorL (l.take k) (m.take k)).length = k := by
            rw [xorL_length _ _ (by have := HNL.out; have := HNM.out; simp; omega)]; have := HNL.out; simp; omega
          refine ⟨some ⟨C, 0, none⟩, k, by rw [hlen], by rw [hlen]; exact Nat.le_refl _, ?_, fun i hi => ⟨C, 0, rfl, hlt, ?_⟩⟩
          · exact xorL_byte _ _ (getD_take_lt l hb.byte k) (getD_take_lt m hbm.byte k)
          · rw [Nat.zero_add, cell_of_row wr C i _ _ _ hrow, byteCells_get _ i hi]
        have hlaw := of_sums (l.take k) (m.take k) (by have := HNL.out; have := HNM.out; simp; omega)
        have hlk : (l.take k).length = k := by have := HNL.out; simp; omega
        rw [hlk] at hlaw
        have hA := crcOn_lt 0 (l.take k) (by omega) (getD_take_lt l hb.byte k)
        have hM := crcOn_lt 0 (m.take k) (by omega) (getD_take_lt m hbm.byte k)
        have hZ := crcOn_lt 0 (List.replicate k 0) (by omega) (by simp +contextual)
        have hX : (xorL (l.take k) (m.take k)).length ≤ 140737488351232 := by rw [xorL_length _ _ (by have := HNL.out; have := HNM.out; simp; omega), hlk]; omega
        have HBY := Lib.hid hbytes
        have HB := Lib.hid hB
        have HLAW := Lib.hid hlaw
        have HHB := Lib.hid hb
        have HHM := Lib.hid hbm
        have HS := Lib.hid (And.intro hA (And.intro hM (And.intro hZ hX)))
        clear hbytes hB hrow hlist hb hbm hlaw hlk hA hM hZ hX
        go_wp2_with fail
        refine (Make_walk _).mono ?_
        rintro e w' ⟨rfl, rfl⟩
        go_wp2_with (first
          | (refine wpList_alloc26 rfl rfl ?_)
          | refine wpList_store_row rfl 26 (.tmp 8) (.tmp 42) rfl (tabCells (fun _ => 0)) (tabCells tab) _ (by simp) rfl rfl size26 (tabCells_same _ _) (tabCells_one tab) ?_)
        obtain ⟨hA, hM, hZ, hX⟩ := HS.out
        have hlaw := HLAW.out
        have hL := HL.out
        have hMM := HM.out
        generalize hWW : (wr.alloc (.cells (tabCells tab) 26)).alloc (.cells (tabCells tab) 26) = W
        have hW : Below wr.heap.size wr W := by subst hWW; exact ((Below.refl _ _).alloc (Nat.le_refl _) _).alloc (by simp) _
        have hwW : Below w.heap.size w W := HB.out.trans (hW.mono HB.out.size)
        have hB1 : W.heap[wr.heap.size + 1]? = some (.cells (tabCells tab) 26 (0, 0)) := by
          subst hWW
          have := heap_alloc_new (wr.alloc (.cells (tabCells tab) 26)) (.cells (tabCells tab) 26)
          simpa using this
        have hltB : wr.heap.size + 1 < W.heap.size := by subst hWW; simp
        clear hWW
        have hrow2 : ∀ w', Up W w' → w'.heap[wr.heap.size + 1]? = some (.cells (tabCells tab) 26 (0, 0)) := fun w' h => by rw [h.block (wr.heap.size + 1) hltB]; exact hB1
        have hs0 : ∀ w', Up W w' → isBytes (xorL (l.take k) (m.take k)) (.slice (some ⟨C, 0, none⟩) k k) w' := fun w' h => stable_isBytes _ _ _ _ (ext_of_below (hW.trans (h.mono hW.size))) HBY.out
        refine wp_region_inv 66 mixed (by kernel_rfl) (by simp [Act.put]) (Up W) (Below.refl _ _).drew ?_
        have hs1 : ∀ w', Up W w' → isBytes l (.slice a0 k cap0) w' := fun w' h => ⟨a0, cap0, by rw [hL], by omega, (HHB.out.below (hwW.trans (h.mono hwW.size))).mono (Nat.le_trans hwW.size h.size)⟩
        have hs2 : ∀ w', Up W w' → isBytes m (.slice a1 len1 cap1) w' := fun w' h => ⟨a1, cap1, by rw [hMM], by omega, (HHM.out.below (hwW.trans (h.mono hwW.size))).mono (Nat.le_trans hwW.size h.size)⟩
        refine wpI_cons (is (.agg (tabCells tab))) (stable_is _) (step_loadRow (go0 rfl) 26 (.tmp 8) rfl (wr.heap.size + 1) 26 (tabCells tab) (0, 0) _ (opO' 8 (.pointer (some ⟨(wr.heap.size + 1), 0, none⟩)) rfl (by simp [Act.put])) hrow2 Try.underlying26 rfl size26) ?_
        refine wpI_cons (is (.slice (some ⟨C, 0, none⟩) k k)) (stable_is _) (step_move (go0 rfl) (.tmp 6) rfl (opO' 6 (.slice (some ⟨C, 0, none⟩) k k) rfl (by simp [Act.put]))) ?_
        refine wpI_cons (is (.int .u32 (crcOn 0 (xorL (l.take k) (m.take k)) : Nat))) (stable_is _) (step_call2 (go0 rfl) 10 (.tmp 43) (.tmp 44) _ rfl enter10 (opT' 43 0 rfl rfl) (OpIs.imp (opT' 44 1 rfl rfl) (fun v w h e => by obtain rfl : v = _ := e; exact hs0 w h)) (fun u v w h1 h2 h3 => Of_ok (xorL (l.take k) (m.take k)) hX u v w h1 h2 h3)) ?_
        refine wpI_cons (is (.agg (tabCells tab))) (stable_is _) (step_loadRow (go0 rfl) 26 (.tmp 8) rfl (wr.heap.size + 1) 26 (tabCells tab) (0, 0) _ (opO' 8 (.pointer (some ⟨(wr.heap.size + 1), 0, none⟩)) rfl (by simp [Act.put])) hrow2 Try.underlying26 rfl size26) ?_
        refine wpI_cons (is (.slice a0 k cap0)) (stable_is _) (step_move (go0 rfl) (.tmp 0) rfl (opO' 0 (.slice a0 k cap0) rfl (by simp [Act.put]))) ?_
        refine wpI_cons (is (.int .i64 (k : Int))) (stable_is _) (step_move (go0 rfl) (.tmp 5) rfl (opO' 5 (.int .i64 (k : Int)) rfl (by simp [Act.put]))) ?_
        refine wpI_cons (isBytes (l.take k)) (stable_isBytes _) (step_sliceH (go0 rfl) l k HNL.out (.tmp 47) (.tmp 48) rfl (OpIs.imp (opT' 47 4 rfl rfl) (fun v w h e => by obtain rfl : v = _ := e; exact hs1 w h)) (opT' 48 5 rfl rfl)) ?_
        refine wpI_cons (is (.int .u32 (crcOn 0 (l.take k) : Nat))) (stable_is _) (step_call2 (go0 rfl) 10 (.tmp 46) (.tmp 49) _ rfl enter10 (opT' 46 3 rfl rfl) (opT' 49 6 rfl rfl) (fun u v w h1 h2 h3 => Of_ok (l.take k) (by simp; omega) u v w h1 h2 h3)) ?_
        refine wpI_cons (is (.agg (tabCells tab))) (stable_is _) (step_loadRow (go0 rfl) 26 (.tmp 8) rfl (wr.heap.size + 1) 26 (tabCells tab) (0, 0) _ (opO' 8 (.pointer (some ⟨(wr.heap.size + 1), 0, none⟩)) rfl (by simp [Act.put])) hrow2 Try.underlying26 rfl size26) ?_
        refine wpI_cons (is (.slice a1 len1 cap1)) (stable_is _) (step_move (go0 rfl) (.tmp 1) rfl (opO' 1 (.slice a1 len1 cap1) rfl (by simp [Act.put]))) ?_
        refine wpI_cons (is (.int .i64 (k : Int))) (stable_is _) (step_move (go0 rfl) (.tmp 5) rfl (opO' 5 (.int .i64 (k : Int)) rfl (by simp [Act.put]))) ?_
        refine wpI_cons (isBytes (m.take k)) (stable_isBytes _) (step_sliceH (go0 rfl) m k HNM.out (.tmp 52) (.tmp 53) rfl (OpIs.imp (opT' 52 9 rfl rfl) (fun v w h e => by obtain rfl : v = _ := e; exact hs2 w h)) (opT' 53 10 rfl rfl)) ?_
        refine wpI_cons (is (.int .u32 (crcOn 0 (m.take k) : Nat))) (stable_is _) (step_call2 (go0 rfl) 10 (.tmp 51) (.tmp 54) _ rfl enter10 (opT' 51 8 rfl rfl) (opT' 54 11 rfl rfl) (fun u v w h1 h2 h3 => Of_ok (m.take k) (by simp; omega) u v w h1 h2 h3)) ?_
        refine wpI_cons (is (.int .u32 (crcOn 0 (l.take k) ^^^ crcOn 0 (m.take k) : Nat))) (stable_is _) (step_int (go0 rfl) .xor 23 23 (.tmp 50) (.tmp 55) rfl .u32 .u32 _ _ _ (opT' 50 7 rfl rfl) (opT' 55 12 rfl rfl) (fun w => run_xor32 _ _ hA hM w)) ?_
        refine wpI_cons (is (.agg (tabCells tab))) (stable_is _) (step_loadRow (go0 rfl) 26 (.tmp 8) rfl (wr.heap.size + 1) 26 (tabCells tab) (0, 0) _ (opO' 8 (.pointer (some ⟨(wr.heap.size + 1), 0, none⟩)) rfl (by simp [Act.put])) hrow2 Try.underlying26 rfl size26) ?_
        refine wpI_cons (is (.int .i64 (k : Int))) (stable_is _) (step_move (go0 rfl) (.tmp 5) rfl (opO' 5 (.int .i64 (k : Int)) rfl (by simp [Act.put]))) ?_
        refine wpI_cons (isNew W.heap.size (List.replicate k 0)) (stable_isNew _ _) (step_make rfl (go0 rfl) k (by omega) (.tmp 58) (.tmp 58) rfl (opT' 58 15 rfl rfl) (opT' 58 15 rfl rfl)) ?_
        refine wpI_cons (is (.int .u32 (crcOn 0 (List.replicate k 0) : Nat))) (stable_is _) (step_call2 (go0 rfl) 10 (.tmp 57) (.tmp 59) _ rfl enter10 (opT' 57 14 rfl rfl) (OpIs.imp (opT' 59 16 rfl rfl) (fun v w h e => isNew_isBytes e)) (fun u v w h1 h2 h3 => Of_ok (List.replicate k 0) (by simp; omega) u v w h1 h2 h3)) ?_
        refine wpI_cons (is (.int .u32 (crcOn 0 (l.take k) ^^^ crcOn 0 (m.take k) ^^^ crcOn 0 (List.replicate k 0) : Nat))) (stable_is _) (step_int (go0 rfl) .xor 23 23 (.tmp 56) (.tmp 60) rfl .u32 .u32 _ _ _ (opT' 56 13 rfl rfl) (opT' 60 17 rfl rfl) (fun w => run_xor32 _ _ (xor_lt32 hA hM) hZ w)) ?_
        refine wpI_cons (is (.bool true)) (stable_is _) (step_eq (go0 rfl) 23 23 (.tmp 45) (.tmp 61) rfl _ _ _ true (opT' 45 2 rfl rfl) (opT' 61 18 rfl rfl) (by rw [hlaw]; simp)) ?_
        refine wpI_cons (is (.bool true)) (stable_is _) (step_move (go0 rfl) (.tmp 62) rfl (opT' 62 19 rfl rfl)) ?_
        refine wpI_cons (is (.bool true)) (stable_is _) (step_call0 (go1 20 true 63 rfl rfl rfl rfl) 7 _ rfl enter7 (fun w h => awake_ok w h)) ?_
        refine wpI_cons (is (.bool true)) (stable_is _) (step_pickT (go0 rfl) (.tmp 63) (.tmp 64) (.const (.bool false)) rfl (opT' 63 20 rfl rfl) (opT' 64 21 rfl rfl)) ?_
        refine wpI_cons (is (.bool true)) (stable_is _) (step_assign (go0 rfl) (.tmp 65) rfl (opT' 65 22 rfl rfl)) ?_
        refine wpI_nil ?_
        rintro ⟨tmps, dfr⟩ w' hI _ rfl _ hdone _
        have hr : tmps.getD 4 undef = .bool true := hdone 23 4 rfl
        clear hdone hrow2 hs0 hs1 hs2 hB1
        go_wp2
        go_ret
        exact ⟨by rw [hr], hwW.trans (hI.mono hwW.size)⟩
  · have hmk := make22 n (by omega)
    have HL := Lib.hid hl; have HM := Lib.hid hm; clear hl hm
    go_enter Try.func6, Try.ntmps6
    go_wp2_with fail
    have hB0 := belowAlloc w (.cells (byteCells (List.replicate n 0)) 5)
    have hC0 := heap_alloc_new w (.cells (byteCells (List.replicate n 0)) 5)
    have hlt0 : w.heap.size < (w.alloc (.cells (byteCells (List.replicate n 0)) 5)).heap.size := by simp
    rw [replicate_fn n] at hB0 hC0 hlt0 ⊢
    rw [fnList_congr n (fun _ => 0) (mixTo l m 0) (fun i _ => by unfold mixTo; rw [if_neg (by omega)])] at hB0 hC0 hlt0 ⊢
    generalize w.alloc (.cells (byteCells (fnList n (mixTo l m 0))) 5) = W0 at *
    have hC : ∃ C, C = w.heap.size := ⟨_, rfl⟩
    obtain ⟨C, hC⟩ := hC
    rw [← hC] at hC0 hlt0 ⊢
    have HC := Lib.hid hC
    clear hC hmk
    go_loopw [7] (fun i wr => ∃ k : Nat, k ≤ n ∧ i = .int .i64 k ∧ Below w.heap.size w wr ∧ C < wr.heap.size ∧ wr.heap[C]? = some (.cells (byteCells (fnList n (mixTo l m k))) 5 (0, 0))) (fun i _ => n - (intOf i).toNat)
    case atStart => exact ⟨0, by omega, rfl, hB0, hlt0, hC0⟩
    case round =>
      obtain ⟨k, hk, rfl, hB, hlt, hrow⟩ := hrel
      clear hB0 hC0 hlt0
      by_cases hkn : k < n
      · have hkl : k < l.length := by have := HNL.out; omega
        have hkm : k < m.length := by have := HNM.out; omega
        obtain ⟨b, off, rfl, hbB, hc⟩ := hb.cell k hkl
        obtain ⟨b', off', rfl, hbB', hc'⟩ := hbm.cell k hkm
        rw [← hB.cell (p := ⟨b, off + k, none⟩) hbB] at hc
        rw [← hB.cell (p := ⟨b', off' + k, none⟩) hbB'] at hc'
        have hx := hb.lt k hkl
        have hy := hbm.lt k hkm
        have hbx := byte_xor _ _ hx hy
        have hcc := cell_of_row wr C k _ _ _ hrow
        rw [fnCells_get n (mixTo l m k) k hkn] at hcc
        have hfz := frozen_of_row wr C k _ _ hrow
        have hset := fnCells_set n (mixTo l m k) (mixTo l m (k + 1)) k (l.getD k 0 ^^^ m.getD k 0) (by unfold mixTo; rw [if_pos (by omega)]) (fun i hi => by
          unfold mixTo
          by_cases h : i < k
          · rw [if_pos h, if_pos (by omega)]
          · rw [if_neg h, if_neg (by omega)])
        have hnx : (wr.setCell ⟨C, k, none⟩ (.int .u8 ((l.getD k 0 ^^^ m.getD k 0 : Nat) : Int))).drew.heap[C]? = some (.cells (byteCells (fnList n (mixTo l m (k + 1)))) 5 (0, 0)) := by
          have := heap_setCell_same wr C k _ 5 (.int .u8 ((l.getD k 0 ^^^ m.getD k 0 : Nat) : Int)) hrow
          rw [hset] at this
          exact this
        have hbn : Below w.heap.size w (wr.setCell ⟨C, k, none⟩ (.int .u8 ((l.getD k 0 ^^^ m.getD k 0 : Nat) : Int))).drew := (hB.setCell (by have := HC.out; simp; omega) _).drew
        have hltn : C < (wr.setCell ⟨C, k, none⟩ (.int .u8 ((l.getD k 0 ^^^ m.getD k 0 : Nat) : Int))).drew.heap.size := by
          simp [World.setCell]; exact hlt
        have HNX := Lib.hid hnx; have HBN := Lib.hid hbn; have HLT := Lib.hid hltn
        clear hnx hbn hltn hset hrow hB hlt
        generalize l.getD k 0 = x at *
        generalize m.getD k 0 = y at *
        generalize mixTo l m k k = old at *
        have hC' : 0 ≤ C := Nat.zero_le _
        clear hb hbm hbB hbB'
        go_wp2_with fail
        go_region
        go_wp2_with fail
        go_roundw
        case rel => exact ⟨k + 1, by omega, by go_num, HBN.out, HLT.out, HNX.out⟩
        case measure => simp [intOf]; omega
      · have e : k = n := by omega
        subst e
        have hlist : fnList k (mixTo l m k) = xorL (l.take k) (m.take k) := by
          rw [← xorL_fn l m k HNL.out HNM.out]
          exact fnList_congr k _ _ fun i hi => by unfold mixTo; rw [if_pos hi]
        rw [hlist] at hrow
        have hbytes : isBytes (xorL (l.take k) (m.take k)) (.slice (some ⟨C, 0, none⟩) k k) wr := by
          have hlen : (xorL (l.take k) (m.take k)).length = k := by
            rw [xorL_length _ _ (by have := HNL.out; have := HNM.out; simp; omega)]; have := HNL.out; simp; omega
          refine ⟨some ⟨C, 0, none⟩, k, by rw [hlen], by rw [hlen]; exact Nat.le_refl _, ?_, fun i hi => ⟨C, 0, rfl, hlt, ?_⟩⟩
          · exact xorL_byte _ _ (getD_take_lt l hb.byte k) (getD_take_lt m hbm.byte k)
          · rw [Nat.zero_add, cell_of_row wr C i _ _ _ hrow, byteCells_get _ i hi]
        have hlaw := of_sums (l.take k) (m.take k) (by have := HNL.out; have := HNM.out; simp; omega)
        have hlk : (l.take k).length = k := by have := HNL.out; simp; omega
        rw [hlk] at hlaw
        have hA := crcOn_lt 0 (l.take k) (by omega) (getD_take_lt l hb.byte k)
        have hM := crcOn_lt 0 (m.take k) (by omega) (getD_take_lt m hbm.byte k)
        have hZ := crcOn_lt 0 (List.replicate k 0) (by omega) (by simp +contextual)
        have hX : (xorL (l.take k) (m.take k)).length ≤ 140737488351232 := by rw [xorL_length _ _ (by have := HNL.out; have := HNM.out; simp; omega), hlk]; omega
        have HBY := Lib.hid hbytes
        have HB := Lib.hid hB
        have HLAW := Lib.hid hlaw
        have HHB := Lib.hid hb
        have HHM := Lib.hid hbm
        have HS := Lib.hid (And.intro hA (And.intro hM (And.intro hZ hX)))
        clear hbytes hB hrow hlist hb hbm hlaw hlk hA hM hZ hX
        go_wp2_with fail
        refine (Make_walk _).mono ?_
        rintro e w' ⟨rfl, rfl⟩
        go_wp2_with (first
          | (refine wpList_alloc26 rfl rfl ?_)
          | refine wpList_store_row rfl 26 (.tmp 8) (.tmp 42) rfl (tabCells (fun _ => 0)) (tabCells tab) _ (by simp) rfl rfl size26 (tabCells_same _ _) (tabCells_one tab) ?_)
        obtain ⟨hA, hM, hZ, hX⟩ := HS.out
        have hlaw := HLAW.out
        have hL := HL.out
        have hMM := HM.out
        generalize hWW : (wr.alloc (.cells (tabCells tab) 26)).alloc (.cells (tabCells tab) 26) = W
        have hW : Below wr.heap.size wr W := by subst hWW; exact ((Below.refl _ _).alloc (Nat.le_refl _) _).alloc (by simp) _
        have hwW : Below w.heap.size w W := HB.out.trans (hW.mono HB.out.size)
        have hB1 : W.heap[wr.heap.size + 1]? = some (.cells (tabCells tab) 26 (0, 0)) := by
          subst hWW
          have := heap_alloc_new (wr.alloc (.cells (tabCells tab) 26)) (.cells (tabCells tab) 26)
          simpa using this
        have hltB : wr.heap.size + 1 < W.heap.size := by subst hWW; simp
        clear hWW
        have hrow2 : ∀ w', Up W w' → w'.heap[wr.heap.size + 1]? = some (.cells (tabCells tab) 26 (0, 0)) := fun w' h => by rw [h.block (wr.heap.size + 1) hltB]; exact hB1
        have hs0 : ∀ w', Up W w' → isBytes (xorL (l.take k) (m.take k)) (.slice (some ⟨C, 0, none⟩) k k) w' := fun w' h => stable_isBytes _ _ _ _ (ext_of_below (hW.trans (h.mono hW.size))) HBY.out
        refine wp_region_inv 66 mixed (by kernel_rfl) (by simp [Act.put]) (Up W) (Below.refl _ _).drew ?_
        have hs1 : ∀ w', Up W w' → isBytes l (.slice a0 len0 cap0) w' := fun w' h => ⟨a0, cap0, by rw [hL], by omega, (HHB.out.below (hwW.trans (h.mono hwW.size))).mono (Nat.le_trans hwW.size h.size)⟩
        have hs2 : ∀ w', Up W w' → isBytes m (.slice a1 k cap1) w' := fun w' h => ⟨a1, cap1, by rw [hMM], by omega, (HHM.out.below (hwW.trans (h.mono hwW.size))).mono (Nat.le_trans hwW.size h.size)⟩
        refine wpI_cons (is (.agg (tabCells tab))) (stable_is _) (step_loadRow (go0 rfl) 26 (.tmp 8) rfl (wr.heap.size + 1) 26 (tabCells tab) (0, 0) _ (opO' 8 (.pointer (some ⟨(wr.heap.size + 1), 0, none⟩)) rfl (by simp [Act.put])) hrow2 Try.underlying26 rfl size26) ?_
        refine wpI_cons (is (.slice (some ⟨C, 0, none⟩) k k)) (stable_is _) (step_move (go0 rfl) (.tmp 6) rfl (opO' 6 (.slice (some ⟨C, 0, none⟩) k k) rfl (by simp [Act.put]))) ?_
        refine wpI_cons (is (.int .u32 (crcOn 0 (xorL (l.take k) (m.take k)) : Nat))) (stable_is _) (step_call2 (go0 rfl) 10 (.tmp 43) (.tmp 44) _ rfl enter10 (opT' 43 0 rfl rfl) (OpIs.imp (opT' 44 1 rfl rfl) (fun v w h e => by obtain rfl : v = _ := e; exact hs0 w h)) (fun u v w h1 h2 h3 => Of_ok (xorL (l.take k) (m.take k)) hX u v w h1 h2 h3)) ?_
        refine wpI_cons (is (.agg (tabCells tab))) (stable_is _) (step_loadRow (go0 rfl) 26 (.tmp 8) rfl (wr.heap.size + 1) 26 (tabCells tab) (0, 0) _ (opO' 8 (.pointer (some ⟨(wr.heap.size + 1), 0, none⟩)) rfl (by simp [Act.put])) hrow2 Try.underlying26 rfl size26) ?_
        refine wpI_cons (is (.slice a0 len0 cap0)) (stable_is _) (step_move (go0 rfl) (.tmp 0) rfl (opO' 0 (.slice a0 len0 cap0) rfl (by simp [Act.put]))) ?_
        refine wpI_cons (is (.int .i64 (k : Int))) (stable_is _) (step_move (go0 rfl) (.tmp 5) rfl (opO' 5 (.int .i64 (k : Int)) rfl (by simp [Act.put]))) ?_
        refine wpI_cons (isBytes (l.take k)) (stable_isBytes _) (step_sliceH (go0 rfl) l k HNL.out (.tmp 47) (.tmp 48) rfl (OpIs.imp (opT' 47 4 rfl rfl) (fun v w h e => by obtain rfl : v = _ := e; exact hs1 w h)) (opT' 48 5 rfl rfl)) ?_
        refine wpI_cons (is (.int .u32 (crcOn 0 (l.take k) : Nat))) (stable_is _) (step_call2 (go0 rfl) 10 (.tmp 46) (.tmp 49) _ rfl enter10 (opT' 46 3 rfl rfl) (opT' 49 6 rfl rfl) (fun u v w h1 h2 h3 => Of_ok (l.take k) (by simp; omega) u v w h1 h2 h3)) ?_
        refine wpI_cons (is (.agg (tabCells tab))) (stable_is _) (step_loadRow (go0 rfl) 26 (.tmp 8) rfl (wr.heap.size + 1) 26 (tabCells tab) (0, 0) _ (opO' 8 (.pointer (some ⟨(wr.heap.size + 1), 0, none⟩)) rfl (by simp [Act.put])) hrow2 Try.underlying26 rfl size26) ?_
        refine wpI_cons (is (.slice a1 k cap1)) (stable_is _) (step_move (go0 rfl) (.tmp 1) rfl (opO' 1 (.slice a1 k cap1) rfl (by simp [Act.put]))) ?_
        refine wpI_cons (is (.int .i64 (k : Int))) (stable_is _) (step_move (go0 rfl) (.tmp 5) rfl (opO' 5 (.int .i64 (k : Int)) rfl (by simp [Act.put]))) ?_
        refine wpI_cons (isBytes (m.take k)) (stable_isBytes _) (step_sliceH (go0 rfl) m k HNM.out (.tmp 52) (.tmp 53) rfl (OpIs.imp (opT' 52 9 rfl rfl) (fun v w h e => by obtain rfl : v = _ := e; exact hs2 w h)) (opT' 53 10 rfl rfl)) ?_
        refine wpI_cons (is (.int .u32 (crcOn 0 (m.take k) : Nat))) (stable_is _) (step_call2 (go0 rfl) 10 (.tmp 51) (.tmp 54) _ rfl enter10 (opT' 51 8 rfl rfl) (opT' 54 11 rfl rfl) (fun u v w h1 h2 h3 => Of_ok (m.take k) (by simp; omega) u v w h1 h2 h3)) ?_
        refine wpI_cons (is (.int .u32 (crcOn 0 (l.take k) ^^^ crcOn 0 (m.take k) : Nat))) (stable_is _) (step_int (go0 rfl) .xor 23 23 (.tmp 50) (.tmp 55) rfl .u32 .u32 _ _ _ (opT' 50 7 rfl rfl) (opT' 55 12 rfl rfl) (fun w => run_xor32 _ _ hA hM w)) ?_
        refine wpI_cons (is (.agg (tabCells tab))) (stable_is _) (step_loadRow (go0 rfl) 26 (.tmp 8) rfl (wr.heap.size + 1) 26 (tabCells tab) (0, 0) _ (opO' 8 (.pointer (some ⟨(wr.heap.size + 1), 0, none⟩)) rfl (by simp [Act.put])) hrow2 Try.underlying26 rfl size26) ?_
        refine wpI_cons (is (.int .i64 (k : Int))) (stable_is _) (step_move (go0 rfl) (.tmp 5) rfl (opO' 5 (.int .i64 (k : Int)) rfl (by simp [Act.put]))) ?_
        refine wpI_cons (isNew W.heap.size (List.replicate k 0)) (stable_isNew _ _) (step_make rfl (go0 rfl) k (by omega) (.tmp 58) (.tmp 58) rfl (opT' 58 15 rfl rfl) (opT' 58 15 rfl rfl)) ?_
        refine wpI_cons (is (.int .u32 (crcOn 0 (List.replicate k 0) : Nat))) (stable_is _) (step_call2 (go0 rfl) 10 (.tmp 57) (.tmp 59) _ rfl enter10 (opT' 57 14 rfl rfl) (OpIs.imp (opT' 59 16 rfl rfl) (fun v w h e => isNew_isBytes e)) (fun u v w h1 h2 h3 => Of_ok (List.replicate k 0) (by simp; omega) u v w h1 h2 h3)) ?_
        refine wpI_cons (is (.int .u32 (crcOn 0 (l.take k) ^^^ crcOn 0 (m.take k) ^^^ crcOn 0 (List.replicate k 0) : Nat))) (stable_is _) (step_int (go0 rfl) .xor 23 23 (.tmp 56) (.tmp 60) rfl .u32 .u32 _ _ _ (opT' 56 13 rfl rfl) (opT' 60 17 rfl rfl) (fun w => run_xor32 _ _ (xor_lt32 hA hM) hZ w)) ?_
        refine wpI_cons (is (.bool true)) (stable_is _) (step_eq (go0 rfl) 23 23 (.tmp 45) (.tmp 61) rfl _ _ _ true (opT' 45 2 rfl rfl) (opT' 61 18 rfl rfl) (by rw [hlaw]; simp)) ?_
        refine wpI_cons (is (.bool true)) (stable_is _) (step_move (go0 rfl) (.tmp 62) rfl (opT' 62 19 rfl rfl)) ?_
        refine wpI_cons (is (.bool true)) (stable_is _) (step_call0 (go1 20 true 63 rfl rfl rfl rfl) 7 _ rfl enter7 (fun w h => awake_ok w h)) ?_
        refine wpI_cons (is (.bool true)) (stable_is _) (step_pickT (go0 rfl) (.tmp 63) (.tmp 64) (.const (.bool false)) rfl (opT' 63 20 rfl rfl) (opT' 64 21 rfl rfl)) ?_
        refine wpI_cons (is (.bool true)) (stable_is _) (step_assign (go0 rfl) (.tmp 65) rfl (opT' 65 22 rfl rfl)) ?_
        refine wpI_nil ?_
        rintro ⟨tmps, dfr⟩ w' hI _ rfl _ hdone _
        have hr : tmps.getD 4 undef = .bool true := hdone 23 4 rfl
        clear hdone hrow2 hs0 hs1 hs2 hB1
        go_wp2
        go_ret
        exact ⟨by rw [hr], hwW.trans (hI.mono hwW.size)⟩

/-! ### THE ROW's STEP: WRITTEN OUT: LEAVE IT -/
set_option maxRecDepth 100000 in
theorem lifted (os : Os) (started : os.Started) (H : Type) (enc : TypeId × Value → H) :
    ReturnsInHanded {} Try.checked os 6 .any (Rows.crcSumsSpec.pre6 enc Try.prog Try.f6 Rows.crcSumsRow.domain false) (Rows.crcSumsSpec.post enc Try.prog Try.f6 false true false false) := by
  refine returnsInHanded_of_change (C := Try.checked) own started (by kernel_rfl) Try.func6
    (ChangeSpec.witness6 (enc := enc) (C := Try.checked) false ⟨#[], #[.slice none 0 0, .slice none 0 0], []⟩ 8 (by kernel_rfl) (by kernel_rfl) (by kernel_rfl) (by kernel_rfl)) ?_
  intro W base args ds gs before hval0 hW hcnd _
  have hval : ∀ (j : Nat) t v, Try.f6.params[j]? = some t → args[j]? = some v → Value.okWide Try.prog W .any base t v := hval0
  have hW' := hW
  obtain ⟨p, q, hA0, hV, rfl, hfz, hnd⟩ := hW
  have hA : DataW.TrodAll enc Try.prog W 0 (fun _ => true) true Try.f6.params.toList args.toList ds p := hA0
  rw [Try.params6] at hA hval
  obtain ⟨v0, vs0, d0, ds0, p0, q0, hargs, rfl, rfl, h0, r0⟩ := trodAll_cons hA
  obtain ⟨v1, vs1, d1, ds1, p1, q1, rfl, rfl, rfl, h1, r1⟩ := trodAll_cons r0
  obtain ⟨rfl, rfl, rfl⟩ := trodAll_nil r1
  obtain rfl : args = #[v0, v1] := by cases args; simp_all
  obtain ⟨rfl, rfl⟩ := trodVars_none hV
  obtain ⟨a0, len0, cap0, rfl⟩ := okWide_slice Try.underlying22 (hval 0 22 v0 rfl rfl)
  have k0 := h0
  have lt0 : ∀ x ∈ p0, x.block < W.heap.size := by obtain ⟨m, hm⟩ := k0; exact DataW.trod_lt m _ _ _ hm
  obtain ⟨z0, w0⟩ : ∃ zs, IsRow .u8 W a0 len0 cap0 zs := by
    obtain ⟨fuel, hf⟩ := h0
    rcases open_ints Try.underlying22 Try.underlying5 (by kernel_rfl) hf with ⟨hcs, _⟩ | ⟨x, l, c, zs, hcs, _, hl, hm, hz, _, hcell, hwz⟩
    · simp [Value.cells] at hcs
      obtain ⟨rfl, rfl, rfl⟩ := hcs
      exact ⟨[], .inl ⟨rfl, rfl, rfl, rfl⟩⟩
    · simp [Value.cells] at hcs
      obtain ⟨rfl, rfl, rfl⟩ := hcs
      exact ⟨zs, .inr ⟨_, rfl, hl, hm, by simpa using hz, hcell, hwz⟩⟩
  obtain ⟨a1, len1, cap1, rfl⟩ := okWide_slice Try.underlying22 (hval 1 22 v1 rfl rfl)
  have k1 := h1
  have lt1 : ∀ x ∈ p1, x.block < W.heap.size := by obtain ⟨m, hm⟩ := k1; exact DataW.trod_lt m _ _ _ hm
  obtain ⟨z1, w1⟩ : ∃ zs, IsRow .u8 W a1 len1 cap1 zs := by
    obtain ⟨fuel, hf⟩ := h1
    rcases open_ints Try.underlying22 Try.underlying5 (by kernel_rfl) hf with ⟨hcs, _⟩ | ⟨x, l, c, zs, hcs, _, hl, hm, hz, _, hcell, hwz⟩
    · simp [Value.cells] at hcs
      obtain ⟨rfl, rfl, rfl⟩ := hcs
      exact ⟨[], .inl ⟨rfl, rfl, rfl, rfl⟩⟩
    · simp [Value.cells] at hcs
      obtain ⟨rfl, rfl, rfl⟩ := hcs
      exact ⟨zs, .inr ⟨_, rfl, hl, hm, by simpa using hz, hcell, hwz⟩⟩
  clear hA0 hval0
  refine (walk a0 len0 cap0 z0 a1 len1 cap1 z1 W w0 w1).mono fun e W' ⟨he, bel⟩ => ?_
  subst he
  exact ⟨_, rfl, _, _, _, [], _, [], hW', trodAll_mk1 (shut_bool Try.underlying4 _), (trodAll_cons_mk (Below.trod laidOut (by kernel_rfl) (of_decide_eq_true (by kernel_rfl)) k0 bel lt0) (trodAll_cons_mk (Below.trod laidOut (by kernel_rfl) (of_decide_eq_true (by kernel_rfl)) k1 bel lt1) trodAll_mk0)), rfl, bel.frame _, fun h => by cases h⟩

theorem over : Rows.crcSumsRow.holds Try.pinned (OpenSpec.ofChange Rows.crcSumsSpec) :=
  OpenClaim.holds_of_wide 6 Try.f6 rfl rfl rfl rfl rfl rfl rfl ⟨rfl, rfl, rfl, rfl, rfl⟩ rfl rfl rfl rfl rfl (by kernel_rfl) Try.func6 (by kernel_rfl)
    (of_decide_eq_true (by kernel_rfl)) (by unfold Func.isWrapper; first | (rw [if_pos (by decide +kernel)]; kernel_rfl) | (rw [if_neg (by decide +kernel)]; exact ⟨rfl, rfl⟩))
    (fun os started H enc _ => lifted os started H enc)

/-- ████ THE STATEMENT ████ -/
theorem proved : Rows.CrcSumsSaid := over
end Go.Proofs.Ytcoabmnekccdpaa.crcSums
