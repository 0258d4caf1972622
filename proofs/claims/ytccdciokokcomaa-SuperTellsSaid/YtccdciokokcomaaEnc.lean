/- A block's bytes: super.Encode. -/
import Derived.Test.YtccdciokokcomaaZero
import Derived.Test.YtccdciokokcomaaWOn
import Derived.Test.YtccdciokokcomaaWMake
import Derived.Deep.RegionHeld3

namespace Go.Proofs.Ytccdciokokcomaa
open Go.RowKit

def Blk.cells (x : Blk) : Array Value := #[.int .i64 x.gen, .int .i64 x.d, .bool x.wrap, .int .i64 x.start, .int .i64 x.len, .int .u32 x.sum]
theorem within_walk (n m : Int) (c : Bool) (hc : decide (0 ≤ n ∧ n ≤ m) = c) (w : World) :
    Calls Try.prog 19 #[.int .i64 n, .int .i64 m] w fun e w' => e = .returned (.bool c) ∧ w = w' := by
  by_cases h0 : 0 ≤ n
  · by_cases h1 : n ≤ m
    · obtain rfl : true = c := by rw [← hc]; simp [h0, h1]
      clear hc
      go_enter Try.func19, Try.ntmps19
      go_wp2
      go_ret
      exact ⟨rfl, rfl⟩
    · obtain rfl : false = c := by rw [← hc]; simp [h1]
      clear hc
      go_enter Try.func19, Try.ntmps19
      go_wp2
      go_ret
      exact ⟨rfl, rfl⟩
  · obtain rfl : false = c := by rw [← hc]; simp [h0]
    clear hc
    go_enter Try.func19, Try.ntmps19
    go_wp2
    go_ret
    exact ⟨rfl, rfl⟩
theorem Blk.okNo (x : Blk) (h : okB x = false) : decide (0 ≤ x.gen ∧ x.gen ≤ 4294967295) = false ∨ decide (0 ≤ x.gen ∧ x.gen ≤ 4294967295) = true ∧ (decide (0 ≤ x.d ∧ x.d ≤ 3) = false ∨ decide (0 ≤ x.d ∧ x.d ≤ 3) = true ∧
    (decide (0 ≤ x.start ∧ x.start ≤ 65535) = false ∨ decide (0 ≤ x.start ∧ x.start ≤ 65535) = true ∧ decide (0 ≤ x.len ∧ x.len ≤ 65535) = false)) := by
  unfold okB at h
  by_cases h1 : 0 ≤ x.gen ∧ x.gen ≤ 4294967295 <;> by_cases h2 : 0 ≤ x.d ∧ x.d ≤ 3 <;> by_cases h3 : 0 ≤ x.start ∧ x.start ≤ 65535 <;> by_cases h4 : 0 ≤ x.len ∧ x.len ≤ 65535 <;> simp [h1, h2, h3, h4] at h ⊢
set_option maxRecDepth 100000 in
theorem enc_no (x : Blk) (h : okB x = false) (w : World) :
    Calls Try.prog 9 #[.agg (tabCells tab), .agg x.cells] w fun e w' => e = .returned (.tuple #[.slice none 0 0, .int .i64 1]) ∧ Below w.heap.size w w' := by
  have hb := (below_trans (below_alloc w (.cells (tabCells tab) 28)) (below_alloc _ (.cells x.cells 24)))
  obtain ⟨gen, d, wrap, start, len, sum⟩ := x
  simp only [Blk.cells] at hb ⊢
  have HB := Lib.hid hb
  have hn := Blk.okNo _ h
  simp only at hn
  clear hb h
  rcases hn with h1 | ⟨h1, h2 | ⟨h2, h3 | ⟨h3, h4⟩⟩⟩
  · have H1 := Lib.hid h1
    clear h1
    go_enter Try.func9, Try.ntmps9
    go_wp2_with (go_at_call 19; refine (within_walk gen 4294967295 _ H1.out _).mono ?_; rintro e w' ⟨rfl, rfl⟩)
    go_ret2
    exact ⟨rfl, HB.out⟩
  · have H1 := Lib.hid h1
    have H2 := Lib.hid h2
    clear h1 h2
    go_enter Try.func9, Try.ntmps9
    go_wp2_with (go_at_call 19; (first | with_reducible refine (within_walk gen 4294967295 _ H1.out _).mono ?_ | with_reducible refine (within_walk d 3 _ H2.out _).mono ?_); rintro e w' ⟨rfl, rfl⟩)
    go_ret2
    exact ⟨rfl, HB.out⟩
  · have H1 := Lib.hid h1
    have H2 := Lib.hid h2
    have H3 := Lib.hid h3
    clear h1 h2 h3
    go_enter Try.func9, Try.ntmps9
    go_wp2_with (go_at_call 19; (first | with_reducible refine (within_walk gen 4294967295 _ H1.out _).mono ?_ | with_reducible refine (within_walk d 3 _ H2.out _).mono ?_ | with_reducible refine (within_walk start 65535 _ H3.out _).mono ?_); rintro e w' ⟨rfl, rfl⟩)
    go_ret2
    exact ⟨rfl, HB.out⟩
  · have H1 := Lib.hid h1
    have H2 := Lib.hid h2
    have H3 := Lib.hid h3
    have H4 := Lib.hid h4
    clear h1 h2 h3 h4
    go_enter Try.func9, Try.ntmps9
    go_wp2_with (go_at_call 19; (first | with_reducible refine (within_walk gen 4294967295 _ H1.out _).mono ?_ | with_reducible refine (within_walk d 3 _ H2.out _).mono ?_ | with_reducible refine (within_walk start 65535 _ H3.out _).mono ?_ | with_reducible refine (within_walk len 65535 _ H4.out _).mono ?_); rintro e w' ⟨rfl, rfl⟩)
    go_ret2
    exact ⟨rfl, HB.out⟩
theorem setCell_row (w : World) (g i : Nat) (cs : Array Value) (t : TypeId) (v : Value) (h : w.heap[g]? = some (.cells cs t (0, 0))) : (w.setCell ⟨g, i, none⟩ v).heap[g]? = some (.cells (cs.setIfInBounds i v) t (0, 0)) := by
  simp [World.setCell, Array.getElem?_modify, h]
theorem setCell_other (w : World) (p : Addr) (v : Value) (c : Nat) (h : c ≠ p.block) : (w.setCell p v).heap[c]? = w.heap[c]? := by
  simp only [World.setCell, Array.getElem?_modify]
  rw [if_neg (fun e => h e.symm)]
theorem Own.form {w : World} {B : Nat} {v : Value} {l : List Nat} (h : Own w B v l) (hl : 0 < l.length) : ∃ g cap, v = .slice (some ⟨g, 0, none⟩) l.length cap ∧ B ≤ g ∧ g < w.heap.size := h.row.form hl
/-- a store into such a row -/
theorem Own.set {w : World} {B g cap : Nat} {l : List Nat} (h : Own w B (.slice (some ⟨g, 0, none⟩) l.length cap) l) (i c : Nat) (hi : i < l.length) (hc : c < 256) :
    w.frozen? ⟨g, i, none⟩ = false ∧ (w.cell? ⟨g, i, none⟩).isSome = true ∧ Own (w.setCell ⟨g, i, none⟩ (.int .u8 (c : Int))) B (.slice (some ⟨g, 0, none⟩) l.length cap) (l.set i c) ∧ Below B w (w.setCell ⟨g, i, none⟩ (.int .u8 (c : Int))) := by
  rcases h.row.2 with ⟨_, h0⟩ | ⟨g', cap', cur, hv, hbg, hg, hnc, hcm, hcs, htake⟩
  · omega
  simp only [Value.slice.injEq, Option.some.injEq, Addr.mk.injEq, and_true, true_and] at hv
  obtain ⟨rfl, rfl⟩ := hv
  have hlt : g < w.heap.size := (Array.getElem?_eq_some_iff.1 hg).1
  refine ⟨frozen_of_row _ _ _ _ _ hg, ?_, ⟨⟨by rw [byteV_length, List.length_set, Nat.mul_one], .inr ⟨g, cap, _, by rw [List.length_set], hbg, setCell_row _ g i cur 5 _ hg, by rw [List.length_set]; exact hnc, hcm, by rw [Array.size_setIfInBounds]; exact hcs, ?_⟩⟩, ?_⟩, (Below.refl _ _).setCell (p := ⟨g, i, none⟩) hbg _⟩
  · rw [cell_of_row _ _ _ _ _ _ hg, Array.getElem?_eq_getElem (by omega)]; rfl
  · rw [List.length_set, Array.toList_setIfInBounds, List.take_set, htake]
    simp [byteV, List.map_set]
  · intro x hx
    rcases List.mem_or_eq_of_mem_set hx with h1 | rfl
    · exact h.byte x h1
    · exact hc
/-- what lies there while a block's bytes are made -/
structure Box (w0 : World) (x : Blk) (t : TypeId) (w : World) : Prop where
  below : Below (w0.heap.size + 1 + 1) ((w0.alloc (.cells (tabCells tab) 28)).alloc (.cells x.cells t)) w
theorem Box.start (w0 : World) (x : Blk) (t : TypeId) : Box w0 x t ((w0.alloc (.cells (tabCells tab) 28)).alloc (.cells x.cells t)) := ⟨Below.refl _ _⟩
theorem Box.up {w0 w w' : World} {x : Blk} {t : TypeId} (h : Box w0 x t w) (hb : Below (w0.heap.size + 1 + 1) w w') : Box w0 x t w' := ⟨h.below.trans hb⟩
theorem Box.size {w0 w : World} {x : Blk} {t : TypeId} (h : Box w0 x t w) : w0.heap.size + 1 + 1 ≤ w.heap.size := by have := h.below.size; simpa using this
theorem Box.tb {w0 w : World} {x : Blk} {t : TypeId} (h : Box w0 x t w) : w.heap[w0.heap.size]? = some (.cells (tabCells tab) 28 (0, 0)) := by
  rw [h.below.block _ (by omega), Below.heap_alloc _ _ _ (by simp)]
  exact heap_alloc_new w0 _
theorem Box.row {w0 w : World} {x : Blk} {t : TypeId} (h : Box w0 x t w) : w.heap[w0.heap.size + 1]? = some (.cells x.cells t (0, 0)) := by
  rw [h.below.block _ (by omega)]
  have := heap_alloc_new (w0.alloc (.cells (tabCells tab) 28)) (.cells x.cells t)
  simpa using this
theorem Box.cells {w0 w : World} {x : Blk} {t : TypeId} (h : Box w0 x t w) : w.cell? ⟨w0.heap.size + 1, 0, none⟩ = some (.int .i64 x.gen) ∧ w.cell? ⟨w0.heap.size + 1, 1, none⟩ = some (.int .i64 x.d) ∧ w.cell? ⟨w0.heap.size + 1, 2, none⟩ = some (.bool x.wrap) ∧
    w.cell? ⟨w0.heap.size + 1, 3, none⟩ = some (.int .i64 x.start) ∧ w.cell? ⟨w0.heap.size + 1, 4, none⟩ = some (.int .i64 x.len) ∧ w.cell? ⟨w0.heap.size + 1, 5, none⟩ = some (.int .u32 x.sum) := by
  have hr := h.row
  refine ⟨?_, ?_, ?_, ?_, ?_, ?_⟩ <;> (rw [cell_of_row _ _ _ _ _ _ hr]; rfl)
theorem Box.all {w0 w : World} {x : Blk} {t : TypeId} (h : Box w0 x t w) : Below w0.heap.size w0 w :=
  (below_trans (below_alloc w0 (.cells (tabCells Go.Proofs.Ytccdciokokcomaa.tab) 28)) (below_alloc _ (.cells x.cells t))).trans (h.below.mono (by omega))
theorem bytes2 (w : World) (n : Int) (c e : Nat) (hn : n = (c : Int)) (hc : c < 256) (he : e < 256) : isBytes [c, e] (.slice (some ⟨w.heap.size, 0, none⟩) 2 2) (w.alloc (.cells #[.int .u8 n, .int .u8 (e : Int)] 5)) := by
  subst hn
  exact ⟨_, 2, rfl, Nat.le_refl _, bytes_new w [c, e] (by simp; omega) 5 (0, 0)⟩
theorem wain_bytes (w : World) (W : World) (g : Nat) (hg : w.heap.size = g) (hb : Below (w.alloc (.cells #[.int .u8 87, .int .u8 65, .int .u8 73, .int .u8 78] 5 (4, 5))).heap.size (w.alloc (.cells #[.int .u8 87, .int .u8 65, .int .u8 73, .int .u8 78] 5 (4, 5))) W) :
    Bytes W W.heap.size (some ⟨g, 0, none⟩) [87, 65, 73, 78] := hg ▸ (bytes_new w [87, 65, 73, 78] (by simp) 5 (4, 5)).up hb
theorem wain_conv (W : World) (g : Nat) (hg : W.heap.size = g) : (convert 25 25 (.slice (some ⟨g, 0, none⟩) 4 4)).run Try.prog (W.alloc (.cells #[.int .u8 87, .int .u8 65, .int .u8 73, .int .u8 78] 5)) =
    .ok (.slice (some ⟨g, 0, none⟩) 4 4) (W.alloc (.cells #[.int .u8 87, .int .u8 65, .int .u8 73, .int .u8 78] 5 (4, 5))) := by
  subst hg
  exact Lib.run_convert_bytes_const (P := Try.prog) W 25 5 _ 4 4 Try.underlying25 Try.underlying5
theorem Own.drew {w : World} {B : Nat} {v : Value} {l : List Nat} (h : Own w B v l) : Own w.drew B v l := h.below ⟨rfl, rfl, rfl, Nat.le_refl _, fun _ _ => rfl⟩
theorem Box.drew {w0 w : World} {x : Blk} {t : TypeId} (h : Box w0 x t w) : Box w0 x t w.drew := h.up ⟨rfl, rfl, rfl, Nat.le_refl _, fun _ _ => rfl⟩
theorem Box.three {w0 w : World} {x : Blk} {t : TypeId} (h : Box w0 x t w) {start len : Nat} (h1 : x.start = (start : Int)) (h2 : x.len = (len : Int)) : w.cell? ⟨w0.heap.size + 1, 3, none⟩ = some (.int .i64 (start : Int)) ∧ w.cell? ⟨w0.heap.size + 1, 4, none⟩ = some (.int .i64 (len : Int)) ∧ w.cell? ⟨w0.heap.size + 1, 5, none⟩ = some (.int .u32 (x.sum : Int)) := by
  have hc := h.cells
  rw [h1, h2] at hc
  exact hc.2.2.2
/-- append at a step of a region that draws its order -/
theorem step_app {ops : Array Oper} {o : Oper} {a : Act} {w : World} {K : Act → World → Prop} {Q : Exit → Act → World → Prop} {E : Prop} (hgd : o.guard = none) (x y : Operand) (ho : o.op = .call { callee := .builtin .append, args := #[x, y], argTypes := #[25, 25] }) (B : Nat) (v u : Value) (l l2 : List Nat) (hx : a.eval x = v) (hy : a.eval y = u) (hv : Own w B v l) (hu : isBytes l2 u w)
    (hl : 0 < l2.length) (hn : l.length + l2.length ≤ 100000) (hB : B ≤ w.heap.size)
    (h : ∀ v' w', Own w' B v' (l ++ l2) → Below B w w' → K (a.put o.dst v') w') : if Region.wanted o (yielded ops a.tmps) = true then Oper.wp Try.prog o a w K Q else E := by
  have hw : Region.wanted o (yielded ops a.tmps) = true := by simp [Region.wanted, hgd]
  rw [if_pos hw]
  obtain ⟨A, cap, rfl, hcap, hb⟩ := hu
  obtain ⟨ad, rfl, hnews⟩ := news_of hb hl
  obtain ⟨i0, hi, hz0, hz1, hz2⟩ := info_parts info5
  refine wp_append_own w x y 25 ho B 5 i0 (.int .u8 0) 1 1 Try.underlying25 hi hz0 hz1 hz2 rfl (by decide) v l.length (byteV l) hx hv.row ad l2.length cap (byteV l2) hy (by rw [byteV_length, Nat.mul_one]) hnews (byteV_one l2) (by unfold maxLen; omega) (by omega) hB ?_
  intro v' w' hrow hgrow _
  refine h v' w' ⟨?_, app_byte hv.byte hb.byte⟩ (grown_below hv hgrow hB)
  rw [List.length_append, byteV_append]; exact hrow
theorem number2 (n : Nat) (w : World) : Calls Try.prog 20 #[.int .i64 (n : Int), .int .i64 2] w fun e w' => Made w (be 2 n) e w' := number_walk n 2 (.inl rfl) w
theorem number4 (n : Nat) (w : World) : Calls Try.prog 20 #[.int .i64 (n : Int), .int .i64 4] w fun e w' => Made w (be 4 n) e w' := number_walk n 4 (.inr rfl) w
theorem at_op {P : Program} {ops : Array Oper} {Q : Exit → Act → World → Prop} {a : Act} {w : World} {d : Option Tmp} {ty : TypeId} {ps : String} {af : Array Edge} {rest : List Oper} (op : Op)
    (h : wpList P ops Q ({ dst := d, op := op, type := ty, pos := ps, after := af, guard := none } :: rest) a w) : wpList P ops Q ({ dst := d, op := op, type := ty, pos := ps, after := af, guard := none } :: rest) a w := h
theorem size28 : (Try.prog.info? 28).map (·.size) = some (tabCells tab).size := by rw [tabCells_size]; kernel_rfl
theorem of_own {w : World} {B g cap : Nat} {l : List Nat} (h : Own w B (.slice (some ⟨g, 0, none⟩) 28 cap) l) (hl : l.length = 28 := by simp [head_length]) :
    Calls Try.prog 21 #[.agg (tabCells tab), .slice (some ⟨g, 0, none⟩) 28 cap] w fun e w' => e = .returned (.int .u32 (crcOn 0 l : Nat)) ∧ Below w.heap.size w w' := by
  obtain ⟨A, cap', e, _, hb, _⟩ := h.bytes
  simp only [Value.slice.injEq] at e
  obtain ⟨rfl, _, rfl⟩ := e
  exact (Of_walk _ 28 cap w.heap.size l hl w hb (Nat.le_refl _) (by omega)).mono fun e w' ⟨he, hw⟩ => ⟨he, hw ▸ below_trans (below_alloc _ _) (below_alloc _ _)⟩
/-- a row of bytes and no fault -/
def MadeT (w : World) (l : List Nat) (e : Ending) (w' : World) : Prop := ∃ v, e = .returned (.tuple #[v, .int .i64 0]) ∧ Own w' w.heap.size v l ∧ Below w.heap.size w w'
set_option maxRecDepth 100000 in
set_option maxHeartbeats 4000000 in
theorem enc_yes (x : Blk) (h : okB x = true) (hs : x.sum < 4294967296) (w : World) :
    Calls Try.prog 9 #[.agg (tabCells tab), .agg x.cells] w fun e w' => MadeT w (enc x) e w' := by
  have h0 := (okB_iff x).1 h
  have hbx := Box.start w x 24
  obtain ⟨gen, d, wrap, start, len, sum⟩ := x
  simp only at h0 hs
  obtain ⟨⟨g1, g2⟩, ⟨d1, d2⟩, ⟨s1, s2⟩, l1, l2⟩ := h0
  obtain ⟨gen, rfl⟩ := Int.eq_ofNat_of_zero_le g1
  obtain ⟨d, rfl⟩ := Int.eq_ofNat_of_zero_le d1
  obtain ⟨start, rfl⟩ := Int.eq_ofNat_of_zero_le s1
  obtain ⟨len, rfl⟩ := Int.eq_ofNat_of_zero_le l1
  obtain ⟨X, hX⟩ : ∃ X : Blk, X = ⟨(gen : Int), (d : Int), wrap, (start : Int), (len : Int), sum⟩ := ⟨_, rfl⟩
  have HBX := Lib.hid (show Box w X 24 ((w.alloc (.cells (tabCells tab) 28)).alloc (.cells #[.int .i64 (gen : Int), .int .i64 (d : Int), .bool wrap, .int .i64 (start : Int), .int .i64 (len : Int), .int .u32 (sum : Int)] 24)) by rw [hX]; exact hbx)
  rw [← hX] at h
  have HOK := Lib.hid h
  have HX := Lib.hid hX
  have hsi : (sum : Int) < 4294967296 := by omega
  have hci : ((crcOn 0 (head X) : Nat) : Int) < 4294967296 := by have := crc_lt _ (head_byte X HOK.out); omega
  have H1 := Lib.hid (show decide (0 ≤ (gen : Int) ∧ (gen : Int) ≤ 4294967295) = true by simp; omega)
  have H2 := Lib.hid (show decide (0 ≤ (d : Int) ∧ (d : Int) ≤ 3) = true by simp; omega)
  have H3 := Lib.hid (show decide (0 ≤ (start : Int) ∧ (start : Int) ≤ 65535) = true by simp; omega)
  have H4 := Lib.hid (show decide (0 ≤ (len : Int) ∧ (len : Int) ≤ 65535) = true by simp; omega)
  simp only [Blk.cells]
  clear hbx h hX g1 d1 s1 l1
  cases wrap
  · have kc := wain_conv ((w.alloc (.cells (tabCells tab) 28)).alloc (.cells #[.int .i64 (gen : Int), .int .i64 (d : Int), .bool false, .int .i64 (start : Int), .int .i64 (len : Int), .int .u32 (sum : Int)] 24)) (w.heap.size + 1 + 1) (by simp)
    go_enter Try.func9, Try.ntmps9
    go_wp2_with (first
      | (go_at_call 19; (first | with_reducible refine (within_walk gen 4294967295 _ H1.out _).mono ?_ | with_reducible refine (within_walk d 3 _ H2.out _).mono ?_ | with_reducible refine (within_walk start 65535 _ H3.out _).mono ?_ | with_reducible refine (within_walk len 65535 _ H4.out _).mono ?_); rintro e w' ⟨rfl, rfl⟩)
      | (go_at_call 20; with_reducible refine (number4 gen _).mono ?_
         rintro e w1 ⟨v1, rfl, hv1, hb1⟩
         have HW1 := Lib.hid (wain_bytes _ w1 (w.heap.size + 1 + 1) (by simp) hb1)
         have HK1 := Lib.hid ((HBX.out.up ((Below.refl _ _).alloc (by simp) _)).up (hb1.mono (by simp)))
         have HV1 := Lib.hid hv1
         clear hb1 hv1)
      | (at_builtin; refine arm_grow rfl (.tmp 30) (.tmp 33) rfl ⟨w.heap.size + 1 + 1, 0, none⟩ v1 [87, 65, 73, 78] (be 4 gen) rfl rfl HW1.out (by simp) HV1.out.is (by simp [be_length]) (by simp [be_length]) ?_
         intro v2 w2 hv2 hb2
         have HV2 := Lib.hid (show Own w2 (w.heap.size + 1 + 1) v2 (h1 X) from by rw [HX.out]; exact hv2.mono HK1.out.size)
         have HK2 := Lib.hid (HK1.out.up (hb2.mono HK1.out.size))
         have hsz2 := HK2.out.size
         have hcs := HK2.out.cells
         rw [HX.out] at hcs
         obtain ⟨c0, c1, c2, c3, c4, c5⟩ := hcs
         clear hb2 hv2 HV1 HW1 HK1)
      | (at_builtin; refine arm_append rfl (.tmp 35) (.tmp 39) rfl (w.heap.size + 1 + 1) v2 _ (h1 X) [d, 0] rfl rfl (HV2.out.below (below_alloc _ _)) (bytes2 w2 _ d 0 rfl (by omega) (by omega)) (by simp) (by rw [h1_length]; simp) (by simp; omega) ?_
         intro v3 w3 hv3 hb3
         obtain ⟨g3, cap3, e3, _, _⟩ := hv3.form (by simp)
         rw [show (h1 X ++ [d, 0]).length = 10 by simp [h1_length]] at e3
         subst e3
         obtain ⟨f3, k3, o3, b3⟩ := Own.set (l := h1 X ++ [d, 0]) (by rw [show (h1 X ++ [d, 0]).length = 10 by simp [h1_length]]; exact hv3) 9 1 (by simp [h1_length]) (by omega)
         obtain ⟨k3v, k3⟩ := Option.isSome_iff_exists.1 k3
         rw [show (h1 X ++ [d, 0]).length = 10 by simp [h1_length], show (h1 X ++ [d, 0]).set 9 1 = h1 X ++ [d, 1] by rw [List.set_append_right _ _ (by rw [h1_length]; omega), h1_length]; rfl] at o3
         have HO3 := Lib.hid (And.intro o3 b3)
         have HV3 := Lib.hid (show Own w3 (w.heap.size + 1 + 1) _ (h1 X ++ [d, 0]) from hv3)
         clear o3 b3
         have HK3 := Lib.hid ((HK2.out.up ((Below.refl _ _).alloc hsz2 _)).up hb3)
         clear c0 c1 c2 c3 c4 c5 hsz2
         have hsz3 := HK3.out.size
         have hcs := HK3.out.cells
         rw [HX.out] at hcs
         obtain ⟨c0, c1, c2, c3, c4, c5⟩ := hcs
         clear hb3 hv3 HV2 HK2)
      | fail)
    have HV3b := Lib.hid (show Own w3 (w.heap.size + 1 + 1) _ (h2 X) from by unfold h2; rw [HX.out]; have := HV3.out; rw [HX.out] at this; exact this)
    have HS := Lib.hid (show X.start = (start : Int) by rw [HX.out])
    have HL := Lib.hid (show X.len = (len : Int) by rw [HX.out])
    have HSU := Lib.hid (show X.sum = sum by rw [HX.out])
    clear HV3 HO3 f3 k3 c0 c1 c2
    have hws : IntKind.i64.wrap (sum : Int) = (sum : Int) := IntWalk.i64_in _ (by omega)
    go_region_held3 (fun w' => w'.cell? ⟨w.heap.size + 1, 3, none⟩ = some (.int .i64 (start : Int)) ∧ w'.cell? ⟨w.heap.size + 1, 4, none⟩ = some (.int .i64 (len : Int)) ∧ w'.cell? ⟨w.heap.size + 1, 5, none⟩ = some (.int .u32 (sum : Int)))
      (first | (have h3 := HK9.out.three HS.out HL.out; rw [HSU.out] at h3; exact h3) | (have h3 := HK8.out.three HS.out HL.out; rw [HSU.out] at h3; exact h3) | (have h3 := HK7.out.three HS.out HL.out; rw [HSU.out] at h3; exact h3) | (have h3 := HK6.out.three HS.out HL.out; rw [HSU.out] at h3; exact h3) | (have h3 := HK5.out.three HS.out HL.out; rw [HSU.out] at h3; exact h3) | (have h3 := HK4.out.three HS.out HL.out; rw [HSU.out] at h3; exact h3) | (have h3 := HK3.out.drew.three HS.out HL.out; rw [HSU.out] at h3; exact h3) | fail)
      (first
        | (go_at_call 20; with_reducible refine (number2 start _).mono ?_
           rintro e w4 ⟨v4, rfl, hv4, hb4⟩
           have HV4 := Lib.hid hv4
           have HK4 := Lib.hid (HK3.out.drew.up (hb4.mono HK3.out.drew.size))
           have HW4 := Lib.hid (HV3b.out.drew.below hb4)
           clear hv4 hb4)
        | ((refine step_app rfl (.tmp 48) (.tmp 51) rfl (w.heap.size + 1 + 1) _ v4 (h2 X) (be 2 start) rfl rfl HW4.out HV4.out.is (by simp [be_length]) (by simp [be_length, h2_length]) HK4.out.size ?_
            intro v5 w5 hv5 hb5
            have HV5 := Lib.hid (show Own w5 (w.heap.size + 1 + 1) v5 (h3 X) from by unfold h3; rw [HS.out]; exact hv5)
            have HK5 := Lib.hid (HK4.out.up hb5)
            clear hv5 hb5))
        | (go_at_call 20; with_reducible refine (number2 len _).mono ?_
           rintro e w6 ⟨v6, rfl, hv6, hb6⟩
           have HV6 := Lib.hid hv6
           have HK6 := Lib.hid (HK5.out.up (hb6.mono HK5.out.size))
           have HW6 := Lib.hid (HV5.out.below hb6)
           clear hv6 hb6)
        | ((refine step_app rfl (.tmp 52) (.tmp 55) rfl (w.heap.size + 1 + 1) v5 v6 (h3 X) (be 2 len) rfl rfl HW6.out HV6.out.is (by simp [be_length]) (by simp [be_length, h3_length]) HK6.out.size ?_
            intro v7 w7 hv7 hb7
            have HV7 := Lib.hid (show Own w7 (w.heap.size + 1 + 1) v7 (h4 X) from by unfold h4; rw [HL.out]; exact hv7)
            have HK7 := Lib.hid (HK6.out.up hb7)
            clear hv7 hb7))
        | (go_at_call 20; with_reducible refine (number4 sum _).mono ?_
           rintro e w8 ⟨v8, rfl, hv8, hb8⟩
           have HV8 := Lib.hid hv8
           have HK8 := Lib.hid (HK7.out.up (hb8.mono HK7.out.size))
           have HW8 := Lib.hid (HV7.out.below hb8)
           clear hv8 hb8)
        | ((refine step_app rfl (.tmp 56) (.tmp 60) rfl (w.heap.size + 1 + 1) v7 v8 (h4 X) (be 4 sum) rfl rfl HW8.out HV8.out.is (by simp [be_length]) (by simp [be_length, h4_length]) HK8.out.size ?_
            intro v9 w9 hv9 hb9
            have HV9 := Lib.hid (show Own w9 (w.heap.size + 1 + 1) v9 (h5 X) from by unfold h5; rw [HSU.out]; exact hv9)
            have HK9 := Lib.hid (HK8.out.up hb9)
            clear hv9 hb9))
        | fail)
    clear HV3b HV4 HK4 HW4 HV5 HK5 HV6 HK6 HW6 HV7 HK7 HV8 HK8 HW8 HK3 c3 c4 c5 hsz3 hws
    obtain ⟨g9, cap9, e9, _, _⟩ := HV9.out.form (by rw [h5_length]; omega)
    rw [h5_length] at e9
    subst e9
    have hsz9 := HK9.out.size
    have HI := Lib.hid size28
    go_wp2_with (first
      | (at_builtin; refine arm_zeros rfl (.tmp 62) (.tmp 65) rfl (w.heap.size + 1 + 1) _ (h5 X) 10 rfl rfl HV9.out (by rw [h5_length]; omega) (by omega) (by omega) (by rw [h5_length]; omega) hsz9 ?_
         intro v10 w10 hv10 hb10
         obtain ⟨g10, cap10, e10, _, _⟩ := hv10.form (by simp [h5_length])
         rw [List.length_append, h5_length, List.length_replicate] at e10
         have HV10 := Lib.hid (show Own w10 (w.heap.size + 1 + 1) v10 (head X) from hv10)
         subst e10
         have HK10 := Lib.hid (HK9.out.up hb10)
         clear hv10 hb10)
      | (with_reducible refine at_op (.load 28 (.tmp 2)) ?_; refine wpList_load_row rfl 28 (.tmp 2) rfl w.heap.size rfl 28 (tabCells tab) (0, 0) _ HK10.out.tb Try.underlying28 rfl HI.out ?_)
      | (go_at_call 21; refine (of_own HV10.out).mono ?_
         rintro e w11 ⟨rfl, hb11⟩
         have HV11 := Lib.hid (HV10.out.below hb11)
         have HK11 := Lib.hid (HK10.out.up (hb11.mono HK10.out.size))
         clear hb11)
      | (go_at_call 20; with_reducible refine (number4 (crcOn 0 (head X)) _).mono ?_
         rintro e w12 ⟨v12, rfl, hv12, hb12⟩
         have HV12 := Lib.hid (And.intro (HV11.out.below hb12) hv12)
         have HK12 := Lib.hid (HK11.out.up (hb12.mono HK11.out.size))
         clear hv12 hb12)
      | (at_builtin; refine arm_append rfl (.tmp 67) (.tmp 72) rfl (w.heap.size + 1 + 1) _ v12 (head X) (be 4 (crcOn 0 (head X))) rfl rfl HV12.out.1 HV12.out.2.is (by simp [be_length]) (by simp [be_length, head_length]) HK12.out.size ?_
         intro v13 w13 hv13 hb13
         have HZ := Lib.hid (And.intro (hv13.mono (show w.heap.size ≤ w.heap.size + 1 + 1 by omega)) (HK12.out.up hb13).all)
         clear hv13 hb13)
      | fail)
    go_ret2
    exact ⟨v13, rfl, by rw [← HX.out]; exact HZ.out.1, HZ.out.2⟩
  · have kc := wain_conv ((w.alloc (.cells (tabCells tab) 28)).alloc (.cells #[.int .i64 (gen : Int), .int .i64 (d : Int), .bool true, .int .i64 (start : Int), .int .i64 (len : Int), .int .u32 (sum : Int)] 24)) (w.heap.size + 1 + 1) (by simp)
    go_enter Try.func9, Try.ntmps9
    go_wp2_with (first
      | (go_at_call 19; (first | with_reducible refine (within_walk gen 4294967295 _ H1.out _).mono ?_ | with_reducible refine (within_walk d 3 _ H2.out _).mono ?_ | with_reducible refine (within_walk start 65535 _ H3.out _).mono ?_ | with_reducible refine (within_walk len 65535 _ H4.out _).mono ?_); rintro e w' ⟨rfl, rfl⟩)
      | (go_at_call 20; with_reducible refine (number4 gen _).mono ?_
         rintro e w1 ⟨v1, rfl, hv1, hb1⟩
         have HW1 := Lib.hid (wain_bytes _ w1 (w.heap.size + 1 + 1) (by simp) hb1)
         have HK1 := Lib.hid ((HBX.out.up ((Below.refl _ _).alloc (by simp) _)).up (hb1.mono (by simp)))
         have HV1 := Lib.hid hv1
         clear hb1 hv1)
      | (at_builtin; refine arm_grow rfl (.tmp 30) (.tmp 33) rfl ⟨w.heap.size + 1 + 1, 0, none⟩ v1 [87, 65, 73, 78] (be 4 gen) rfl rfl HW1.out (by simp) HV1.out.is (by simp [be_length]) (by simp [be_length]) ?_
         intro v2 w2 hv2 hb2
         have HV2 := Lib.hid (show Own w2 (w.heap.size + 1 + 1) v2 (h1 X) from by rw [HX.out]; exact hv2.mono HK1.out.size)
         have HK2 := Lib.hid (HK1.out.up (hb2.mono HK1.out.size))
         have hsz2 := HK2.out.size
         have hcs := HK2.out.cells
         rw [HX.out] at hcs
         obtain ⟨c0, c1, c2, c3, c4, c5⟩ := hcs
         clear hb2 hv2 HV1 HW1 HK1)
      | (at_builtin; refine arm_append rfl (.tmp 35) (.tmp 39) rfl (w.heap.size + 1 + 1) v2 _ (h1 X) [d, 0] rfl rfl (HV2.out.below (below_alloc _ _)) (bytes2 w2 _ d 0 rfl (by omega) (by omega)) (by simp) (by rw [h1_length]; simp) (by simp; omega) ?_
         intro v3 w3 hv3 hb3
         obtain ⟨g3, cap3, e3, _, _⟩ := hv3.form (by simp)
         rw [show (h1 X ++ [d, 0]).length = 10 by simp [h1_length]] at e3
         subst e3
         obtain ⟨f3, k3, o3, b3⟩ := Own.set (l := h1 X ++ [d, 0]) (by rw [show (h1 X ++ [d, 0]).length = 10 by simp [h1_length]]; exact hv3) 9 1 (by simp [h1_length]) (by omega)
         obtain ⟨k3v, k3⟩ := Option.isSome_iff_exists.1 k3
         rw [show (h1 X ++ [d, 0]).length = 10 by simp [h1_length], show (h1 X ++ [d, 0]).set 9 1 = h1 X ++ [d, 1] by rw [List.set_append_right _ _ (by rw [h1_length]; omega), h1_length]; rfl] at o3
         have HO3 := Lib.hid (And.intro o3 b3)
         have HV3 := Lib.hid (show Own w3 (w.heap.size + 1 + 1) _ (h1 X ++ [d, 0]) from hv3)
         clear o3 b3
         have HK3 := Lib.hid ((HK2.out.up ((Below.refl _ _).alloc hsz2 _)).up hb3)
         clear c0 c1 c2 c3 c4 c5 hsz2
         have hsz3 := HK3.out.size
         have hcs := HK3.out.cells
         rw [HX.out] at hcs
         obtain ⟨c0, c1, c2, c3, c4, c5⟩ := hcs
         clear hb3 hv3 HV2 HK2)
      | fail)
    have HV3b := Lib.hid (show Own (w3.setCell ⟨g3, 9, none⟩ (.int .u8 1)) (w.heap.size + 1 + 1) _ (h2 X) from by unfold h2; rw [HX.out]; have := HO3.out.1; rw [HX.out] at this; exact this)
    have HK3 := Lib.hid (HK3.out.up HO3.out.2)
    have hcs := HK3.out.cells
    rw [HX.out] at hcs
    clear c0 c1 c2 c3 c4 c5 hsz3 f3 k3
    clear HO3
    obtain ⟨c0, c1, c2, c3, c4, c5⟩ := hcs
    have hsz3 := HK3.out.size
    have HS := Lib.hid (show X.start = (start : Int) by rw [HX.out])
    have HL := Lib.hid (show X.len = (len : Int) by rw [HX.out])
    have HSU := Lib.hid (show X.sum = sum by rw [HX.out])
    clear HV3 c0 c1 c2
    generalize (w3.setCell ⟨g3, 9, none⟩ (.int .u8 1)) = w3 at *
    have hws : IntKind.i64.wrap (sum : Int) = (sum : Int) := IntWalk.i64_in _ (by omega)
    go_region_held3 (fun w' => w'.cell? ⟨w.heap.size + 1, 3, none⟩ = some (.int .i64 (start : Int)) ∧ w'.cell? ⟨w.heap.size + 1, 4, none⟩ = some (.int .i64 (len : Int)) ∧ w'.cell? ⟨w.heap.size + 1, 5, none⟩ = some (.int .u32 (sum : Int)))
      (first | (have h3 := HK9.out.three HS.out HL.out; rw [HSU.out] at h3; exact h3) | (have h3 := HK8.out.three HS.out HL.out; rw [HSU.out] at h3; exact h3) | (have h3 := HK7.out.three HS.out HL.out; rw [HSU.out] at h3; exact h3) | (have h3 := HK6.out.three HS.out HL.out; rw [HSU.out] at h3; exact h3) | (have h3 := HK5.out.three HS.out HL.out; rw [HSU.out] at h3; exact h3) | (have h3 := HK4.out.three HS.out HL.out; rw [HSU.out] at h3; exact h3) | (have h3 := HK3.out.drew.three HS.out HL.out; rw [HSU.out] at h3; exact h3) | fail)
      (first
        | (go_at_call 20; with_reducible refine (number2 start _).mono ?_
           rintro e w4 ⟨v4, rfl, hv4, hb4⟩
           have HV4 := Lib.hid hv4
           have HK4 := Lib.hid (HK3.out.drew.up (hb4.mono HK3.out.drew.size))
           have HW4 := Lib.hid (HV3b.out.drew.below hb4)
           clear hv4 hb4)
        | ((refine step_app rfl (.tmp 48) (.tmp 51) rfl (w.heap.size + 1 + 1) _ v4 (h2 X) (be 2 start) rfl rfl HW4.out HV4.out.is (by simp [be_length]) (by simp [be_length, h2_length]) HK4.out.size ?_
            intro v5 w5 hv5 hb5
            have HV5 := Lib.hid (show Own w5 (w.heap.size + 1 + 1) v5 (h3 X) from by unfold h3; rw [HS.out]; exact hv5)
            have HK5 := Lib.hid (HK4.out.up hb5)
            clear hv5 hb5))
        | (go_at_call 20; with_reducible refine (number2 len _).mono ?_
           rintro e w6 ⟨v6, rfl, hv6, hb6⟩
           have HV6 := Lib.hid hv6
           have HK6 := Lib.hid (HK5.out.up (hb6.mono HK5.out.size))
           have HW6 := Lib.hid (HV5.out.below hb6)
           clear hv6 hb6)
        | ((refine step_app rfl (.tmp 52) (.tmp 55) rfl (w.heap.size + 1 + 1) v5 v6 (h3 X) (be 2 len) rfl rfl HW6.out HV6.out.is (by simp [be_length]) (by simp [be_length, h3_length]) HK6.out.size ?_
            intro v7 w7 hv7 hb7
            have HV7 := Lib.hid (show Own w7 (w.heap.size + 1 + 1) v7 (h4 X) from by unfold h4; rw [HL.out]; exact hv7)
            have HK7 := Lib.hid (HK6.out.up hb7)
            clear hv7 hb7))
        | (go_at_call 20; with_reducible refine (number4 sum _).mono ?_
           rintro e w8 ⟨v8, rfl, hv8, hb8⟩
           have HV8 := Lib.hid hv8
           have HK8 := Lib.hid (HK7.out.up (hb8.mono HK7.out.size))
           have HW8 := Lib.hid (HV7.out.below hb8)
           clear hv8 hb8)
        | ((refine step_app rfl (.tmp 56) (.tmp 60) rfl (w.heap.size + 1 + 1) v7 v8 (h4 X) (be 4 sum) rfl rfl HW8.out HV8.out.is (by simp [be_length]) (by simp [be_length, h4_length]) HK8.out.size ?_
            intro v9 w9 hv9 hb9
            have HV9 := Lib.hid (show Own w9 (w.heap.size + 1 + 1) v9 (h5 X) from by unfold h5; rw [HSU.out]; exact hv9)
            have HK9 := Lib.hid (HK8.out.up hb9)
            clear hv9 hb9))
        | fail)
    clear HV3b HV4 HK4 HW4 HV5 HK5 HV6 HK6 HW6 HV7 HK7 HV8 HK8 HW8 HK3 c3 c4 c5 hsz3 hws
    obtain ⟨g9, cap9, e9, _, _⟩ := HV9.out.form (by rw [h5_length]; omega)
    rw [h5_length] at e9
    subst e9
    have hsz9 := HK9.out.size
    have HI := Lib.hid size28
    go_wp2_with (first
      | (at_builtin; refine arm_zeros rfl (.tmp 62) (.tmp 65) rfl (w.heap.size + 1 + 1) _ (h5 X) 10 rfl rfl HV9.out (by rw [h5_length]; omega) (by omega) (by omega) (by rw [h5_length]; omega) hsz9 ?_
         intro v10 w10 hv10 hb10
         obtain ⟨g10, cap10, e10, _, _⟩ := hv10.form (by simp [h5_length])
         rw [List.length_append, h5_length, List.length_replicate] at e10
         have HV10 := Lib.hid (show Own w10 (w.heap.size + 1 + 1) v10 (head X) from hv10)
         subst e10
         have HK10 := Lib.hid (HK9.out.up hb10)
         clear hv10 hb10)
      | (with_reducible refine at_op (.load 28 (.tmp 2)) ?_; refine wpList_load_row rfl 28 (.tmp 2) rfl w.heap.size rfl 28 (tabCells tab) (0, 0) _ HK10.out.tb Try.underlying28 rfl HI.out ?_)
      | (go_at_call 21; refine (of_own HV10.out).mono ?_
         rintro e w11 ⟨rfl, hb11⟩
         have HV11 := Lib.hid (HV10.out.below hb11)
         have HK11 := Lib.hid (HK10.out.up (hb11.mono HK10.out.size))
         clear hb11)
      | (go_at_call 20; with_reducible refine (number4 (crcOn 0 (head X)) _).mono ?_
         rintro e w12 ⟨v12, rfl, hv12, hb12⟩
         have HV12 := Lib.hid (And.intro (HV11.out.below hb12) hv12)
         have HK12 := Lib.hid (HK11.out.up (hb12.mono HK11.out.size))
         clear hv12 hb12)
      | (at_builtin; refine arm_append rfl (.tmp 67) (.tmp 72) rfl (w.heap.size + 1 + 1) _ v12 (head X) (be 4 (crcOn 0 (head X))) rfl rfl HV12.out.1 HV12.out.2.is (by simp [be_length]) (by simp [be_length, head_length]) HK12.out.size ?_
         intro v13 w13 hv13 hb13
         have HZ := Lib.hid (And.intro (hv13.mono (show w.heap.size ≤ w.heap.size + 1 + 1 by omega)) (HK12.out.up hb13).all)
         clear hv13 hb13)
      | fail)
    go_ret2
    exact ⟨v13, rfl, by rw [← HX.out]; exact HZ.out.1, HZ.out.2⟩
end Go.Proofs.Ytccdciokokcomaa
