/- A block's bytes as the reference has them: Head. -/
import Derived.Test.YtccdciokokcomaaEnc
import Derived.Test.YtccdciokokcomaaWRef
namespace Go.Proofs.Ytccdciokokcomaa
open Go.RowKit

/-- what lies there while a block's bytes are made -/
structure BoxR (w0 : World) (x : Blk) (t : TypeId) (w : World) : Prop where
  below : Below (w0.heap.size + 1) (w0.alloc (.cells x.cells t)) w
theorem BoxR.start (w0 : World) (x : Blk) (t : TypeId) : BoxR w0 x t (w0.alloc (.cells x.cells t)) := ⟨Below.refl _ _⟩
theorem BoxR.up {w0 w w' : World} {x : Blk} {t : TypeId} (h : BoxR w0 x t w) (hb : Below (w0.heap.size + 1) w w') : BoxR w0 x t w' := ⟨h.below.trans hb⟩
theorem BoxR.size {w0 w : World} {x : Blk} {t : TypeId} (h : BoxR w0 x t w) : w0.heap.size + 1 ≤ w.heap.size := by have := h.below.size; simpa using this
theorem BoxR.row {w0 w : World} {x : Blk} {t : TypeId} (h : BoxR w0 x t w) : w.heap[w0.heap.size]? = some (.cells x.cells t (0, 0)) := by
  rw [h.below.block _ (by omega)]
  exact heap_alloc_new w0 (.cells x.cells t)
theorem BoxR.cells {w0 w : World} {x : Blk} {t : TypeId} (h : BoxR w0 x t w) : w.cell? ⟨w0.heap.size, 0, none⟩ = some (.int .i64 x.gen) ∧ w.cell? ⟨w0.heap.size, 1, none⟩ = some (.int .i64 x.d) ∧ w.cell? ⟨w0.heap.size, 2, none⟩ = some (.bool x.wrap) ∧
    w.cell? ⟨w0.heap.size, 3, none⟩ = some (.int .i64 x.start) ∧ w.cell? ⟨w0.heap.size, 4, none⟩ = some (.int .i64 x.len) ∧ w.cell? ⟨w0.heap.size, 5, none⟩ = some (.int .u32 x.sum) := by
  have hr := h.row
  refine ⟨?_, ?_, ?_, ?_, ?_, ?_⟩ <;> (rw [cell_of_row _ _ _ _ _ _ hr]; rfl)
theorem BoxR.all {w0 w : World} {x : Blk} {t : TypeId} (h : BoxR w0 x t w) : Below w0.heap.size w0 w :=
  (below_alloc w0 (.cells x.cells t)).trans (h.below.mono (by omega))
theorem BoxR.drew {w0 w : World} {x : Blk} {t : TypeId} (h : BoxR w0 x t w) : BoxR w0 x t w.drew := h.up ⟨rfl, rfl, rfl, Nat.le_refl _, fun _ _ => rfl⟩
theorem BoxR.three {w0 w : World} {x : Blk} {t : TypeId} (h : BoxR w0 x t w) {start len : Nat} (h1 : x.start = (start : Int)) (h2 : x.len = (len : Int)) : w.cell? ⟨w0.heap.size, 3, none⟩ = some (.int .i64 (start : Int)) ∧ w.cell? ⟨w0.heap.size, 4, none⟩ = some (.int .i64 (len : Int)) ∧ w.cell? ⟨w0.heap.size, 5, none⟩ = some (.int .u32 (x.sum : Int)) := by
  have hc := h.cells
  rw [h1, h2] at hc
  exact hc.2.2.2
theorem big2 (n : Nat) (w : World) : Calls Try.prog 23 #[.int .i64 (n : Int), .int .i64 2] w fun e w' => Made w (be 2 n) e w' := big_walk n 2 (.inl rfl) w
theorem big4 (n : Nat) (w : World) : Calls Try.prog 23 #[.int .i64 (n : Int), .int .i64 4] w fun e w' => Made w (be 4 n) e w' := big_walk n 4 (.inr rfl) w
theorem crc_own {w : World} {B g cap : Nat} {l : List Nat} (h : Own w B (.slice (some ⟨g, 0, none⟩) 28 cap) l) (hl : l.length = 28 := by simp [head_length]) :
    Calls Try.prog 8 #[.slice (some ⟨g, 0, none⟩) 28 cap] w fun e w' => e = .returned (.int .u32 (crcOn 0 l : Nat)) ∧ Below w.heap.size w w' := by
  obtain ⟨A, cap', e, _, hb, _⟩ := h.bytes
  simp only [Value.slice.injEq] at e
  obtain ⟨rfl, _, rfl⟩ := e
  exact (Crc_walk _ 28 cap w.heap.size l hl w hb (by omega)).mono fun e w' ⟨he, hw⟩ => ⟨by rw [on_same_ref]; exact he, hw ▸ Below.refl _ _⟩
/-- a row of bytes and yes -/
def MadeB (w : World) (l : List Nat) (e : Ending) (w' : World) : Prop := ∃ v, e = .returned (.tuple #[v, .bool true]) ∧ Own w' w.heap.size v l ∧ Below w.heap.size w w'
theorem within8_walk (n m : Int) (c : Bool) (hc : decide (0 ≤ n ∧ n ≤ m) = c) (w : World) :
    Calls Try.prog 22 #[.int .i64 n, .int .i64 0, .int .i64 m] w fun e w' => e = .returned (.bool c) ∧ w = w' := by
  by_cases h0 : 0 ≤ n
  · by_cases h1 : n ≤ m
    · obtain rfl : true = c := by rw [← hc]; simp [h0, h1]
      clear hc
      go_enter Try.func22, Try.ntmps22
      go_wp2
      go_ret
      exact ⟨rfl, rfl⟩
    · obtain rfl : false = c := by rw [← hc]; simp [h1]
      clear hc
      go_enter Try.func22, Try.ntmps22
      go_wp2
      go_ret
      exact ⟨rfl, rfl⟩
  · obtain rfl : false = c := by rw [← hc]; simp [h0]
    clear hc
    go_enter Try.func22, Try.ntmps22
    go_wp2
    go_ret
    exact ⟨rfl, rfl⟩
set_option maxRecDepth 100000 in
theorem head_no (x : Blk) (h : okB x = false) (w : World) :
    Calls Try.prog 10 #[.agg x.cells] w fun e w' => e = .returned (.tuple #[.slice none 0 0, .bool false]) ∧ Below w.heap.size w w' := by
  have hb := below_alloc w (.cells x.cells 37)
  obtain ⟨gen, d, wrap, start, len, sum⟩ := x
  simp only [Blk.cells] at hb ⊢
  have HB := Lib.hid hb
  have hn := Blk.okNo _ h
  simp only at hn
  clear hb h
  rcases hn with h1 | ⟨h1, h2 | ⟨h2, h3 | ⟨h3, h4⟩⟩⟩
  · have H1 := Lib.hid h1
    clear h1
    go_enter Try.func10, Try.ntmps10
    go_wp2_with (go_at_call 22; refine (within8_walk gen 4294967295 _ H1.out _).mono ?_; rintro e w' ⟨rfl, rfl⟩)
    go_ret2
    exact ⟨rfl, HB.out⟩
  · have H1 := Lib.hid h1
    have H2 := Lib.hid h2
    clear h1 h2
    go_enter Try.func10, Try.ntmps10
    go_wp2_with (go_at_call 22; (first | with_reducible refine (within8_walk gen 4294967295 _ H1.out _).mono ?_ | with_reducible refine (within8_walk d 3 _ H2.out _).mono ?_); rintro e w' ⟨rfl, rfl⟩)
    go_ret2
    exact ⟨rfl, HB.out⟩
  · have H1 := Lib.hid h1
    have H2 := Lib.hid h2
    have H3 := Lib.hid h3
    clear h1 h2 h3
    go_enter Try.func10, Try.ntmps10
    go_wp2_with (go_at_call 22; (first | with_reducible refine (within8_walk gen 4294967295 _ H1.out _).mono ?_ | with_reducible refine (within8_walk d 3 _ H2.out _).mono ?_ | with_reducible refine (within8_walk start 65535 _ H3.out _).mono ?_); rintro e w' ⟨rfl, rfl⟩)
    go_ret2
    exact ⟨rfl, HB.out⟩
  · have H1 := Lib.hid h1
    have H2 := Lib.hid h2
    have H3 := Lib.hid h3
    have H4 := Lib.hid h4
    clear h1 h2 h3 h4
    go_enter Try.func10, Try.ntmps10
    go_wp2_with (go_at_call 22; (first | with_reducible refine (within8_walk gen 4294967295 _ H1.out _).mono ?_ | with_reducible refine (within8_walk d 3 _ H2.out _).mono ?_ | with_reducible refine (within8_walk start 65535 _ H3.out _).mono ?_ | with_reducible refine (within8_walk len 65535 _ H4.out _).mono ?_); rintro e w' ⟨rfl, rfl⟩)
    go_ret2
    exact ⟨rfl, HB.out⟩
set_option maxRecDepth 100000 in
set_option maxHeartbeats 4000000 in
theorem head_yes (x : Blk) (h : okB x = true) (hs : x.sum < 4294967296) (w : World) :
    Calls Try.prog 10 #[.agg x.cells] w fun e w' => MadeB w (enc x) e w' := by
  have h0 := (okB_iff x).1 h
  have hbx := BoxR.start w x 37
  obtain ⟨gen, d, wrap, start, len, sum⟩ := x
  simp only at h0 hs
  obtain ⟨⟨g1, g2⟩, ⟨d1, d2⟩, ⟨s1, s2⟩, l1, l2⟩ := h0
  obtain ⟨gen, rfl⟩ := Int.eq_ofNat_of_zero_le g1
  obtain ⟨d, rfl⟩ := Int.eq_ofNat_of_zero_le d1
  obtain ⟨start, rfl⟩ := Int.eq_ofNat_of_zero_le s1
  obtain ⟨len, rfl⟩ := Int.eq_ofNat_of_zero_le l1
  obtain ⟨X, hX⟩ : ∃ X : Blk, X = ⟨(gen : Int), (d : Int), wrap, (start : Int), (len : Int), sum⟩ := ⟨_, rfl⟩
  have HBX := Lib.hid (show BoxR w X 37 (w.alloc (.cells #[.int .i64 (gen : Int), .int .i64 (d : Int), .bool wrap, .int .i64 (start : Int), .int .i64 (len : Int), .int .u32 (sum : Int)] 37)) by rw [hX]; exact hbx)
  rw [← hX] at h
  have HOK := Lib.hid h
  have HX := Lib.hid hX
  have hsi : (sum : Int) < 4294967296 := by omega
  have hci : ((crcOn 0 (head X) : Nat) : Int) < 4294967296 := by have := crc_lt _ (head_byte X HOK.out); omega
  have H1 := Lib.hid (show decide (0 ≤ (gen : Int) ∧ (gen : Int) ≤ 4294967295) = true by simp; omega)
  have H2 := Lib.hid (show decide (0 ≤ (d : Int) ∧ (d : Int) ≤ 3) = true by simp; omega)
  have H3 := Lib.hid (show decide (0 ≤ (start : Int) ∧ (start : Int) ≤ 65535) = true by simp; omega)
  have H4 := Lib.hid (show decide (0 ≤ (len : Int) ∧ (len : Int) ≤ 65535) = true by simp; omega)
  simp only [Blk.cells]
  clear hbx h hX g1 d1 s1 l1
  cases wrap
  · have kc := wain_conv (w.alloc (.cells #[.int .i64 (gen : Int), .int .i64 (d : Int), .bool false, .int .i64 (start : Int), .int .i64 (len : Int), .int .u32 (sum : Int)] 37)) (w.heap.size + 1) (by simp)
    go_enter Try.func10, Try.ntmps10
    go_wp2_with (first
      | (go_at_call 22; (first | with_reducible refine (within8_walk gen 4294967295 _ H1.out _).mono ?_ | with_reducible refine (within8_walk d 3 _ H2.out _).mono ?_ | with_reducible refine (within8_walk start 65535 _ H3.out _).mono ?_ | with_reducible refine (within8_walk len 65535 _ H4.out _).mono ?_); rintro e w' ⟨rfl, rfl⟩)
      | (go_at_call 23; with_reducible refine (big4 gen _).mono ?_
         rintro e w1 ⟨v1, rfl, hv1, hb1⟩
         have HW1 := Lib.hid (wain_bytes _ w1 (w.heap.size + 1) (by simp) hb1)
         have HK1 := Lib.hid ((HBX.out.up ((Below.refl _ _).alloc (by simp) _)).up (hb1.mono (by simp)))
         have HV1 := Lib.hid hv1
         clear hb1 hv1)
      | (at_builtin; refine arm_grow rfl (.tmp 29) (.tmp 32) rfl ⟨w.heap.size + 1, 0, none⟩ v1 [87, 65, 73, 78] (be 4 gen) rfl rfl HW1.out (by simp) HV1.out.is (by simp [be_length]) (by simp [be_length]) ?_
         intro v2 w2 hv2 hb2
         have HV2 := Lib.hid (show Own w2 (w.heap.size + 1) v2 (h1 X) from by rw [HX.out]; exact hv2.mono HK1.out.size)
         have HK2 := Lib.hid (HK1.out.up (hb2.mono HK1.out.size))
         have hsz2 := HK2.out.size
         have hcs := HK2.out.cells
         rw [HX.out] at hcs
         obtain ⟨c0, c1, c2, c3, c4, c5⟩ := hcs
         clear hb2 hv2 HV1 HW1 HK1)
      | (at_builtin; refine arm_append rfl (.tmp 36) (.tmp 41) rfl (w.heap.size + 1) v2 _ (h1 X) [d, 0] rfl rfl (HV2.out.below (below_alloc _ _)) (bytes2 w2 _ d 0 rfl (by omega) (by omega)) (by simp) (by rw [h1_length]; simp) (by simp; omega) ?_
         intro v3 w3 hv3 hb3
         have HV3 := Lib.hid (show Own w3 (w.heap.size + 1) _ (h1 X ++ [d, 0]) from hv3)
         have HK3 := Lib.hid ((HK2.out.up ((Below.refl _ _).alloc hsz2 _)).up hb3)
         clear c0 c1 c2 c3 c4 c5 hsz2
         have hsz3 := HK3.out.size
         have hcs := HK3.out.cells
         rw [HX.out] at hcs
         obtain ⟨c0, c1, c2, c3, c4, c5⟩ := hcs
         clear hb3 hv3 HV2 HK2)
      | fail)
    have HV3b := Lib.hid (show Own w3 (w.heap.size + 1) _ (h2 X) from by unfold h2; rw [HX.out]; have := HV3.out; rw [HX.out] at this; exact this)
    have HS := Lib.hid (show X.start = (start : Int) by rw [HX.out])
    have HL := Lib.hid (show X.len = (len : Int) by rw [HX.out])
    have HSU := Lib.hid (show X.sum = sum by rw [HX.out])
    clear HV3 c0 c1 c2
    have hws : IntKind.i64.wrap (sum : Int) = (sum : Int) := IntWalk.i64_in _ (by omega)
    go_region_held3 (fun w' => w'.cell? ⟨w.heap.size, 3, none⟩ = some (.int .i64 (start : Int)) ∧ w'.cell? ⟨w.heap.size, 4, none⟩ = some (.int .i64 (len : Int)) ∧ w'.cell? ⟨w.heap.size, 5, none⟩ = some (.int .u32 (sum : Int)))
      (first | (have h3 := HK9.out.three HS.out HL.out; rw [HSU.out] at h3; exact h3) | (have h3 := HK8.out.three HS.out HL.out; rw [HSU.out] at h3; exact h3) | (have h3 := HK7.out.three HS.out HL.out; rw [HSU.out] at h3; exact h3) | (have h3 := HK6.out.three HS.out HL.out; rw [HSU.out] at h3; exact h3) | (have h3 := HK5.out.three HS.out HL.out; rw [HSU.out] at h3; exact h3) | (have h3 := HK4.out.three HS.out HL.out; rw [HSU.out] at h3; exact h3) | (have h3 := HK3.out.drew.three HS.out HL.out; rw [HSU.out] at h3; exact h3) | fail)
      (first
        | (go_at_call 23; with_reducible refine (big2 start _).mono ?_
           rintro e w4 ⟨v4, rfl, hv4, hb4⟩
           have HV4 := Lib.hid hv4
           have HK4 := Lib.hid (HK3.out.drew.up (hb4.mono HK3.out.drew.size))
           have HW4 := Lib.hid (HV3b.out.drew.below hb4)
           clear hv4 hb4)
        | ((refine step_app rfl (.tmp 43) (.tmp 46) rfl (w.heap.size + 1) v3 v4 (h2 X) (be 2 start) rfl rfl HW4.out HV4.out.is (by simp [be_length]) (by simp [be_length, h2_length]) HK4.out.size ?_
            intro v5 w5 hv5 hb5
            have HV5 := Lib.hid (show Own w5 (w.heap.size + 1) v5 (h3 X) from by unfold h3; rw [HS.out]; exact hv5)
            have HK5 := Lib.hid (HK4.out.up hb5)
            clear hv5 hb5))
        | (go_at_call 23; with_reducible refine (big2 len _).mono ?_
           rintro e w6 ⟨v6, rfl, hv6, hb6⟩
           have HV6 := Lib.hid hv6
           have HK6 := Lib.hid (HK5.out.up (hb6.mono HK5.out.size))
           have HW6 := Lib.hid (HV5.out.below hb6)
           clear hv6 hb6)
        | ((refine step_app rfl (.tmp 47) (.tmp 50) rfl (w.heap.size + 1) v5 v6 (h3 X) (be 2 len) rfl rfl HW6.out HV6.out.is (by simp [be_length]) (by simp [be_length, h3_length]) HK6.out.size ?_
            intro v7 w7 hv7 hb7
            have HV7 := Lib.hid (show Own w7 (w.heap.size + 1) v7 (h4 X) from by unfold h4; rw [HL.out]; exact hv7)
            have HK7 := Lib.hid (HK6.out.up hb7)
            clear hv7 hb7))
        | (go_at_call 23; with_reducible refine (big4 sum _).mono ?_
           rintro e w8 ⟨v8, rfl, hv8, hb8⟩
           have HV8 := Lib.hid hv8
           have HK8 := Lib.hid (HK7.out.up (hb8.mono HK7.out.size))
           have HW8 := Lib.hid (HV7.out.below hb8)
           clear hv8 hb8)
        | ((refine step_app rfl (.tmp 51) (.tmp 55) rfl (w.heap.size + 1) v7 v8 (h4 X) (be 4 sum) rfl rfl HW8.out HV8.out.is (by simp [be_length]) (by simp [be_length, h4_length]) HK8.out.size ?_
            intro v9 w9 hv9 hb9
            have HV9 := Lib.hid (show Own w9 (w.heap.size + 1) v9 (h5 X) from by unfold h5; rw [HSU.out]; exact hv9)
            have HK9 := Lib.hid (HK8.out.up hb9)
            clear hv9 hb9))
        | fail)
    clear HV3b HV4 HK4 HW4 HV5 HK5 HV6 HK6 HW6 HV7 HK7 HV8 HK8 HW8 HK3 c3 c4 c5 hsz3 hws
    obtain ⟨g9, cap9, e9, _, _⟩ := HV9.out.form (by rw [h5_length]; omega)
    rw [h5_length] at e9
    subst e9
    have hsz9 := HK9.out.size
    go_wp2_with (first
      | (at_builtin; refine arm_zeros rfl (.tmp 57) (.const (.int .i64 10)) rfl (w.heap.size + 1) _ (h5 X) 10 rfl rfl HV9.out (by rw [h5_length]; omega) (by omega) (by omega) (by rw [h5_length]; omega) hsz9 ?_
         intro v10 w10 hv10 hb10
         obtain ⟨g10, cap10, e10, _, _⟩ := hv10.form (by simp [h5_length])
         rw [List.length_append, h5_length, List.length_replicate] at e10
         have HV10 := Lib.hid (show Own w10 (w.heap.size + 1) v10 (head X) from hv10)
         subst e10
         have HK10 := Lib.hid (HK9.out.up hb10)
         clear hv10 hb10)
      | (go_at_call 8; refine (crc_own HV10.out).mono ?_
         rintro e w11 ⟨rfl, hb11⟩
         have HV11 := Lib.hid (HV10.out.below hb11)
         have HK11 := Lib.hid (HK10.out.up (hb11.mono HK10.out.size))
         clear hb11)
      | (go_at_call 23; with_reducible refine (big4 (crcOn 0 (head X)) _).mono ?_
         rintro e w12 ⟨v12, rfl, hv12, hb12⟩
         have HV12 := Lib.hid (And.intro (HV11.out.below hb12) hv12)
         have HK12 := Lib.hid (HK11.out.up (hb12.mono HK11.out.size))
         clear hv12 hb12)
      | (at_builtin; refine arm_append rfl (.tmp 59) (.tmp 63) rfl (w.heap.size + 1) _ v12 (head X) (be 4 (crcOn 0 (head X))) rfl rfl HV12.out.1 HV12.out.2.is (by simp [be_length]) (by simp [be_length, head_length]) HK12.out.size ?_
         intro v13 w13 hv13 hb13
         have HZ := Lib.hid (And.intro (hv13.mono (show w.heap.size ≤ w.heap.size + 1 by omega)) (HK12.out.up hb13).all)
         clear hv13 hb13)
      | fail)
    go_ret2
    exact ⟨v13, rfl, by rw [← HX.out]; exact HZ.out.1, HZ.out.2⟩
  · have kc := wain_conv (w.alloc (.cells #[.int .i64 (gen : Int), .int .i64 (d : Int), .bool true, .int .i64 (start : Int), .int .i64 (len : Int), .int .u32 (sum : Int)] 37)) (w.heap.size + 1) (by simp)
    go_enter Try.func10, Try.ntmps10
    go_wp2_with (first
      | (go_at_call 22; (first | with_reducible refine (within8_walk gen 4294967295 _ H1.out _).mono ?_ | with_reducible refine (within8_walk d 3 _ H2.out _).mono ?_ | with_reducible refine (within8_walk start 65535 _ H3.out _).mono ?_ | with_reducible refine (within8_walk len 65535 _ H4.out _).mono ?_); rintro e w' ⟨rfl, rfl⟩)
      | (go_at_call 23; with_reducible refine (big4 gen _).mono ?_
         rintro e w1 ⟨v1, rfl, hv1, hb1⟩
         have HW1 := Lib.hid (wain_bytes _ w1 (w.heap.size + 1) (by simp) hb1)
         have HK1 := Lib.hid ((HBX.out.up ((Below.refl _ _).alloc (by simp) _)).up (hb1.mono (by simp)))
         have HV1 := Lib.hid hv1
         clear hb1 hv1)
      | (at_builtin; refine arm_grow rfl (.tmp 29) (.tmp 32) rfl ⟨w.heap.size + 1, 0, none⟩ v1 [87, 65, 73, 78] (be 4 gen) rfl rfl HW1.out (by simp) HV1.out.is (by simp [be_length]) (by simp [be_length]) ?_
         intro v2 w2 hv2 hb2
         have HV2 := Lib.hid (show Own w2 (w.heap.size + 1) v2 (h1 X) from by rw [HX.out]; exact hv2.mono HK1.out.size)
         have HK2 := Lib.hid (HK1.out.up (hb2.mono HK1.out.size))
         have hsz2 := HK2.out.size
         have hcs := HK2.out.cells
         rw [HX.out] at hcs
         obtain ⟨c0, c1, c2, c3, c4, c5⟩ := hcs
         clear hb2 hv2 HV1 HW1 HK1)
      | (at_builtin; refine arm_append rfl (.tmp 36) (.tmp 41) rfl (w.heap.size + 1) v2 _ (h1 X) [d, 1] rfl rfl (HV2.out.below (below_alloc _ _)) (bytes2 w2 _ d 1 rfl (by omega) (by omega)) (by simp) (by rw [h1_length]; simp) (by simp; omega) ?_
         intro v3 w3 hv3 hb3
         have HV3 := Lib.hid (show Own w3 (w.heap.size + 1) _ (h1 X ++ [d, 1]) from hv3)
         have HK3 := Lib.hid ((HK2.out.up ((Below.refl _ _).alloc hsz2 _)).up hb3)
         clear c0 c1 c2 c3 c4 c5 hsz2
         have hsz3 := HK3.out.size
         have hcs := HK3.out.cells
         rw [HX.out] at hcs
         obtain ⟨c0, c1, c2, c3, c4, c5⟩ := hcs
         clear hb3 hv3 HV2 HK2)
      | fail)
    have HV3b := Lib.hid (show Own w3 (w.heap.size + 1) _ (h2 X) from by unfold h2; rw [HX.out]; have := HV3.out; rw [HX.out] at this; exact this)
    have HS := Lib.hid (show X.start = (start : Int) by rw [HX.out])
    have HL := Lib.hid (show X.len = (len : Int) by rw [HX.out])
    have HSU := Lib.hid (show X.sum = sum by rw [HX.out])
    clear HV3 c0 c1 c2
    have hws : IntKind.i64.wrap (sum : Int) = (sum : Int) := IntWalk.i64_in _ (by omega)
    go_region_held3 (fun w' => w'.cell? ⟨w.heap.size, 3, none⟩ = some (.int .i64 (start : Int)) ∧ w'.cell? ⟨w.heap.size, 4, none⟩ = some (.int .i64 (len : Int)) ∧ w'.cell? ⟨w.heap.size, 5, none⟩ = some (.int .u32 (sum : Int)))
      (first | (have h3 := HK9.out.three HS.out HL.out; rw [HSU.out] at h3; exact h3) | (have h3 := HK8.out.three HS.out HL.out; rw [HSU.out] at h3; exact h3) | (have h3 := HK7.out.three HS.out HL.out; rw [HSU.out] at h3; exact h3) | (have h3 := HK6.out.three HS.out HL.out; rw [HSU.out] at h3; exact h3) | (have h3 := HK5.out.three HS.out HL.out; rw [HSU.out] at h3; exact h3) | (have h3 := HK4.out.three HS.out HL.out; rw [HSU.out] at h3; exact h3) | (have h3 := HK3.out.drew.three HS.out HL.out; rw [HSU.out] at h3; exact h3) | fail)
      (first
        | (go_at_call 23; with_reducible refine (big2 start _).mono ?_
           rintro e w4 ⟨v4, rfl, hv4, hb4⟩
           have HV4 := Lib.hid hv4
           have HK4 := Lib.hid (HK3.out.drew.up (hb4.mono HK3.out.drew.size))
           have HW4 := Lib.hid (HV3b.out.drew.below hb4)
           clear hv4 hb4)
        | ((refine step_app rfl (.tmp 43) (.tmp 46) rfl (w.heap.size + 1) v3 v4 (h2 X) (be 2 start) rfl rfl HW4.out HV4.out.is (by simp [be_length]) (by simp [be_length, h2_length]) HK4.out.size ?_
            intro v5 w5 hv5 hb5
            have HV5 := Lib.hid (show Own w5 (w.heap.size + 1) v5 (h3 X) from by unfold h3; rw [HS.out]; exact hv5)
            have HK5 := Lib.hid (HK4.out.up hb5)
            clear hv5 hb5))
        | (go_at_call 23; with_reducible refine (big2 len _).mono ?_
           rintro e w6 ⟨v6, rfl, hv6, hb6⟩
           have HV6 := Lib.hid hv6
           have HK6 := Lib.hid (HK5.out.up (hb6.mono HK5.out.size))
           have HW6 := Lib.hid (HV5.out.below hb6)
           clear hv6 hb6)
        | ((refine step_app rfl (.tmp 47) (.tmp 50) rfl (w.heap.size + 1) v5 v6 (h3 X) (be 2 len) rfl rfl HW6.out HV6.out.is (by simp [be_length]) (by simp [be_length, h3_length]) HK6.out.size ?_
            intro v7 w7 hv7 hb7
            have HV7 := Lib.hid (show Own w7 (w.heap.size + 1) v7 (h4 X) from by unfold h4; rw [HL.out]; exact hv7)
            have HK7 := Lib.hid (HK6.out.up hb7)
            clear hv7 hb7))
        | (go_at_call 23; with_reducible refine (big4 sum _).mono ?_
           rintro e w8 ⟨v8, rfl, hv8, hb8⟩
           have HV8 := Lib.hid hv8
           have HK8 := Lib.hid (HK7.out.up (hb8.mono HK7.out.size))
           have HW8 := Lib.hid (HV7.out.below hb8)
           clear hv8 hb8)
        | ((refine step_app rfl (.tmp 51) (.tmp 55) rfl (w.heap.size + 1) v7 v8 (h4 X) (be 4 sum) rfl rfl HW8.out HV8.out.is (by simp [be_length]) (by simp [be_length, h4_length]) HK8.out.size ?_
            intro v9 w9 hv9 hb9
            have HV9 := Lib.hid (show Own w9 (w.heap.size + 1) v9 (h5 X) from by unfold h5; rw [HSU.out]; exact hv9)
            have HK9 := Lib.hid (HK8.out.up hb9)
            clear hv9 hb9))
        | fail)
    clear HV3b HV4 HK4 HW4 HV5 HK5 HV6 HK6 HW6 HV7 HK7 HV8 HK8 HW8 HK3 c3 c4 c5 hsz3 hws
    obtain ⟨g9, cap9, e9, _, _⟩ := HV9.out.form (by rw [h5_length]; omega)
    rw [h5_length] at e9
    subst e9
    have hsz9 := HK9.out.size
    go_wp2_with (first
      | (at_builtin; refine arm_zeros rfl (.tmp 57) (.const (.int .i64 10)) rfl (w.heap.size + 1) _ (h5 X) 10 rfl rfl HV9.out (by rw [h5_length]; omega) (by omega) (by omega) (by rw [h5_length]; omega) hsz9 ?_
         intro v10 w10 hv10 hb10
         obtain ⟨g10, cap10, e10, _, _⟩ := hv10.form (by simp [h5_length])
         rw [List.length_append, h5_length, List.length_replicate] at e10
         have HV10 := Lib.hid (show Own w10 (w.heap.size + 1) v10 (head X) from hv10)
         subst e10
         have HK10 := Lib.hid (HK9.out.up hb10)
         clear hv10 hb10)
      | (go_at_call 8; refine (crc_own HV10.out).mono ?_
         rintro e w11 ⟨rfl, hb11⟩
         have HV11 := Lib.hid (HV10.out.below hb11)
         have HK11 := Lib.hid (HK10.out.up (hb11.mono HK10.out.size))
         clear hb11)
      | (go_at_call 23; with_reducible refine (big4 (crcOn 0 (head X)) _).mono ?_
         rintro e w12 ⟨v12, rfl, hv12, hb12⟩
         have HV12 := Lib.hid (And.intro (HV11.out.below hb12) hv12)
         have HK12 := Lib.hid (HK11.out.up (hb12.mono HK11.out.size))
         clear hv12 hb12)
      | (at_builtin; refine arm_append rfl (.tmp 59) (.tmp 63) rfl (w.heap.size + 1) _ v12 (head X) (be 4 (crcOn 0 (head X))) rfl rfl HV12.out.1 HV12.out.2.is (by simp [be_length]) (by simp [be_length, head_length]) HK12.out.size ?_
         intro v13 w13 hv13 hb13
         have HZ := Lib.hid (And.intro (hv13.mono (show w.heap.size ≤ w.heap.size + 1 by omega)) (HK12.out.up hb13).all)
         clear hv13 hb13)
      | fail)
    go_ret2
    exact ⟨v13, rfl, by rw [← HX.out]; exact HZ.out.1, HZ.out.2⟩
end Go.Proofs.Ytccdciokokcomaa
