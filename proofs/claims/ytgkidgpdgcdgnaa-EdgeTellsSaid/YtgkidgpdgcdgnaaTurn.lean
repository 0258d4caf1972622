/- A triangle that goes round the right way. -/
import Derived.Test.YtgkidgpdgcdgnaaCells
namespace Go.Proofs.Ytgkidgpdgcdgnaa
open Go.RowKit

def turned (a b c : Spot) : (Spot × Spot × Spot) × Bool := if 0 < area a b c then ((a, b, c), true) else if area a b c < 0 then ((a, c, b), true) else ((spot0, spot0, spot0), false)
def turnV (a b c : Spot) : Value := .tuple #[.agg (triA (turned a b c).1.1 (turned a b c).1.2.1 (turned a b c).1.2.2), .bool (turned a b c).2]

set_option maxRecDepth 100000 in
theorem Turned_walk (a b c : Spot) (ha : a.ok) (hb : b.ok) (hc : c.ok) (w : World) :
    Calls Try.prog 10 #[.agg (triA a b c)] w fun e w' => e = .returned (turnV a b c) ∧ Below w.heap.size w w' := by
  have hs := fun W => Area_walk a b c ha hb hc W
  simp only [triV_A] at hs
  have HS := Lib.hid hs
  clear hs ha hb hc
  have hz := TriAt.new (w.alloc (.cells (triA a b c) 24)) spot0 spot0 spot0
  rw [World.size_alloc] at hz
  have HT := Lib.hid (TriAt.new w a b c)
  have HZ := Lib.hid hz
  clear hz
  have HB0 := Lib.hid (below_two w (.cells (triA a b c) 24) (.cells (triA spot0 spot0 spot0) 24))
  have HT2 := Lib.hid (HT.out.below (below_alloc _ (.cells (triA spot0 spot0 spot0) 24)))
  by_cases h1 : 0 < area a b c
  · have hr : turnV a b c = .tuple #[.agg (triA a b c), .bool true] := by unfold turnV turned; rw [if_pos h1]
    have HR := Lib.hid hr
    clear hr
    generalize area a b c = n at *
    go_enter Try.func10, Try.ntmps10
    go_wp2_with (first
      | refine arm_alloc24 rfl rfl ?_
      | refine arm_load24 rfl (.tmp 1) rfl w.heap.size a b c rfl HT2.out ?_)
    refine (HS.out _).mono ?_
    rintro e w' ⟨rfl, hb⟩
    have H3 := Lib.hid (HT2.out.below hb)
    have H4 := Lib.hid (HZ.out.below hb)
    have HB1 := Lib.hid (below_trans HB0.out hb)
    clear HT HZ HB0 HT2 hb
    go_wp2_with (first
      | refine arm_load24 rfl (.tmp 1) rfl w.heap.size a b c rfl H3.out ?_
      | (refine arm_store24 rfl (.tmp 2) (.tmp 10) rfl (w.heap.size + 1) spot0 spot0 spot0 a b c rfl rfl H4.out ?_
         intro hn hbn
         have H5 := Lib.hid (And.intro hn (HB1.out.trans (hbn _ (by omega))))
         clear hn hbn))
    refine bodyPost_ret (results_ct rfl _ _ _ _ rfl H5.out.1.load) rfl ?_
    exact ⟨by rw [HR.out]; rfl, H5.out.2⟩
  by_cases h2 : area a b c < 0
  · have hr : turnV a b c = .tuple #[.agg (triA a c b), .bool true] := by unfold turnV turned; rw [if_neg h1, if_pos h2]
    have HR := Lib.hid hr
    clear hr
    generalize area a b c = n at *
    go_enter Try.func10, Try.ntmps10
    go_wp2_with (first
      | refine arm_alloc24 rfl rfl ?_
      | refine arm_load24 rfl (.tmp 1) rfl w.heap.size a b c rfl HT2.out ?_)
    refine (HS.out _).mono ?_
    rintro e w' ⟨rfl, hb⟩
    have H3 := Lib.hid (HT2.out.below hb)
    have H4 := Lib.hid (HZ.out.below hb)
    have HB1 := Lib.hid (below_trans HB0.out hb)
    clear HT HZ HB0 HT2 hb
    go_wp2_with (first
      | refine arm_load23 rfl (.tmp 14) rfl w.heap.size 0 a rfl H3.out.r0 ?_
      | refine arm_load23 rfl (.tmp 16) rfl w.heap.size 12 c rfl H3.out.r2 ?_
      | refine arm_load23 rfl (.tmp 18) rfl w.heap.size 6 b rfl H3.out.r1 ?_
      | refine arm_build24 rfl (.tmp 15) (.tmp 17) (.tmp 19) rfl a c b rfl rfl rfl ?_
      | (refine arm_store24 rfl (.tmp 2) (.tmp 20) rfl (w.heap.size + 1) spot0 spot0 spot0 a c b rfl rfl H4.out ?_
         intro hn hbn
         have H5 := Lib.hid (And.intro hn (HB1.out.trans (hbn _ (by omega))))
         clear hn hbn))
    refine bodyPost_ret (results_ct rfl _ _ _ _ rfl H5.out.1.load) rfl ?_
    exact ⟨by rw [HR.out]; rfl, H5.out.2⟩
  · have hr : turnV a b c = .tuple #[.agg (triA spot0 spot0 spot0), .bool false] := by unfold turnV turned; rw [if_neg h1, if_neg h2]
    have HR := Lib.hid hr
    clear hr
    generalize area a b c = n at *
    go_enter Try.func10, Try.ntmps10
    go_wp2_with (first
      | refine arm_alloc24 rfl rfl ?_
      | refine arm_load24 rfl (.tmp 1) rfl w.heap.size a b c rfl HT2.out ?_)
    refine (HS.out _).mono ?_
    rintro e w' ⟨rfl, hb⟩
    have H3 := Lib.hid (HT2.out.below hb)
    have H4 := Lib.hid (HZ.out.below hb)
    have HB1 := Lib.hid (below_trans HB0.out hb)
    clear HT HZ HB0 HT2 hb
    go_wp2_with (first
      | refine arm_build24z rfl rfl ?_
      | (refine arm_store24 rfl (.tmp 2) (.tmp 21) rfl (w.heap.size + 1) spot0 spot0 spot0 spot0 spot0 spot0 rfl rfl H4.out ?_
         intro hn hbn
         have H5 := Lib.hid (And.intro hn (HB1.out.trans (hbn _ (by omega))))
         clear hn hbn))
    refine bodyPost_ret (results_ct rfl _ _ _ _ rfl H5.out.1.load) rfl ?_
    exact ⟨by rw [HR.out]; rfl, H5.out.2⟩

set_option maxRecDepth 100000 in
theorem RTurned_walk (a b c : Spot) (ha : a.ok) (hb : b.ok) (hc : c.ok) (w : World) :
    Calls Try.prog 11 #[.agg (triA a b c)] w fun e w' => e = .returned (turnV a b c) ∧ Below w.heap.size w w' := by
  have hs := fun W => RArea_walk a b c ha hb hc W
  simp only [triV_A] at hs
  have HS := Lib.hid hs
  clear hs ha hb hc
  have hz := TriAt.new (w.alloc (.cells (triA a b c) 24)) spot0 spot0 spot0
  rw [World.size_alloc] at hz
  have HT := Lib.hid (TriAt.new w a b c)
  have HZ := Lib.hid hz
  clear hz
  have HB0 := Lib.hid (below_two w (.cells (triA a b c) 24) (.cells (triA spot0 spot0 spot0) 24))
  have HT2 := Lib.hid (HT.out.below (below_alloc _ (.cells (triA spot0 spot0 spot0) 24)))
  by_cases h1 : 0 < area a b c
  · have hr : turnV a b c = .tuple #[.agg (triA a b c), .bool true] := by unfold turnV turned; rw [if_pos h1]
    have HR := Lib.hid hr
    clear hr
    generalize area a b c = n at *
    go_enter Try.func11, Try.ntmps11
    go_wp2_with (first
      | refine arm_alloc24 rfl rfl ?_
      | refine arm_load24 rfl (.tmp 1) rfl w.heap.size a b c rfl HT2.out ?_)
    refine (HS.out _).mono ?_
    rintro e w' ⟨rfl, hb⟩
    have H3 := Lib.hid (HT2.out.below hb)
    have H4 := Lib.hid (HZ.out.below hb)
    have HB1 := Lib.hid (below_trans HB0.out hb)
    clear HT HZ HB0 HT2 hb
    go_wp2_with (first
      | refine arm_load24 rfl (.tmp 1) rfl w.heap.size a b c rfl H3.out ?_
      | (refine arm_store24 rfl (.tmp 2) (.tmp 10) rfl (w.heap.size + 1) spot0 spot0 spot0 a b c rfl rfl H4.out ?_
         intro hn hbn
         have H5 := Lib.hid (And.intro hn (HB1.out.trans (hbn _ (by omega))))
         clear hn hbn))
    refine bodyPost_ret (results_ct rfl _ _ _ _ rfl H5.out.1.load) rfl ?_
    exact ⟨by rw [HR.out]; rfl, H5.out.2⟩
  by_cases h2 : area a b c < 0
  · have hr : turnV a b c = .tuple #[.agg (triA a c b), .bool true] := by unfold turnV turned; rw [if_neg h1, if_pos h2]
    have HR := Lib.hid hr
    clear hr
    generalize area a b c = n at *
    go_enter Try.func11, Try.ntmps11
    go_wp2_with (first
      | refine arm_alloc24 rfl rfl ?_
      | refine arm_load24 rfl (.tmp 1) rfl w.heap.size a b c rfl HT2.out ?_)
    refine (HS.out _).mono ?_
    rintro e w' ⟨rfl, hb⟩
    have H3 := Lib.hid (HT2.out.below hb)
    have H4 := Lib.hid (HZ.out.below hb)
    have HB1 := Lib.hid (below_trans HB0.out hb)
    clear HT HZ HB0 HT2 hb
    go_wp2_with (first
      | refine arm_load23 rfl (.tmp 14) rfl w.heap.size 0 a rfl H3.out.r0 ?_
      | refine arm_load23 rfl (.tmp 16) rfl w.heap.size 12 c rfl H3.out.r2 ?_
      | refine arm_load23 rfl (.tmp 18) rfl w.heap.size 6 b rfl H3.out.r1 ?_
      | refine arm_build24 rfl (.tmp 15) (.tmp 17) (.tmp 19) rfl a c b rfl rfl rfl ?_
      | (refine arm_store24 rfl (.tmp 2) (.tmp 20) rfl (w.heap.size + 1) spot0 spot0 spot0 a c b rfl rfl H4.out ?_
         intro hn hbn
         have H5 := Lib.hid (And.intro hn (HB1.out.trans (hbn _ (by omega))))
         clear hn hbn))
    refine bodyPost_ret (results_ct rfl _ _ _ _ rfl H5.out.1.load) rfl ?_
    exact ⟨by rw [HR.out]; rfl, H5.out.2⟩
  · have hr : turnV a b c = .tuple #[.agg (triA spot0 spot0 spot0), .bool false] := by unfold turnV turned; rw [if_neg h1, if_neg h2]
    have HR := Lib.hid hr
    clear hr
    generalize area a b c = n at *
    go_enter Try.func11, Try.ntmps11
    go_wp2_with (first
      | refine arm_alloc24 rfl rfl ?_
      | refine arm_load24 rfl (.tmp 1) rfl w.heap.size a b c rfl HT2.out ?_)
    refine (HS.out _).mono ?_
    rintro e w' ⟨rfl, hb⟩
    have H3 := Lib.hid (HT2.out.below hb)
    have H4 := Lib.hid (HZ.out.below hb)
    have HB1 := Lib.hid (below_trans HB0.out hb)
    clear HT HZ HB0 HT2 hb
    go_wp2_with (first
      | refine arm_build24z rfl rfl ?_
      | (refine arm_store24 rfl (.tmp 2) (.tmp 21) rfl (w.heap.size + 1) spot0 spot0 spot0 spot0 spot0 spot0 rfl rfl H4.out ?_
         intro hn hbn
         have H5 := Lib.hid (And.intro hn (HB1.out.trans (hbn _ (by omega))))
         clear hn hbn))
    refine bodyPost_ret (results_ct rfl _ _ _ _ rfl H5.out.1.load) rfl ?_
    exact ⟨by rw [HR.out]; rfl, H5.out.2⟩
end Go.Proofs.Ytgkidgpdgcdgnaa
