/- Which pixels a triangle covers, by the document. -/
import Derived.Test.YtgkidgpdgcdgnaaCov
import Derived.Test.YtgkidgpdgcdgnaaEdges
namespace Go.Proofs.Ytgkidgpdgcdgnaa
open Go.RowKit

theorem EAt.e {w : World} {g : Nat} {e0 e1 e2 : Int} (h : EAt w g e0 e1 e2) : w.cell? ⟨g, 0, none⟩ = some (.int .i64 e0) ∧ w.cell? ⟨g, 1, none⟩ = some (.int .i64 e1) ∧ w.cell? ⟨g, 2, none⟩ = some (.int .i64 e2) := by
  have hc := fun i => cell_of_row w g i _ _ _ h
  refine ⟨?_, ?_, ?_⟩ <;> (rw [hc]; unfold eA; rfl)
section
variable {ops : Array Oper} {rest : List Oper} {o : Oper} {a : Act} {w : World} {Q : Exit → Act → World → Prop}
theorem arm_load29 (hgd : o.guard = none) (x : Operand) (ho : o.op = .load 29 x) (g : Nat) (e0 e1 e2 : Int) (hx : a.eval x = .pointer (some ⟨g, 0, none⟩)) (hg : EAt w g e0 e1 e2)
    (h : wpList Try.prog ops Q rest (a.put o.dst (.agg (eA e0 e1 e2))) w) : wpList Try.prog ops Q (o :: rest) a w :=
  wpList_load_row hgd 29 x ho g hx 29 (eA e0 e1 e2) (0, 0) _ hg Try.underlying29 rfl (size29 e0 e1 e2) h
theorem arm_store29 (hgd : o.guard = none) (x y : Operand) (ho : o.op = .store 29 x y) (g : Nat) (e0 e1 e2 e0' e1' e2' : Int) (hx : a.eval x = .pointer (some ⟨g, 0, none⟩)) (hy : a.eval y = .agg (eA e0' e1' e2')) (hg : EAt w g e0 e1 e2)
    (h : ∀ w', EAt w' g e0' e1' e2' → (∀ B, B ≤ g → Below B w w') → (∀ c, c ≠ g → w'.heap[c]? = w.heap[c]?) → wpList Try.prog ops Q rest (a.put o.dst undef) w') : wpList Try.prog ops Q (o :: rest) a w :=
  wpList_plain hgd fun K hK => wp_store_row 29 x y ho g (eA e0' e1' e2') hx hy 29 (eA e0 e1 e2) hg (size29 _ _ _) (by rw [eA_size, eA_size]) (eA_one _ _ _)
    (hK _ _ (h _ (setRow_heap w g _ _ 29 _ hg) (fun B hB => ⟨rfl, rfl, rfl, by simp [World.setRow], fun k hk => setRow_other w g k _ (by omega)⟩) (fun c hc => setRow_other w g c _ hc)))
theorem arm_build29z (hgd : o.guard = none) (ho : o.op = .build 29 #[])
    (h : wpList Try.prog ops Q rest (a.put o.dst (.agg (eA 0 0 0))) w) : wpList Try.prog ops Q (o :: rest) a w := by
  have e : Try.prog.built 29 ((#[] : Array (Nat × Operand)).map fun (i, x) => (i, a.eval x)).toList = some (eA 0 0 0) := by rw [Array.map_empty]; exact built29z
  refine wpList_build hgd 29 _ ho (by rw [e]; rfl) ?_
  rw [e]; exact h
end
def rcoverV (a b c : Spot) (px py : Int) : Value := if covered a b c px py = true then .tuple #[.agg (eA (side b c (256 * px + 128) (256 * py + 128)) (side c a (256 * px + 128) (256 * py + 128)) (side a b (256 * px + 128) (256 * py + 128))), .bool true] else .tuple #[.agg (eA 0 0 0), .bool false]

set_option maxRecDepth 100000 in
set_option maxHeartbeats 16000000 in
theorem RCovers_walk (a b c : Spot) (px py : Int) (ha : a.ok) (hb : b.ok) (hc : c.ok) (hx : -100 ≤ px ∧ px ≤ 100) (hy : -100 ≤ py ∧ py ≤ 100) (w : World) :
    Calls Try.prog 13 #[.agg (triA a b c), .int .i64 px, .int .i64 py] w fun e w' => e = .returned (rcoverV a b c px py) ∧ Below w.heap.size w w' := by
  have hs := fun W => RArea_walk a b c ha hb hc W
  simp only [triV_A] at hs
  have HS := Lib.hid hs
  have HED := Lib.hid (fun W => Edges_walk a b c (256 * px + 128) (256 * py + 128) ha hb hc (by unfold Near; omega) (by unfold Near; omega) W)
  clear hs
  have hz := EAt.new (w.alloc (.cells (triA a b c) 24)) 0 0 0
  rw [World.size_alloc] at hz
  have HT := Lib.hid (TriAt.new w a b c)
  have HZ := Lib.hid hz
  clear hz
  have HB0 := Lib.hid (below_two w (.cells (triA a b c) 24) (.cells (eA 0 0 0) 29))
  have HT2 := Lib.hid (HT.out.below (below_alloc _ (.cells (eA 0 0 0) 29)))
  by_cases h1 : 0 < area a b c
  · have HAR := Lib.hid (decide_eq_true h1)
    generalize hn0 : area a b c = n at *
    rw [← hn0] at HAR
    clear hn0
    go_enter Try.func13, Try.ntmps13
    go_wp2_with (first
      | refine arm_alloc29 rfl rfl ?_
      | refine arm_load24 rfl (.tmp 3) rfl w.heap.size a b c rfl HT2.out ?_)
    refine (HS.out _).mono ?_
    rintro e wa ⟨rfl, hb⟩
    have H3 := Lib.hid (HT2.out.below hb)
    have H4 := Lib.hid (HZ.out.below hb)
    have HB1 := Lib.hid (below_trans HB0.out hb)
    clear HT HZ HB0 HT2 hb HS
    have hpx : 0 ≤ 100 - px ∧ 0 ≤ 100 - py := by omega
    go_wp2_with (first
      | refine arm_load24 rfl (.tmp 3) rfl w.heap.size a b c rfl H3.out ?_)
    refine (HED.out _).mono ?_
    rintro e w' ⟨rfl, hb⟩
    have H5 := Lib.hid (And.intro (H3.out.below hb) (And.intro (H4.out.below hb) (below_trans HB1.out hb)))
    have HNE := Lib.hid (show w.heap.size + 1 < w'.heap.size from (Array.getElem?_eq_some_iff.1 H5.out.2.1).1)
    clear H3 H4 HB1 hb HED
    have hs8 := EAt.new w' 0 0 0
    have H8 := Lib.hid hs8
    have H9 := Lib.hid (And.intro (H5.out.1.below (below_alloc w' (.cells (eA 0 0 0) 29))) (And.intro (H5.out.2.1.below (below_alloc w' (.cells (eA 0 0 0) 29))) (below_trans H5.out.2.2 (below_alloc w' (.cells (eA 0 0 0) 29)))))
    clear hs8
    go_wp2_with (first
      | refine arm_alloc29 rfl rfl ?_
      | (refine arm_store29 rfl (.tmp 8) (.tmp 25) rfl w'.heap.size 0 0 0 (side b c (256 * px + 128) (256 * py + 128)) (side c a (256 * px + 128) (256 * py + 128)) (side a b (256 * px + 128) (256 * py + 128)) rfl rfl H8.out ?_
         intro w8 hn hbn hoth
         have H10 := Lib.hid (show TriAt w8 w.heap.size a b c ∧ EAt w8 w'.heap.size (side b c (256 * px + 128) (256 * py + 128)) (side c a (256 * px + 128) (256 * py + 128)) (side a b (256 * px + 128) (256 * py + 128)) ∧ EAt w8 (w.heap.size + 1) 0 0 0 ∧ Below w.heap.size w w8 from ⟨(hoth w.heap.size (by have := HNE.out; omega)).trans H9.out.1, hn, (hoth (w.heap.size + 1) (by have := HNE.out; omega)).trans H9.out.2.1, H9.out.2.2.trans (hbn _ (by have := HNE.out; omega))⟩)
         clear hn hbn hoth))
    go_loopw [9] (fun i wr => ∃ (k : Nat), k ≤ 3 ∧ i = .int .i64 k ∧ (TriAt wr w.heap.size a b c ∧ EAt wr w'.heap.size (side b c (256 * px + 128) (256 * py + 128)) (side c a (256 * px + 128) (256 * py + 128)) (side a b (256 * px + 128) (256 * py + 128)) ∧ EAt wr (w.heap.size + 1) 0 0 0 ∧ Below w.heap.size w wr) ∧
      (0 < k → inside b c (256 * px + 128) (256 * py + 128) = true) ∧ (1 < k → inside c a (256 * px + 128) (256 * py + 128) = true) ∧ (2 < k → inside a b (256 * px + 128) (256 * py + 128) = true)) (fun i _ => 3 - (intOf i).toNat)
    case atStart => exact ⟨0, by omega, rfl, H10.out, fun h => by omega, fun h => by omega, fun h => by omega⟩
    case round =>
      obtain ⟨k, hk, rfl, ⟨hT, hH, hZ, hB⟩, hE⟩ := hrel
      clear H10
      have HH := Lib.hid (And.intro hT (And.intro hH (And.intro hZ (And.intro hB hE))))
      clear hE
      have q0 : wr.cell? ⟨w.heap.size, 0, none⟩ = some (.int .i64 a.x) := hT.all 0 _ rfl
      have q1 : wr.cell? ⟨w.heap.size, 1, none⟩ = some (.int .i64 a.y) := hT.all 1 _ rfl
      have q2 : wr.cell? ⟨w.heap.size, 2, none⟩ = some (.int .i64 a.z) := hT.all 2 _ rfl
      have q3 : wr.cell? ⟨w.heap.size, 3, none⟩ = some (.int .i64 a.w) := hT.all 3 _ rfl
      have q4 : wr.cell? ⟨w.heap.size, 4, none⟩ = some (.int .i64 a.u) := hT.all 4 _ rfl
      have q5 : wr.cell? ⟨w.heap.size, 5, none⟩ = some (.int .i64 a.v) := hT.all 5 _ rfl
      have q6 : wr.cell? ⟨w.heap.size, 6, none⟩ = some (.int .i64 b.x) := hT.all 6 _ rfl
      have q7 : wr.cell? ⟨w.heap.size, 7, none⟩ = some (.int .i64 b.y) := hT.all 7 _ rfl
      have q8 : wr.cell? ⟨w.heap.size, 8, none⟩ = some (.int .i64 b.z) := hT.all 8 _ rfl
      have q9 : wr.cell? ⟨w.heap.size, 9, none⟩ = some (.int .i64 b.w) := hT.all 9 _ rfl
      have q10 : wr.cell? ⟨w.heap.size, 10, none⟩ = some (.int .i64 b.u) := hT.all 10 _ rfl
      have q11 : wr.cell? ⟨w.heap.size, 11, none⟩ = some (.int .i64 b.v) := hT.all 11 _ rfl
      have q12 : wr.cell? ⟨w.heap.size, 12, none⟩ = some (.int .i64 c.x) := hT.all 12 _ rfl
      have q13 : wr.cell? ⟨w.heap.size, 13, none⟩ = some (.int .i64 c.y) := hT.all 13 _ rfl
      have q14 : wr.cell? ⟨w.heap.size, 14, none⟩ = some (.int .i64 c.z) := hT.all 14 _ rfl
      have q15 : wr.cell? ⟨w.heap.size, 15, none⟩ = some (.int .i64 c.w) := hT.all 15 _ rfl
      have q16 : wr.cell? ⟨w.heap.size, 16, none⟩ = some (.int .i64 c.u) := hT.all 16 _ rfl
      have q17 : wr.cell? ⟨w.heap.size, 17, none⟩ = some (.int .i64 c.v) := hT.all 17 _ rfl
      have hlt : w.heap.size < wr.heap.size := (Array.getElem?_eq_some_iff.1 hT).1
      have hne : w.heap.size ≠ wr.heap.size := by omega
      have hk3 : k = 0 ∨ k = 1 ∨ k = 2 ∨ k = 3 := by omega
      rcases hk3 with rfl | rfl | rfl | rfl
      · clear hT hH hZ hB
        go_wp2_with fail
        go_region
        · have hnw := spot_new2 wr b c
          unfold spotA at hnw
          have HN := Lib.hid (And.intro hnw (below_drew (below_two wr (.cells #[.int .i64 b.x, .int .i64 b.y, .int .i64 b.z, .int .i64 b.w, .int .i64 b.u, .int .i64 b.v] 23) (.cells #[.int .i64 c.x, .int .i64 c.y, .int .i64 c.z, .int .i64 c.w, .int .i64 c.u, .int .i64 c.v] 23))))
          clear hnw
          generalize ((wr.alloc (.cells #[.int .i64 b.x, .int .i64 b.y, .int .i64 b.z, .int .i64 b.w, .int .i64 b.u, .int .i64 b.v] 23)).alloc (.cells #[.int .i64 c.x, .int .i64 c.y, .int .i64 c.z, .int .i64 c.w, .int .i64 c.u, .int .i64 c.v] 23)).drew = wn at *
          have hspA : SpotAt wn wr.heap.size b := HN.out.1.1
          have hspB : SpotAt wn (wr.heap.size + 1) c := HN.out.1.2
          have HST := Lib.hid (show TriAt wn w.heap.size a b c ∧ EAt wn w'.heap.size (side b c (256 * px + 128) (256 * py + 128)) (side c a (256 * px + 128) (256 * py + 128)) (side a b (256 * px + 128) (256 * py + 128)) ∧ EAt wn (w.heap.size + 1) 0 0 0 ∧ Below w.heap.size w wn from ⟨HH.out.1.below HN.out.2, HH.out.2.1.below HN.out.2, HH.out.2.2.1.below HN.out.2, below_trans HH.out.2.2.2.1 HN.out.2⟩)
          clear HN
          obtain ⟨ax, ay⟩ := hspA.x
          obtain ⟨bx, byy⟩ := hspB.x
          obtain ⟨ee, hee⟩ : ∃ ee, ee = side b c (256 * px + 128) (256 * py + 128) := ⟨_, rfl⟩
          have hce := HST.out.2.1.e.1
          rw [← hee] at hce
          have HEE := Lib.hid hee
          clear hee hspA hspB
          by_cases d1 : b.y = c.y
          · have d1b : (b.y == c.y) = true := by simp [d1]
            have d3b : decide (c.y < b.y) = false := by simp; omega
            by_cases d2 : b.x < c.x
            · have d2b : decide (b.x < c.x) = true := by simpa using d2
              have HD := Lib.hid (And.intro d1 d2)
              clear d1
              by_cases c1 : ee < 0
              · have hin : inside b c (256 * px + 128) (256 * py + 128) = false := by unfold inside; rw [← HEE.out]; exact decide_eq_false (fun h => h (Or.inl c1))
                have hcv : rcoverV a b c px py = .tuple #[.agg (eA 0 0 0), .bool false] := by unfold rcoverV covered; rw [hin]; simp
                have HCV := Lib.hid hcv
                clear hin hcv
                go_wp2_with (first
                  | refine arm_build29z rfl rfl ?_
                  | (refine arm_store29 rfl (.tmp 6) (.tmp 75) rfl (w.heap.size + 1) 0 0 0 0 0 0 rfl rfl HST.out.2.2.1 ?_
                     intro w9 hn hbn hoth
                     have H11 := Lib.hid (And.intro hn (HST.out.2.2.2.trans (hbn _ (by omega))))
                     clear hn hbn hoth))
                refine bodyPost_ret (results_ct rfl _ _ _ _ rfl H11.out.1.load) rfl ?_
                exact ⟨by rw [HCV.out]; rfl, H11.out.2⟩
              by_cases c2 : ee = 0
              · have hu : upper b c = true := by unfold upper; exact decide_eq_true (by have := HD.out; omega)
                have hin : inside b c (256 * px + 128) (256 * py + 128) = true := by unfold inside; rw [← HEE.out]; exact decide_eq_true (fun h => h.elim c1 (fun h => by rw [hu] at h; cases h.2))
                clear hu
                subst c2
                have HIN := Lib.hid hin
                clear hin
                go_wp2_with fail
                have hE := HH.out.2.2.2.2
                exact ⟨⟨1, by omega, rfl, HST.out, fun _ => HIN.out, fun h => by omega, fun h => by omega⟩, by simp [intOf]⟩
              · have c2b : (ee == 0) = false := by simp [c2]
                have hin : inside b c (256 * px + 128) (256 * py + 128) = true := by unfold inside; rw [← HEE.out]; exact decide_eq_true (fun h => h.elim c1 (fun h => c2 h.1))
                have HIN := Lib.hid hin
                clear hin
                go_wp2_with fail
                have hE := HH.out.2.2.2.2
                exact ⟨⟨1, by omega, rfl, HST.out, fun _ => HIN.out, fun h => by omega, fun h => by omega⟩, by simp [intOf]⟩
            · have d2b : decide (b.x < c.x) = false := by simp; omega
              have HD := Lib.hid (And.intro d1 d2)
              clear d1
              by_cases c1 : ee < 0
              · have hin : inside b c (256 * px + 128) (256 * py + 128) = false := by unfold inside; rw [← HEE.out]; exact decide_eq_false (fun h => h (Or.inl c1))
                have hcv : rcoverV a b c px py = .tuple #[.agg (eA 0 0 0), .bool false] := by unfold rcoverV covered; rw [hin]; simp
                have HCV := Lib.hid hcv
                clear hin hcv
                go_wp2_with (first
                  | refine arm_build29z rfl rfl ?_
                  | (refine arm_store29 rfl (.tmp 6) (.tmp 75) rfl (w.heap.size + 1) 0 0 0 0 0 0 rfl rfl HST.out.2.2.1 ?_
                     intro w9 hn hbn hoth
                     have H11 := Lib.hid (And.intro hn (HST.out.2.2.2.trans (hbn _ (by omega))))
                     clear hn hbn hoth))
                refine bodyPost_ret (results_ct rfl _ _ _ _ rfl H11.out.1.load) rfl ?_
                exact ⟨by rw [HCV.out]; rfl, H11.out.2⟩
              by_cases c2 : ee = 0
              · have hu : upper b c = false := by unfold upper; exact decide_eq_false (by have := HD.out; omega)
                have hin : inside b c (256 * px + 128) (256 * py + 128) = false := by unfold inside; rw [← HEE.out]; exact decide_eq_false (fun h => h (Or.inr ⟨c2, hu⟩))
                clear hu
                subst c2
                have hcv : rcoverV a b c px py = .tuple #[.agg (eA 0 0 0), .bool false] := by unfold rcoverV covered; rw [hin]; simp
                have HCV := Lib.hid hcv
                clear hin hcv
                go_wp2_with (first
                  | refine arm_build29z rfl rfl ?_
                  | (refine arm_store29 rfl (.tmp 6) (.tmp 75) rfl (w.heap.size + 1) 0 0 0 0 0 0 rfl rfl HST.out.2.2.1 ?_
                     intro w9 hn hbn hoth
                     have H11 := Lib.hid (And.intro hn (HST.out.2.2.2.trans (hbn _ (by omega))))
                     clear hn hbn hoth))
                refine bodyPost_ret (results_ct rfl _ _ _ _ rfl H11.out.1.load) rfl ?_
                exact ⟨by rw [HCV.out]; rfl, H11.out.2⟩
              · have c2b : (ee == 0) = false := by simp [c2]
                have hin : inside b c (256 * px + 128) (256 * py + 128) = true := by unfold inside; rw [← HEE.out]; exact decide_eq_true (fun h => h.elim c1 (fun h => c2 h.1))
                have HIN := Lib.hid hin
                clear hin
                go_wp2_with fail
                have hE := HH.out.2.2.2.2
                exact ⟨⟨1, by omega, rfl, HST.out, fun _ => HIN.out, fun h => by omega, fun h => by omega⟩, by simp [intOf]⟩
          · have d1b : (b.y == c.y) = false := by simp [d1]
            by_cases d3 : c.y < b.y
            · have d3b : decide (c.y < b.y) = true := by simpa using d3
              by_cases c1 : ee < 0
              · have hin : inside b c (256 * px + 128) (256 * py + 128) = false := by unfold inside; rw [← HEE.out]; exact decide_eq_false (fun h => h (Or.inl c1))
                have hcv : rcoverV a b c px py = .tuple #[.agg (eA 0 0 0), .bool false] := by unfold rcoverV covered; rw [hin]; simp
                have HCV := Lib.hid hcv
                clear hin hcv
                go_wp2_with (first
                  | refine arm_build29z rfl rfl ?_
                  | (refine arm_store29 rfl (.tmp 6) (.tmp 75) rfl (w.heap.size + 1) 0 0 0 0 0 0 rfl rfl HST.out.2.2.1 ?_
                     intro w9 hn hbn hoth
                     have H11 := Lib.hid (And.intro hn (HST.out.2.2.2.trans (hbn _ (by omega))))
                     clear hn hbn hoth))
                refine bodyPost_ret (results_ct rfl _ _ _ _ rfl H11.out.1.load) rfl ?_
                exact ⟨by rw [HCV.out]; rfl, H11.out.2⟩
              by_cases c2 : ee = 0
              · have hu : upper b c = true := by unfold upper; exact decide_eq_true (by omega)
                have hin : inside b c (256 * px + 128) (256 * py + 128) = true := by unfold inside; rw [← HEE.out]; exact decide_eq_true (fun h => h.elim c1 (fun h => by rw [hu] at h; cases h.2))
                clear hu
                subst c2
                have HIN := Lib.hid hin
                clear hin
                go_wp2_with fail
                have hE := HH.out.2.2.2.2
                exact ⟨⟨1, by omega, rfl, HST.out, fun _ => HIN.out, fun h => by omega, fun h => by omega⟩, by simp [intOf]⟩
              · have c2b : (ee == 0) = false := by simp [c2]
                have hin : inside b c (256 * px + 128) (256 * py + 128) = true := by unfold inside; rw [← HEE.out]; exact decide_eq_true (fun h => h.elim c1 (fun h => c2 h.1))
                have HIN := Lib.hid hin
                clear hin
                go_wp2_with fail
                have hE := HH.out.2.2.2.2
                exact ⟨⟨1, by omega, rfl, HST.out, fun _ => HIN.out, fun h => by omega, fun h => by omega⟩, by simp [intOf]⟩
            · have d3b : decide (c.y < b.y) = false := by simp; omega
              by_cases c1 : ee < 0
              · have hin : inside b c (256 * px + 128) (256 * py + 128) = false := by unfold inside; rw [← HEE.out]; exact decide_eq_false (fun h => h (Or.inl c1))
                have hcv : rcoverV a b c px py = .tuple #[.agg (eA 0 0 0), .bool false] := by unfold rcoverV covered; rw [hin]; simp
                have HCV := Lib.hid hcv
                clear hin hcv
                go_wp2_with (first
                  | refine arm_build29z rfl rfl ?_
                  | (refine arm_store29 rfl (.tmp 6) (.tmp 75) rfl (w.heap.size + 1) 0 0 0 0 0 0 rfl rfl HST.out.2.2.1 ?_
                     intro w9 hn hbn hoth
                     have H11 := Lib.hid (And.intro hn (HST.out.2.2.2.trans (hbn _ (by omega))))
                     clear hn hbn hoth))
                refine bodyPost_ret (results_ct rfl _ _ _ _ rfl H11.out.1.load) rfl ?_
                exact ⟨by rw [HCV.out]; rfl, H11.out.2⟩
              by_cases c2 : ee = 0
              · have hu : upper b c = false := by unfold upper; exact decide_eq_false (by omega)
                have hin : inside b c (256 * px + 128) (256 * py + 128) = false := by unfold inside; rw [← HEE.out]; exact decide_eq_false (fun h => h (Or.inr ⟨c2, hu⟩))
                clear hu
                subst c2
                have hcv : rcoverV a b c px py = .tuple #[.agg (eA 0 0 0), .bool false] := by unfold rcoverV covered; rw [hin]; simp
                have HCV := Lib.hid hcv
                clear hin hcv
                go_wp2_with (first
                  | refine arm_build29z rfl rfl ?_
                  | (refine arm_store29 rfl (.tmp 6) (.tmp 75) rfl (w.heap.size + 1) 0 0 0 0 0 0 rfl rfl HST.out.2.2.1 ?_
                     intro w9 hn hbn hoth
                     have H11 := Lib.hid (And.intro hn (HST.out.2.2.2.trans (hbn _ (by omega))))
                     clear hn hbn hoth))
                refine bodyPost_ret (results_ct rfl _ _ _ _ rfl H11.out.1.load) rfl ?_
                exact ⟨by rw [HCV.out]; rfl, H11.out.2⟩
              · have c2b : (ee == 0) = false := by simp [c2]
                have hin : inside b c (256 * px + 128) (256 * py + 128) = true := by unfold inside; rw [← HEE.out]; exact decide_eq_true (fun h => h.elim c1 (fun h => c2 h.1))
                have HIN := Lib.hid hin
                clear hin
                go_wp2_with fail
                have hE := HH.out.2.2.2.2
                exact ⟨⟨1, by omega, rfl, HST.out, fun _ => HIN.out, fun h => by omega, fun h => by omega⟩, by simp [intOf]⟩
        · have hnw := spot_new2 wr c b
          unfold spotA at hnw
          have HN := Lib.hid (And.intro hnw (below_drew (below_two wr (.cells #[.int .i64 c.x, .int .i64 c.y, .int .i64 c.z, .int .i64 c.w, .int .i64 c.u, .int .i64 c.v] 23) (.cells #[.int .i64 b.x, .int .i64 b.y, .int .i64 b.z, .int .i64 b.w, .int .i64 b.u, .int .i64 b.v] 23))))
          clear hnw
          generalize ((wr.alloc (.cells #[.int .i64 c.x, .int .i64 c.y, .int .i64 c.z, .int .i64 c.w, .int .i64 c.u, .int .i64 c.v] 23)).alloc (.cells #[.int .i64 b.x, .int .i64 b.y, .int .i64 b.z, .int .i64 b.w, .int .i64 b.u, .int .i64 b.v] 23)).drew = wn at *
          have hspA : SpotAt wn (wr.heap.size + 1) b := HN.out.1.2
          have hspB : SpotAt wn wr.heap.size c := HN.out.1.1
          have HST := Lib.hid (show TriAt wn w.heap.size a b c ∧ EAt wn w'.heap.size (side b c (256 * px + 128) (256 * py + 128)) (side c a (256 * px + 128) (256 * py + 128)) (side a b (256 * px + 128) (256 * py + 128)) ∧ EAt wn (w.heap.size + 1) 0 0 0 ∧ Below w.heap.size w wn from ⟨HH.out.1.below HN.out.2, HH.out.2.1.below HN.out.2, HH.out.2.2.1.below HN.out.2, below_trans HH.out.2.2.2.1 HN.out.2⟩)
          clear HN
          obtain ⟨ax, ay⟩ := hspA.x
          obtain ⟨bx, byy⟩ := hspB.x
          obtain ⟨ee, hee⟩ : ∃ ee, ee = side b c (256 * px + 128) (256 * py + 128) := ⟨_, rfl⟩
          have hce := HST.out.2.1.e.1
          rw [← hee] at hce
          have HEE := Lib.hid hee
          clear hee hspA hspB
          by_cases d1 : b.y = c.y
          · have d1b : (b.y == c.y) = true := by simp [d1]
            have d3b : decide (c.y < b.y) = false := by simp; omega
            by_cases d2 : b.x < c.x
            · have d2b : decide (b.x < c.x) = true := by simpa using d2
              have HD := Lib.hid (And.intro d1 d2)
              clear d1
              by_cases c1 : ee < 0
              · have hin : inside b c (256 * px + 128) (256 * py + 128) = false := by unfold inside; rw [← HEE.out]; exact decide_eq_false (fun h => h (Or.inl c1))
                have hcv : rcoverV a b c px py = .tuple #[.agg (eA 0 0 0), .bool false] := by unfold rcoverV covered; rw [hin]; simp
                have HCV := Lib.hid hcv
                clear hin hcv
                go_wp2_with (first
                  | refine arm_build29z rfl rfl ?_
                  | (refine arm_store29 rfl (.tmp 6) (.tmp 75) rfl (w.heap.size + 1) 0 0 0 0 0 0 rfl rfl HST.out.2.2.1 ?_
                     intro w9 hn hbn hoth
                     have H11 := Lib.hid (And.intro hn (HST.out.2.2.2.trans (hbn _ (by omega))))
                     clear hn hbn hoth))
                refine bodyPost_ret (results_ct rfl _ _ _ _ rfl H11.out.1.load) rfl ?_
                exact ⟨by rw [HCV.out]; rfl, H11.out.2⟩
              by_cases c2 : ee = 0
              · have hu : upper b c = true := by unfold upper; exact decide_eq_true (by have := HD.out; omega)
                have hin : inside b c (256 * px + 128) (256 * py + 128) = true := by unfold inside; rw [← HEE.out]; exact decide_eq_true (fun h => h.elim c1 (fun h => by rw [hu] at h; cases h.2))
                clear hu
                subst c2
                have HIN := Lib.hid hin
                clear hin
                go_wp2_with fail
                have hE := HH.out.2.2.2.2
                exact ⟨⟨1, by omega, rfl, HST.out, fun _ => HIN.out, fun h => by omega, fun h => by omega⟩, by simp [intOf]⟩
              · have c2b : (ee == 0) = false := by simp [c2]
                have hin : inside b c (256 * px + 128) (256 * py + 128) = true := by unfold inside; rw [← HEE.out]; exact decide_eq_true (fun h => h.elim c1 (fun h => c2 h.1))
                have HIN := Lib.hid hin
                clear hin
                go_wp2_with fail
                have hE := HH.out.2.2.2.2
                exact ⟨⟨1, by omega, rfl, HST.out, fun _ => HIN.out, fun h => by omega, fun h => by omega⟩, by simp [intOf]⟩
            · have d2b : decide (b.x < c.x) = false := by simp; omega
              have HD := Lib.hid (And.intro d1 d2)
              clear d1
              by_cases c1 : ee < 0
              · have hin : inside b c (256 * px + 128) (256 * py + 128) = false := by unfold inside; rw [← HEE.out]; exact decide_eq_false (fun h => h (Or.inl c1))
                have hcv : rcoverV a b c px py = .tuple #[.agg (eA 0 0 0), .bool false] := by unfold rcoverV covered; rw [hin]; simp
                have HCV := Lib.hid hcv
                clear hin hcv
                go_wp2_with (first
                  | refine arm_build29z rfl rfl ?_
                  | (refine arm_store29 rfl (.tmp 6) (.tmp 75) rfl (w.heap.size + 1) 0 0 0 0 0 0 rfl rfl HST.out.2.2.1 ?_
                     intro w9 hn hbn hoth
                     have H11 := Lib.hid (And.intro hn (HST.out.2.2.2.trans (hbn _ (by omega))))
                     clear hn hbn hoth))
                refine bodyPost_ret (results_ct rfl _ _ _ _ rfl H11.out.1.load) rfl ?_
                exact ⟨by rw [HCV.out]; rfl, H11.out.2⟩
              by_cases c2 : ee = 0
              · have hu : upper b c = false := by unfold upper; exact decide_eq_false (by have := HD.out; omega)
                have hin : inside b c (256 * px + 128) (256 * py + 128) = false := by unfold inside; rw [← HEE.out]; exact decide_eq_false (fun h => h (Or.inr ⟨c2, hu⟩))
                clear hu
                subst c2
                have hcv : rcoverV a b c px py = .tuple #[.agg (eA 0 0 0), .bool false] := by unfold rcoverV covered; rw [hin]; simp
                have HCV := Lib.hid hcv
                clear hin hcv
                go_wp2_with (first
                  | refine arm_build29z rfl rfl ?_
                  | (refine arm_store29 rfl (.tmp 6) (.tmp 75) rfl (w.heap.size + 1) 0 0 0 0 0 0 rfl rfl HST.out.2.2.1 ?_
                     intro w9 hn hbn hoth
                     have H11 := Lib.hid (And.intro hn (HST.out.2.2.2.trans (hbn _ (by omega))))
                     clear hn hbn hoth))
                refine bodyPost_ret (results_ct rfl _ _ _ _ rfl H11.out.1.load) rfl ?_
                exact ⟨by rw [HCV.out]; rfl, H11.out.2⟩
              · have c2b : (ee == 0) = false := by simp [c2]
                have hin : inside b c (256 * px + 128) (256 * py + 128) = true := by unfold inside; rw [← HEE.out]; exact decide_eq_true (fun h => h.elim c1 (fun h => c2 h.1))
                have HIN := Lib.hid hin
                clear hin
                go_wp2_with fail
                have hE := HH.out.2.2.2.2
                exact ⟨⟨1, by omega, rfl, HST.out, fun _ => HIN.out, fun h => by omega, fun h => by omega⟩, by simp [intOf]⟩
          · have d1b : (b.y == c.y) = false := by simp [d1]
            by_cases d3 : c.y < b.y
            · have d3b : decide (c.y < b.y) = true := by simpa using d3
              by_cases c1 : ee < 0
              · have hin : inside b c (256 * px + 128) (256 * py + 128) = false := by unfold inside; rw [← HEE.out]; exact decide_eq_false (fun h => h (Or.inl c1))
                have hcv : rcoverV a b c px py = .tuple #[.agg (eA 0 0 0), .bool false] := by unfold rcoverV covered; rw [hin]; simp
                have HCV := Lib.hid hcv
                clear hin hcv
                go_wp2_with (first
                  | refine arm_build29z rfl rfl ?_
                  | (refine arm_store29 rfl (.tmp 6) (.tmp 75) rfl (w.heap.size + 1) 0 0 0 0 0 0 rfl rfl HST.out.2.2.1 ?_
                     intro w9 hn hbn hoth
                     have H11 := Lib.hid (And.intro hn (HST.out.2.2.2.trans (hbn _ (by omega))))
                     clear hn hbn hoth))
                refine bodyPost_ret (results_ct rfl _ _ _ _ rfl H11.out.1.load) rfl ?_
                exact ⟨by rw [HCV.out]; rfl, H11.out.2⟩
              by_cases c2 : ee = 0
              · have hu : upper b c = true := by unfold upper; exact decide_eq_true (by omega)
                have hin : inside b c (256 * px + 128) (256 * py + 128) = true := by unfold inside; rw [← HEE.out]; exact decide_eq_true (fun h => h.elim c1 (fun h => by rw [hu] at h; cases h.2))
                clear hu
                subst c2
                have HIN := Lib.hid hin
                clear hin
                go_wp2_with fail
                have hE := HH.out.2.2.2.2
                exact ⟨⟨1, by omega, rfl, HST.out, fun _ => HIN.out, fun h => by omega, fun h => by omega⟩, by simp [intOf]⟩
              · have c2b : (ee == 0) = false := by simp [c2]
                have hin : inside b c (256 * px + 128) (256 * py + 128) = true := by unfold inside; rw [← HEE.out]; exact decide_eq_true (fun h => h.elim c1 (fun h => c2 h.1))
                have HIN := Lib.hid hin
                clear hin
                go_wp2_with fail
                have hE := HH.out.2.2.2.2
                exact ⟨⟨1, by omega, rfl, HST.out, fun _ => HIN.out, fun h => by omega, fun h => by omega⟩, by simp [intOf]⟩
            · have d3b : decide (c.y < b.y) = false := by simp; omega
              by_cases c1 : ee < 0
              · have hin : inside b c (256 * px + 128) (256 * py + 128) = false := by unfold inside; rw [← HEE.out]; exact decide_eq_false (fun h => h (Or.inl c1))
                have hcv : rcoverV a b c px py = .tuple #[.agg (eA 0 0 0), .bool false] := by unfold rcoverV covered; rw [hin]; simp
                have HCV := Lib.hid hcv
                clear hin hcv
                go_wp2_with (first
                  | refine arm_build29z rfl rfl ?_
                  | (refine arm_store29 rfl (.tmp 6) (.tmp 75) rfl (w.heap.size + 1) 0 0 0 0 0 0 rfl rfl HST.out.2.2.1 ?_
                     intro w9 hn hbn hoth
                     have H11 := Lib.hid (And.intro hn (HST.out.2.2.2.trans (hbn _ (by omega))))
                     clear hn hbn hoth))
                refine bodyPost_ret (results_ct rfl _ _ _ _ rfl H11.out.1.load) rfl ?_
                exact ⟨by rw [HCV.out]; rfl, H11.out.2⟩
              by_cases c2 : ee = 0
              · have hu : upper b c = false := by unfold upper; exact decide_eq_false (by omega)
                have hin : inside b c (256 * px + 128) (256 * py + 128) = false := by unfold inside; rw [← HEE.out]; exact decide_eq_false (fun h => h (Or.inr ⟨c2, hu⟩))
                clear hu
                subst c2
                have hcv : rcoverV a b c px py = .tuple #[.agg (eA 0 0 0), .bool false] := by unfold rcoverV covered; rw [hin]; simp
                have HCV := Lib.hid hcv
                clear hin hcv
                go_wp2_with (first
                  | refine arm_build29z rfl rfl ?_
                  | (refine arm_store29 rfl (.tmp 6) (.tmp 75) rfl (w.heap.size + 1) 0 0 0 0 0 0 rfl rfl HST.out.2.2.1 ?_
                     intro w9 hn hbn hoth
                     have H11 := Lib.hid (And.intro hn (HST.out.2.2.2.trans (hbn _ (by omega))))
                     clear hn hbn hoth))
                refine bodyPost_ret (results_ct rfl _ _ _ _ rfl H11.out.1.load) rfl ?_
                exact ⟨by rw [HCV.out]; rfl, H11.out.2⟩
              · have c2b : (ee == 0) = false := by simp [c2]
                have hin : inside b c (256 * px + 128) (256 * py + 128) = true := by unfold inside; rw [← HEE.out]; exact decide_eq_true (fun h => h.elim c1 (fun h => c2 h.1))
                have HIN := Lib.hid hin
                clear hin
                go_wp2_with fail
                have hE := HH.out.2.2.2.2
                exact ⟨⟨1, by omega, rfl, HST.out, fun _ => HIN.out, fun h => by omega, fun h => by omega⟩, by simp [intOf]⟩
      · clear hT hH hZ hB
        go_wp2_with fail
        go_region
        · have hnw := spot_new2 wr c a
          unfold spotA at hnw
          have HN := Lib.hid (And.intro hnw (below_drew (below_two wr (.cells #[.int .i64 c.x, .int .i64 c.y, .int .i64 c.z, .int .i64 c.w, .int .i64 c.u, .int .i64 c.v] 23) (.cells #[.int .i64 a.x, .int .i64 a.y, .int .i64 a.z, .int .i64 a.w, .int .i64 a.u, .int .i64 a.v] 23))))
          clear hnw
          generalize ((wr.alloc (.cells #[.int .i64 c.x, .int .i64 c.y, .int .i64 c.z, .int .i64 c.w, .int .i64 c.u, .int .i64 c.v] 23)).alloc (.cells #[.int .i64 a.x, .int .i64 a.y, .int .i64 a.z, .int .i64 a.w, .int .i64 a.u, .int .i64 a.v] 23)).drew = wn at *
          have hspA : SpotAt wn wr.heap.size c := HN.out.1.1
          have hspB : SpotAt wn (wr.heap.size + 1) a := HN.out.1.2
          have HST := Lib.hid (show TriAt wn w.heap.size a b c ∧ EAt wn w'.heap.size (side b c (256 * px + 128) (256 * py + 128)) (side c a (256 * px + 128) (256 * py + 128)) (side a b (256 * px + 128) (256 * py + 128)) ∧ EAt wn (w.heap.size + 1) 0 0 0 ∧ Below w.heap.size w wn from ⟨HH.out.1.below HN.out.2, HH.out.2.1.below HN.out.2, HH.out.2.2.1.below HN.out.2, below_trans HH.out.2.2.2.1 HN.out.2⟩)
          clear HN
          obtain ⟨ax, ay⟩ := hspA.x
          obtain ⟨bx, byy⟩ := hspB.x
          obtain ⟨ee, hee⟩ : ∃ ee, ee = side c a (256 * px + 128) (256 * py + 128) := ⟨_, rfl⟩
          have hce := HST.out.2.1.e.2.1
          rw [← hee] at hce
          have HEE := Lib.hid hee
          clear hee hspA hspB
          by_cases d1 : c.y = a.y
          · have d1b : (c.y == a.y) = true := by simp [d1]
            have d3b : decide (a.y < c.y) = false := by simp; omega
            by_cases d2 : c.x < a.x
            · have d2b : decide (c.x < a.x) = true := by simpa using d2
              have HD := Lib.hid (And.intro d1 d2)
              clear d1
              by_cases c1 : ee < 0
              · have hin : inside c a (256 * px + 128) (256 * py + 128) = false := by unfold inside; rw [← HEE.out]; exact decide_eq_false (fun h => h (Or.inl c1))
                have hcv : rcoverV a b c px py = .tuple #[.agg (eA 0 0 0), .bool false] := by unfold rcoverV covered; rw [hin]; simp
                have HCV := Lib.hid hcv
                clear hin hcv
                go_wp2_with (first
                  | refine arm_build29z rfl rfl ?_
                  | (refine arm_store29 rfl (.tmp 6) (.tmp 75) rfl (w.heap.size + 1) 0 0 0 0 0 0 rfl rfl HST.out.2.2.1 ?_
                     intro w9 hn hbn hoth
                     have H11 := Lib.hid (And.intro hn (HST.out.2.2.2.trans (hbn _ (by omega))))
                     clear hn hbn hoth))
                refine bodyPost_ret (results_ct rfl _ _ _ _ rfl H11.out.1.load) rfl ?_
                exact ⟨by rw [HCV.out]; rfl, H11.out.2⟩
              by_cases c2 : ee = 0
              · have hu : upper c a = true := by unfold upper; exact decide_eq_true (by have := HD.out; omega)
                have hin : inside c a (256 * px + 128) (256 * py + 128) = true := by unfold inside; rw [← HEE.out]; exact decide_eq_true (fun h => h.elim c1 (fun h => by rw [hu] at h; cases h.2))
                clear hu
                subst c2
                have HIN := Lib.hid hin
                clear hin
                go_wp2_with fail
                have hE := HH.out.2.2.2.2
                exact ⟨⟨2, by omega, rfl, HST.out, fun _ => hE.1 (by omega), fun _ => HIN.out, fun h => by omega⟩, by simp [intOf]⟩
              · have c2b : (ee == 0) = false := by simp [c2]
                have hin : inside c a (256 * px + 128) (256 * py + 128) = true := by unfold inside; rw [← HEE.out]; exact decide_eq_true (fun h => h.elim c1 (fun h => c2 h.1))
                have HIN := Lib.hid hin
                clear hin
                go_wp2_with fail
                have hE := HH.out.2.2.2.2
                exact ⟨⟨2, by omega, rfl, HST.out, fun _ => hE.1 (by omega), fun _ => HIN.out, fun h => by omega⟩, by simp [intOf]⟩
            · have d2b : decide (c.x < a.x) = false := by simp; omega
              have HD := Lib.hid (And.intro d1 d2)
              clear d1
              by_cases c1 : ee < 0
              · have hin : inside c a (256 * px + 128) (256 * py + 128) = false := by unfold inside; rw [← HEE.out]; exact decide_eq_false (fun h => h (Or.inl c1))
                have hcv : rcoverV a b c px py = .tuple #[.agg (eA 0 0 0), .bool false] := by unfold rcoverV covered; rw [hin]; simp
                have HCV := Lib.hid hcv
                clear hin hcv
                go_wp2_with (first
                  | refine arm_build29z rfl rfl ?_
                  | (refine arm_store29 rfl (.tmp 6) (.tmp 75) rfl (w.heap.size + 1) 0 0 0 0 0 0 rfl rfl HST.out.2.2.1 ?_
                     intro w9 hn hbn hoth
                     have H11 := Lib.hid (And.intro hn (HST.out.2.2.2.trans (hbn _ (by omega))))
                     clear hn hbn hoth))
                refine bodyPost_ret (results_ct rfl _ _ _ _ rfl H11.out.1.load) rfl ?_
                exact ⟨by rw [HCV.out]; rfl, H11.out.2⟩
              by_cases c2 : ee = 0
              · have hu : upper c a = false := by unfold upper; exact decide_eq_false (by have := HD.out; omega)
                have hin : inside c a (256 * px + 128) (256 * py + 128) = false := by unfold inside; rw [← HEE.out]; exact decide_eq_false (fun h => h (Or.inr ⟨c2, hu⟩))
                clear hu
                subst c2
                have hcv : rcoverV a b c px py = .tuple #[.agg (eA 0 0 0), .bool false] := by unfold rcoverV covered; rw [hin]; simp
                have HCV := Lib.hid hcv
                clear hin hcv
                go_wp2_with (first
                  | refine arm_build29z rfl rfl ?_
                  | (refine arm_store29 rfl (.tmp 6) (.tmp 75) rfl (w.heap.size + 1) 0 0 0 0 0 0 rfl rfl HST.out.2.2.1 ?_
                     intro w9 hn hbn hoth
                     have H11 := Lib.hid (And.intro hn (HST.out.2.2.2.trans (hbn _ (by omega))))
                     clear hn hbn hoth))
                refine bodyPost_ret (results_ct rfl _ _ _ _ rfl H11.out.1.load) rfl ?_
                exact ⟨by rw [HCV.out]; rfl, H11.out.2⟩
              · have c2b : (ee == 0) = false := by simp [c2]
                have hin : inside c a (256 * px + 128) (256 * py + 128) = true := by unfold inside; rw [← HEE.out]; exact decide_eq_true (fun h => h.elim c1 (fun h => c2 h.1))
                have HIN := Lib.hid hin
                clear hin
                go_wp2_with fail
                have hE := HH.out.2.2.2.2
                exact ⟨⟨2, by omega, rfl, HST.out, fun _ => hE.1 (by omega), fun _ => HIN.out, fun h => by omega⟩, by simp [intOf]⟩
          · have d1b : (c.y == a.y) = false := by simp [d1]
            by_cases d3 : a.y < c.y
            · have d3b : decide (a.y < c.y) = true := by simpa using d3
              by_cases c1 : ee < 0
              · have hin : inside c a (256 * px + 128) (256 * py + 128) = false := by unfold inside; rw [← HEE.out]; exact decide_eq_false (fun h => h (Or.inl c1))
                have hcv : rcoverV a b c px py = .tuple #[.agg (eA 0 0 0), .bool false] := by unfold rcoverV covered; rw [hin]; simp
                have HCV := Lib.hid hcv
                clear hin hcv
                go_wp2_with (first
                  | refine arm_build29z rfl rfl ?_
                  | (refine arm_store29 rfl (.tmp 6) (.tmp 75) rfl (w.heap.size + 1) 0 0 0 0 0 0 rfl rfl HST.out.2.2.1 ?_
                     intro w9 hn hbn hoth
                     have H11 := Lib.hid (And.intro hn (HST.out.2.2.2.trans (hbn _ (by omega))))
                     clear hn hbn hoth))
                refine bodyPost_ret (results_ct rfl _ _ _ _ rfl H11.out.1.load) rfl ?_
                exact ⟨by rw [HCV.out]; rfl, H11.out.2⟩
              by_cases c2 : ee = 0
              · have hu : upper c a = true := by unfold upper; exact decide_eq_true (by omega)
                have hin : inside c a (256 * px + 128) (256 * py + 128) = true := by unfold inside; rw [← HEE.out]; exact decide_eq_true (fun h => h.elim c1 (fun h => by rw [hu] at h; cases h.2))
                clear hu
                subst c2
                have HIN := Lib.hid hin
                clear hin
                go_wp2_with fail
                have hE := HH.out.2.2.2.2
                exact ⟨⟨2, by omega, rfl, HST.out, fun _ => hE.1 (by omega), fun _ => HIN.out, fun h => by omega⟩, by simp [intOf]⟩
              · have c2b : (ee == 0) = false := by simp [c2]
                have hin : inside c a (256 * px + 128) (256 * py + 128) = true := by unfold inside; rw [← HEE.out]; exact decide_eq_true (fun h => h.elim c1 (fun h => c2 h.1))
                have HIN := Lib.hid hin
                clear hin
                go_wp2_with fail
                have hE := HH.out.2.2.2.2
                exact ⟨⟨2, by omega, rfl, HST.out, fun _ => hE.1 (by omega), fun _ => HIN.out, fun h => by omega⟩, by simp [intOf]⟩
            · have d3b : decide (a.y < c.y) = false := by simp; omega
              by_cases c1 : ee < 0
              · have hin : inside c a (256 * px + 128) (256 * py + 128) = false := by unfold inside; rw [← HEE.out]; exact decide_eq_false (fun h => h (Or.inl c1))
                have hcv : rcoverV a b c px py = .tuple #[.agg (eA 0 0 0), .bool false] := by unfold rcoverV covered; rw [hin]; simp
                have HCV := Lib.hid hcv
                clear hin hcv
                go_wp2_with (first
                  | refine arm_build29z rfl rfl ?_
                  | (refine arm_store29 rfl (.tmp 6) (.tmp 75) rfl (w.heap.size + 1) 0 0 0 0 0 0 rfl rfl HST.out.2.2.1 ?_
                     intro w9 hn hbn hoth
                     have H11 := Lib.hid (And.intro hn (HST.out.2.2.2.trans (hbn _ (by omega))))
                     clear hn hbn hoth))
                refine bodyPost_ret (results_ct rfl _ _ _ _ rfl H11.out.1.load) rfl ?_
                exact ⟨by rw [HCV.out]; rfl, H11.out.2⟩
              by_cases c2 : ee = 0
              · have hu : upper c a = false := by unfold upper; exact decide_eq_false (by omega)
                have hin : inside c a (256 * px + 128) (256 * py + 128) = false := by unfold inside; rw [← HEE.out]; exact decide_eq_false (fun h => h (Or.inr ⟨c2, hu⟩))
                clear hu
                subst c2
                have hcv : rcoverV a b c px py = .tuple #[.agg (eA 0 0 0), .bool false] := by unfold rcoverV covered; rw [hin]; simp
                have HCV := Lib.hid hcv
                clear hin hcv
                go_wp2_with (first
                  | refine arm_build29z rfl rfl ?_
                  | (refine arm_store29 rfl (.tmp 6) (.tmp 75) rfl (w.heap.size + 1) 0 0 0 0 0 0 rfl rfl HST.out.2.2.1 ?_
                     intro w9 hn hbn hoth
                     have H11 := Lib.hid (And.intro hn (HST.out.2.2.2.trans (hbn _ (by omega))))
                     clear hn hbn hoth))
                refine bodyPost_ret (results_ct rfl _ _ _ _ rfl H11.out.1.load) rfl ?_
                exact ⟨by rw [HCV.out]; rfl, H11.out.2⟩
              · have c2b : (ee == 0) = false := by simp [c2]
                have hin : inside c a (256 * px + 128) (256 * py + 128) = true := by unfold inside; rw [← HEE.out]; exact decide_eq_true (fun h => h.elim c1 (fun h => c2 h.1))
                have HIN := Lib.hid hin
                clear hin
                go_wp2_with fail
                have hE := HH.out.2.2.2.2
                exact ⟨⟨2, by omega, rfl, HST.out, fun _ => hE.1 (by omega), fun _ => HIN.out, fun h => by omega⟩, by simp [intOf]⟩
        · have hnw := spot_new2 wr a c
          unfold spotA at hnw
          have HN := Lib.hid (And.intro hnw (below_drew (below_two wr (.cells #[.int .i64 a.x, .int .i64 a.y, .int .i64 a.z, .int .i64 a.w, .int .i64 a.u, .int .i64 a.v] 23) (.cells #[.int .i64 c.x, .int .i64 c.y, .int .i64 c.z, .int .i64 c.w, .int .i64 c.u, .int .i64 c.v] 23))))
          clear hnw
          generalize ((wr.alloc (.cells #[.int .i64 a.x, .int .i64 a.y, .int .i64 a.z, .int .i64 a.w, .int .i64 a.u, .int .i64 a.v] 23)).alloc (.cells #[.int .i64 c.x, .int .i64 c.y, .int .i64 c.z, .int .i64 c.w, .int .i64 c.u, .int .i64 c.v] 23)).drew = wn at *
          have hspA : SpotAt wn (wr.heap.size + 1) c := HN.out.1.2
          have hspB : SpotAt wn wr.heap.size a := HN.out.1.1
          have HST := Lib.hid (show TriAt wn w.heap.size a b c ∧ EAt wn w'.heap.size (side b c (256 * px + 128) (256 * py + 128)) (side c a (256 * px + 128) (256 * py + 128)) (side a b (256 * px + 128) (256 * py + 128)) ∧ EAt wn (w.heap.size + 1) 0 0 0 ∧ Below w.heap.size w wn from ⟨HH.out.1.below HN.out.2, HH.out.2.1.below HN.out.2, HH.out.2.2.1.below HN.out.2, below_trans HH.out.2.2.2.1 HN.out.2⟩)
          clear HN
          obtain ⟨ax, ay⟩ := hspA.x
          obtain ⟨bx, byy⟩ := hspB.x
          obtain ⟨ee, hee⟩ : ∃ ee, ee = side c a (256 * px + 128) (256 * py + 128) := ⟨_, rfl⟩
          have hce := HST.out.2.1.e.2.1
          rw [← hee] at hce
          have HEE := Lib.hid hee
          clear hee hspA hspB
          by_cases d1 : c.y = a.y
          · have d1b : (c.y == a.y) = true := by simp [d1]
            have d3b : decide (a.y < c.y) = false := by simp; omega
            by_cases d2 : c.x < a.x
            · have d2b : decide (c.x < a.x) = true := by simpa using d2
              have HD := Lib.hid (And.intro d1 d2)
              clear d1
              by_cases c1 : ee < 0
              · have hin : inside c a (256 * px + 128) (256 * py + 128) = false := by unfold inside; rw [← HEE.out]; exact decide_eq_false (fun h => h (Or.inl c1))
                have hcv : rcoverV a b c px py = .tuple #[.agg (eA 0 0 0), .bool false] := by unfold rcoverV covered; rw [hin]; simp
                have HCV := Lib.hid hcv
                clear hin hcv
                go_wp2_with (first
                  | refine arm_build29z rfl rfl ?_
                  | (refine arm_store29 rfl (.tmp 6) (.tmp 75) rfl (w.heap.size + 1) 0 0 0 0 0 0 rfl rfl HST.out.2.2.1 ?_
                     intro w9 hn hbn hoth
                     have H11 := Lib.hid (And.intro hn (HST.out.2.2.2.trans (hbn _ (by omega))))
                     clear hn hbn hoth))
                refine bodyPost_ret (results_ct rfl _ _ _ _ rfl H11.out.1.load) rfl ?_
                exact ⟨by rw [HCV.out]; rfl, H11.out.2⟩
              by_cases c2 : ee = 0
              · have hu : upper c a = true := by unfold upper; exact decide_eq_true (by have := HD.out; omega)
                have hin : inside c a (256 * px + 128) (256 * py + 128) = true := by unfold inside; rw [← HEE.out]; exact decide_eq_true (fun h => h.elim c1 (fun h => by rw [hu] at h; cases h.2))
                clear hu
                subst c2
                have HIN := Lib.hid hin
                clear hin
                go_wp2_with fail
                have hE := HH.out.2.2.2.2
                exact ⟨⟨2, by omega, rfl, HST.out, fun _ => hE.1 (by omega), fun _ => HIN.out, fun h => by omega⟩, by simp [intOf]⟩
              · have c2b : (ee == 0) = false := by simp [c2]
                have hin : inside c a (256 * px + 128) (256 * py + 128) = true := by unfold inside; rw [← HEE.out]; exact decide_eq_true (fun h => h.elim c1 (fun h => c2 h.1))
                have HIN := Lib.hid hin
                clear hin
                go_wp2_with fail
                have hE := HH.out.2.2.2.2
                exact ⟨⟨2, by omega, rfl, HST.out, fun _ => hE.1 (by omega), fun _ => HIN.out, fun h => by omega⟩, by simp [intOf]⟩
            · have d2b : decide (c.x < a.x) = false := by simp; omega
              have HD := Lib.hid (And.intro d1 d2)
              clear d1
              by_cases c1 : ee < 0
              · have hin : inside c a (256 * px + 128) (256 * py + 128) = false := by unfold inside; rw [← HEE.out]; exact decide_eq_false (fun h => h (Or.inl c1))
                have hcv : rcoverV a b c px py = .tuple #[.agg (eA 0 0 0), .bool false] := by unfold rcoverV covered; rw [hin]; simp
                have HCV := Lib.hid hcv
                clear hin hcv
                go_wp2_with (first
                  | refine arm_build29z rfl rfl ?_
                  | (refine arm_store29 rfl (.tmp 6) (.tmp 75) rfl (w.heap.size + 1) 0 0 0 0 0 0 rfl rfl HST.out.2.2.1 ?_
                     intro w9 hn hbn hoth
                     have H11 := Lib.hid (And.intro hn (HST.out.2.2.2.trans (hbn _ (by omega))))
                     clear hn hbn hoth))
                refine bodyPost_ret (results_ct rfl _ _ _ _ rfl H11.out.1.load) rfl ?_
                exact ⟨by rw [HCV.out]; rfl, H11.out.2⟩
              by_cases c2 : ee = 0
              · have hu : upper c a = false := by unfold upper; exact decide_eq_false (by have := HD.out; omega)
                have hin : inside c a (256 * px + 128) (256 * py + 128) = false := by unfold inside; rw [← HEE.out]; exact decide_eq_false (fun h => h (Or.inr ⟨c2, hu⟩))
                clear hu
                subst c2
                have hcv : rcoverV a b c px py = .tuple #[.agg (eA 0 0 0), .bool false] := by unfold rcoverV covered; rw [hin]; simp
                have HCV := Lib.hid hcv
                clear hin hcv
                go_wp2_with (first
                  | refine arm_build29z rfl rfl ?_
                  | (refine arm_store29 rfl (.tmp 6) (.tmp 75) rfl (w.heap.size + 1) 0 0 0 0 0 0 rfl rfl HST.out.2.2.1 ?_
                     intro w9 hn hbn hoth
                     have H11 := Lib.hid (And.intro hn (HST.out.2.2.2.trans (hbn _ (by omega))))
                     clear hn hbn hoth))
                refine bodyPost_ret (results_ct rfl _ _ _ _ rfl H11.out.1.load) rfl ?_
                exact ⟨by rw [HCV.out]; rfl, H11.out.2⟩
              · have c2b : (ee == 0) = false := by simp [c2]
                have hin : inside c a (256 * px + 128) (256 * py + 128) = true := by unfold inside; rw [← HEE.out]; exact decide_eq_true (fun h => h.elim c1 (fun h => c2 h.1))
                have HIN := Lib.hid hin
                clear hin
                go_wp2_with fail
                have hE := HH.out.2.2.2.2
                exact ⟨⟨2, by omega, rfl, HST.out, fun _ => hE.1 (by omega), fun _ => HIN.out, fun h => by omega⟩, by simp [intOf]⟩
          · have d1b : (c.y == a.y) = false := by simp [d1]
            by_cases d3 : a.y < c.y
            · have d3b : decide (a.y < c.y) = true := by simpa using d3
              by_cases c1 : ee < 0
              · have hin : inside c a (256 * px + 128) (256 * py + 128) = false := by unfold inside; rw [← HEE.out]; exact decide_eq_false (fun h => h (Or.inl c1))
                have hcv : rcoverV a b c px py = .tuple #[.agg (eA 0 0 0), .bool false] := by unfold rcoverV covered; rw [hin]; simp
                have HCV := Lib.hid hcv
                clear hin hcv
                go_wp2_with (first
                  | refine arm_build29z rfl rfl ?_
                  | (refine arm_store29 rfl (.tmp 6) (.tmp 75) rfl (w.heap.size + 1) 0 0 0 0 0 0 rfl rfl HST.out.2.2.1 ?_
                     intro w9 hn hbn hoth
                     have H11 := Lib.hid (And.intro hn (HST.out.2.2.2.trans (hbn _ (by omega))))
                     clear hn hbn hoth))
                refine bodyPost_ret (results_ct rfl _ _ _ _ rfl H11.out.1.load) rfl ?_
                exact ⟨by rw [HCV.out]; rfl, H11.out.2⟩
              by_cases c2 : ee = 0
              · have hu : upper c a = true := by unfold upper; exact decide_eq_true (by omega)
                have hin : inside c a (256 * px + 128) (256 * py + 128) = true := by unfold inside; rw [← HEE.out]; exact decide_eq_true (fun h => h.elim c1 (fun h => by rw [hu] at h; cases h.2))
                clear hu
                subst c2
                have HIN := Lib.hid hin
                clear hin
                go_wp2_with fail
                have hE := HH.out.2.2.2.2
                exact ⟨⟨2, by omega, rfl, HST.out, fun _ => hE.1 (by omega), fun _ => HIN.out, fun h => by omega⟩, by simp [intOf]⟩
              · have c2b : (ee == 0) = false := by simp [c2]
                have hin : inside c a (256 * px + 128) (256 * py + 128) = true := by unfold inside; rw [← HEE.out]; exact decide_eq_true (fun h => h.elim c1 (fun h => c2 h.1))
                have HIN := Lib.hid hin
                clear hin
                go_wp2_with fail
                have hE := HH.out.2.2.2.2
                exact ⟨⟨2, by omega, rfl, HST.out, fun _ => hE.1 (by omega), fun _ => HIN.out, fun h => by omega⟩, by simp [intOf]⟩
            · have d3b : decide (a.y < c.y) = false := by simp; omega
              by_cases c1 : ee < 0
              · have hin : inside c a (256 * px + 128) (256 * py + 128) = false := by unfold inside; rw [← HEE.out]; exact decide_eq_false (fun h => h (Or.inl c1))
                have hcv : rcoverV a b c px py = .tuple #[.agg (eA 0 0 0), .bool false] := by unfold rcoverV covered; rw [hin]; simp
                have HCV := Lib.hid hcv
                clear hin hcv
                go_wp2_with (first
                  | refine arm_build29z rfl rfl ?_
                  | (refine arm_store29 rfl (.tmp 6) (.tmp 75) rfl (w.heap.size + 1) 0 0 0 0 0 0 rfl rfl HST.out.2.2.1 ?_
                     intro w9 hn hbn hoth
                     have H11 := Lib.hid (And.intro hn (HST.out.2.2.2.trans (hbn _ (by omega))))
                     clear hn hbn hoth))
                refine bodyPost_ret (results_ct rfl _ _ _ _ rfl H11.out.1.load) rfl ?_
                exact ⟨by rw [HCV.out]; rfl, H11.out.2⟩
              by_cases c2 : ee = 0
              · have hu : upper c a = false := by unfold upper; exact decide_eq_false (by omega)
                have hin : inside c a (256 * px + 128) (256 * py + 128) = false := by unfold inside; rw [← HEE.out]; exact decide_eq_false (fun h => h (Or.inr ⟨c2, hu⟩))
                clear hu
                subst c2
                have hcv : rcoverV a b c px py = .tuple #[.agg (eA 0 0 0), .bool false] := by unfold rcoverV covered; rw [hin]; simp
                have HCV := Lib.hid hcv
                clear hin hcv
                go_wp2_with (first
                  | refine arm_build29z rfl rfl ?_
                  | (refine arm_store29 rfl (.tmp 6) (.tmp 75) rfl (w.heap.size + 1) 0 0 0 0 0 0 rfl rfl HST.out.2.2.1 ?_
                     intro w9 hn hbn hoth
                     have H11 := Lib.hid (And.intro hn (HST.out.2.2.2.trans (hbn _ (by omega))))
                     clear hn hbn hoth))
                refine bodyPost_ret (results_ct rfl _ _ _ _ rfl H11.out.1.load) rfl ?_
                exact ⟨by rw [HCV.out]; rfl, H11.out.2⟩
              · have c2b : (ee == 0) = false := by simp [c2]
                have hin : inside c a (256 * px + 128) (256 * py + 128) = true := by unfold inside; rw [← HEE.out]; exact decide_eq_true (fun h => h.elim c1 (fun h => c2 h.1))
                have HIN := Lib.hid hin
                clear hin
                go_wp2_with fail
                have hE := HH.out.2.2.2.2
                exact ⟨⟨2, by omega, rfl, HST.out, fun _ => hE.1 (by omega), fun _ => HIN.out, fun h => by omega⟩, by simp [intOf]⟩
      · clear hT hH hZ hB
        go_wp2_with fail
        go_region
        · have hnw := spot_new2 wr a b
          unfold spotA at hnw
          have HN := Lib.hid (And.intro hnw (below_drew (below_two wr (.cells #[.int .i64 a.x, .int .i64 a.y, .int .i64 a.z, .int .i64 a.w, .int .i64 a.u, .int .i64 a.v] 23) (.cells #[.int .i64 b.x, .int .i64 b.y, .int .i64 b.z, .int .i64 b.w, .int .i64 b.u, .int .i64 b.v] 23))))
          clear hnw
          generalize ((wr.alloc (.cells #[.int .i64 a.x, .int .i64 a.y, .int .i64 a.z, .int .i64 a.w, .int .i64 a.u, .int .i64 a.v] 23)).alloc (.cells #[.int .i64 b.x, .int .i64 b.y, .int .i64 b.z, .int .i64 b.w, .int .i64 b.u, .int .i64 b.v] 23)).drew = wn at *
          have hspA : SpotAt wn wr.heap.size a := HN.out.1.1
          have hspB : SpotAt wn (wr.heap.size + 1) b := HN.out.1.2
          have HST := Lib.hid (show TriAt wn w.heap.size a b c ∧ EAt wn w'.heap.size (side b c (256 * px + 128) (256 * py + 128)) (side c a (256 * px + 128) (256 * py + 128)) (side a b (256 * px + 128) (256 * py + 128)) ∧ EAt wn (w.heap.size + 1) 0 0 0 ∧ Below w.heap.size w wn from ⟨HH.out.1.below HN.out.2, HH.out.2.1.below HN.out.2, HH.out.2.2.1.below HN.out.2, below_trans HH.out.2.2.2.1 HN.out.2⟩)
          clear HN
          obtain ⟨ax, ay⟩ := hspA.x
          obtain ⟨bx, byy⟩ := hspB.x
          obtain ⟨ee, hee⟩ : ∃ ee, ee = side a b (256 * px + 128) (256 * py + 128) := ⟨_, rfl⟩
          have hce := HST.out.2.1.e.2.2
          rw [← hee] at hce
          have HEE := Lib.hid hee
          clear hee hspA hspB
          by_cases d1 : a.y = b.y
          · have d1b : (a.y == b.y) = true := by simp [d1]
            have d3b : decide (b.y < a.y) = false := by simp; omega
            by_cases d2 : a.x < b.x
            · have d2b : decide (a.x < b.x) = true := by simpa using d2
              have HD := Lib.hid (And.intro d1 d2)
              clear d1
              by_cases c1 : ee < 0
              · have hin : inside a b (256 * px + 128) (256 * py + 128) = false := by unfold inside; rw [← HEE.out]; exact decide_eq_false (fun h => h (Or.inl c1))
                have hcv : rcoverV a b c px py = .tuple #[.agg (eA 0 0 0), .bool false] := by unfold rcoverV covered; rw [hin]; simp
                have HCV := Lib.hid hcv
                clear hin hcv
                go_wp2_with (first
                  | refine arm_build29z rfl rfl ?_
                  | (refine arm_store29 rfl (.tmp 6) (.tmp 75) rfl (w.heap.size + 1) 0 0 0 0 0 0 rfl rfl HST.out.2.2.1 ?_
                     intro w9 hn hbn hoth
                     have H11 := Lib.hid (And.intro hn (HST.out.2.2.2.trans (hbn _ (by omega))))
                     clear hn hbn hoth))
                refine bodyPost_ret (results_ct rfl _ _ _ _ rfl H11.out.1.load) rfl ?_
                exact ⟨by rw [HCV.out]; rfl, H11.out.2⟩
              by_cases c2 : ee = 0
              · have hu : upper a b = true := by unfold upper; exact decide_eq_true (by have := HD.out; omega)
                have hin : inside a b (256 * px + 128) (256 * py + 128) = true := by unfold inside; rw [← HEE.out]; exact decide_eq_true (fun h => h.elim c1 (fun h => by rw [hu] at h; cases h.2))
                clear hu
                subst c2
                have HIN := Lib.hid hin
                clear hin
                go_wp2_with fail
                have hE := HH.out.2.2.2.2
                exact ⟨⟨3, by omega, rfl, HST.out, fun _ => hE.1 (by omega), fun _ => hE.2.1 (by omega), fun _ => HIN.out⟩, by simp [intOf]⟩
              · have c2b : (ee == 0) = false := by simp [c2]
                have hin : inside a b (256 * px + 128) (256 * py + 128) = true := by unfold inside; rw [← HEE.out]; exact decide_eq_true (fun h => h.elim c1 (fun h => c2 h.1))
                have HIN := Lib.hid hin
                clear hin
                go_wp2_with fail
                have hE := HH.out.2.2.2.2
                exact ⟨⟨3, by omega, rfl, HST.out, fun _ => hE.1 (by omega), fun _ => hE.2.1 (by omega), fun _ => HIN.out⟩, by simp [intOf]⟩
            · have d2b : decide (a.x < b.x) = false := by simp; omega
              have HD := Lib.hid (And.intro d1 d2)
              clear d1
              by_cases c1 : ee < 0
              · have hin : inside a b (256 * px + 128) (256 * py + 128) = false := by unfold inside; rw [← HEE.out]; exact decide_eq_false (fun h => h (Or.inl c1))
                have hcv : rcoverV a b c px py = .tuple #[.agg (eA 0 0 0), .bool false] := by unfold rcoverV covered; rw [hin]; simp
                have HCV := Lib.hid hcv
                clear hin hcv
                go_wp2_with (first
                  | refine arm_build29z rfl rfl ?_
                  | (refine arm_store29 rfl (.tmp 6) (.tmp 75) rfl (w.heap.size + 1) 0 0 0 0 0 0 rfl rfl HST.out.2.2.1 ?_
                     intro w9 hn hbn hoth
                     have H11 := Lib.hid (And.intro hn (HST.out.2.2.2.trans (hbn _ (by omega))))
                     clear hn hbn hoth))
                refine bodyPost_ret (results_ct rfl _ _ _ _ rfl H11.out.1.load) rfl ?_
                exact ⟨by rw [HCV.out]; rfl, H11.out.2⟩
              by_cases c2 : ee = 0
              · have hu : upper a b = false := by unfold upper; exact decide_eq_false (by have := HD.out; omega)
                have hin : inside a b (256 * px + 128) (256 * py + 128) = false := by unfold inside; rw [← HEE.out]; exact decide_eq_false (fun h => h (Or.inr ⟨c2, hu⟩))
                clear hu
                subst c2
                have hcv : rcoverV a b c px py = .tuple #[.agg (eA 0 0 0), .bool false] := by unfold rcoverV covered; rw [hin]; simp
                have HCV := Lib.hid hcv
                clear hin hcv
                go_wp2_with (first
                  | refine arm_build29z rfl rfl ?_
                  | (refine arm_store29 rfl (.tmp 6) (.tmp 75) rfl (w.heap.size + 1) 0 0 0 0 0 0 rfl rfl HST.out.2.2.1 ?_
                     intro w9 hn hbn hoth
                     have H11 := Lib.hid (And.intro hn (HST.out.2.2.2.trans (hbn _ (by omega))))
                     clear hn hbn hoth))
                refine bodyPost_ret (results_ct rfl _ _ _ _ rfl H11.out.1.load) rfl ?_
                exact ⟨by rw [HCV.out]; rfl, H11.out.2⟩
              · have c2b : (ee == 0) = false := by simp [c2]
                have hin : inside a b (256 * px + 128) (256 * py + 128) = true := by unfold inside; rw [← HEE.out]; exact decide_eq_true (fun h => h.elim c1 (fun h => c2 h.1))
                have HIN := Lib.hid hin
                clear hin
                go_wp2_with fail
                have hE := HH.out.2.2.2.2
                exact ⟨⟨3, by omega, rfl, HST.out, fun _ => hE.1 (by omega), fun _ => hE.2.1 (by omega), fun _ => HIN.out⟩, by simp [intOf]⟩
          · have d1b : (a.y == b.y) = false := by simp [d1]
            by_cases d3 : b.y < a.y
            · have d3b : decide (b.y < a.y) = true := by simpa using d3
              by_cases c1 : ee < 0
              · have hin : inside a b (256 * px + 128) (256 * py + 128) = false := by unfold inside; rw [← HEE.out]; exact decide_eq_false (fun h => h (Or.inl c1))
                have hcv : rcoverV a b c px py = .tuple #[.agg (eA 0 0 0), .bool false] := by unfold rcoverV covered; rw [hin]; simp
                have HCV := Lib.hid hcv
                clear hin hcv
                go_wp2_with (first
                  | refine arm_build29z rfl rfl ?_
                  | (refine arm_store29 rfl (.tmp 6) (.tmp 75) rfl (w.heap.size + 1) 0 0 0 0 0 0 rfl rfl HST.out.2.2.1 ?_
                     intro w9 hn hbn hoth
                     have H11 := Lib.hid (And.intro hn (HST.out.2.2.2.trans (hbn _ (by omega))))
                     clear hn hbn hoth))
                refine bodyPost_ret (results_ct rfl _ _ _ _ rfl H11.out.1.load) rfl ?_
                exact ⟨by rw [HCV.out]; rfl, H11.out.2⟩
              by_cases c2 : ee = 0
              · have hu : upper a b = true := by unfold upper; exact decide_eq_true (by omega)
                have hin : inside a b (256 * px + 128) (256 * py + 128) = true := by unfold inside; rw [← HEE.out]; exact decide_eq_true (fun h => h.elim c1 (fun h => by rw [hu] at h; cases h.2))
                clear hu
                subst c2
                have HIN := Lib.hid hin
                clear hin
                go_wp2_with fail
                have hE := HH.out.2.2.2.2
                exact ⟨⟨3, by omega, rfl, HST.out, fun _ => hE.1 (by omega), fun _ => hE.2.1 (by omega), fun _ => HIN.out⟩, by simp [intOf]⟩
              · have c2b : (ee == 0) = false := by simp [c2]
                have hin : inside a b (256 * px + 128) (256 * py + 128) = true := by unfold inside; rw [← HEE.out]; exact decide_eq_true (fun h => h.elim c1 (fun h => c2 h.1))
                have HIN := Lib.hid hin
                clear hin
                go_wp2_with fail
                have hE := HH.out.2.2.2.2
                exact ⟨⟨3, by omega, rfl, HST.out, fun _ => hE.1 (by omega), fun _ => hE.2.1 (by omega), fun _ => HIN.out⟩, by simp [intOf]⟩
            · have d3b : decide (b.y < a.y) = false := by simp; omega
              by_cases c1 : ee < 0
              · have hin : inside a b (256 * px + 128) (256 * py + 128) = false := by unfold inside; rw [← HEE.out]; exact decide_eq_false (fun h => h (Or.inl c1))
                have hcv : rcoverV a b c px py = .tuple #[.agg (eA 0 0 0), .bool false] := by unfold rcoverV covered; rw [hin]; simp
                have HCV := Lib.hid hcv
                clear hin hcv
                go_wp2_with (first
                  | refine arm_build29z rfl rfl ?_
                  | (refine arm_store29 rfl (.tmp 6) (.tmp 75) rfl (w.heap.size + 1) 0 0 0 0 0 0 rfl rfl HST.out.2.2.1 ?_
                     intro w9 hn hbn hoth
                     have H11 := Lib.hid (And.intro hn (HST.out.2.2.2.trans (hbn _ (by omega))))
                     clear hn hbn hoth))
                refine bodyPost_ret (results_ct rfl _ _ _ _ rfl H11.out.1.load) rfl ?_
                exact ⟨by rw [HCV.out]; rfl, H11.out.2⟩
              by_cases c2 : ee = 0
              · have hu : upper a b = false := by unfold upper; exact decide_eq_false (by omega)
                have hin : inside a b (256 * px + 128) (256 * py + 128) = false := by unfold inside; rw [← HEE.out]; exact decide_eq_false (fun h => h (Or.inr ⟨c2, hu⟩))
                clear hu
                subst c2
                have hcv : rcoverV a b c px py = .tuple #[.agg (eA 0 0 0), .bool false] := by unfold rcoverV covered; rw [hin]; simp
                have HCV := Lib.hid hcv
                clear hin hcv
                go_wp2_with (first
                  | refine arm_build29z rfl rfl ?_
                  | (refine arm_store29 rfl (.tmp 6) (.tmp 75) rfl (w.heap.size + 1) 0 0 0 0 0 0 rfl rfl HST.out.2.2.1 ?_
                     intro w9 hn hbn hoth
                     have H11 := Lib.hid (And.intro hn (HST.out.2.2.2.trans (hbn _ (by omega))))
                     clear hn hbn hoth))
                refine bodyPost_ret (results_ct rfl _ _ _ _ rfl H11.out.1.load) rfl ?_
                exact ⟨by rw [HCV.out]; rfl, H11.out.2⟩
              · have c2b : (ee == 0) = false := by simp [c2]
                have hin : inside a b (256 * px + 128) (256 * py + 128) = true := by unfold inside; rw [← HEE.out]; exact decide_eq_true (fun h => h.elim c1 (fun h => c2 h.1))
                have HIN := Lib.hid hin
                clear hin
                go_wp2_with fail
                have hE := HH.out.2.2.2.2
                exact ⟨⟨3, by omega, rfl, HST.out, fun _ => hE.1 (by omega), fun _ => hE.2.1 (by omega), fun _ => HIN.out⟩, by simp [intOf]⟩
        · have hnw := spot_new2 wr b a
          unfold spotA at hnw
          have HN := Lib.hid (And.intro hnw (below_drew (below_two wr (.cells #[.int .i64 b.x, .int .i64 b.y, .int .i64 b.z, .int .i64 b.w, .int .i64 b.u, .int .i64 b.v] 23) (.cells #[.int .i64 a.x, .int .i64 a.y, .int .i64 a.z, .int .i64 a.w, .int .i64 a.u, .int .i64 a.v] 23))))
          clear hnw
          generalize ((wr.alloc (.cells #[.int .i64 b.x, .int .i64 b.y, .int .i64 b.z, .int .i64 b.w, .int .i64 b.u, .int .i64 b.v] 23)).alloc (.cells #[.int .i64 a.x, .int .i64 a.y, .int .i64 a.z, .int .i64 a.w, .int .i64 a.u, .int .i64 a.v] 23)).drew = wn at *
          have hspA : SpotAt wn (wr.heap.size + 1) a := HN.out.1.2
          have hspB : SpotAt wn wr.heap.size b := HN.out.1.1
          have HST := Lib.hid (show TriAt wn w.heap.size a b c ∧ EAt wn w'.heap.size (side b c (256 * px + 128) (256 * py + 128)) (side c a (256 * px + 128) (256 * py + 128)) (side a b (256 * px + 128) (256 * py + 128)) ∧ EAt wn (w.heap.size + 1) 0 0 0 ∧ Below w.heap.size w wn from ⟨HH.out.1.below HN.out.2, HH.out.2.1.below HN.out.2, HH.out.2.2.1.below HN.out.2, below_trans HH.out.2.2.2.1 HN.out.2⟩)
          clear HN
          obtain ⟨ax, ay⟩ := hspA.x
          obtain ⟨bx, byy⟩ := hspB.x
          obtain ⟨ee, hee⟩ : ∃ ee, ee = side a b (256 * px + 128) (256 * py + 128) := ⟨_, rfl⟩
          have hce := HST.out.2.1.e.2.2
          rw [← hee] at hce
          have HEE := Lib.hid hee
          clear hee hspA hspB
          by_cases d1 : a.y = b.y
          · have d1b : (a.y == b.y) = true := by simp [d1]
            have d3b : decide (b.y < a.y) = false := by simp; omega
            by_cases d2 : a.x < b.x
            · have d2b : decide (a.x < b.x) = true := by simpa using d2
              have HD := Lib.hid (And.intro d1 d2)
              clear d1
              by_cases c1 : ee < 0
              · have hin : inside a b (256 * px + 128) (256 * py + 128) = false := by unfold inside; rw [← HEE.out]; exact decide_eq_false (fun h => h (Or.inl c1))
                have hcv : rcoverV a b c px py = .tuple #[.agg (eA 0 0 0), .bool false] := by unfold rcoverV covered; rw [hin]; simp
                have HCV := Lib.hid hcv
                clear hin hcv
                go_wp2_with (first
                  | refine arm_build29z rfl rfl ?_
                  | (refine arm_store29 rfl (.tmp 6) (.tmp 75) rfl (w.heap.size + 1) 0 0 0 0 0 0 rfl rfl HST.out.2.2.1 ?_
                     intro w9 hn hbn hoth
                     have H11 := Lib.hid (And.intro hn (HST.out.2.2.2.trans (hbn _ (by omega))))
                     clear hn hbn hoth))
                refine bodyPost_ret (results_ct rfl _ _ _ _ rfl H11.out.1.load) rfl ?_
                exact ⟨by rw [HCV.out]; rfl, H11.out.2⟩
              by_cases c2 : ee = 0
              · have hu : upper a b = true := by unfold upper; exact decide_eq_true (by have := HD.out; omega)
                have hin : inside a b (256 * px + 128) (256 * py + 128) = true := by unfold inside; rw [← HEE.out]; exact decide_eq_true (fun h => h.elim c1 (fun h => by rw [hu] at h; cases h.2))
                clear hu
                subst c2
                have HIN := Lib.hid hin
                clear hin
                go_wp2_with fail
                have hE := HH.out.2.2.2.2
                exact ⟨⟨3, by omega, rfl, HST.out, fun _ => hE.1 (by omega), fun _ => hE.2.1 (by omega), fun _ => HIN.out⟩, by simp [intOf]⟩
              · have c2b : (ee == 0) = false := by simp [c2]
                have hin : inside a b (256 * px + 128) (256 * py + 128) = true := by unfold inside; rw [← HEE.out]; exact decide_eq_true (fun h => h.elim c1 (fun h => c2 h.1))
                have HIN := Lib.hid hin
                clear hin
                go_wp2_with fail
                have hE := HH.out.2.2.2.2
                exact ⟨⟨3, by omega, rfl, HST.out, fun _ => hE.1 (by omega), fun _ => hE.2.1 (by omega), fun _ => HIN.out⟩, by simp [intOf]⟩
            · have d2b : decide (a.x < b.x) = false := by simp; omega
              have HD := Lib.hid (And.intro d1 d2)
              clear d1
              by_cases c1 : ee < 0
              · have hin : inside a b (256 * px + 128) (256 * py + 128) = false := by unfold inside; rw [← HEE.out]; exact decide_eq_false (fun h => h (Or.inl c1))
                have hcv : rcoverV a b c px py = .tuple #[.agg (eA 0 0 0), .bool false] := by unfold rcoverV covered; rw [hin]; simp
                have HCV := Lib.hid hcv
                clear hin hcv
                go_wp2_with (first
                  | refine arm_build29z rfl rfl ?_
                  | (refine arm_store29 rfl (.tmp 6) (.tmp 75) rfl (w.heap.size + 1) 0 0 0 0 0 0 rfl rfl HST.out.2.2.1 ?_
                     intro w9 hn hbn hoth
                     have H11 := Lib.hid (And.intro hn (HST.out.2.2.2.trans (hbn _ (by omega))))
                     clear hn hbn hoth))
                refine bodyPost_ret (results_ct rfl _ _ _ _ rfl H11.out.1.load) rfl ?_
                exact ⟨by rw [HCV.out]; rfl, H11.out.2⟩
              by_cases c2 : ee = 0
              · have hu : upper a b = false := by unfold upper; exact decide_eq_false (by have := HD.out; omega)
                have hin : inside a b (256 * px + 128) (256 * py + 128) = false := by unfold inside; rw [← HEE.out]; exact decide_eq_false (fun h => h (Or.inr ⟨c2, hu⟩))
                clear hu
                subst c2
                have hcv : rcoverV a b c px py = .tuple #[.agg (eA 0 0 0), .bool false] := by unfold rcoverV covered; rw [hin]; simp
                have HCV := Lib.hid hcv
                clear hin hcv
                go_wp2_with (first
                  | refine arm_build29z rfl rfl ?_
                  | (refine arm_store29 rfl (.tmp 6) (.tmp 75) rfl (w.heap.size + 1) 0 0 0 0 0 0 rfl rfl HST.out.2.2.1 ?_
                     intro w9 hn hbn hoth
                     have H11 := Lib.hid (And.intro hn (HST.out.2.2.2.trans (hbn _ (by omega))))
                     clear hn hbn hoth))
                refine bodyPost_ret (results_ct rfl _ _ _ _ rfl H11.out.1.load) rfl ?_
                exact ⟨by rw [HCV.out]; rfl, H11.out.2⟩
              · have c2b : (ee == 0) = false := by simp [c2]
                have hin : inside a b (256 * px + 128) (256 * py + 128) = true := by unfold inside; rw [← HEE.out]; exact decide_eq_true (fun h => h.elim c1 (fun h => c2 h.1))
                have HIN := Lib.hid hin
                clear hin
                go_wp2_with fail
                have hE := HH.out.2.2.2.2
                exact ⟨⟨3, by omega, rfl, HST.out, fun _ => hE.1 (by omega), fun _ => hE.2.1 (by omega), fun _ => HIN.out⟩, by simp [intOf]⟩
          · have d1b : (a.y == b.y) = false := by simp [d1]
            by_cases d3 : b.y < a.y
            · have d3b : decide (b.y < a.y) = true := by simpa using d3
              by_cases c1 : ee < 0
              · have hin : inside a b (256 * px + 128) (256 * py + 128) = false := by unfold inside; rw [← HEE.out]; exact decide_eq_false (fun h => h (Or.inl c1))
                have hcv : rcoverV a b c px py = .tuple #[.agg (eA 0 0 0), .bool false] := by unfold rcoverV covered; rw [hin]; simp
                have HCV := Lib.hid hcv
                clear hin hcv
                go_wp2_with (first
                  | refine arm_build29z rfl rfl ?_
                  | (refine arm_store29 rfl (.tmp 6) (.tmp 75) rfl (w.heap.size + 1) 0 0 0 0 0 0 rfl rfl HST.out.2.2.1 ?_
                     intro w9 hn hbn hoth
                     have H11 := Lib.hid (And.intro hn (HST.out.2.2.2.trans (hbn _ (by omega))))
                     clear hn hbn hoth))
                refine bodyPost_ret (results_ct rfl _ _ _ _ rfl H11.out.1.load) rfl ?_
                exact ⟨by rw [HCV.out]; rfl, H11.out.2⟩
              by_cases c2 : ee = 0
              · have hu : upper a b = true := by unfold upper; exact decide_eq_true (by omega)
                have hin : inside a b (256 * px + 128) (256 * py + 128) = true := by unfold inside; rw [← HEE.out]; exact decide_eq_true (fun h => h.elim c1 (fun h => by rw [hu] at h; cases h.2))
                clear hu
                subst c2
                have HIN := Lib.hid hin
                clear hin
                go_wp2_with fail
                have hE := HH.out.2.2.2.2
                exact ⟨⟨3, by omega, rfl, HST.out, fun _ => hE.1 (by omega), fun _ => hE.2.1 (by omega), fun _ => HIN.out⟩, by simp [intOf]⟩
              · have c2b : (ee == 0) = false := by simp [c2]
                have hin : inside a b (256 * px + 128) (256 * py + 128) = true := by unfold inside; rw [← HEE.out]; exact decide_eq_true (fun h => h.elim c1 (fun h => c2 h.1))
                have HIN := Lib.hid hin
                clear hin
                go_wp2_with fail
                have hE := HH.out.2.2.2.2
                exact ⟨⟨3, by omega, rfl, HST.out, fun _ => hE.1 (by omega), fun _ => hE.2.1 (by omega), fun _ => HIN.out⟩, by simp [intOf]⟩
            · have d3b : decide (b.y < a.y) = false := by simp; omega
              by_cases c1 : ee < 0
              · have hin : inside a b (256 * px + 128) (256 * py + 128) = false := by unfold inside; rw [← HEE.out]; exact decide_eq_false (fun h => h (Or.inl c1))
                have hcv : rcoverV a b c px py = .tuple #[.agg (eA 0 0 0), .bool false] := by unfold rcoverV covered; rw [hin]; simp
                have HCV := Lib.hid hcv
                clear hin hcv
                go_wp2_with (first
                  | refine arm_build29z rfl rfl ?_
                  | (refine arm_store29 rfl (.tmp 6) (.tmp 75) rfl (w.heap.size + 1) 0 0 0 0 0 0 rfl rfl HST.out.2.2.1 ?_
                     intro w9 hn hbn hoth
                     have H11 := Lib.hid (And.intro hn (HST.out.2.2.2.trans (hbn _ (by omega))))
                     clear hn hbn hoth))
                refine bodyPost_ret (results_ct rfl _ _ _ _ rfl H11.out.1.load) rfl ?_
                exact ⟨by rw [HCV.out]; rfl, H11.out.2⟩
              by_cases c2 : ee = 0
              · have hu : upper a b = false := by unfold upper; exact decide_eq_false (by omega)
                have hin : inside a b (256 * px + 128) (256 * py + 128) = false := by unfold inside; rw [← HEE.out]; exact decide_eq_false (fun h => h (Or.inr ⟨c2, hu⟩))
                clear hu
                subst c2
                have hcv : rcoverV a b c px py = .tuple #[.agg (eA 0 0 0), .bool false] := by unfold rcoverV covered; rw [hin]; simp
                have HCV := Lib.hid hcv
                clear hin hcv
                go_wp2_with (first
                  | refine arm_build29z rfl rfl ?_
                  | (refine arm_store29 rfl (.tmp 6) (.tmp 75) rfl (w.heap.size + 1) 0 0 0 0 0 0 rfl rfl HST.out.2.2.1 ?_
                     intro w9 hn hbn hoth
                     have H11 := Lib.hid (And.intro hn (HST.out.2.2.2.trans (hbn _ (by omega))))
                     clear hn hbn hoth))
                refine bodyPost_ret (results_ct rfl _ _ _ _ rfl H11.out.1.load) rfl ?_
                exact ⟨by rw [HCV.out]; rfl, H11.out.2⟩
              · have c2b : (ee == 0) = false := by simp [c2]
                have hin : inside a b (256 * px + 128) (256 * py + 128) = true := by unfold inside; rw [← HEE.out]; exact decide_eq_true (fun h => h.elim c1 (fun h => c2 h.1))
                have HIN := Lib.hid hin
                clear hin
                go_wp2_with fail
                have hE := HH.out.2.2.2.2
                exact ⟨⟨3, by omega, rfl, HST.out, fun _ => hE.1 (by omega), fun _ => hE.2.1 (by omega), fun _ => HIN.out⟩, by simp [intOf]⟩
      · clear hT hH hZ hB
        clear q0 q1 q2 q3 q4 q5 q6 q7 q8 q9 q10 q11 q12 q13 q14 q15 q16 q17
        have hE := HH.out.2.2.2.2
        have hcv : rcoverV a b c px py = .tuple #[.agg (eA (side b c (256 * px + 128) (256 * py + 128)) (side c a (256 * px + 128) (256 * py + 128)) (side a b (256 * px + 128) (256 * py + 128))), .bool true] := by
          unfold rcoverV covered
          rw [HAR.out, hE.1 (by omega), hE.2.1 (by omega), hE.2.2 (by omega)]; simp
        have HCV := Lib.hid hcv
        clear hcv hE
        go_wp2_with (first
          | refine arm_load29 rfl (.tmp 8) rfl w'.heap.size (side b c (256 * px + 128) (256 * py + 128)) (side c a (256 * px + 128) (256 * py + 128)) (side a b (256 * px + 128) (256 * py + 128)) rfl HH.out.2.1 ?_
          | (refine arm_store29 rfl (.tmp 6) (.tmp 76) rfl (w.heap.size + 1) 0 0 0 (side b c (256 * px + 128) (256 * py + 128)) (side c a (256 * px + 128) (256 * py + 128)) (side a b (256 * px + 128) (256 * py + 128)) rfl rfl HH.out.2.2.1 ?_
             intro w9 hn hbn hoth
             have H11 := Lib.hid (And.intro hn (HH.out.2.2.2.1.trans (hbn _ (by omega))))
             clear hn hbn hoth))
        refine bodyPost_ret (results_ct rfl _ _ _ _ rfl H11.out.1.load) rfl ?_
        exact ⟨by rw [HCV.out]; rfl, H11.out.2⟩
  · have hcv : rcoverV a b c px py = .tuple #[.agg (eA 0 0 0), .bool false] := by
      unfold rcoverV covered; rw [decide_eq_false h1]; simp
    have HCV := Lib.hid hcv
    clear hcv HED
    generalize area a b c = n at *
    go_enter Try.func13, Try.ntmps13
    go_wp2_with (first
      | refine arm_alloc29 rfl rfl ?_
      | refine arm_load24 rfl (.tmp 3) rfl w.heap.size a b c rfl HT2.out ?_)
    refine (HS.out _).mono ?_
    rintro e w' ⟨rfl, hb⟩
    have H4 := Lib.hid (HZ.out.below hb)
    have HB1 := Lib.hid (below_trans HB0.out hb)
    clear HT HZ HB0 HT2 hb
    go_wp2_with (first
      | refine arm_build29z rfl rfl ?_
      | (refine arm_store29 rfl (.tmp 6) (.tmp 17) rfl (w.heap.size + 1) 0 0 0 0 0 0 rfl rfl H4.out ?_
         intro w9 hn hbn hoth
         have H11 := Lib.hid (And.intro hn (HB1.out.trans (hbn _ (by omega))))
         clear hn hbn hoth))
    refine bodyPost_ret (results_ct rfl _ _ _ _ rfl H11.out.1.load) rfl ?_
    exact ⟨by rw [HCV.out]; rfl, H11.out.2⟩
end Go.Proofs.Ytgkidgpdgcdgnaa
