/- Which pixels a triangle covers. -/
import Derived.Test.YtgkidgpdgcdgnaaTurn
import Derived.Deep.CutRange
namespace Go.Proofs.Ytgkidgpdgcdgnaa
open Go.RowKit

@[irreducible] def hitA (x y e0 e1 e2 : Int) : Array Value := #[.int .i64 x, .int .i64 y, .int .i64 e0, .int .i64 e1, .int .i64 e2]
theorem hitA_size (x y e0 e1 e2 : Int) : (hitA x y e0 e1 e2).size = 5 := by unfold hitA; rfl
theorem hitA_one (x y e0 e1 e2 : Int) : (hitA x y e0 e1 e2).all (·.oneCell') = true := by unfold hitA; simp [Value.oneCell']
theorem size31 (x y e0 e1 e2 : Int) : (Try.prog.info? 31).map (·.size) = some (hitA x y e0 e1 e2).size := by rw [hitA_size]; kernel_rfl
theorem alloc31 (w : World) : (Instr.alloc 31 true (.tuple #[])).run Try.prog w = .ok (.pointer (some ⟨w.heap.size, 0, none⟩)) (w.alloc (.cells (hitA 0 0 0 0 0) 31)) := by
  unfold hitA; kernel_rfl
theorem built31 (x y : Int) : Try.prog.built 31 [(0, .int .i64 x), (1, .int .i64 y)] = some (hitA x y 0 0 0) := by
  unfold hitA; kernel_rfl
theorem built31z : Try.prog.built 31 [] = some (hitA 0 0 0 0 0) := by
  unfold hitA; kernel_rfl
def HitAt (w : World) (g : Nat) (x y e0 e1 e2 : Int) : Prop := w.heap[g]? = some (.cells (hitA x y e0 e1 e2) 31 (0, 0))
theorem HitAt.cell {w : World} {g : Nat} {x y e0 e1 e2 : Int} (h : HitAt w g x y e0 e1 e2) (i : Nat) : w.cell? ⟨g, i, none⟩ = (hitA x y e0 e1 e2)[i]? := cell_of_row _ _ _ _ _ _ h
theorem HitAt.e {w : World} {g : Nat} {x y e0 e1 e2 : Int} (h : HitAt w g x y e0 e1 e2) : w.cell? ⟨g, 2, none⟩ = some (.int .i64 e0) ∧ w.cell? ⟨g, 3, none⟩ = some (.int .i64 e1) ∧ w.cell? ⟨g, 4, none⟩ = some (.int .i64 e2) := by
  refine ⟨?_, ?_, ?_⟩ <;> (rw [h.cell]; unfold hitA; rfl)
theorem HitAt.below {w w' : World} {g : Nat} {x y e0 e1 e2 : Int} (h : HitAt w g x y e0 e1 e2) (hb : Below w.heap.size w w') : HitAt w' g x y e0 e1 e2 := (hb.block g (Array.getElem?_eq_some_iff.1 h).1).trans h
theorem HitAt.new (w : World) (x y e0 e1 e2 : Int) : HitAt (w.alloc (.cells (hitA x y e0 e1 e2) 31)) w.heap.size x y e0 e1 e2 := heap_alloc_new w _
theorem HitAt.load {w : World} {g : Nat} {x y e0 e1 e2 : Int} (h : HitAt w g x y e0 e1 e2) : (loadVar 31 ⟨g, 0, none⟩).run Try.prog w = .ok (.agg (hitA x y e0 e1 e2)) w :=
  run_loadVar_row w g 31 31 (hitA x y e0 e1 e2) (0, 0) _ h Try.underlying31 rfl (size31 x y e0 e1 e2)
section
variable {ops : Array Oper} {rest : List Oper} {o : Oper} {a : Act} {w : World} {Q : Exit → Act → World → Prop}
theorem arm_load31 (hgd : o.guard = none) (x : Operand) (ho : o.op = .load 31 x) (g : Nat) (p q e0 e1 e2 : Int) (hx : a.eval x = .pointer (some ⟨g, 0, none⟩)) (hg : HitAt w g p q e0 e1 e2)
    (h : wpList Try.prog ops Q rest (a.put o.dst (.agg (hitA p q e0 e1 e2))) w) : wpList Try.prog ops Q (o :: rest) a w :=
  wpList_load_row hgd 31 x ho g hx 31 (hitA p q e0 e1 e2) (0, 0) _ hg Try.underlying31 rfl (size31 p q e0 e1 e2) h
theorem arm_alloc31 (hgd : o.guard = none) (ho : o.op = .alloc 31)
    (h : wpList Try.prog ops Q rest (a.put o.dst (.pointer (some ⟨w.heap.size, 0, none⟩))) (w.alloc (.cells (hitA 0 0 0 0 0) 31))) : wpList Try.prog ops Q (o :: rest) a w :=
  wpList_plain hgd fun K hK => by
    unfold Oper.wp
    simp only [execOp, ho, Sem.run_bind, alloc31]
    exact hK _ _ h
theorem arm_store31 (hgd : o.guard = none) (x y : Operand) (ho : o.op = .store 31 x y) (g : Nat) (p q e0 e1 e2 p' q' e0' e1' e2' : Int) (hx : a.eval x = .pointer (some ⟨g, 0, none⟩)) (hy : a.eval y = .agg (hitA p' q' e0' e1' e2')) (hg : HitAt w g p q e0 e1 e2)
    (h : ∀ w', HitAt w' g p' q' e0' e1' e2' → (∀ B, B ≤ g → Below B w w') → (∀ c, c ≠ g → w'.heap[c]? = w.heap[c]?) → wpList Try.prog ops Q rest (a.put o.dst undef) w') : wpList Try.prog ops Q (o :: rest) a w :=
  wpList_plain hgd fun K hK => wp_store_row 31 x y ho g (hitA p' q' e0' e1' e2') hx hy 31 (hitA p q e0 e1 e2) hg (size31 _ _ _ _ _) (by rw [hitA_size, hitA_size]) (hitA_one _ _ _ _ _)
    (hK _ _ (h _ (setRow_heap w g _ _ 31 _ hg) (fun B hB => ⟨rfl, rfl, rfl, by simp [World.setRow], fun k hk => setRow_other w g k _ (by omega)⟩) (fun c hc => setRow_other w g c _ hc)))
theorem arm_build31 (hgd : o.guard = none) (x y : Operand) (ho : o.op = .build 31 #[(0, x), (1, y)]) (p q : Int) (hx : a.eval x = .int .i64 p) (hy : a.eval y = .int .i64 q)
    (h : wpList Try.prog ops Q rest (a.put o.dst (.agg (hitA p q 0 0 0))) w) : wpList Try.prog ops Q (o :: rest) a w := by
  have e : Try.prog.built 31 ((#[(0, x), (1, y)] : Array (Nat × Operand)).map fun (i, x) => (i, a.eval x)).toList = some (hitA p q 0 0 0) := by
    simp only [List.map_toArray, List.map_cons, List.map_nil, hx, hy]; exact built31 p q
  refine wpList_build hgd 31 _ ho (by rw [e]; rfl) ?_
  rw [e]; exact h
theorem arm_build31z (hgd : o.guard = none) (ho : o.op = .build 31 #[])
    (h : wpList Try.prog ops Q rest (a.put o.dst (.agg (hitA 0 0 0 0 0))) w) : wpList Try.prog ops Q (o :: rest) a w := by
  have e : Try.prog.built 31 ((#[] : Array (Nat × Operand)).map fun (i, x) => (i, a.eval x)).toList = some (hitA 0 0 0 0 0) := by rw [Array.map_empty]; exact built31z
  refine wpList_build hgd 31 _ ho (by rw [e]; rfl) ?_
  rw [e]; exact h
end
/-- the facts of a triangle's cells, as a region that draws its order wants them -/
theorem TriAt.all {w : World} {g : Nat} {a b c : Spot} (h : TriAt w g a b c) : ∀ i v, (triCells a b c)[i]? = some v → w.cell? ⟨g, i, none⟩ = some v := fun i v hv => by
  rw [h.cell, ← hv]; unfold triA; rfl

def inside (a b : Spot) (x y : Int) : Bool := decide (¬ (side a b x y < 0 ∨ side a b x y = 0 ∧ upper a b = false))
def covered (a b c : Spot) (px py : Int) : Bool := decide (0 < area a b c) && (inside b c (256 * px + 128) (256 * py + 128) && (inside c a (256 * px + 128) (256 * py + 128) && inside a b (256 * px + 128) (256 * py + 128)))
def hitOf (a b c : Spot) (px py : Int) : Array Value := hitA px py (side b c (256 * px + 128) (256 * py + 128)) (side c a (256 * px + 128) (256 * py + 128)) (side a b (256 * px + 128) (256 * py + 128))
def coverV (a b c : Spot) (px py : Int) : Value := if covered a b c px py = true then .tuple #[.agg (hitOf a b c px py), .bool true] else .tuple #[.agg (hitA 0 0 0 0 0), .bool false]
theorem setCell_row (w : World) (g i : Nat) (cs : Array Value) (t : TypeId) (v : Value) (h : w.heap[g]? = some (.cells cs t (0, 0))) : (w.setCell ⟨g, i, none⟩ v).heap[g]? = some (.cells (cs.setIfInBounds i v) t (0, 0)) := by
  simp [World.setCell, Array.getElem?_modify, h]
theorem HitAt.set {w : World} {g : Nat} {x y e0 e1 e2 : Int} (h : HitAt w g x y e0 e1 e2) (v : Int) :
    HitAt (w.setCell ⟨g, 2, none⟩ (.int .i64 v)) g x y v e1 e2 ∧ HitAt (w.setCell ⟨g, 3, none⟩ (.int .i64 v)) g x y e0 v e2 ∧ HitAt (w.setCell ⟨g, 4, none⟩ (.int .i64 v)) g x y e0 e1 v := by
  refine ⟨?_, ?_, ?_⟩ <;> (unfold HitAt; rw [setCell_row _ _ _ _ _ _ h]; unfold hitA; rfl)
theorem HitAt.free {w : World} {g : Nat} {x y e0 e1 e2 : Int} (h : HitAt w g x y e0 e1 e2) (i : Nat) : w.frozen? ⟨g, i, none⟩ = false := frozen_of_row _ _ _ _ _ h
theorem setCell_other (w : World) (p : Addr) (v : Value) (c : Nat) (h : c ≠ p.block) : (w.setCell p v).heap[c]? = w.heap[c]? := by
  simp only [World.setCell, Array.getElem?_modify]
  rw [if_neg (fun e => h e.symm)]
section
variable {ops : Array Oper} {rest : List Oper} {o : Oper} {a : Act} {w : World} {Q : Exit → Act → World → Prop}
theorem arm_load23g (hw : Region.wanted o (yielded ops a.tmps) = true) (x : Operand) (ho : o.op = .load 23 x) (g k : Nat) (p : Spot) (hx : a.eval x = .pointer (some ⟨g, k, none⟩)) (hg : w.rangeAt g k (spotA p).toList)
    (h : wpList Try.prog ops Q rest (a.put o.dst (.agg (spotA p))) w) : wpList Try.prog ops Q (o :: rest) a w :=
  wpList_step fun K hK => by
    simp only [hw, if_true]
    refine wp_load_mid 23 x ho g k hx (spotA p).toList _ hg Try.underlying23 rfl (by rw [Array.length_toList]; exact size23 p) ?_
    rw [Array.toArray_toList]; exact hK _ _ h
end
theorem below_drew {w w' : World} (h : Below w.heap.size w w') : Below w.heap.size w w'.drew := ⟨h.os, h.tape, h.output, h.size, h.block⟩
theorem spot_new2 (w : World) (p q : Spot) : SpotAt (((w.alloc (.cells (spotA p) 23)).alloc (.cells (spotA q) 23)).drew) w.heap.size p ∧ SpotAt (((w.alloc (.cells (spotA p) 23)).alloc (.cells (spotA q) 23)).drew) (w.heap.size + 1) q := by
  refine ⟨(SpotAt.new w p).below (below_drew (below_alloc _ _)), ?_⟩
  have := SpotAt.new (w.alloc (.cells (spotA p) 23)) q
  rw [World.size_alloc] at this; exact this

set_option maxRecDepth 100000 in
set_option maxHeartbeats 2000000 in
theorem Covers_walk (a b c : Spot) (px py : Int) (ha : a.ok) (hb : b.ok) (hc : c.ok) (hx : -100 ≤ px ∧ px ≤ 100) (hy : -100 ≤ py ∧ py ≤ 100) (w : World) :
    Calls Try.prog 12 #[.agg (triA a b c), .int .i64 px, .int .i64 py] w fun e w' => e = .returned (coverV a b c px py) ∧ Below w.heap.size w w' := by
  have hs := fun W => Area_walk a b c ha hb hc W
  simp only [triV_A] at hs
  have HS := Lib.hid hs
  clear hs
  have hsi := fun (A B : Spot) (hA : A.ok) (hB : B.ok) W => Side_walk A B (256 * px + 128) (256 * py + 128) hA hB (by unfold Near; omega) (by unfold Near; omega) W
  have hup := fun (A B : Spot) W => upper_walk A B W
  simp only [spotV_A] at hsi hup
  have HSI := Lib.hid (And.intro (hsi b c hb hc) (And.intro (hsi c a hc ha) (hsi a b ha hb)))
  have HUP := Lib.hid hup
  clear hsi hup
  have hz := HitAt.new (w.alloc (.cells (triA a b c) 24)) 0 0 0 0 0
  rw [World.size_alloc] at hz
  have HT := Lib.hid (TriAt.new w a b c)
  have HZ := Lib.hid hz
  clear hz
  have HB0 := Lib.hid (below_two w (.cells (triA a b c) 24) (.cells (hitA 0 0 0 0 0) 31))
  have HT2 := Lib.hid (HT.out.below (below_alloc _ (.cells (hitA 0 0 0 0 0) 31)))
  by_cases h1 : 0 < area a b c
  · have HAR := Lib.hid (decide_eq_true h1)
    generalize hn0 : area a b c = n at *
    rw [← hn0] at HAR
    clear hn0
    go_enter Try.func12, Try.ntmps12
    go_wp2_with (first
      | refine arm_alloc31 rfl rfl ?_
      | refine arm_load24 rfl (.tmp 3) rfl w.heap.size a b c rfl HT2.out ?_)
    refine (HS.out _).mono ?_
    rintro e w' ⟨rfl, hb⟩
    have H3 := Lib.hid (HT2.out.below hb)
    have H4 := Lib.hid (HZ.out.below hb)
    have HB1 := Lib.hid (below_trans HB0.out hb)
    clear HT HZ HB0 HT2 hb
    have hs8 := HitAt.new w' 0 0 0 0 0
    have H8 := Lib.hid hs8
    have H9 := Lib.hid (H3.out.below (below_alloc w' (.cells (hitA 0 0 0 0 0) 31)))
    have HB2 := Lib.hid (below_trans HB1.out (below_alloc w' (.cells (hitA 0 0 0 0 0) 31)))
    clear hs8
    have HNE := Lib.hid (show w.heap.size + 1 < w'.heap.size from (Array.getElem?_eq_some_iff.1 H4.out).1)
    have hpx : 0 ≤ 100 - px ∧ 0 ≤ 100 - py := by omega
    go_wp2_with (first
      | refine arm_alloc31 rfl rfl ?_
      | refine arm_build31 rfl (.tmp 16) (.tmp 17) rfl px py rfl rfl ?_
      | (refine arm_store31 rfl (.tmp 8) (.tmp 18) rfl w'.heap.size 0 0 0 0 0 px py 0 0 0 rfl rfl H8.out ?_
         intro w8 hn hbn hoth
         have H10 := Lib.hid (And.intro hn (And.intro (HB2.out.trans (hbn _ (HB1.out.size))) (And.intro ((hoth w.heap.size (by have := HB1.out.size; have := (Array.getElem?_eq_some_iff.1 H3.out).1; omega)).trans H9.out) ((hoth (w.heap.size + 1) (by have := (Array.getElem?_eq_some_iff.1 H4.out).1; omega)).trans ((Below.heap_alloc w' (.cells (hitA 0 0 0 0 0) 31) (w.heap.size + 1) (Array.getElem?_eq_some_iff.1 H4.out).1).trans H4.out)))))
         clear hn hbn hoth))
    go_loopw [19] (fun i wr => ∃ (k : Nat) (e0 e1 e2 : Int), k ≤ 3 ∧ i = .int .i64 k ∧ (TriAt wr w.heap.size a b c ∧ HitAt wr w'.heap.size px py e0 e1 e2 ∧ HitAt wr (w.heap.size + 1) 0 0 0 0 0 ∧ Below w.heap.size w wr) ∧
      (0 < k → e0 = side b c (256 * px + 128) (256 * py + 128) ∧ inside b c (256 * px + 128) (256 * py + 128) = true) ∧ (1 < k → e1 = side c a (256 * px + 128) (256 * py + 128) ∧ inside c a (256 * px + 128) (256 * py + 128) = true) ∧ (2 < k → e2 = side a b (256 * px + 128) (256 * py + 128) ∧ inside a b (256 * px + 128) (256 * py + 128) = true)) (fun i _ => 3 - (intOf i).toNat)
    case atStart => exact ⟨0, 0, 0, 0, by omega, rfl, ⟨H10.out.2.2.1, H10.out.1, H10.out.2.2.2, H10.out.2.1⟩, fun h => by omega, fun h => by omega, fun h => by omega⟩
    case round =>
      obtain ⟨k, e0, e1, e2, hk, rfl, ⟨hT, hH, hZ, hB⟩, hE⟩ := hrel
      clear H10
      have HH := Lib.hid (And.intro hT (And.intro hH (And.intro hZ (And.intro hB hE))))
      clear hE
      have q0 : wr.cell? ⟨w.heap.size, 0, none⟩ = some (.int .i64 a.x) := hT.all 0 _ rfl
      have q1 : wr.cell? ⟨w.heap.size, 1, none⟩ = some (.int .i64 a.y) := hT.all 1 _ rfl
      have q2 : wr.cell? ⟨w.heap.size, 2, none⟩ = some (.int .i64 a.z) := hT.all 2 _ rfl
      have q3 : wr.cell? ⟨w.heap.size, 3, none⟩ = some (.int .i64 a.w) := hT.all 3 _ rfl
      have q4 : wr.cell? ⟨w.heap.size, 4, none⟩ = some (.int .i64 a.u) := hT.all 4 _ rfl
      have q5 : wr.cell? ⟨w.heap.size, 5, none⟩ = some (.int .i64 a.v) := hT.all 5 _ rfl
      have q6 : wr.cell? ⟨w.heap.size, 6, none⟩ = some (.int .i64 b.x) := hT.all 6 _ rfl
      have q7 : wr.cell? ⟨w.heap.size, 7, none⟩ = some (.int .i64 b.y) := hT.all 7 _ rfl
      have q8 : wr.cell? ⟨w.heap.size, 8, none⟩ = some (.int .i64 b.z) := hT.all 8 _ rfl
      have q9 : wr.cell? ⟨w.heap.size, 9, none⟩ = some (.int .i64 b.w) := hT.all 9 _ rfl
      have q10 : wr.cell? ⟨w.heap.size, 10, none⟩ = some (.int .i64 b.u) := hT.all 10 _ rfl
      have q11 : wr.cell? ⟨w.heap.size, 11, none⟩ = some (.int .i64 b.v) := hT.all 11 _ rfl
      have q12 : wr.cell? ⟨w.heap.size, 12, none⟩ = some (.int .i64 c.x) := hT.all 12 _ rfl
      have q13 : wr.cell? ⟨w.heap.size, 13, none⟩ = some (.int .i64 c.y) := hT.all 13 _ rfl
      have q14 : wr.cell? ⟨w.heap.size, 14, none⟩ = some (.int .i64 c.z) := hT.all 14 _ rfl
      have q15 : wr.cell? ⟨w.heap.size, 15, none⟩ = some (.int .i64 c.w) := hT.all 15 _ rfl
      have q16 : wr.cell? ⟨w.heap.size, 16, none⟩ = some (.int .i64 c.u) := hT.all 16 _ rfl
      have q17 : wr.cell? ⟨w.heap.size, 17, none⟩ = some (.int .i64 c.v) := hT.all 17 _ rfl
      have HWR := Lib.hid (Array.getElem?_eq_some_iff.1 hH).1
      have hlt : w.heap.size < wr.heap.size := (Array.getElem?_eq_some_iff.1 hT).1
      have hne : w.heap.size ≠ wr.heap.size := by omega
      have hk3 : k = 0 ∨ k = 1 ∨ k = 2 ∨ k = 3 := by omega
      rcases hk3 with rfl | rfl | rfl | rfl
      · clear hT hH hZ hB
        go_wp2_with fail
        go_region
        · have hnw := spot_new2 wr b c
          unfold spotA at hnw
          have HN := Lib.hid (And.intro hnw (below_drew (below_two wr (.cells #[.int .i64 b.x, .int .i64 b.y, .int .i64 b.z, .int .i64 b.w, .int .i64 b.u, .int .i64 b.v] 23) (.cells #[.int .i64 c.x, .int .i64 c.y, .int .i64 c.z, .int .i64 c.w, .int .i64 c.u, .int .i64 c.v] 23))))
          clear hnw
          generalize ((wr.alloc (.cells #[.int .i64 b.x, .int .i64 b.y, .int .i64 b.z, .int .i64 b.w, .int .i64 b.u, .int .i64 b.v] 23)).alloc (.cells #[.int .i64 c.x, .int .i64 c.y, .int .i64 c.z, .int .i64 c.w, .int .i64 c.u, .int .i64 c.v] 23)).drew = wn at *
          have hspA : SpotAt wn wr.heap.size b := HN.out.1.1
          have hspB : SpotAt wn (wr.heap.size + 1) c := HN.out.1.2
          have HSP := Lib.hid (And.intro hspA hspB)
          have HST := Lib.hid (And.intro (HH.out.1.below HN.out.2) (And.intro (HH.out.2.1.below HN.out.2) (And.intro (HH.out.2.2.1.below HN.out.2) (below_trans HH.out.2.2.2.1 HN.out.2))))
          clear hspA hspB HN
          go_wp2_with (first
            | refine arm_load23 rfl (.tmp 10) rfl wr.heap.size 0 b rfl HSP.out.1.r ?_
            | refine arm_load23 rfl (.tmp 11) rfl (wr.heap.size + 1) 0 c rfl HSP.out.2.r ?_)
          refine (HSI.out.1 _).mono ?_
          rintro e w4 ⟨rfl, hb4⟩
          obtain ⟨ee, hee⟩ : ∃ ee, ee = side b c (256 * px + 128) (256 * py + 128) := ⟨_, rfl⟩
          rw [← hee]
          have HEE := Lib.hid hee
          clear hee
          have HS4 := Lib.hid (And.intro (HST.out.1.below hb4) (And.intro (HST.out.2.1.below hb4) (And.intro (HST.out.2.2.1.below hb4) (And.intro (below_trans HST.out.2.2.2 hb4) (And.intro (HSP.out.1.below hb4) (HSP.out.2.below hb4))))))
          clear hb4 HSP HST
          have hce := HS4.out.2.1.e.1
          have hfe := HS4.out.2.1.free 2
          have hg8 : w'.heap.size < w4.heap.size := (Array.getElem?_eq_some_iff.1 HS4.out.2.1).1
          have HG8 := Lib.hid hg8
          clear hg8
          have HW5 := Lib.hid (show TriAt (w4.setCell ⟨w'.heap.size, 2, none⟩ (.int .i64 ee)) w.heap.size a b c ∧ HitAt (w4.setCell ⟨w'.heap.size, 2, none⟩ (.int .i64 ee)) w'.heap.size px py ee e1 e2 ∧ HitAt (w4.setCell ⟨w'.heap.size, 2, none⟩ (.int .i64 ee)) (w.heap.size + 1) 0 0 0 0 0 ∧ Below w.heap.size w (w4.setCell ⟨w'.heap.size, 2, none⟩ (.int .i64 ee)) ∧ SpotAt (w4.setCell ⟨w'.heap.size, 2, none⟩ (.int .i64 ee)) wr.heap.size b ∧ SpotAt (w4.setCell ⟨w'.heap.size, 2, none⟩ (.int .i64 ee)) (wr.heap.size + 1) c from by
            have o1 := fun c hc => setCell_other w4 ⟨w'.heap.size, 2, none⟩ (.int .i64 ee) c hc
            have hW := HNE.out
            have hWr := HWR.out
            exact ⟨(o1 _ (by simp; omega)).trans HS4.out.1, (HS4.out.2.1.set ee).1, (o1 _ (by simp; omega)).trans HS4.out.2.2.1, HS4.out.2.2.2.1.setCell (p := ⟨w'.heap.size, 2, none⟩) (by simp; omega) _, (o1 _ (by simp; omega)).trans HS4.out.2.2.2.2.1, (o1 _ (by simp; omega)).trans HS4.out.2.2.2.2.2⟩)
          have hg6 : HitAt (w4.setCell ⟨w'.heap.size, 2, none⟩ (.int .i64 ee)) (w.heap.size + 1) 0 0 0 0 0 := HW5.out.2.2.1
          clear HS4 HSI
          have HG6 := Lib.hid hg6
          clear hg6
          by_cases c1 : ee < 0
          · have hin : inside b c (256 * px + 128) (256 * py + 128) = false := by unfold inside; rw [← HEE.out]; exact decide_eq_false (by omega)
            have hcv : coverV a b c px py = .tuple #[.agg (hitA 0 0 0 0 0), .bool false] := by unfold coverV covered; rw [hin]; simp
            have HCV := Lib.hid hcv
            clear hin hcv
            go_wp2_with (first
              | refine arm_build31z rfl rfl ?_
              | (refine arm_store31 rfl (.tmp 6) (.tmp 62) rfl (w.heap.size + 1) 0 0 0 0 0 0 0 0 0 0 rfl rfl HG6.out ?_
                 intro w9 hn hbn hoth
                 have H11 := Lib.hid (And.intro hn (HW5.out.2.2.2.1.trans (hbn _ (by omega))))
                 clear hn hbn hoth))
            refine bodyPost_ret (results_ct rfl _ _ _ _ rfl H11.out.1.load) rfl ?_
            exact ⟨by rw [HCV.out]; rfl, H11.out.2⟩
          by_cases c2 : ee = 0
          · subst c2
            cases hu : upper b c with
            | false =>
              have hin : inside b c (256 * px + 128) (256 * py + 128) = false := by unfold inside; rw [← HEE.out, hu]; exact decide_eq_false (fun h => h (Or.inr ⟨rfl, rfl⟩))
              have hcv : coverV a b c px py = .tuple #[.agg (hitA 0 0 0 0 0), .bool false] := by unfold coverV covered; rw [hin]; simp
              have HCV := Lib.hid hcv
              have HU := Lib.hid hu
              clear hin hcv hu
              go_wp2_with (first
                | refine arm_load23g (by first | rfl | simp [Region.wanted, yielded]) (.tmp 10) rfl wr.heap.size 0 b rfl HW5.out.2.2.2.2.1.r ?_
                | refine arm_load23g (by first | rfl | simp [Region.wanted, yielded]) (.tmp 11) rfl (wr.heap.size + 1) 0 c rfl HW5.out.2.2.2.2.2.r ?_)
              refine (HUP.out b c _).mono ?_
              rintro e w6 ⟨rfl, hb6⟩
              rw [HU.out]
              have HG7 := Lib.hid (And.intro (HG6.out.below hb6) (below_trans HW5.out.2.2.2.1 hb6))
              clear hb6
              go_wp2_with (first
                | refine arm_build31z rfl rfl ?_
                | (refine arm_store31 rfl (.tmp 6) (.tmp 62) rfl (w.heap.size + 1) 0 0 0 0 0 0 0 0 0 0 rfl rfl HG7.out.1 ?_
                   intro w9 hn hbn hoth
                   have H11 := Lib.hid (And.intro hn (HG7.out.2.trans (hbn _ (by omega))))
                   clear hn hbn hoth))
              refine bodyPost_ret (results_ct rfl _ _ _ _ rfl H11.out.1.load) rfl ?_
              exact ⟨by rw [HCV.out]; rfl, H11.out.2⟩
            | true =>
              have hin : inside b c (256 * px + 128) (256 * py + 128) = true := by unfold inside; rw [← HEE.out, hu]; exact decide_eq_true (fun h => h.elim c1 (fun h => by cases h.2))
              have HIN := Lib.hid hin
              have HU := Lib.hid hu
              clear hin hu
              go_wp2_with (first
                | refine arm_load23g (by first | rfl | simp [Region.wanted, yielded]) (.tmp 10) rfl wr.heap.size 0 b rfl HW5.out.2.2.2.2.1.r ?_
                | refine arm_load23g (by first | rfl | simp [Region.wanted, yielded]) (.tmp 11) rfl (wr.heap.size + 1) 0 c rfl HW5.out.2.2.2.2.2.r ?_)
              refine (HUP.out b c _).mono ?_
              rintro e w6 ⟨rfl, hb6⟩
              rw [HU.out]
              have HW6 := Lib.hid (And.intro (HW5.out.1.below hb6) (And.intro (HW5.out.2.1.below hb6) (And.intro (HW5.out.2.2.1.below hb6) (below_trans HW5.out.2.2.2.1 hb6))))
              clear hb6
              go_wp2_with fail
              have hE := HH.out.2.2.2.2
              exact ⟨⟨1, _, e1, e2, by omega, rfl, ⟨HW6.out.1, HW6.out.2.1, HW6.out.2.2.1, HW6.out.2.2.2⟩, fun _ => ⟨HEE.out, HIN.out⟩, fun h => by omega, fun h => by omega⟩, by simp [intOf]⟩
          · have c2b : (ee == 0) = false := by simp [c2]
            have hin : inside b c (256 * px + 128) (256 * py + 128) = true := by unfold inside; rw [← HEE.out]; exact decide_eq_true (fun h => h.elim c1 (fun h => c2 h.1))
            have HIN := Lib.hid hin
            clear hin
            go_wp2_with fail
            have hE := HH.out.2.2.2.2
            exact ⟨⟨1, _, e1, e2, by omega, rfl, ⟨HW5.out.1, HW5.out.2.1, HW5.out.2.2.1, HW5.out.2.2.2.1⟩, fun _ => ⟨HEE.out, HIN.out⟩, fun h => by omega, fun h => by omega⟩, by simp [intOf]⟩
        · have hnw := spot_new2 wr c b
          unfold spotA at hnw
          have HN := Lib.hid (And.intro hnw (below_drew (below_two wr (.cells #[.int .i64 c.x, .int .i64 c.y, .int .i64 c.z, .int .i64 c.w, .int .i64 c.u, .int .i64 c.v] 23) (.cells #[.int .i64 b.x, .int .i64 b.y, .int .i64 b.z, .int .i64 b.w, .int .i64 b.u, .int .i64 b.v] 23))))
          clear hnw
          generalize ((wr.alloc (.cells #[.int .i64 c.x, .int .i64 c.y, .int .i64 c.z, .int .i64 c.w, .int .i64 c.u, .int .i64 c.v] 23)).alloc (.cells #[.int .i64 b.x, .int .i64 b.y, .int .i64 b.z, .int .i64 b.w, .int .i64 b.u, .int .i64 b.v] 23)).drew = wn at *
          have hspA : SpotAt wn (wr.heap.size + 1) b := HN.out.1.2
          have hspB : SpotAt wn wr.heap.size c := HN.out.1.1
          have HSP := Lib.hid (And.intro hspA hspB)
          have HST := Lib.hid (And.intro (HH.out.1.below HN.out.2) (And.intro (HH.out.2.1.below HN.out.2) (And.intro (HH.out.2.2.1.below HN.out.2) (below_trans HH.out.2.2.2.1 HN.out.2))))
          clear hspA hspB HN
          go_wp2_with (first
            | refine arm_load23 rfl (.tmp 10) rfl (wr.heap.size + 1) 0 b rfl HSP.out.1.r ?_
            | refine arm_load23 rfl (.tmp 11) rfl wr.heap.size 0 c rfl HSP.out.2.r ?_)
          refine (HSI.out.1 _).mono ?_
          rintro e w4 ⟨rfl, hb4⟩
          obtain ⟨ee, hee⟩ : ∃ ee, ee = side b c (256 * px + 128) (256 * py + 128) := ⟨_, rfl⟩
          rw [← hee]
          have HEE := Lib.hid hee
          clear hee
          have HS4 := Lib.hid (And.intro (HST.out.1.below hb4) (And.intro (HST.out.2.1.below hb4) (And.intro (HST.out.2.2.1.below hb4) (And.intro (below_trans HST.out.2.2.2 hb4) (And.intro (HSP.out.1.below hb4) (HSP.out.2.below hb4))))))
          clear hb4 HSP HST
          have hce := HS4.out.2.1.e.1
          have hfe := HS4.out.2.1.free 2
          have hg8 : w'.heap.size < w4.heap.size := (Array.getElem?_eq_some_iff.1 HS4.out.2.1).1
          have HG8 := Lib.hid hg8
          clear hg8
          have HW5 := Lib.hid (show TriAt (w4.setCell ⟨w'.heap.size, 2, none⟩ (.int .i64 ee)) w.heap.size a b c ∧ HitAt (w4.setCell ⟨w'.heap.size, 2, none⟩ (.int .i64 ee)) w'.heap.size px py ee e1 e2 ∧ HitAt (w4.setCell ⟨w'.heap.size, 2, none⟩ (.int .i64 ee)) (w.heap.size + 1) 0 0 0 0 0 ∧ Below w.heap.size w (w4.setCell ⟨w'.heap.size, 2, none⟩ (.int .i64 ee)) ∧ SpotAt (w4.setCell ⟨w'.heap.size, 2, none⟩ (.int .i64 ee)) (wr.heap.size + 1) b ∧ SpotAt (w4.setCell ⟨w'.heap.size, 2, none⟩ (.int .i64 ee)) wr.heap.size c from by
            have o1 := fun c hc => setCell_other w4 ⟨w'.heap.size, 2, none⟩ (.int .i64 ee) c hc
            have hW := HNE.out
            have hWr := HWR.out
            exact ⟨(o1 _ (by simp; omega)).trans HS4.out.1, (HS4.out.2.1.set ee).1, (o1 _ (by simp; omega)).trans HS4.out.2.2.1, HS4.out.2.2.2.1.setCell (p := ⟨w'.heap.size, 2, none⟩) (by simp; omega) _, (o1 _ (by simp; omega)).trans HS4.out.2.2.2.2.1, (o1 _ (by simp; omega)).trans HS4.out.2.2.2.2.2⟩)
          have hg6 : HitAt (w4.setCell ⟨w'.heap.size, 2, none⟩ (.int .i64 ee)) (w.heap.size + 1) 0 0 0 0 0 := HW5.out.2.2.1
          clear HS4 HSI
          have HG6 := Lib.hid hg6
          clear hg6
          by_cases c1 : ee < 0
          · have hin : inside b c (256 * px + 128) (256 * py + 128) = false := by unfold inside; rw [← HEE.out]; exact decide_eq_false (by omega)
            have hcv : coverV a b c px py = .tuple #[.agg (hitA 0 0 0 0 0), .bool false] := by unfold coverV covered; rw [hin]; simp
            have HCV := Lib.hid hcv
            clear hin hcv
            go_wp2_with (first
              | refine arm_build31z rfl rfl ?_
              | (refine arm_store31 rfl (.tmp 6) (.tmp 62) rfl (w.heap.size + 1) 0 0 0 0 0 0 0 0 0 0 rfl rfl HG6.out ?_
                 intro w9 hn hbn hoth
                 have H11 := Lib.hid (And.intro hn (HW5.out.2.2.2.1.trans (hbn _ (by omega))))
                 clear hn hbn hoth))
            refine bodyPost_ret (results_ct rfl _ _ _ _ rfl H11.out.1.load) rfl ?_
            exact ⟨by rw [HCV.out]; rfl, H11.out.2⟩
          by_cases c2 : ee = 0
          · subst c2
            cases hu : upper b c with
            | false =>
              have hin : inside b c (256 * px + 128) (256 * py + 128) = false := by unfold inside; rw [← HEE.out, hu]; exact decide_eq_false (fun h => h (Or.inr ⟨rfl, rfl⟩))
              have hcv : coverV a b c px py = .tuple #[.agg (hitA 0 0 0 0 0), .bool false] := by unfold coverV covered; rw [hin]; simp
              have HCV := Lib.hid hcv
              have HU := Lib.hid hu
              clear hin hcv hu
              go_wp2_with (first
                | refine arm_load23g (by first | rfl | simp [Region.wanted, yielded]) (.tmp 10) rfl (wr.heap.size + 1) 0 b rfl HW5.out.2.2.2.2.1.r ?_
                | refine arm_load23g (by first | rfl | simp [Region.wanted, yielded]) (.tmp 11) rfl wr.heap.size 0 c rfl HW5.out.2.2.2.2.2.r ?_)
              refine (HUP.out b c _).mono ?_
              rintro e w6 ⟨rfl, hb6⟩
              rw [HU.out]
              have HG7 := Lib.hid (And.intro (HG6.out.below hb6) (below_trans HW5.out.2.2.2.1 hb6))
              clear hb6
              go_wp2_with (first
                | refine arm_build31z rfl rfl ?_
                | (refine arm_store31 rfl (.tmp 6) (.tmp 62) rfl (w.heap.size + 1) 0 0 0 0 0 0 0 0 0 0 rfl rfl HG7.out.1 ?_
                   intro w9 hn hbn hoth
                   have H11 := Lib.hid (And.intro hn (HG7.out.2.trans (hbn _ (by omega))))
                   clear hn hbn hoth))
              refine bodyPost_ret (results_ct rfl _ _ _ _ rfl H11.out.1.load) rfl ?_
              exact ⟨by rw [HCV.out]; rfl, H11.out.2⟩
            | true =>
              have hin : inside b c (256 * px + 128) (256 * py + 128) = true := by unfold inside; rw [← HEE.out, hu]; exact decide_eq_true (fun h => h.elim c1 (fun h => by cases h.2))
              have HIN := Lib.hid hin
              have HU := Lib.hid hu
              clear hin hu
              go_wp2_with (first
                | refine arm_load23g (by first | rfl | simp [Region.wanted, yielded]) (.tmp 10) rfl (wr.heap.size + 1) 0 b rfl HW5.out.2.2.2.2.1.r ?_
                | refine arm_load23g (by first | rfl | simp [Region.wanted, yielded]) (.tmp 11) rfl wr.heap.size 0 c rfl HW5.out.2.2.2.2.2.r ?_)
              refine (HUP.out b c _).mono ?_
              rintro e w6 ⟨rfl, hb6⟩
              rw [HU.out]
              have HW6 := Lib.hid (And.intro (HW5.out.1.below hb6) (And.intro (HW5.out.2.1.below hb6) (And.intro (HW5.out.2.2.1.below hb6) (below_trans HW5.out.2.2.2.1 hb6))))
              clear hb6
              go_wp2_with fail
              have hE := HH.out.2.2.2.2
              exact ⟨⟨1, _, e1, e2, by omega, rfl, ⟨HW6.out.1, HW6.out.2.1, HW6.out.2.2.1, HW6.out.2.2.2⟩, fun _ => ⟨HEE.out, HIN.out⟩, fun h => by omega, fun h => by omega⟩, by simp [intOf]⟩
          · have c2b : (ee == 0) = false := by simp [c2]
            have hin : inside b c (256 * px + 128) (256 * py + 128) = true := by unfold inside; rw [← HEE.out]; exact decide_eq_true (fun h => h.elim c1 (fun h => c2 h.1))
            have HIN := Lib.hid hin
            clear hin
            go_wp2_with fail
            have hE := HH.out.2.2.2.2
            exact ⟨⟨1, _, e1, e2, by omega, rfl, ⟨HW5.out.1, HW5.out.2.1, HW5.out.2.2.1, HW5.out.2.2.2.1⟩, fun _ => ⟨HEE.out, HIN.out⟩, fun h => by omega, fun h => by omega⟩, by simp [intOf]⟩
      · clear hT hH hZ hB
        go_wp2_with fail
        go_region
        · have hnw := spot_new2 wr c a
          unfold spotA at hnw
          have HN := Lib.hid (And.intro hnw (below_drew (below_two wr (.cells #[.int .i64 c.x, .int .i64 c.y, .int .i64 c.z, .int .i64 c.w, .int .i64 c.u, .int .i64 c.v] 23) (.cells #[.int .i64 a.x, .int .i64 a.y, .int .i64 a.z, .int .i64 a.w, .int .i64 a.u, .int .i64 a.v] 23))))
          clear hnw
          generalize ((wr.alloc (.cells #[.int .i64 c.x, .int .i64 c.y, .int .i64 c.z, .int .i64 c.w, .int .i64 c.u, .int .i64 c.v] 23)).alloc (.cells #[.int .i64 a.x, .int .i64 a.y, .int .i64 a.z, .int .i64 a.w, .int .i64 a.u, .int .i64 a.v] 23)).drew = wn at *
          have hspA : SpotAt wn wr.heap.size c := HN.out.1.1
          have hspB : SpotAt wn (wr.heap.size + 1) a := HN.out.1.2
          have HSP := Lib.hid (And.intro hspA hspB)
          have HST := Lib.hid (And.intro (HH.out.1.below HN.out.2) (And.intro (HH.out.2.1.below HN.out.2) (And.intro (HH.out.2.2.1.below HN.out.2) (below_trans HH.out.2.2.2.1 HN.out.2))))
          clear hspA hspB HN
          go_wp2_with (first
            | refine arm_load23 rfl (.tmp 10) rfl wr.heap.size 0 c rfl HSP.out.1.r ?_
            | refine arm_load23 rfl (.tmp 11) rfl (wr.heap.size + 1) 0 a rfl HSP.out.2.r ?_)
          refine (HSI.out.2.1 _).mono ?_
          rintro e w4 ⟨rfl, hb4⟩
          obtain ⟨ee, hee⟩ : ∃ ee, ee = side c a (256 * px + 128) (256 * py + 128) := ⟨_, rfl⟩
          rw [← hee]
          have HEE := Lib.hid hee
          clear hee
          have HS4 := Lib.hid (And.intro (HST.out.1.below hb4) (And.intro (HST.out.2.1.below hb4) (And.intro (HST.out.2.2.1.below hb4) (And.intro (below_trans HST.out.2.2.2 hb4) (And.intro (HSP.out.1.below hb4) (HSP.out.2.below hb4))))))
          clear hb4 HSP HST
          have hce := HS4.out.2.1.e.2.1
          have hfe := HS4.out.2.1.free 3
          have hg8 : w'.heap.size < w4.heap.size := (Array.getElem?_eq_some_iff.1 HS4.out.2.1).1
          have HG8 := Lib.hid hg8
          clear hg8
          have HW5 := Lib.hid (show TriAt (w4.setCell ⟨w'.heap.size, 3, none⟩ (.int .i64 ee)) w.heap.size a b c ∧ HitAt (w4.setCell ⟨w'.heap.size, 3, none⟩ (.int .i64 ee)) w'.heap.size px py e0 ee e2 ∧ HitAt (w4.setCell ⟨w'.heap.size, 3, none⟩ (.int .i64 ee)) (w.heap.size + 1) 0 0 0 0 0 ∧ Below w.heap.size w (w4.setCell ⟨w'.heap.size, 3, none⟩ (.int .i64 ee)) ∧ SpotAt (w4.setCell ⟨w'.heap.size, 3, none⟩ (.int .i64 ee)) wr.heap.size c ∧ SpotAt (w4.setCell ⟨w'.heap.size, 3, none⟩ (.int .i64 ee)) (wr.heap.size + 1) a from by
            have o1 := fun c hc => setCell_other w4 ⟨w'.heap.size, 3, none⟩ (.int .i64 ee) c hc
            have hW := HNE.out
            have hWr := HWR.out
            exact ⟨(o1 _ (by simp; omega)).trans HS4.out.1, (HS4.out.2.1.set ee).2.1, (o1 _ (by simp; omega)).trans HS4.out.2.2.1, HS4.out.2.2.2.1.setCell (p := ⟨w'.heap.size, 3, none⟩) (by simp; omega) _, (o1 _ (by simp; omega)).trans HS4.out.2.2.2.2.1, (o1 _ (by simp; omega)).trans HS4.out.2.2.2.2.2⟩)
          have hg6 : HitAt (w4.setCell ⟨w'.heap.size, 3, none⟩ (.int .i64 ee)) (w.heap.size + 1) 0 0 0 0 0 := HW5.out.2.2.1
          clear HS4 HSI
          have HG6 := Lib.hid hg6
          clear hg6
          by_cases c1 : ee < 0
          · have hin : inside c a (256 * px + 128) (256 * py + 128) = false := by unfold inside; rw [← HEE.out]; exact decide_eq_false (by omega)
            have hcv : coverV a b c px py = .tuple #[.agg (hitA 0 0 0 0 0), .bool false] := by unfold coverV covered; rw [hin]; simp
            have HCV := Lib.hid hcv
            clear hin hcv
            go_wp2_with (first
              | refine arm_build31z rfl rfl ?_
              | (refine arm_store31 rfl (.tmp 6) (.tmp 62) rfl (w.heap.size + 1) 0 0 0 0 0 0 0 0 0 0 rfl rfl HG6.out ?_
                 intro w9 hn hbn hoth
                 have H11 := Lib.hid (And.intro hn (HW5.out.2.2.2.1.trans (hbn _ (by omega))))
                 clear hn hbn hoth))
            refine bodyPost_ret (results_ct rfl _ _ _ _ rfl H11.out.1.load) rfl ?_
            exact ⟨by rw [HCV.out]; rfl, H11.out.2⟩
          by_cases c2 : ee = 0
          · subst c2
            cases hu : upper c a with
            | false =>
              have hin : inside c a (256 * px + 128) (256 * py + 128) = false := by unfold inside; rw [← HEE.out, hu]; exact decide_eq_false (fun h => h (Or.inr ⟨rfl, rfl⟩))
              have hcv : coverV a b c px py = .tuple #[.agg (hitA 0 0 0 0 0), .bool false] := by unfold coverV covered; rw [hin]; simp
              have HCV := Lib.hid hcv
              have HU := Lib.hid hu
              clear hin hcv hu
              go_wp2_with (first
                | refine arm_load23g (by first | rfl | simp [Region.wanted, yielded]) (.tmp 10) rfl wr.heap.size 0 c rfl HW5.out.2.2.2.2.1.r ?_
                | refine arm_load23g (by first | rfl | simp [Region.wanted, yielded]) (.tmp 11) rfl (wr.heap.size + 1) 0 a rfl HW5.out.2.2.2.2.2.r ?_)
              refine (HUP.out c a _).mono ?_
              rintro e w6 ⟨rfl, hb6⟩
              rw [HU.out]
              have HG7 := Lib.hid (And.intro (HG6.out.below hb6) (below_trans HW5.out.2.2.2.1 hb6))
              clear hb6
              go_wp2_with (first
                | refine arm_build31z rfl rfl ?_
                | (refine arm_store31 rfl (.tmp 6) (.tmp 62) rfl (w.heap.size + 1) 0 0 0 0 0 0 0 0 0 0 rfl rfl HG7.out.1 ?_
                   intro w9 hn hbn hoth
                   have H11 := Lib.hid (And.intro hn (HG7.out.2.trans (hbn _ (by omega))))
                   clear hn hbn hoth))
              refine bodyPost_ret (results_ct rfl _ _ _ _ rfl H11.out.1.load) rfl ?_
              exact ⟨by rw [HCV.out]; rfl, H11.out.2⟩
            | true =>
              have hin : inside c a (256 * px + 128) (256 * py + 128) = true := by unfold inside; rw [← HEE.out, hu]; exact decide_eq_true (fun h => h.elim c1 (fun h => by cases h.2))
              have HIN := Lib.hid hin
              have HU := Lib.hid hu
              clear hin hu
              go_wp2_with (first
                | refine arm_load23g (by first | rfl | simp [Region.wanted, yielded]) (.tmp 10) rfl wr.heap.size 0 c rfl HW5.out.2.2.2.2.1.r ?_
                | refine arm_load23g (by first | rfl | simp [Region.wanted, yielded]) (.tmp 11) rfl (wr.heap.size + 1) 0 a rfl HW5.out.2.2.2.2.2.r ?_)
              refine (HUP.out c a _).mono ?_
              rintro e w6 ⟨rfl, hb6⟩
              rw [HU.out]
              have HW6 := Lib.hid (And.intro (HW5.out.1.below hb6) (And.intro (HW5.out.2.1.below hb6) (And.intro (HW5.out.2.2.1.below hb6) (below_trans HW5.out.2.2.2.1 hb6))))
              clear hb6
              go_wp2_with fail
              have hE := HH.out.2.2.2.2
              exact ⟨⟨2, e0, _, e2, by omega, rfl, ⟨HW6.out.1, HW6.out.2.1, HW6.out.2.2.1, HW6.out.2.2.2⟩, fun _ => hE.1 (by omega), fun _ => ⟨HEE.out, HIN.out⟩, fun h => by omega⟩, by simp [intOf]⟩
          · have c2b : (ee == 0) = false := by simp [c2]
            have hin : inside c a (256 * px + 128) (256 * py + 128) = true := by unfold inside; rw [← HEE.out]; exact decide_eq_true (fun h => h.elim c1 (fun h => c2 h.1))
            have HIN := Lib.hid hin
            clear hin
            go_wp2_with fail
            have hE := HH.out.2.2.2.2
            exact ⟨⟨2, e0, _, e2, by omega, rfl, ⟨HW5.out.1, HW5.out.2.1, HW5.out.2.2.1, HW5.out.2.2.2.1⟩, fun _ => hE.1 (by omega), fun _ => ⟨HEE.out, HIN.out⟩, fun h => by omega⟩, by simp [intOf]⟩
        · have hnw := spot_new2 wr a c
          unfold spotA at hnw
          have HN := Lib.hid (And.intro hnw (below_drew (below_two wr (.cells #[.int .i64 a.x, .int .i64 a.y, .int .i64 a.z, .int .i64 a.w, .int .i64 a.u, .int .i64 a.v] 23) (.cells #[.int .i64 c.x, .int .i64 c.y, .int .i64 c.z, .int .i64 c.w, .int .i64 c.u, .int .i64 c.v] 23))))
          clear hnw
          generalize ((wr.alloc (.cells #[.int .i64 a.x, .int .i64 a.y, .int .i64 a.z, .int .i64 a.w, .int .i64 a.u, .int .i64 a.v] 23)).alloc (.cells #[.int .i64 c.x, .int .i64 c.y, .int .i64 c.z, .int .i64 c.w, .int .i64 c.u, .int .i64 c.v] 23)).drew = wn at *
          have hspA : SpotAt wn (wr.heap.size + 1) c := HN.out.1.2
          have hspB : SpotAt wn wr.heap.size a := HN.out.1.1
          have HSP := Lib.hid (And.intro hspA hspB)
          have HST := Lib.hid (And.intro (HH.out.1.below HN.out.2) (And.intro (HH.out.2.1.below HN.out.2) (And.intro (HH.out.2.2.1.below HN.out.2) (below_trans HH.out.2.2.2.1 HN.out.2))))
          clear hspA hspB HN
          go_wp2_with (first
            | refine arm_load23 rfl (.tmp 10) rfl (wr.heap.size + 1) 0 c rfl HSP.out.1.r ?_
            | refine arm_load23 rfl (.tmp 11) rfl wr.heap.size 0 a rfl HSP.out.2.r ?_)
          refine (HSI.out.2.1 _).mono ?_
          rintro e w4 ⟨rfl, hb4⟩
          obtain ⟨ee, hee⟩ : ∃ ee, ee = side c a (256 * px + 128) (256 * py + 128) := ⟨_, rfl⟩
          rw [← hee]
          have HEE := Lib.hid hee
          clear hee
          have HS4 := Lib.hid (And.intro (HST.out.1.below hb4) (And.intro (HST.out.2.1.below hb4) (And.intro (HST.out.2.2.1.below hb4) (And.intro (below_trans HST.out.2.2.2 hb4) (And.intro (HSP.out.1.below hb4) (HSP.out.2.below hb4))))))
          clear hb4 HSP HST
          have hce := HS4.out.2.1.e.2.1
          have hfe := HS4.out.2.1.free 3
          have hg8 : w'.heap.size < w4.heap.size := (Array.getElem?_eq_some_iff.1 HS4.out.2.1).1
          have HG8 := Lib.hid hg8
          clear hg8
          have HW5 := Lib.hid (show TriAt (w4.setCell ⟨w'.heap.size, 3, none⟩ (.int .i64 ee)) w.heap.size a b c ∧ HitAt (w4.setCell ⟨w'.heap.size, 3, none⟩ (.int .i64 ee)) w'.heap.size px py e0 ee e2 ∧ HitAt (w4.setCell ⟨w'.heap.size, 3, none⟩ (.int .i64 ee)) (w.heap.size + 1) 0 0 0 0 0 ∧ Below w.heap.size w (w4.setCell ⟨w'.heap.size, 3, none⟩ (.int .i64 ee)) ∧ SpotAt (w4.setCell ⟨w'.heap.size, 3, none⟩ (.int .i64 ee)) (wr.heap.size + 1) c ∧ SpotAt (w4.setCell ⟨w'.heap.size, 3, none⟩ (.int .i64 ee)) wr.heap.size a from by
            have o1 := fun c hc => setCell_other w4 ⟨w'.heap.size, 3, none⟩ (.int .i64 ee) c hc
            have hW := HNE.out
            have hWr := HWR.out
            exact ⟨(o1 _ (by simp; omega)).trans HS4.out.1, (HS4.out.2.1.set ee).2.1, (o1 _ (by simp; omega)).trans HS4.out.2.2.1, HS4.out.2.2.2.1.setCell (p := ⟨w'.heap.size, 3, none⟩) (by simp; omega) _, (o1 _ (by simp; omega)).trans HS4.out.2.2.2.2.1, (o1 _ (by simp; omega)).trans HS4.out.2.2.2.2.2⟩)
          have hg6 : HitAt (w4.setCell ⟨w'.heap.size, 3, none⟩ (.int .i64 ee)) (w.heap.size + 1) 0 0 0 0 0 := HW5.out.2.2.1
          clear HS4 HSI
          have HG6 := Lib.hid hg6
          clear hg6
          by_cases c1 : ee < 0
          · have hin : inside c a (256 * px + 128) (256 * py + 128) = false := by unfold inside; rw [← HEE.out]; exact decide_eq_false (by omega)
            have hcv : coverV a b c px py = .tuple #[.agg (hitA 0 0 0 0 0), .bool false] := by unfold coverV covered; rw [hin]; simp
            have HCV := Lib.hid hcv
            clear hin hcv
            go_wp2_with (first
              | refine arm_build31z rfl rfl ?_
              | (refine arm_store31 rfl (.tmp 6) (.tmp 62) rfl (w.heap.size + 1) 0 0 0 0 0 0 0 0 0 0 rfl rfl HG6.out ?_
                 intro w9 hn hbn hoth
                 have H11 := Lib.hid (And.intro hn (HW5.out.2.2.2.1.trans (hbn _ (by omega))))
                 clear hn hbn hoth))
            refine bodyPost_ret (results_ct rfl _ _ _ _ rfl H11.out.1.load) rfl ?_
            exact ⟨by rw [HCV.out]; rfl, H11.out.2⟩
          by_cases c2 : ee = 0
          · subst c2
            cases hu : upper c a with
            | false =>
              have hin : inside c a (256 * px + 128) (256 * py + 128) = false := by unfold inside; rw [← HEE.out, hu]; exact decide_eq_false (fun h => h (Or.inr ⟨rfl, rfl⟩))
              have hcv : coverV a b c px py = .tuple #[.agg (hitA 0 0 0 0 0), .bool false] := by unfold coverV covered; rw [hin]; simp
              have HCV := Lib.hid hcv
              have HU := Lib.hid hu
              clear hin hcv hu
              go_wp2_with (first
                | refine arm_load23g (by first | rfl | simp [Region.wanted, yielded]) (.tmp 10) rfl (wr.heap.size + 1) 0 c rfl HW5.out.2.2.2.2.1.r ?_
                | refine arm_load23g (by first | rfl | simp [Region.wanted, yielded]) (.tmp 11) rfl wr.heap.size 0 a rfl HW5.out.2.2.2.2.2.r ?_)
              refine (HUP.out c a _).mono ?_
              rintro e w6 ⟨rfl, hb6⟩
              rw [HU.out]
              have HG7 := Lib.hid (And.intro (HG6.out.below hb6) (below_trans HW5.out.2.2.2.1 hb6))
              clear hb6
              go_wp2_with (first
                | refine arm_build31z rfl rfl ?_
                | (refine arm_store31 rfl (.tmp 6) (.tmp 62) rfl (w.heap.size + 1) 0 0 0 0 0 0 0 0 0 0 rfl rfl HG7.out.1 ?_
                   intro w9 hn hbn hoth
                   have H11 := Lib.hid (And.intro hn (HG7.out.2.trans (hbn _ (by omega))))
                   clear hn hbn hoth))
              refine bodyPost_ret (results_ct rfl _ _ _ _ rfl H11.out.1.load) rfl ?_
              exact ⟨by rw [HCV.out]; rfl, H11.out.2⟩
            | true =>
              have hin : inside c a (256 * px + 128) (256 * py + 128) = true := by unfold inside; rw [← HEE.out, hu]; exact decide_eq_true (fun h => h.elim c1 (fun h => by cases h.2))
              have HIN := Lib.hid hin
              have HU := Lib.hid hu
              clear hin hu
              go_wp2_with (first
                | refine arm_load23g (by first | rfl | simp [Region.wanted, yielded]) (.tmp 10) rfl (wr.heap.size + 1) 0 c rfl HW5.out.2.2.2.2.1.r ?_
                | refine arm_load23g (by first | rfl | simp [Region.wanted, yielded]) (.tmp 11) rfl wr.heap.size 0 a rfl HW5.out.2.2.2.2.2.r ?_)
              refine (HUP.out c a _).mono ?_
              rintro e w6 ⟨rfl, hb6⟩
              rw [HU.out]
              have HW6 := Lib.hid (And.intro (HW5.out.1.below hb6) (And.intro (HW5.out.2.1.below hb6) (And.intro (HW5.out.2.2.1.below hb6) (below_trans HW5.out.2.2.2.1 hb6))))
              clear hb6
              go_wp2_with fail
              have hE := HH.out.2.2.2.2
              exact ⟨⟨2, e0, _, e2, by omega, rfl, ⟨HW6.out.1, HW6.out.2.1, HW6.out.2.2.1, HW6.out.2.2.2⟩, fun _ => hE.1 (by omega), fun _ => ⟨HEE.out, HIN.out⟩, fun h => by omega⟩, by simp [intOf]⟩
          · have c2b : (ee == 0) = false := by simp [c2]
            have hin : inside c a (256 * px + 128) (256 * py + 128) = true := by unfold inside; rw [← HEE.out]; exact decide_eq_true (fun h => h.elim c1 (fun h => c2 h.1))
            have HIN := Lib.hid hin
            clear hin
            go_wp2_with fail
            have hE := HH.out.2.2.2.2
            exact ⟨⟨2, e0, _, e2, by omega, rfl, ⟨HW5.out.1, HW5.out.2.1, HW5.out.2.2.1, HW5.out.2.2.2.1⟩, fun _ => hE.1 (by omega), fun _ => ⟨HEE.out, HIN.out⟩, fun h => by omega⟩, by simp [intOf]⟩
      · clear hT hH hZ hB
        go_wp2_with fail
        go_region
        · have hnw := spot_new2 wr a b
          unfold spotA at hnw
          have HN := Lib.hid (And.intro hnw (below_drew (below_two wr (.cells #[.int .i64 a.x, .int .i64 a.y, .int .i64 a.z, .int .i64 a.w, .int .i64 a.u, .int .i64 a.v] 23) (.cells #[.int .i64 b.x, .int .i64 b.y, .int .i64 b.z, .int .i64 b.w, .int .i64 b.u, .int .i64 b.v] 23))))
          clear hnw
          generalize ((wr.alloc (.cells #[.int .i64 a.x, .int .i64 a.y, .int .i64 a.z, .int .i64 a.w, .int .i64 a.u, .int .i64 a.v] 23)).alloc (.cells #[.int .i64 b.x, .int .i64 b.y, .int .i64 b.z, .int .i64 b.w, .int .i64 b.u, .int .i64 b.v] 23)).drew = wn at *
          have hspA : SpotAt wn wr.heap.size a := HN.out.1.1
          have hspB : SpotAt wn (wr.heap.size + 1) b := HN.out.1.2
          have HSP := Lib.hid (And.intro hspA hspB)
          have HST := Lib.hid (And.intro (HH.out.1.below HN.out.2) (And.intro (HH.out.2.1.below HN.out.2) (And.intro (HH.out.2.2.1.below HN.out.2) (below_trans HH.out.2.2.2.1 HN.out.2))))
          clear hspA hspB HN
          go_wp2_with (first
            | refine arm_load23 rfl (.tmp 10) rfl wr.heap.size 0 a rfl HSP.out.1.r ?_
            | refine arm_load23 rfl (.tmp 11) rfl (wr.heap.size + 1) 0 b rfl HSP.out.2.r ?_)
          refine (HSI.out.2.2 _).mono ?_
          rintro e w4 ⟨rfl, hb4⟩
          obtain ⟨ee, hee⟩ : ∃ ee, ee = side a b (256 * px + 128) (256 * py + 128) := ⟨_, rfl⟩
          rw [← hee]
          have HEE := Lib.hid hee
          clear hee
          have HS4 := Lib.hid (And.intro (HST.out.1.below hb4) (And.intro (HST.out.2.1.below hb4) (And.intro (HST.out.2.2.1.below hb4) (And.intro (below_trans HST.out.2.2.2 hb4) (And.intro (HSP.out.1.below hb4) (HSP.out.2.below hb4))))))
          clear hb4 HSP HST
          have hce := HS4.out.2.1.e.2.2
          have hfe := HS4.out.2.1.free 4
          have hg8 : w'.heap.size < w4.heap.size := (Array.getElem?_eq_some_iff.1 HS4.out.2.1).1
          have HG8 := Lib.hid hg8
          clear hg8
          have HW5 := Lib.hid (show TriAt (w4.setCell ⟨w'.heap.size, 4, none⟩ (.int .i64 ee)) w.heap.size a b c ∧ HitAt (w4.setCell ⟨w'.heap.size, 4, none⟩ (.int .i64 ee)) w'.heap.size px py e0 e1 ee ∧ HitAt (w4.setCell ⟨w'.heap.size, 4, none⟩ (.int .i64 ee)) (w.heap.size + 1) 0 0 0 0 0 ∧ Below w.heap.size w (w4.setCell ⟨w'.heap.size, 4, none⟩ (.int .i64 ee)) ∧ SpotAt (w4.setCell ⟨w'.heap.size, 4, none⟩ (.int .i64 ee)) wr.heap.size a ∧ SpotAt (w4.setCell ⟨w'.heap.size, 4, none⟩ (.int .i64 ee)) (wr.heap.size + 1) b from by
            have o1 := fun c hc => setCell_other w4 ⟨w'.heap.size, 4, none⟩ (.int .i64 ee) c hc
            have hW := HNE.out
            have hWr := HWR.out
            exact ⟨(o1 _ (by simp; omega)).trans HS4.out.1, (HS4.out.2.1.set ee).2.2, (o1 _ (by simp; omega)).trans HS4.out.2.2.1, HS4.out.2.2.2.1.setCell (p := ⟨w'.heap.size, 4, none⟩) (by simp; omega) _, (o1 _ (by simp; omega)).trans HS4.out.2.2.2.2.1, (o1 _ (by simp; omega)).trans HS4.out.2.2.2.2.2⟩)
          have hg6 : HitAt (w4.setCell ⟨w'.heap.size, 4, none⟩ (.int .i64 ee)) (w.heap.size + 1) 0 0 0 0 0 := HW5.out.2.2.1
          clear HS4 HSI
          have HG6 := Lib.hid hg6
          clear hg6
          by_cases c1 : ee < 0
          · have hin : inside a b (256 * px + 128) (256 * py + 128) = false := by unfold inside; rw [← HEE.out]; exact decide_eq_false (by omega)
            have hcv : coverV a b c px py = .tuple #[.agg (hitA 0 0 0 0 0), .bool false] := by unfold coverV covered; rw [hin]; simp
            have HCV := Lib.hid hcv
            clear hin hcv
            go_wp2_with (first
              | refine arm_build31z rfl rfl ?_
              | (refine arm_store31 rfl (.tmp 6) (.tmp 62) rfl (w.heap.size + 1) 0 0 0 0 0 0 0 0 0 0 rfl rfl HG6.out ?_
                 intro w9 hn hbn hoth
                 have H11 := Lib.hid (And.intro hn (HW5.out.2.2.2.1.trans (hbn _ (by omega))))
                 clear hn hbn hoth))
            refine bodyPost_ret (results_ct rfl _ _ _ _ rfl H11.out.1.load) rfl ?_
            exact ⟨by rw [HCV.out]; rfl, H11.out.2⟩
          by_cases c2 : ee = 0
          · subst c2
            cases hu : upper a b with
            | false =>
              have hin : inside a b (256 * px + 128) (256 * py + 128) = false := by unfold inside; rw [← HEE.out, hu]; exact decide_eq_false (fun h => h (Or.inr ⟨rfl, rfl⟩))
              have hcv : coverV a b c px py = .tuple #[.agg (hitA 0 0 0 0 0), .bool false] := by unfold coverV covered; rw [hin]; simp
              have HCV := Lib.hid hcv
              have HU := Lib.hid hu
              clear hin hcv hu
              go_wp2_with (first
                | refine arm_load23g (by first | rfl | simp [Region.wanted, yielded]) (.tmp 10) rfl wr.heap.size 0 a rfl HW5.out.2.2.2.2.1.r ?_
                | refine arm_load23g (by first | rfl | simp [Region.wanted, yielded]) (.tmp 11) rfl (wr.heap.size + 1) 0 b rfl HW5.out.2.2.2.2.2.r ?_)
              refine (HUP.out a b _).mono ?_
              rintro e w6 ⟨rfl, hb6⟩
              rw [HU.out]
              have HG7 := Lib.hid (And.intro (HG6.out.below hb6) (below_trans HW5.out.2.2.2.1 hb6))
              clear hb6
              go_wp2_with (first
                | refine arm_build31z rfl rfl ?_
                | (refine arm_store31 rfl (.tmp 6) (.tmp 62) rfl (w.heap.size + 1) 0 0 0 0 0 0 0 0 0 0 rfl rfl HG7.out.1 ?_
                   intro w9 hn hbn hoth
                   have H11 := Lib.hid (And.intro hn (HG7.out.2.trans (hbn _ (by omega))))
                   clear hn hbn hoth))
              refine bodyPost_ret (results_ct rfl _ _ _ _ rfl H11.out.1.load) rfl ?_
              exact ⟨by rw [HCV.out]; rfl, H11.out.2⟩
            | true =>
              have hin : inside a b (256 * px + 128) (256 * py + 128) = true := by unfold inside; rw [← HEE.out, hu]; exact decide_eq_true (fun h => h.elim c1 (fun h => by cases h.2))
              have HIN := Lib.hid hin
              have HU := Lib.hid hu
              clear hin hu
              go_wp2_with (first
                | refine arm_load23g (by first | rfl | simp [Region.wanted, yielded]) (.tmp 10) rfl wr.heap.size 0 a rfl HW5.out.2.2.2.2.1.r ?_
                | refine arm_load23g (by first | rfl | simp [Region.wanted, yielded]) (.tmp 11) rfl (wr.heap.size + 1) 0 b rfl HW5.out.2.2.2.2.2.r ?_)
              refine (HUP.out a b _).mono ?_
              rintro e w6 ⟨rfl, hb6⟩
              rw [HU.out]
              have HW6 := Lib.hid (And.intro (HW5.out.1.below hb6) (And.intro (HW5.out.2.1.below hb6) (And.intro (HW5.out.2.2.1.below hb6) (below_trans HW5.out.2.2.2.1 hb6))))
              clear hb6
              go_wp2_with fail
              have hE := HH.out.2.2.2.2
              exact ⟨⟨3, e0, e1, _, by omega, rfl, ⟨HW6.out.1, HW6.out.2.1, HW6.out.2.2.1, HW6.out.2.2.2⟩, fun _ => hE.1 (by omega), fun _ => hE.2.1 (by omega), fun _ => ⟨HEE.out, HIN.out⟩⟩, by simp [intOf]⟩
          · have c2b : (ee == 0) = false := by simp [c2]
            have hin : inside a b (256 * px + 128) (256 * py + 128) = true := by unfold inside; rw [← HEE.out]; exact decide_eq_true (fun h => h.elim c1 (fun h => c2 h.1))
            have HIN := Lib.hid hin
            clear hin
            go_wp2_with fail
            have hE := HH.out.2.2.2.2
            exact ⟨⟨3, e0, e1, _, by omega, rfl, ⟨HW5.out.1, HW5.out.2.1, HW5.out.2.2.1, HW5.out.2.2.2.1⟩, fun _ => hE.1 (by omega), fun _ => hE.2.1 (by omega), fun _ => ⟨HEE.out, HIN.out⟩⟩, by simp [intOf]⟩
        · have hnw := spot_new2 wr b a
          unfold spotA at hnw
          have HN := Lib.hid (And.intro hnw (below_drew (below_two wr (.cells #[.int .i64 b.x, .int .i64 b.y, .int .i64 b.z, .int .i64 b.w, .int .i64 b.u, .int .i64 b.v] 23) (.cells #[.int .i64 a.x, .int .i64 a.y, .int .i64 a.z, .int .i64 a.w, .int .i64 a.u, .int .i64 a.v] 23))))
          clear hnw
          generalize ((wr.alloc (.cells #[.int .i64 b.x, .int .i64 b.y, .int .i64 b.z, .int .i64 b.w, .int .i64 b.u, .int .i64 b.v] 23)).alloc (.cells #[.int .i64 a.x, .int .i64 a.y, .int .i64 a.z, .int .i64 a.w, .int .i64 a.u, .int .i64 a.v] 23)).drew = wn at *
          have hspA : SpotAt wn (wr.heap.size + 1) a := HN.out.1.2
          have hspB : SpotAt wn wr.heap.size b := HN.out.1.1
          have HSP := Lib.hid (And.intro hspA hspB)
          have HST := Lib.hid (And.intro (HH.out.1.below HN.out.2) (And.intro (HH.out.2.1.below HN.out.2) (And.intro (HH.out.2.2.1.below HN.out.2) (below_trans HH.out.2.2.2.1 HN.out.2))))
          clear hspA hspB HN
          go_wp2_with (first
            | refine arm_load23 rfl (.tmp 10) rfl (wr.heap.size + 1) 0 a rfl HSP.out.1.r ?_
            | refine arm_load23 rfl (.tmp 11) rfl wr.heap.size 0 b rfl HSP.out.2.r ?_)
          refine (HSI.out.2.2 _).mono ?_
          rintro e w4 ⟨rfl, hb4⟩
          obtain ⟨ee, hee⟩ : ∃ ee, ee = side a b (256 * px + 128) (256 * py + 128) := ⟨_, rfl⟩
          rw [← hee]
          have HEE := Lib.hid hee
          clear hee
          have HS4 := Lib.hid (And.intro (HST.out.1.below hb4) (And.intro (HST.out.2.1.below hb4) (And.intro (HST.out.2.2.1.below hb4) (And.intro (below_trans HST.out.2.2.2 hb4) (And.intro (HSP.out.1.below hb4) (HSP.out.2.below hb4))))))
          clear hb4 HSP HST
          have hce := HS4.out.2.1.e.2.2
          have hfe := HS4.out.2.1.free 4
          have hg8 : w'.heap.size < w4.heap.size := (Array.getElem?_eq_some_iff.1 HS4.out.2.1).1
          have HG8 := Lib.hid hg8
          clear hg8
          have HW5 := Lib.hid (show TriAt (w4.setCell ⟨w'.heap.size, 4, none⟩ (.int .i64 ee)) w.heap.size a b c ∧ HitAt (w4.setCell ⟨w'.heap.size, 4, none⟩ (.int .i64 ee)) w'.heap.size px py e0 e1 ee ∧ HitAt (w4.setCell ⟨w'.heap.size, 4, none⟩ (.int .i64 ee)) (w.heap.size + 1) 0 0 0 0 0 ∧ Below w.heap.size w (w4.setCell ⟨w'.heap.size, 4, none⟩ (.int .i64 ee)) ∧ SpotAt (w4.setCell ⟨w'.heap.size, 4, none⟩ (.int .i64 ee)) (wr.heap.size + 1) a ∧ SpotAt (w4.setCell ⟨w'.heap.size, 4, none⟩ (.int .i64 ee)) wr.heap.size b from by
            have o1 := fun c hc => setCell_other w4 ⟨w'.heap.size, 4, none⟩ (.int .i64 ee) c hc
            have hW := HNE.out
            have hWr := HWR.out
            exact ⟨(o1 _ (by simp; omega)).trans HS4.out.1, (HS4.out.2.1.set ee).2.2, (o1 _ (by simp; omega)).trans HS4.out.2.2.1, HS4.out.2.2.2.1.setCell (p := ⟨w'.heap.size, 4, none⟩) (by simp; omega) _, (o1 _ (by simp; omega)).trans HS4.out.2.2.2.2.1, (o1 _ (by simp; omega)).trans HS4.out.2.2.2.2.2⟩)
          have hg6 : HitAt (w4.setCell ⟨w'.heap.size, 4, none⟩ (.int .i64 ee)) (w.heap.size + 1) 0 0 0 0 0 := HW5.out.2.2.1
          clear HS4 HSI
          have HG6 := Lib.hid hg6
          clear hg6
          by_cases c1 : ee < 0
          · have hin : inside a b (256 * px + 128) (256 * py + 128) = false := by unfold inside; rw [← HEE.out]; exact decide_eq_false (by omega)
            have hcv : coverV a b c px py = .tuple #[.agg (hitA 0 0 0 0 0), .bool false] := by unfold coverV covered; rw [hin]; simp
            have HCV := Lib.hid hcv
            clear hin hcv
            go_wp2_with (first
              | refine arm_build31z rfl rfl ?_
              | (refine arm_store31 rfl (.tmp 6) (.tmp 62) rfl (w.heap.size + 1) 0 0 0 0 0 0 0 0 0 0 rfl rfl HG6.out ?_
                 intro w9 hn hbn hoth
                 have H11 := Lib.hid (And.intro hn (HW5.out.2.2.2.1.trans (hbn _ (by omega))))
                 clear hn hbn hoth))
            refine bodyPost_ret (results_ct rfl _ _ _ _ rfl H11.out.1.load) rfl ?_
            exact ⟨by rw [HCV.out]; rfl, H11.out.2⟩
          by_cases c2 : ee = 0
          · subst c2
            cases hu : upper a b with
            | false =>
              have hin : inside a b (256 * px + 128) (256 * py + 128) = false := by unfold inside; rw [← HEE.out, hu]; exact decide_eq_false (fun h => h (Or.inr ⟨rfl, rfl⟩))
              have hcv : coverV a b c px py = .tuple #[.agg (hitA 0 0 0 0 0), .bool false] := by unfold coverV covered; rw [hin]; simp
              have HCV := Lib.hid hcv
              have HU := Lib.hid hu
              clear hin hcv hu
              go_wp2_with (first
                | refine arm_load23g (by first | rfl | simp [Region.wanted, yielded]) (.tmp 10) rfl (wr.heap.size + 1) 0 a rfl HW5.out.2.2.2.2.1.r ?_
                | refine arm_load23g (by first | rfl | simp [Region.wanted, yielded]) (.tmp 11) rfl wr.heap.size 0 b rfl HW5.out.2.2.2.2.2.r ?_)
              refine (HUP.out a b _).mono ?_
              rintro e w6 ⟨rfl, hb6⟩
              rw [HU.out]
              have HG7 := Lib.hid (And.intro (HG6.out.below hb6) (below_trans HW5.out.2.2.2.1 hb6))
              clear hb6
              go_wp2_with (first
                | refine arm_build31z rfl rfl ?_
                | (refine arm_store31 rfl (.tmp 6) (.tmp 62) rfl (w.heap.size + 1) 0 0 0 0 0 0 0 0 0 0 rfl rfl HG7.out.1 ?_
                   intro w9 hn hbn hoth
                   have H11 := Lib.hid (And.intro hn (HG7.out.2.trans (hbn _ (by omega))))
                   clear hn hbn hoth))
              refine bodyPost_ret (results_ct rfl _ _ _ _ rfl H11.out.1.load) rfl ?_
              exact ⟨by rw [HCV.out]; rfl, H11.out.2⟩
            | true =>
              have hin : inside a b (256 * px + 128) (256 * py + 128) = true := by unfold inside; rw [← HEE.out, hu]; exact decide_eq_true (fun h => h.elim c1 (fun h => by cases h.2))
              have HIN := Lib.hid hin
              have HU := Lib.hid hu
              clear hin hu
              go_wp2_with (first
                | refine arm_load23g (by first | rfl | simp [Region.wanted, yielded]) (.tmp 10) rfl (wr.heap.size + 1) 0 a rfl HW5.out.2.2.2.2.1.r ?_
                | refine arm_load23g (by first | rfl | simp [Region.wanted, yielded]) (.tmp 11) rfl wr.heap.size 0 b rfl HW5.out.2.2.2.2.2.r ?_)
              refine (HUP.out a b _).mono ?_
              rintro e w6 ⟨rfl, hb6⟩
              rw [HU.out]
              have HW6 := Lib.hid (And.intro (HW5.out.1.below hb6) (And.intro (HW5.out.2.1.below hb6) (And.intro (HW5.out.2.2.1.below hb6) (below_trans HW5.out.2.2.2.1 hb6))))
              clear hb6
              go_wp2_with fail
              have hE := HH.out.2.2.2.2
              exact ⟨⟨3, e0, e1, _, by omega, rfl, ⟨HW6.out.1, HW6.out.2.1, HW6.out.2.2.1, HW6.out.2.2.2⟩, fun _ => hE.1 (by omega), fun _ => hE.2.1 (by omega), fun _ => ⟨HEE.out, HIN.out⟩⟩, by simp [intOf]⟩
          · have c2b : (ee == 0) = false := by simp [c2]
            have hin : inside a b (256 * px + 128) (256 * py + 128) = true := by unfold inside; rw [← HEE.out]; exact decide_eq_true (fun h => h.elim c1 (fun h => c2 h.1))
            have HIN := Lib.hid hin
            clear hin
            go_wp2_with fail
            have hE := HH.out.2.2.2.2
            exact ⟨⟨3, e0, e1, _, by omega, rfl, ⟨HW5.out.1, HW5.out.2.1, HW5.out.2.2.1, HW5.out.2.2.2.1⟩, fun _ => hE.1 (by omega), fun _ => hE.2.1 (by omega), fun _ => ⟨HEE.out, HIN.out⟩⟩, by simp [intOf]⟩
      · clear hT hH hZ hB HSI HUP
        clear q0 q1 q2 q3 q4 q5 q6 q7 q8 q9 q10 q11 q12 q13 q14 q15 q16 q17
        have hE := HH.out.2.2.2.2
        obtain ⟨x0, y0⟩ := hE.1 (by omega)
        obtain ⟨x1, y1⟩ := hE.2.1 (by omega)
        obtain ⟨x2, y2⟩ := hE.2.2 (by omega)
        have hcv : coverV a b c px py = .tuple #[.agg (hitA px py e0 e1 e2), .bool true] := by
          unfold coverV covered hitOf
          rw [HAR.out, y0, y1, y2, ← x0, ← x1, ← x2]; simp
        have HCV := Lib.hid hcv
        clear hcv hE x0 x1 x2 y0 y1 y2
        go_wp2_with (first
          | refine arm_load31 rfl (.tmp 8) rfl w'.heap.size px py e0 e1 e2 rfl HH.out.2.1 ?_
          | (refine arm_store31 rfl (.tmp 6) (.tmp 64) rfl (w.heap.size + 1) 0 0 0 0 0 px py e0 e1 e2 rfl rfl HH.out.2.2.1 ?_
             intro w9 hn hbn hoth
             have H11 := Lib.hid (And.intro hn (HH.out.2.2.2.1.trans (hbn _ (by omega))))
             clear hn hbn hoth))
        refine bodyPost_ret (results_ct rfl _ _ _ _ rfl H11.out.1.load) rfl ?_
        exact ⟨by rw [HCV.out]; rfl, H11.out.2⟩
  · have hcv : coverV a b c px py = .tuple #[.agg (hitA 0 0 0 0 0), .bool false] := by
      unfold coverV covered; rw [decide_eq_false h1]; simp
    have HCV := Lib.hid hcv
    clear hcv HSI HUP
    generalize area a b c = n at *
    go_enter Try.func12, Try.ntmps12
    go_wp2_with (first
      | refine arm_alloc31 rfl rfl ?_
      | refine arm_load24 rfl (.tmp 3) rfl w.heap.size a b c rfl HT2.out ?_)
    refine (HS.out _).mono ?_
    rintro e w' ⟨rfl, hb⟩
    have H4 := Lib.hid (HZ.out.below hb)
    have HB1 := Lib.hid (below_trans HB0.out hb)
    clear HT HZ HB0 HT2 hb
    go_wp2_with (first
      | refine arm_build31z rfl rfl ?_
      | (refine arm_store31 rfl (.tmp 6) (.tmp 15) rfl (w.heap.size + 1) 0 0 0 0 0 0 0 0 0 0 rfl rfl H4.out ?_
         intro w9 hn hbn hoth
         have H11 := Lib.hid (And.intro hn (HB1.out.trans (hbn _ (by omega))))
         clear hn hbn hoth))
    refine bodyPost_ret (results_ct rfl _ _ _ _ rfl H11.out.1.load) rfl ?_
    exact ⟨by rw [HCV.out]; rfl, H11.out.2⟩
end Go.Proofs.Ytgkidgpdgcdgnaa
