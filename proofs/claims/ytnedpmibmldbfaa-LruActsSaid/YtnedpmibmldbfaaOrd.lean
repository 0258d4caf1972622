/- What the law's order comes to: all numbers of a list in their order, or the first ones. -/
import Derived.Test.YtnedpmibmldbfaaOld
import Derived.Test.YtnedpmibmldbfaaRNew
namespace Go.Proofs.Ytnedpmibmldbfaa
open Go.RowKit Go.Shelf

attribute [local go_sem] Oper.semAt_some

def ordR (most : Int) (xs : List Nat) : List Nat := if most < 0 then xs else xs.take most.toNat
theorem belowAlloc3 (w : World) (a b c : Obj) : Below w.heap.size w (((w.alloc a).alloc b).alloc c) :=
  (((Below.refl _ _).alloc (Nat.le_refl _) _).alloc (by simp) _).alloc (by simp; omega) _
theorem three_blocks (w : World) (a b c : Obj) : (((w.alloc a).alloc b).alloc c).heap[w.heap.size]? = some a ∧ (((w.alloc a).alloc b).alloc c).heap[w.heap.size + 1]? = some b ∧ (((w.alloc a).alloc b).alloc c).heap[w.heap.size + 1 + 1]? = some c := by
  have h3 := heap_alloc_new ((w.alloc a).alloc b) c
  have h2 := heap_alloc_new (w.alloc a) b
  have h1 := heap_alloc_new w a
  simp only [World.size_alloc] at h3 h2 h1
  refine ⟨?_, ?_, h3⟩
  · rw [Below.heap_alloc _ _ _ (by simp only [World.size_alloc]; omega), Below.heap_alloc _ _ _ (by simp only [World.size_alloc]; omega)]; exact h1
  · rw [Below.heap_alloc _ _ _ (by simp only [World.size_alloc]; omega)]; exact h2
theorem own_row {W : World} {base : Nat} {v : Value} {l : List Nat} (h : W.ownsRow base 3 1 v l.length (ints l)) : ∃ A cap, v = .slice A l.length cap ∧ Row W A l ∧ l.length ≤ cap ∧ ∀ b off, A = some ⟨b, off, none⟩ → base ≤ b := by
  rcases h.2 with ⟨h1, h2⟩ | ⟨g, cap, cur, rfl, _⟩
  · have : l = [] := List.eq_nil_of_length_eq_zero h2
    subst this
    exact ⟨none, 0, h1, ⟨fun i hi => by simp at hi⟩, by simp, fun b off e => by cases e⟩
  · obtain ⟨h1, h2, h3⟩ := own_ints h
    exact ⟨_, cap, rfl, ⟨fun i hi => ⟨g, 0, rfl, by rw [Nat.zero_add]; exact h3 i hi⟩⟩, h2, fun b off e => by cases e; exact h1⟩

theorem run_nilFunc (b : Nat) (W : World) : (binOp .eql 52 (.func (.func 22) #[] #[.pointer (some ⟨b, 0, none⟩)]) .nilFunc).run Try.prog W = .ok (.bool false) W := by kernel_rfl
set_option maxRecDepth 100000 in
set_option maxHeartbeats 2000000 in
theorem order_in (F : Fence) (m : Nat) (h3 : F.fn 17) (h5 : F.fn 21) (h6 : F.fn 22) (hro : F.round = none) (hm : 3 ≤ m) (P0 : Option Addr) (most : Int) (p : Nat → Bool) (xs : List Nat) (w : World) (hL : IsO w w.heap.size P0 p xs) :
    CallsIn F m Try.prog 17 #[.pointer P0, .int .i64 most] w fun e W' => ∃ A cap, e = .returned (.slice A (ordR most xs).length cap) ∧ Row W' A (ordR most xs) ∧ (ordR most xs).length ≤ cap ∧ Below w.heap.size w W' ∧ ∀ b off, A = some ⟨b, off, none⟩ → w.heap.size + 1 ≤ b := by
  have h1 : 1 ≤ m := by omega
  obtain ⟨i0, hi, hz0, hz1, hz2⟩ := info_parts info3
  have hxl := hL.len
  have hnf := run_nilFunc
  refine callsIn_of_wp_marks Try.func17 rfl h3 ?_ hro
  simp only [Try.ntmps17, List.size_toArray, List.length_cons, List.length_nil, Nat.reduceAdd, Nat.reduceSub, Array.replicate_succ, Array.replicate_zero, List.push_toArray, List.append_toArray, List.nil_append, List.cons_append]
  gi_wp2_with (gi_at_call 21; refine (seq_in F (m - 1) h5 hro _ _).mono ?_; rintro e w' ⟨rfl, rfl⟩)
  obtain ⟨n, hn, hlt⟩ : ∃ n, ((P0 = none ∧ n = 0) ∨ ∃ k bE bY bP, P0 = some ⟨k, 0, none⟩ ∧ IsX w k bE bY bP n xs p) ∧ ∀ x ∈ xs, x < n := by
    rcases hL with ⟨h1, rfl⟩ | ⟨k, bE, bY, bP, n, h1, h2, _⟩
    · exact ⟨0, .inl ⟨h1, rfl⟩, by simp⟩
    · exact ⟨n, .inr ⟨k, bE, bY, bP, h1, h2⟩, h2.ok.lt⟩
  obtain ⟨b1, b2, b3⟩ := three_blocks w (.cells #[.int .i64 most] 3) (.cells #[.slice none 0 0] 38) (.cells #[.pointer P0] 24)
  have hB0 := belowAlloc3 w (.cells #[.int .i64 most] 3) (.cells #[.slice none 0 0] 38) (.cells #[.pointer P0] 24)
  have hsz : (((w.alloc (.cells #[.int .i64 most] 3)).alloc (.cells #[.slice none 0 0] 38)).alloc (.cells #[.pointer P0] 24)).heap.size = w.heap.size + 1 + 1 + 1 := by simp
  generalize ((w.alloc (.cells #[.int .i64 most] 3)).alloc (.cells #[.slice none 0 0] 38)).alloc (.cells #[.pointer P0] 24) = W0 at *
  have c3 := box_facts b3
  refine wpIn_rangeFunc_ownF hro h1 (gf := 22) (lb := #[.pointer (some ⟨w.heap.size + 1 + 1, 0, none⟩)]) rfl h6 (enters_of Try.func22 (by kernel_rfl) rfl)
    (seq_stops F (m - 1) h6 hro (by omega) (w.heap.size + 1 + 1) w.heap.size n P0 p xs W0 (by omega) (by omega) c3.1 (hL.below hB0) hlt) Kq.t (Kq.b (by omega) (by omega)) (Below.refl _ _) (fun _ => rfl)
    (fun pre W => (((∃ v, Boxed W (w.heap.size + 1) 38 v ∧ W.ownsRow (w.heap.size + 1) 3 1 v (vals pre).length (ints (vals pre)) ∧ True) ∧ Boxed W w.heap.size 3 (.int .i64 most)) ∧ (Boxed W (w.heap.size + 1 + 1) 24 (.pointer P0) ∧ (most < 0 ∨ ((vals pre).length : Int) ≤ most))) ∧ Below w.heap.size w W)
    (fun c pre W => ((∃ v, Boxed W (w.heap.size + 1) 38 v ∧ W.ownsRow (w.heap.size + 1) 3 1 v (vals pre.dropLast).length (ints (vals pre.dropLast)) ∧ (c = .exit 0 ∧ ((vals pre.dropLast).length : Int) = most)) ∧ True) ∧ Below w.heap.size w W)
    (OwnFrom.and (OwnFrom.and (OwnFrom.and (Own.from (holdsRow_own (w.heap.size + 1) (w.heap.size + 1) 38 3 1 (fun pre => (vals pre).length) (fun pre => ints (vals pre)) (fun pre v => True)) _) (Own.from (boxed_own _ _ _) _)) (OwnFrom.and (Own.from (boxed_own _ _ _) _) (ownFrom_pure _ _))) (ownFrom_below (Nat.le_refl _) (by omega)))
    (fun c => OwnFrom.and (OwnFrom.and (Own.from (holdsRow_own (w.heap.size + 1) (w.heap.size + 1) 38 3 1 (fun (pre : List (Num n)) => (vals pre.dropLast).length) (fun (pre : List (Num n)) => ints (vals pre.dropLast)) (fun (pre : List (Num n)) v => c = .exit 0 ∧ ((vals pre.dropLast).length : Int) = most)) _) (ownFrom_pure _ _)) (ownFrom_below (Nat.le_refl _) (by omega)))
    ⟨⟨⟨⟨_, b2, World.ownsRow_nil _ _ _ _, trivial⟩, b1⟩, b3, by simp [vals]; omega⟩, hB0⟩
    (fun x => { tmps := #[.pointer P0, .int .i64 most, undef, .pointer (some ⟨w.heap.size, 0, none⟩), .slice none 0 0, .pointer (some ⟨w.heap.size + 1, 0, none⟩), .func (.func 22) #[] #[.pointer (some ⟨w.heap.size + 1 + 1, 0, none⟩)], .int .i64 (x.1 : Nat), .pointer P0, .func (.func 22) #[] #[.pointer (some ⟨w.heap.size + 1 + 1, 0, none⟩)], .func (.func 22) #[] #[.pointer (some ⟨w.heap.size + 1 + 1, 0, none⟩)], .bool false, .func (.func 22) #[] #[.pointer (some ⟨w.heap.size + 1 + 1, 0, none⟩)], .int .i64 (x.1 : Nat), undef, undef, undef, undef, undef, undef, undef, undef, undef], defers := [] }) ?assign ?body ?done ?stop
  case assign =>
    intro l x W K hK
    gi_wp2
    exact hK
  case body =>
    rintro l pre ⟨x, hx⟩ W ⟨⟨⟨⟨v, hv, hrow, _⟩, hmo⟩, hbn, hle⟩, hB⟩ hpl
    obtain ⟨A, cap, rfl, _⟩ := own_row hrow
    have hc := hv.cell
    have hcm := hmo.cell
    have hvl : (vals pre).length < xs.length := by simpa [vals] using hpl
    clear hpl
    by_cases he : ((vals pre).length : Int) = most
    · have he2 : (((vals pre).length : Int) == most) = true := by simp [he]
      have HH := Lib.hid (And.intro hv (And.intro hrow (And.intro he hB)))
      clear hrow hB hle hbn
      gi_wp2
      obtain ⟨hv, hrow, he, hB⟩ := HH.out
      refine ⟨KeepsOthers.refl _, ⟨⟨_, hv, ?_, rfl, ?_⟩, trivial⟩, hB⟩
      · rw [List.dropLast_concat]; exact hrow
      · rw [List.dropLast_concat]; exact he
    · have he2 : (((vals pre).length : Int) == most) = false := by simpa using he
      have hle2 : most < 0 ∨ ((vals (pre ++ [⟨x, hx⟩])).length : Int) ≤ most := by
        rw [vals_snoc, List.length_append]; simp; omega
      have HH := Lib.hid (And.intro hle2 (And.intro hbn hmo))
      clear hle2 hle
      gi_wp2_with (first
        | (gi_at_builtin; refine wpListIn_append_own _ rfl _ _ 38 rfl (w.heap.size + 1) 3 i0 (.int .i64 0) 1 8 Try.underlying38 hi hz0 hz1 hz2 rfl (by decide) (.slice A (vals pre).length cap) (vals pre).length (ints (vals pre)) rfl (hrow.alloc _) ⟨W.heap.size, 0, none⟩ 1 1 [.int .i64 (x : Nat)] rfl rfl (cell_one_new _ _ _) (by simp [Value.oneCell']) (by simp only [maxLen]; omega) (by omega) (by have := hv.lt; simp; omega) ?_
           intro v' w1 hown' hgrow _
           obtain ⟨g', cap', rfl⟩ := ownsRow_succ hown'
           obtain ⟨hv1, hv2, hr2, hk2, hb2⟩ := hv.appended (by decide) hrow (by have := hv.lt; omega) (Nat.le_refl _) hown' hgrow
           have hc1 := hv1.cell
           have hf1 := hv1.frozen))
      obtain ⟨hle2, hbn, hmo⟩ := HH.out
      have hnr := hbn.not_row (by decide) hrow
      have hbn1 : (w1.setCell ⟨w.heap.size + 1, 0, none⟩ (.slice (some ⟨g', 0, none⟩) ((vals pre).length + 1) cap')).heap[w.heap.size + 1 + 1]? = W.heap[w.heap.size + 1 + 1]? := by
        rw [setCell_block _ _ _ _ (by simp), hgrow.block _ (by have := hbn.lt; simp; omega) hnr, Below.heap_alloc _ _ _ hbn.lt]
      refine ⟨hk2, ⟨hb2.mono (by omega), hbn1⟩, ⟨⟨⟨_, hv2, ?_, trivial⟩, ?_⟩, ?_, hle2⟩, hB.trans (hb2.mono (by omega))⟩
      · rw [vals_snoc, List.length_append, ints_snoc]; exact hr2
      · exact (hb2.block w.heap.size (by omega)).trans hmo
      · exact hbn1.trans hbn
  case done =>
    rintro D ys W hD hys ⟨⟨⟨⟨v, hv, hrow, _⟩, hmo⟩, hbn, hle⟩, hB⟩ hK
    have hys : vals ys = xs := hys
    rw [hys] at hrow hle
    have hr : ordR most xs = xs := by
      unfold ordR
      split
      · rfl
      · rw [List.take_of_length_le (by omega)]
    have hc := hv.cell
    gi_wp2
    refine ⟨by simp, .inl ⟨_, _, rfl, run_takeDeferred hK, ?_⟩⟩
    have hrow2 := ownsRow_putObj hrow (.deferred none) hK rfl
    rw [hr]
    obtain ⟨A, cap, rfl, hR, hcap, hfr⟩ := own_row hrow2
    exact ⟨_, results_tmp rfl _ _ _, A, cap, rfl, hR, hcap, hB.trans (belowK_b (w := w) (Nat.le_refl _) W D _ _ (by omega) hK rfl rfl), hfr⟩
  case stop =>
    rintro D c pre W hD hpre ⟨⟨⟨v, hv, hrow, rfl, he⟩, _⟩, hB⟩ hK
    have hpre : vals pre <+: xs := hpre
    have hr : ordR most xs = vals pre.dropLast := by
      have hne : pre ≠ [] ∨ pre = [] := by by_cases h : pre = [] <;> simp [h]
      have hp2 : vals pre.dropLast <+: xs := by
        refine List.IsPrefix.trans ?_ hpre
        exact (List.dropLast_prefix pre).map _
      unfold ordR
      rw [if_neg (by omega), ← he, Int.toNat_natCast]
      obtain ⟨r, hr⟩ := hp2
      rw [← hr]; simp
    have hc := hv.cell
    gi_wp2
    refine ⟨by simp, .inl ⟨_, _, rfl, run_takeDeferred hK, ?_⟩⟩
    have hrow2 := ownsRow_putObj hrow (.deferred none) hK rfl
    rw [hr]
    obtain ⟨A, cap, rfl, hR, hcap, hfr⟩ := own_row hrow2
    exact ⟨_, results_tmp rfl _ _ _, A, cap, rfl, hR, hcap, hB.trans (belowK_b (w := w) (Nat.le_refl _) W D _ _ (by omega) hK rfl rfl), hfr⟩
end Go.Proofs.Ytnedpmibmldbfaa
