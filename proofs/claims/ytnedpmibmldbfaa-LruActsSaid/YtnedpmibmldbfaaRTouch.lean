/- What the reference's Touch comes to. -/
import Derived.Test.YtnedpmibmldbfaaRNew
namespace Go.Proofs.Ytnedpmibmldbfaa
open Go.RowKit

theorem RTouch_not (i : Int) {w : World} {k bL bP n cap : Nat} {o : List Nat} {p : Nat → Bool} (h : IsM w k bL bP n cap o p) (hi : ¬ (0 ≤ i ∧ i < n)) :
    Calls Try.prog 11 #[.pointer (some ⟨k, 0, none⟩), .int .i64 i] w fun r w' => r = .returned (.int .i64 1) ∧ w = w' := by
  have hc := within_walk i 0 ((n : Int) - 1) w
  rw [decide_eq_false (by omega)] at hc
  have h1 := h.f1
  have htop := h.top
  clear h
  go_enter Try.func11, Try.ntmps11
  go_wp2_with fail
  refine hc.mono ?_
  rintro e w' ⟨rfl, rfl⟩
  go_wp2
  go_ret
  exact ⟨rfl, rfl⟩

def fl (i : Nat) (o : List Nat) (j : Nat) : List Nat := (o.take j).filter (fun x => !(x == i))
theorem fl_le (i : Nat) (o : List Nat) (j : Nat) : (fl i o j).length ≤ j := Nat.le_trans (List.length_filter_le _ _) (by rw [List.length_take]; omega)
theorem fl_hit (i : Nat) (o : List Nat) (j : Nat) (hj : j < o.length) (h : o.getD j 0 ≠ i) : fl i o (j + 1) = fl i o j ++ [o.getD j 0] := by
  unfold fl; rw [take_snoc o j hj, List.filter_append]; simp only [List.filter_cons, List.filter_nil]; rw [if_pos (by simpa using h)]
theorem fl_miss (i : Nat) (o : List Nat) (j : Nat) (hj : j < o.length) (h : o.getD j 0 = i) : fl i o (j + 1) = fl i o j := by
  unfold fl; rw [take_snoc o j hj, List.filter_append]; simp only [List.filter_cons, List.filter_nil]; rw [h]; simp
theorem fl_all (i : Nat) (o : List Nat) : fl i o o.length ++ [i] = tch i o := by unfold fl tch; rw [List.take_length]

set_option maxRecDepth 100000 in
set_option maxHeartbeats 1000000 in
theorem RTouch_walk (i : Nat) {w : World} {k bL bP n cap : Nat} {o : List Nat} {p : Nat → Bool} (h : IsM w k bL bP n cap o p) (hin : i < n) :
    Calls Try.prog 11 #[.pointer (some ⟨k, 0, none⟩), .int .i64 (i : Int)] w fun r w' => r = .returned (.int .i64 0) ∧ ∃ g cap', IsM w' k g bP n cap' (tch i o) p ∧ w.heap.size ≤ g ∧ Only [k] w w' := by
  have hc := within_walk (i : Int) 0 ((n : Int) - 1) w
  rw [decide_eq_true (by omega)] at hc
  have h1 := h.f1
  have htop := h.top
  have hlen := h.ok.len
  have H := Lib.hid h
  clear h
  obtain ⟨i3, hi, hz, hs, hby⟩ := info_parts info3
  have HI := Lib.hid (And.intro hi (And.intro hz (And.intro hs hby)))
  clear hi hz hs hby
  have hB0 := Below.refl w.heap.size w
  go_enter Try.func11, Try.ntmps11
  go_wp2_with fail
  refine hc.mono ?_
  rintro e w' ⟨rfl, rfl⟩
  go_wp2_with fail
  clear hc h1
  go_loopw [5, 6] (fun v x wr => ∃ j : Nat, j ≤ n ∧ x = .int .i64 j ∧ Below w.heap.size w wr ∧ wr.ownsRow w.heap.size 3 1 v (fl i o j).length (ints (fl i o j))) (fun _ x _ => n - (intOf x).toNat)
  case atStart => exact ⟨0, by omega, rfl, hB0, World.ownsRow_nil _ _ _ _⟩
  case round =>
    obtain ⟨j, hj, rfl, hB, hown⟩ := hrel
    clear hB0
    have hm := H.out.other (hB.block k H.out.lt.1) (hB.block bL H.out.lt.2.1) (hB.block bP H.out.lt.2.2)
    have h0 := hm.f0
    have hfle := fl_le i o j
    by_cases hlt : j < n
    · have hc := hm.cl j hlt
      have hhit := fl_hit i o j (by omega)
      have hmiss := fl_miss i o j (by omega)
      by_cases hx : o.getD j 0 = i
      · have HN := Lib.hid (And.intro (hmiss hx) (And.intro hB hown))
        rw [hx] at hc
        clear hmiss hhit hB hown hm hx
        go_wp2_with fail
        go_roundw
        case rel => exact ⟨j + 1, by omega, by go_num, HN.out.2.1, by rw [HN.out.1]; exact HN.out.2.2⟩
        case measure => simp [intOf]; omega
      · have HN := Lib.hid (And.intro (hhit hx) (And.intro hB hown))
        clear hmiss hhit hB hown hm
        generalize o.getD j 0 = y at *
        have hne : ((y : Int) != (i : Int)) = true := by simp; omega
        go_wp2_with (first
          | (at_builtin; refine wpList_append_lies _ rfl (.tmp 34) (.tmp 42) 38 rfl w.heap.size 3 i3 (.int .i64 0) 1 8 Try.underlying38 HI.out.1 HI.out.2.1 HI.out.2.2.1 HI.out.2.2.2 rfl (by omega) u5 (fl i o j).length (ints (fl i o j)) (by rfl) (HN.out.2.2.alloc _) ⟨wr.heap.size, 0, none⟩ 1 1 [.int .i64 (y : Int)] (by rfl) (by rfl) (World.news_of_block (heap_alloc_new wr _)) (by simp [Value.oneCell']) (by omega) (by simp only [maxLen]; omega) (by omega) (by have := HN.out.2.1.size; simp; omega) _ rfl ?_
             intro g capg wg hown hgrow hat hltg
             have HG := Lib.hid (And.intro hown (And.intro hgrow hat))
             clear hown hgrow hat))
        obtain ⟨hown, hgrow, hat⟩ := HG.out
        obtain ⟨hfl, hB, hown0⟩ := HN.out
        go_roundw
        case rel =>
          refine ⟨j + 1, by omega, by go_num, (hB.alloc hB.size _).grown hgrow (by have := hB.size; simp; omega) ?_, ?_⟩
          · intro c e
            obtain ⟨hx1, hx2⟩ := hown0
            rcases hx2 with ⟨rfl, _⟩ | ⟨g', cap', cur, rfl, hb, _⟩
            · cases e
            · simp [Value.ownBlock] at e; omega
          · rw [hfl, ints_snoc, List.length_append]; exact hown
        case measure => simp [intOf]; omega
    · have ej : j = n := by omega
      subst ej
      have hfa := fl_all i o
      rw [hlen] at hfa
      have hcl := hm.f1
      have HN := Lib.hid (And.intro hfa (And.intro hB (And.intro hown hm)))
      clear hfa hB hown hm
      go_wp2_with (first
          | (at_builtin; refine wpList_append_lies _ rfl (.tmp 45) (.tmp 47) 38 rfl w.heap.size 3 i3 (.int .i64 0) 1 8 Try.underlying38 HI.out.1 HI.out.2.1 HI.out.2.2.1 HI.out.2.2.2 rfl (by omega) u5 (fl i o j).length (ints (fl i o j)) (by rfl) (HN.out.2.2.1.alloc _) ⟨wr.heap.size, 0, none⟩ 1 1 [.int .i64 (i : Int)] (by rfl) (by rfl) (World.news_of_block (heap_alloc_new wr _)) (by simp [Value.oneCell']) (by omega) (by simp only [maxLen]; omega) (by omega) (by have := HN.out.2.1.size; simp; omega) _ rfl ?_
             intro g capg wg hown hgrow hat hltg
             have hB1 : Below w.heap.size w wg := (HN.out.2.1.alloc HN.out.2.1.size _).grown hgrow (by have := HN.out.2.1.size; simp; omega) (by
               intro c e
               obtain ⟨hx1, hx2⟩ := HN.out.2.2.1
               rcases hx2 with ⟨rfl, _⟩ | ⟨g', cap', cur, rfl, hb, _⟩
               · cases e
               · simp [Value.ownBlock] at e; omega)
             have hm1 := H.out.other (hB1.block k H.out.lt.1) (hB1.block bL H.out.lt.2.1) (hB1.block bP H.out.lt.2.2)
             have hcg := hm1.f0
             have hfg := hm1.free
             have HG := Lib.hid (And.intro hown (And.intro hB1 hm1))
             clear hown hgrow hat hB1 hm1))
      go_ret
      obtain ⟨hown, hB1, hm1⟩ := HG.out
      obtain ⟨hfa, hB, hown0, hm⟩ := HN.out
      have hok := okOrd_tch H.out.ok i hin
      have hlen2 : (fl i o j).length + 1 = j := by
        have e2 : (fl i o j ++ [i]).length = j := by rw [hfa]; exact hok.len
        rw [List.length_append] at e2; exact e2
      rw [hlen2, ← ints_snoc, hfa] at hown
      obtain ⟨g1, g2, g3⟩ := own_ints hown
      have hset : ∀ c, c ≠ k → (wg.setCell ⟨k, 0, none⟩ (.slice (some ⟨g, 0, none⟩) ((fl i o j).length + 1) capg)).heap[c]? = wg.heap[c]? := fun c hc => setCell_block _ _ _ _ hc
      have hk := H.out.lt
      refine ⟨rfl, g, capg, ⟨?_, ?_, ?_, ?_, ?_, hok, g2, by omega, H.out.d2, by omega, H.out.pos, H.out.top⟩, g1, (Only.of_below hB1).setCell _ (by simp) _⟩
      · rw [World.cell?_setCell_same _ _ _ hcg, hlen2]
      · rw [World.cell?_setCell_other _ _ _ _ (by simp)]; exact hm1.f1
      · rw [frozen_setCell]; exact hfg
      · intro t ht
        rw [World.cell?_of_block (w := wg) (a := ⟨g, t, none⟩) (hset g (by omega))]; exact g3 t ht
      · exact hm1.cp.other (hset bP (Ne.symm H.out.d2))
end Go.Proofs.Ytnedpmibmldbfaa
