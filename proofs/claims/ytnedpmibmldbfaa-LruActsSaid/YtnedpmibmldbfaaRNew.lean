/- What NewLru and the reference's Touch come to. -/
import Derived.Test.YtnedpmibmldbfaaNew
namespace Go.Proofs.Ytnedpmibmldbfaa
open Go.RowKit

def ints (l : List Nat) : List Value := l.map fun x => Value.int .i64 (x : Nat)
theorem ints_len (l : List Nat) : (ints l).length = l.length := by simp [ints]
theorem ints_snoc (l : List Nat) (x : Nat) : ints (l ++ [x]) = ints l ++ [.int .i64 (x : Nat)] := by simp [ints]
theorem own_other {w w' : World} {base : Nat} {v : Value} {n : Nat} {xs : List Value} (h : w.ownsRow base 3 1 v n xs) (hb : ∀ g, base ≤ g → w'.heap[g]? = w.heap[g]?) : w'.ownsRow base 3 1 v n xs := by
  obtain ⟨h1, h2⟩ := h
  refine ⟨h1, h2.imp id ?_⟩
  rintro ⟨g, cap, cur, e, hg, hh, r⟩
  exact ⟨g, cap, cur, e, hg, by rw [hb g hg]; exact hh, r⟩
theorem own_slice {w : World} {base g n cap : Nat} {xs : List Value} (h : w.ownsRow base 3 1 (.slice (some ⟨g, 0, none⟩) n cap) n xs) : base ≤ g ∧ n ≤ cap ∧ ∀ i, i < n → w.cell? ⟨g, i, none⟩ = xs[i]? := by
  obtain ⟨h1, h2⟩ := h
  rcases h2 with ⟨h, _⟩ | ⟨g', cap', cur, he, hb, hh, hn, _, h3, h4⟩
  · cases h
  · simp only [Value.slice.injEq, Option.some.injEq, Addr.mk.injEq, and_true, true_and] at he
    obtain ⟨e1, e2⟩ := he
    subst e1; subst e2
    refine ⟨hb, hn, fun i hi => ?_⟩
    rw [cell_of_row w g i cur 3 _ hh, ← h4, List.getElem?_take_of_lt (by omega), Array.getElem?_toList]
theorem own_ints {w : World} {base g n cap : Nat} {l : List Nat} (h : w.ownsRow base 3 1 (.slice (some ⟨g, 0, none⟩) n cap) n (ints l)) : base ≤ g ∧ n ≤ cap ∧ ∀ i, i < n → w.cell? ⟨g, i, none⟩ = some (.int .i64 (l.getD i 0 : Nat)) := by
  obtain ⟨h1, h2, h3⟩ := own_slice h
  have hlen := h.1
  rw [ints_len] at hlen
  refine ⟨h1, h2, fun i hi => ?_⟩
  rw [h3 i hi]
  unfold ints
  rw [List.getElem?_map, List.getElem?_eq_getElem (by omega), List.getD_eq_getElem?_getD, List.getElem?_eq_getElem (by omega)]; rfl

theorem NewLru_not (a : Int) (h : a < 1 ∨ 128 < a) (w : World) :
    Calls Try.prog 9 #[.int .i64 a] w fun r w' => r = .returned (.pointer none) ∧ w = w' := by
  have hc := within_walk a 1 128 w
  rw [decide_eq_false (by omega)] at hc
  clear h
  go_enter Try.func9, Try.ntmps9
  go_wp2_with fail
  refine hc.mono ?_
  rintro e w' ⟨rfl, rfl⟩
  go_wp2
  go_ret
  exact ⟨rfl, rfl⟩

set_option maxRecDepth 100000 in
set_option maxHeartbeats 1000000 in
theorem NewLru_walk (n : Nat) (h1 : 1 ≤ n) (h2 : n ≤ 128) (w : World) :
    Calls Try.prog 9 #[.int .i64 (n : Int)] w fun r w' => ∃ k bL bP cap, r = .returned (.pointer (some ⟨k, 0, none⟩)) ∧ IsM w' k bL bP n cap (List.range n) (fun _ => false) ∧
      Below w.heap.size w w' ∧ w.heap.size ≤ k ∧ w.heap.size ≤ bL ∧ w.heap.size ≤ bP := by
  have hc := within_walk (n : Int) 1 128 w
  rw [decide_eq_true (by omega)] at hc
  have hm4 := make40 n (by omega)
  obtain ⟨i3, hi, hz, hs, hby⟩ := info_parts info3
  have HI := Lib.hid (And.intro hi (And.intro hz (And.intro hs hby)))
  clear hi hz hs hby
  go_enter Try.func9, Try.ntmps9
  go_wp2_with fail
  refine hc.mono ?_
  rintro e w' ⟨rfl, rfl⟩
  go_wp2_with fail
  have hP := heap_alloc_new w (.cells (zBools n) 4)
  have hk := heap_alloc_new (w.alloc (.cells (zBools n) 4)) (.cells #[.slice none 0 0, .slice (some ⟨w.heap.size, 0, none⟩) n n] 42)
  have hP2 := Below.heap_alloc (w.alloc (.cells (zBools n) 4)) (.cells #[.slice none 0 0, .slice (some ⟨w.heap.size, 0, none⟩) n n] 42) w.heap.size (by simp)
  rw [hP] at hP2
  rw [World.size_alloc] at hk
  have hB0 : Below w.heap.size w ((w.alloc (.cells (zBools n) 4)).alloc (.cells #[.slice none 0 0, .slice (some ⟨w.heap.size, 0, none⟩) n n] 42)) := (belowAlloc _ _).alloc (by simp) _
  have hsz : ((w.alloc (.cells (zBools n) 4)).alloc (.cells #[.slice none 0 0, .slice (some ⟨w.heap.size, 0, none⟩) n n] 42)).heap.size = w.heap.size + 2 := by simp
  generalize (w.alloc (.cells (zBools n) 4)).alloc (.cells #[.slice none 0 0, .slice (some ⟨w.heap.size, 0, none⟩) n n] 42) = W0 at *
  have hc0 : W0.cell? ⟨w.heap.size + 1, 0, none⟩ = some (.slice none 0 0) := by rw [cell_of_row _ _ _ _ _ _ hk]; rfl
  have hc1 : W0.cell? ⟨w.heap.size + 1, 1, none⟩ = some (.slice (some ⟨w.heap.size, 0, none⟩) n n) := by rw [cell_of_row _ _ _ _ _ _ hk]; rfl
  have hf0 : W0.frozen? ⟨w.heap.size + 1, 0, none⟩ = false := frozen_of_row _ _ _ _ _ hk
  have hbp : Bools W0 w.heap.size n (fun _ => false) := ⟨fun i hi => by rw [cell_of_row _ _ _ _ _ _ hP2]; exact zBools_get _ _ hi, fun i => frozen_of_row _ _ _ _ _ hP2⟩
  have H0 := Lib.hid (And.intro hc0 (And.intro hc1 (And.intro hf0 (And.intro hbp (And.intro hB0 hsz)))))
  clear hP hk hP2 hc0 hc1 hf0 hbp hB0 hsz hm4 hc
  go_loopw [4] (fun i wr => ∃ (j : Nat) (v : Value), j ≤ n ∧ i = .int .i64 j ∧ wr.cell? ⟨w.heap.size + 1, 0, none⟩ = some v ∧ wr.cell? ⟨w.heap.size + 1, 1, none⟩ = some (.slice (some ⟨w.heap.size, 0, none⟩) n n) ∧
      wr.frozen? ⟨w.heap.size + 1, 0, none⟩ = false ∧ Bools wr w.heap.size n (fun _ => false) ∧ Below w.heap.size w wr ∧ w.heap.size + 2 ≤ wr.heap.size ∧ wr.ownsRow (w.heap.size + 2) 3 1 v j (ints (List.range j)) ∧ (0 < j → ∃ g cap, v = .slice (some ⟨g, 0, none⟩) j cap)) (fun i _ => n - (intOf i).toNat)
  case atStart => exact ⟨0, _, by omega, rfl, H0.out.1, H0.out.2.1, H0.out.2.2.1, H0.out.2.2.2.1, H0.out.2.2.2.2.1, by rw [H0.out.2.2.2.2.2]; omega, World.ownsRow_nil _ _ _ _, fun h => by omega⟩
  case round =>
    obtain ⟨j, v, hj, rfl, hc0, hc1, hf0, hbp, hB, hsz, hown, hv⟩ := hrel
    clear H0
    by_cases hlt : j < n
    · have HA := Lib.hid (And.intro hc1 (And.intro hf0 (And.intro hbp (And.intro hB (And.intro hsz (And.intro hown hc0))))))
      clear hc1 hf0 hbp hB hsz hown hv
      go_wp2_with (first
        | (at_builtin; refine wpList_append_lies _ rfl (.tmp 21) (.tmp 23) 38 rfl (w.heap.size + 2) 3 i3 (.int .i64 0) 1 8 Try.underlying38 HI.out.1 HI.out.2.1 HI.out.2.2.1 HI.out.2.2.2 rfl (by omega) v j (ints (List.range j)) (by rfl) (HA.out.2.2.2.2.2.1.alloc _) ⟨wr.heap.size, 0, none⟩ 1 1 [.int .i64 (j : Int)] (by rfl) (by rfl) (World.news_of_block (heap_alloc_new wr _)) (by simp [Value.oneCell']) (by omega) (by simp only [maxLen]; omega) (by omega) (by have := HA.out.2.2.2.2.1; simp; omega) _ rfl ?_
           intro g cap wg hown hgrow hat hltg
           have hkw : w.heap.size + 1 < wr.heap.size := block_lt_of_cell HA.out.2.2.2.2.2.2
           have hbk : wg.heap[w.heap.size + 1]? = wr.heap[w.heap.size + 1]? := by
             rw [hgrow.block (w.heap.size + 1) (by simp; omega) (by
               intro e
               obtain ⟨hx1, hx2⟩ := HA.out.2.2.2.2.2.1
               rcases hx2 with ⟨rfl, _⟩ | ⟨g', cap', cur, rfl, hb, _⟩
               · cases e
               · simp [Value.ownBlock] at e; omega)]
             exact Below.heap_alloc wr _ _ hkw
           have hcg : wg.cell? ⟨w.heap.size + 1, 0, none⟩ = some v := by rw [World.cell?_of_block (w := wr) (a := ⟨w.heap.size + 1, 0, none⟩) hbk]; exact HA.out.2.2.2.2.2.2
           have hfg : wg.frozen? ⟨w.heap.size + 1, 0, none⟩ = false := by rw [World.frozen?_of_block (w := wr) (a := ⟨w.heap.size + 1, 0, none⟩) hbk]; exact HA.out.2.1
           have HG := Lib.hid (And.intro hown (And.intro hgrow (And.intro hbk (And.intro hat hltg))))
           clear hown hgrow hbk hat hltg))
      obtain ⟨hown, hgrow, hbk, hat, hltg⟩ := HG.out
      obtain ⟨hc1, hf0, hbp, hB, hsz, hown0, _⟩ := HA.out
      have hgb := (own_slice hown).1
      go_roundw
      case rel =>
        have hblk : ∀ c, c < w.heap.size + 1 → wg.heap[c]? = wr.heap[c]? := fun c hc => by
          rw [hgrow.block c (by simp; omega) (by
             intro e
             obtain ⟨hx1, hx2⟩ := hown0
             rcases hx2 with ⟨rfl, _⟩ | ⟨g', cap', cur, rfl, hb, _⟩
             · cases e
             · simp [Value.ownBlock] at e; omega)]
          exact Below.heap_alloc wr _ _ (by omega)
        have hset : ∀ c, c ≠ w.heap.size + 1 → (wg.setCell ⟨w.heap.size + 1, 0, none⟩ (.slice (some ⟨g, 0, none⟩) (j + 1) cap)).heap[c]? = wg.heap[c]? := fun c hc => setCell_block _ _ _ _ hc
        have hsg := hgrow.size
        refine ⟨j + 1, _, by omega, by go_num, World.cell?_setCell_same _ _ _ hcg, ?_, ?_, ?_, ?_, ?_, ?_, fun _ => ⟨g, cap, rfl⟩⟩
        · rw [World.cell?_setCell_other _ _ _ _ (by simp), World.cell?_of_block (w := wr) (a := ⟨w.heap.size + 1, 1, none⟩) hbk]; exact hc1
        · rw [frozen_setCell]; exact hfg
        · exact hbp.other ((hset _ (by omega)).trans (hblk _ (by omega)))
        · exact ⟨hgrow.os.trans hB.os, hgrow.tape.trans hB.tape, hgrow.output.trans hB.output, by simp [World.setCell] at hsg ⊢; have := hB.size; omega, fun c hc => ((hset c (by omega)).trans (hblk c (by omega))).trans (hB.block c hc)⟩
        · simp [World.setCell] at hsg ⊢; omega
        · refine own_other (w := wg) ?_ (fun c hc => hset c (by omega))
          rw [List.range_succ, ints_snoc]; exact hown
      case measure => simp [intOf]; omega
    · have ej : j = n := by omega
      subst ej
      obtain ⟨g, cap, rfl⟩ := hv (by omega)
      obtain ⟨hg1, hg2, hg3⟩ := own_ints hown
      have hgw : g < wr.heap.size := block_lt_of_cell (hg3 0 (by omega))
      have HA := Lib.hid (And.intro hc0 (And.intro hc1 (And.intro hf0 (And.intro hbp (And.intro hB (And.intro hg1 (And.intro hg2 hg3)))))))
      clear hc0 hc1 hf0 hbp hB hsz hown hv hg1 hg2 hg3
      go_wp2_with fail
      go_ret
      obtain ⟨hc0, hc1, hf0, hbp, hB, hg1, hg2, hg3⟩ := HA.out
      exact ⟨w.heap.size + 1, g, w.heap.size, cap, rfl, ⟨hc0, hc1, hf0, hg3, hbp, okOrd_range j, hg2, by omega, by omega, by omega, by omega, h2⟩, hB, by omega, by omega, by omega⟩
end Go.Proofs.Ytnedpmibmldbfaa
