/- What lru's Oldest comes to. -/
import Derived.Test.YtnedpmibmldbfaaSeq
import Derived.Test.YtnedpmibmldbfaaRef
namespace Go.Proofs.Ytnedpmibmldbfaa
open Go.RowKit Go.Shelf

attribute [local go_sem] Oper.semAt_some

theorem box_facts {W : World} {B : Nat} {v : Value} {t : TypeId} (h : W.heap[B]? = some (.cells #[v] t (0, 0))) : W.cell? ⟨B, 0, none⟩ = some v ∧ W.frozen? ⟨B, 0, none⟩ = false := by
  constructor <;> simp [World.cell?, World.frozen?, h]
/-- what Oldest hands back -/
def oldR (p : Nat → Bool) (o : List Nat) : Value := match oldest p o with
  | some x => .tuple #[.int .i64 (x : Nat), .bool true]
  | none => .tuple #[.int .i64 0, .bool false]
theorem oldest_at (p : Nat → Bool) (q : List Nat) (x : Nat) (r : List Nat) (hq : ∀ y ∈ q, p y = true) (hx : p x = false) : oldest p (q ++ x :: r) = some x := by
  unfold oldest
  rw [List.find?_append, List.find?_eq_none.2 (fun y hy => by simp [hq y hy])]
  simp [hx]
theorem oldest_none (p : Nat → Bool) (q : List Nat) (hq : ∀ y ∈ q, p y = true) : oldest p q = none := by
  unfold oldest
  rw [List.find?_eq_none]
  exact fun y hy => by simp [hq y hy]

set_option maxRecDepth 100000 in
set_option maxHeartbeats 2000000 in
theorem Oldest_in (F : Fence) (m : Nat) (h3 : F.fn 14) (h5 : F.fn 21) (h6 : F.fn 22) (hro : F.round = none) (hm : 3 ≤ m) (P0 : Option Addr) (p : Nat → Bool) (xs : List Nat) (w : World) (hL : IsO w w.heap.size P0 p xs) :
    CallsIn F m Try.prog 14 #[.pointer P0] w fun e W' => e = .returned (oldR p xs) ∧ Below w.heap.size w W' := by
  have h1 : 1 ≤ m := by omega
  refine callsIn_of_wp_marks Try.func14 rfl h3 ?_ hro
  simp only [Try.ntmps14, List.size_toArray, List.length_cons, List.length_nil, Nat.reduceAdd, Nat.reduceSub, Array.replicate_succ, Array.replicate_zero, List.push_toArray, List.append_toArray, List.nil_append, List.cons_append]
  gi_wp2_with (gi_at_call 21; refine (seq_in F (m - 1) h5 hro _ _).mono ?_; rintro e w' ⟨rfl, rfl⟩)
  obtain ⟨n, hn, hlt⟩ : ∃ n, ((P0 = none ∧ n = 0) ∨ ∃ k bE bY bP, P0 = some ⟨k, 0, none⟩ ∧ IsX w k bE bY bP n xs p) ∧ ∀ x ∈ xs, x < n := by
    rcases hL with ⟨h1, rfl⟩ | ⟨k, bE, bY, bP, n, h1, h2, _⟩
    · exact ⟨0, .inl ⟨h1, rfl⟩, by simp⟩
    · exact ⟨n, .inr ⟨k, bE, bY, bP, h1, h2⟩, h2.ok.lt⟩
  obtain ⟨b1, b2, b3, b4⟩ := four_blocks w (.cells #[.pointer P0] 24) (.cells #[.int .i64 0] 3) (.cells #[.bool false] 4) (.cells #[.pointer P0] 24)
  have hB0 := belowAlloc4 w (.cells #[.pointer P0] 24) (.cells #[.int .i64 0] 3) (.cells #[.bool false] 4) (.cells #[.pointer P0] 24)
  have hsz : ((((w.alloc (.cells #[.pointer P0] 24)).alloc (.cells #[.int .i64 0] 3)).alloc (.cells #[.bool false] 4)).alloc (.cells #[.pointer P0] 24)).heap.size = w.heap.size + 1 + 1 + 1 + 1 := by simp
  generalize (((w.alloc (.cells #[.pointer P0] 24)).alloc (.cells #[.int .i64 0] 3)).alloc (.cells #[.bool false] 4)).alloc (.cells #[.pointer P0] 24) = W0 at *
  have c1 := box_facts b1
  have c2 := box_facts b2
  have c3 := box_facts b3
  have c4 := box_facts b4
  refine wpIn_rangeFunc_ownF hro h1 (gf := 22) (lb := #[.pointer (some ⟨w.heap.size + 1 + 1 + 1, 0, none⟩)]) rfl h6 (enters_of Try.func22 (by kernel_rfl) rfl)
    (seq_stops F (m - 1) h6 hro (by omega) (w.heap.size + 1 + 1 + 1) w.heap.size n P0 p xs W0 (by omega) (by omega) c4.1 (hL.below hB0) hlt) Kq.t (Kq.b (by omega) (by omega)) (Below.refl _ _) (fun _ => rfl)
    (fun pre W => ((∀ y ∈ vals pre, p y = true) ∧ W.cell? ⟨w.heap.size, 0, none⟩ = some (.pointer P0) ∧ (W.cell? ⟨w.heap.size + 1, 0, none⟩ = some (.int .i64 0) ∧ W.frozen? ⟨w.heap.size + 1, 0, none⟩ = false) ∧ W.cell? ⟨w.heap.size + 1 + 1, 0, none⟩ = some (.bool false) ∧ W.frozen? ⟨w.heap.size + 1 + 1, 0, none⟩ = false) ∧ Below w.heap.size w W)
    (fun c pre W => (c = .ret ∧ ∃ (q : List Nat) (x : Nat), vals pre = q ++ [x] ∧ (∀ y ∈ q, p y = true) ∧ p x = false ∧ W.cell? ⟨w.heap.size + 1, 0, none⟩ = some (.int .i64 (x : Nat)) ∧ W.cell? ⟨w.heap.size + 1 + 1, 0, none⟩ = some (.bool true)) ∧ Below w.heap.size w W)
    (OwnFrom.and (Own.from (fun s A B row hs hg hr => ⟨hs.1, cell_kept hs.2.1 hg hr, ⟨cell_kept hs.2.2.1.1 hg hr, (frozen_kept hs.2.2.1.1 hg hr).trans hs.2.2.1.2⟩, cell_kept hs.2.2.2.1 hg hr, (frozen_kept hs.2.2.2.1 hg hr).trans hs.2.2.2.2⟩) _) (ownFrom_below (Nat.le_refl _) (by omega)))
    (fun c => OwnFrom.and (Own.from (fun s A B row hs hg hr => by obtain ⟨h1, q, x, h2, h3, h4, h5, h6⟩ := hs; exact ⟨h1, q, x, h2, h3, h4, cell_kept h5 hg hr, cell_kept h6 hg hr⟩) _) (ownFrom_below (Nat.le_refl _) (by omega)))
    ⟨⟨by simp [vals], c1.1, c2, c3⟩, hB0⟩
    (fun x => { tmps := #[.pointer P0, .pointer (some ⟨w.heap.size, 0, none⟩), .pointer (some ⟨w.heap.size + 1, 0, none⟩), .pointer (some ⟨w.heap.size + 1 + 1, 0, none⟩), .int .i64 (x.1 : Nat), .pointer P0, .func (.func 22) #[] #[.pointer (some ⟨w.heap.size + 1 + 1 + 1, 0, none⟩)], .int .i64 (x.1 : Nat), undef, undef, undef, undef, undef, undef, undef, undef, undef], defers := [] }) ?assign ?body ?done ?stop
  case assign =>
    intro l x W K hK
    gi_wp2
    exact hK
  case body =>
    rintro l pre ⟨x, hx⟩ W ⟨⟨hp, hc1, ⟨hc2, hf2⟩, hc3, hf3⟩, hB⟩ _
    rcases hn with ⟨_, rfl⟩ | ⟨k, bE, bY, bP, rfl, hX⟩
    · omega
    · obtain ⟨⟨e, y, hl, _⟩, _⟩ := hX.below hB hX.lt
      have hcell := hl.f2
      have hcx := hl.cp.cell x hx
      have htop := hl.top
      by_cases hpx : p x = true
      · rw [hpx] at hcx
        gi_wp2
        exact ⟨KeepsOthers.refl _, ⟨Below.refl _ _, rfl⟩, ⟨fun z hz => by
          rw [vals_snoc, List.mem_append] at hz
          rcases hz with hz | hz
          · exact hp z hz
          · rw [show z = x by simpa using hz]; exact hpx, hc1, ⟨hc2, hf2⟩, hc3, hf3⟩, hB⟩
      · have hpf : p x = false := by simpa using hpx
        rw [hpf] at hcx
        gi_wp2
        refine ⟨(KeepsOthers.setCell _ _ _).trans (KeepsOthers.setCell _ _ _), ⟨rfl, vals pre, x, vals_snoc _ _, hp, hpf, ?_, ?_⟩, (hB.setCell (p := ⟨w.heap.size + 1, 0, none⟩) (by simp) _).setCell (p := ⟨w.heap.size + 1 + 1, 0, none⟩) (by simp; omega) _⟩
        · rw [World.cell?_setCell_other _ _ _ _ (by simp)]; exact World.cell?_setCell_same' _ _ _ (by rw [hc2]; rfl)
        · exact World.cell?_setCell_same' _ _ _ (by rw [World.cell?_setCell_other _ _ _ _ (by simp), hc3]; rfl)
  case done =>
    rintro D ys W hD hys ⟨⟨hp, hc1, ⟨hc2, hf2⟩, hc3, hf3⟩, hB⟩ hK
    have hr : oldR p xs = .tuple #[.int .i64 0, .bool false] := by
      unfold oldR; rw [← hys, oldest_none p _ hp]
    gi_wp2
    have hK' := (KeepsOthers.setCell (W.setCell ⟨w.heap.size + 1, 0, none⟩ (.int .i64 0)) ⟨w.heap.size + 1 + 1, 0, none⟩ (.bool false)).same D _ ((KeepsOthers.setCell W ⟨w.heap.size + 1, 0, none⟩ (.int .i64 0)).same D _ hK rfl) rfl
    refine ⟨by simp, .inl ⟨_, _, rfl, run_takeDeferred hK', ?_⟩⟩
    have e2 : ((W.setCell ⟨w.heap.size + 1, 0, none⟩ (.int .i64 0)).setCell ⟨w.heap.size + 1 + 1, 0, none⟩ (.bool false)).cell? ⟨w.heap.size + 1, 0, none⟩ = some (.int .i64 0) := by
      rw [World.cell?_setCell_other _ _ _ _ (by simp)]; exact World.cell?_setCell_same' _ _ _ (by rw [hc2]; rfl)
    have e3 : ((W.setCell ⟨w.heap.size + 1, 0, none⟩ (.int .i64 0)).setCell ⟨w.heap.size + 1 + 1, 0, none⟩ (.bool false)).cell? ⟨w.heap.size + 1 + 1, 0, none⟩ = some (.bool false) :=
      World.cell?_setCell_same' _ _ _ (by rw [World.cell?_setCell_other _ _ _ _ (by simp), hc3]; rfl)
    have hc5 := cell_kept e2 (grownBy_putObj' _ D (.deferred none)) (fun r e => by cases e; exact ⟨_, hK', rfl⟩)
    have hc6 := cell_kept e3 (grownBy_putObj' _ D (.deferred none)) (fun r e => by cases e; exact ⟨_, hK', rfl⟩)
    refine ⟨.tuple #[.int .i64 0, .bool false], ?_, by rw [hr], ((hB.setCell (p := ⟨w.heap.size + 1, 0, none⟩) (by simp) _).setCell (p := ⟨w.heap.size + 1 + 1, 0, none⟩) (by simp; omega) _).trans (belowK_b (w := w) (Nat.le_refl _) _ D _ _ (by omega) hK' rfl rfl)⟩
    simp [results, Try.f14, go_sem, hc5, hc6]
  case stop =>
    rintro D c pre W hD hpre ⟨⟨rfl, q, x, hv, hq, hpf, hc2, hc3⟩, hB⟩ hK
    have hr : oldR p xs = .tuple #[.int .i64 (x : Nat), .bool true] := by
      obtain ⟨r, hr⟩ : vals pre <+: xs := hpre
      unfold oldR; rw [← hr, hv, List.append_assoc, List.singleton_append, oldest_at p q x r hq hpf]
    gi_wp2
    refine ⟨by simp, .inl ⟨_, _, rfl, run_takeDeferred hK, ?_⟩⟩
    have hc5 := cell_kept hc2 (grownBy_putObj' _ D (.deferred none)) (fun r e => by cases e; exact ⟨_, hK, rfl⟩)
    have hc6 := cell_kept hc3 (grownBy_putObj' _ D (.deferred none)) (fun r e => by cases e; exact ⟨_, hK, rfl⟩)
    refine ⟨.tuple #[.int .i64 (x : Nat), .bool true], ?_, by rw [hr], hB.trans (belowK_b (w := w) (Nat.le_refl _) W D _ _ (by omega) hK rfl rfl)⟩
    simp [results, Try.f14, go_sem, hc5, hc6]
end Go.Proofs.Ytnedpmibmldbfaa
