/- To range over the small map: what a step does. -/
import Derived.Test.YtcoabmnekccdpaaMapB
namespace Go.Proofs.Ytcoabmnekccdpaa
open Go.RowKit

theorem mem_ents (es : List (Int × Bool)) (n : Nat) (e : MapEntry) (h : e ∈ entsFrom es n) : ∃ j p, es[j]? = some p ∧ e = mkE (p, n + j) := by
  induction es generalizing n with
  | nil => simp [entsFrom] at h
  | cons q es ih =>
    rw [entsFrom_cons, List.mem_cons] at h
    rcases h with rfl | h
    · exact ⟨0, q, rfl, rfl⟩
    · obtain ⟨j, p, h1, h2⟩ := ih (n + 1) h
      exact ⟨j + 1, p, by simpa using h1, by rw [h2]; congr 2; omega⟩
theorem ents_get (es : List (Int × Bool)) (n j : Nat) (p : Int × Bool) (h : es[j]? = some p) : mkE (p, n + j) ∈ entsFrom es n := by
  induction es generalizing n j with
  | nil => simp at h
  | cons q es ih =>
    rw [entsFrom_cons, List.mem_cons]
    cases j with
    | zero => simp at h; subst h; exact .inl rfl
    | succ j => exact .inr (by have := ih (n + 1) j (by simpa using h); rwa [show n + 1 + j = n + (j + 1) by omega] at this)

theorem run_range (w : World) (M : Nat) (es : List (Int × Bool)) (h : w.heap[M]? = some (mapObj es)) :
    (Instr.range 34 (.map (some M))).run Try.prog w = .ok (.pointer (some ⟨w.heap.size, 0, none⟩)) (w.alloc (.mapIter (some M) es.length #[] es.length)) := by
  have hg := run_getObj w M _ h (by intro c e f; simp [mapObj])
  simp only [Instr.range, Sem.run_bind, run_underlying Try.underlying34, Result.andThen, hg, mapObj, Sem.run_pure]
  rfl

/-- those that are still to come -/
def leftOf (es : List (Int × Bool)) (seen : Array Nat) : Array MapEntry := (entsFrom es 0).toArray.filter fun e => !seen.contains e.born
theorem mem_left {es : List (Int × Bool)} {seen : Array Nat} {e : MapEntry} (h : e ∈ leftOf es seen) : ∃ j p, es[j]? = some p ∧ e = mkE (p, j) ∧ j ∉ seen := by
  unfold leftOf at h
  rw [Array.mem_filter] at h
  obtain ⟨j, p, h1, h2⟩ := mem_ents es 0 e (by simpa using h.1)
  rw [Nat.zero_add] at h2
  subst h2
  refine ⟨j, p, h1, rfl, ?_⟩
  have := h.2
  simpa [mkE] using this
theorem lt_of_get {α : Type} {l : List α} {j : Nat} {p : α} (h : l[j]? = some p) : j < l.length := (List.getElem?_eq_some_iff.1 h).1

theorem next_lists (es : List (Int × Bool)) (seen : Array Nat) : (leftOf es seen).filter (fun e => e.born < es.length) = leftOf es seen ∧ (leftOf es seen).filter (fun e => e.born ≥ es.length) = #[] := by
  constructor
  · rw [Array.filter_eq_self]
    intro e he
    obtain ⟨j, p, h1, rfl, _⟩ := mem_left he
    exact decide_eq_true (lt_of_get h1)
  · rw [Array.filter_eq_empty_iff]
    intro e he
    obtain ⟨j, p, h1, rfl, _⟩ := mem_left he
    have := lt_of_get h1
    simp only [mkE]
    intro hh
    have := of_decide_eq_true hh
    omega

theorem next_check (es : List (Int × Bool)) (seen : Array Nat) : (!seen.isEmpty && !(entsFrom es 0).toArray.isEmpty && (entsFrom es 0).toArray.all (fun e => e.born ≥ es.length)) = false := by
  cases es with
  | nil => simp [entsFrom]
  | cons p es => simp [entsFrom_cons, mkE]

/-- the iterator's next step: all have been seen -/
theorem run_next_end (w : World) (R M : Nat) (es : List (Int × Bool)) (seen : Array Nat) (t : TypeId) (hM : w.heap[M]? = some (mapObj es)) (hR : w.heap[R]? = some (.mapIter (some M) es.length seen es.length))
    (hall : leftOf es seen = #[]) : (Instr.next (.pointer (some ⟨R, 0, none⟩)) false t).run Try.prog w = .ok (.tuple #[.bool false]) w := by
  have hg := run_getObj w M _ hM (by intro c e f; simp [mapObj])
  have hgR := run_getObj w R _ hR (by intro c e f; simp)
  have hl : (entsFrom es 0).toArray.filter (fun e => !seen.contains e.born) = leftOf es seen := rfl
  simp only [Instr.next, Sem.run_bind, hgR, Result.andThen, hg, mapObj, next_check, Bool.false_eq_true, if_false, hl, hall]
  simp [choose, Sem.run, Question.forced]

/-- .. one that has not been seen -/
theorem run_next_some (w : World) (R M : Nat) (es : List (Int × Bool)) (seen : Array Nat) (t : TypeId) (hM : w.heap[M]? = some (mapObj es)) (hR : w.heap[R]? = some (.mapIter (some M) es.length seen es.length))
    (hne : leftOf es seen ≠ #[]) : ∃ j p d, es[j]? = some p ∧ j ∉ seen ∧
      (Instr.next (.pointer (some ⟨R, 0, none⟩)) false t).run Try.prog w = .ok (.tuple #[.bool true, .int .i64 p.1, .bool p.2]) { w with heap := w.heap.setIfInBounds R (.mapIter (some M) es.length (seen.push j) es.length), drawn := d } := by
  have hg := run_getObj w M _ hM (by intro c e f; simp [mapObj])
  have hgR := run_getObj w R _ hR (by intro c e f; simp)
  obtain ⟨h1, h2⟩ := next_lists es seen
  have hl : (entsFrom es 0).toArray.filter (fun e => !seen.contains e.born) = leftOf es seen := rfl
  have hemp : (leftOf es seen).isEmpty = false := by simpa using hne
  have hpos : 0 < (leftOf es seen).size := Array.size_pos_iff.2 hne
  have key : ∀ (i d : Nat), i < (leftOf es seen).size → (choose (.mapNext (leftOf es seen).size)).run Try.prog w = .ok i { w with drawn := d } →
      ∃ j p d, es[j]? = some p ∧ j ∉ seen ∧ (Instr.next (.pointer (some ⟨R, 0, none⟩)) false t).run Try.prog w = .ok (.tuple #[.bool true, .int .i64 p.1, .bool p.2]) { w with heap := w.heap.setIfInBounds R (.mapIter (some M) es.length (seen.push j) es.length), drawn := d } := by
    intro i d hi hch
    have hmem : (leftOf es seen)[i] ∈ leftOf es seen := Array.getElem_mem hi
    obtain ⟨j, p, g1, g2, g3⟩ := mem_left hmem
    refine ⟨j, p, d, g1, g3, ?_⟩
    have hset : ∀ o, (setObj R o).run Try.prog { w with drawn := d } = .ok () { w with heap := w.heap.setIfInBounds R o, drawn := d } := by
      intro o; simp [setObj, Sem.run, hR]
    have hget : (#[] ++ (leftOf es seen ++ #[]).map some)[i]? = some (some (mkE (p, j))) := by
      simp [hi, g2]
    have hsz : (#[] ++ (leftOf es seen ++ #[]).map some).size = (leftOf es seen).size := by simp
    simp only [Instr.next, Sem.run_bind, hgR, Result.andThen, hg, mapObj, next_check, Bool.false_eq_true, if_false, hl, h1, h2, hemp, hsz, hch, hget, hset]
    rfl
  by_cases hone : (leftOf es seen).size ≤ 1
  · exact key 0 w.drawn hpos (by simp [choose, Sem.run, Question.forced, hone])
  · exact key (w.tape w.drawn (.mapNext (leftOf es seen).size) % (leftOf es seen).size) (w.drawn + 1) (Nat.mod_lt _ hpos) (by simp [choose, Sem.run, Question.forced, hone, Question.cut])

theorem run_entry (w : World) (R M : Nat) (es : List (Int × Bool)) (seen : Array Nat) (j : Nat) (p : Int × Bool) (hp : es[j]? = some p) (hM : w.heap[M]? = some (mapObj es))
    (hR : w.heap[R]? = some (.mapIter (some M) es.length (seen.push j) es.length)) :
    (Instr.entry (.pointer (some ⟨R, 0, none⟩))).run Try.prog w = .ok (.tuple #[.int .i64 p.1, .bool p.2]) w := by
  have hg := run_getObj w M _ hM (by intro c e f; simp [mapObj])
  have hgR := run_getObj w R _ hR (by intro c e f; simp)
  have hfind : (entsFrom es 0).toArray.find? (fun e => e.born == j) = some (mkE (p, j)) := by
    have gen : ∀ (es : List (Int × Bool)) (n j : Nat), es[j]? = some p → (entsFrom es n).find? (fun e => e.born == n + j) = some (mkE (p, n + j)) := by
      intro es
      induction es with
      | nil => intro n j h; simp at h
      | cons q es ih =>
        intro n j h
        rw [entsFrom_cons, List.find?_cons]
        cases j with
        | zero => simp at h; subst h; simp [mkE]
        | succ j =>
          have : ((mkE (q, n)).born == n + (j + 1)) = false := by simp [mkE]
          rw [this]
          have := ih (n + 1) j (by simpa using h)
          rw [show n + 1 + j = n + (j + 1) by omega] at this
          exact this
    have := gen es 0 j hp
    simp only [Nat.zero_add] at this
    simpa using this
  simp only [Instr.entry, Sem.run_bind, hgR, Result.andThen, hg, mapObj, Array.back?_push, hfind, bne_self_eq_false, Bool.false_eq_true, if_false]
  rfl
end Go.Proofs.Ytcoabmnekccdpaa
