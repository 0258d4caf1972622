/- A small map of ints to bools that the call made: what its operations do. -/
import Derived.Test.YtcoabmnekccdpaaSl
import Derived.Test.YtcoabmnekccdpaaThreeP
namespace Go.Proofs.Ytcoabmnekccdpaa
open Go.RowKit

def mkE (p : (Int × Bool) × Nat) : MapEntry := { key := .int .i64 p.1.1, val := .bool p.1.2, born := p.2 }
/-- the entries, from number n on -/
def entsFrom (es : List (Int × Bool)) (n : Nat) : List MapEntry := (es.zipIdx n).map mkE
def mapObj (es : List (Int × Bool)) : Obj := .map (entsFrom es 0).toArray es.length

theorem entsFrom_cons (p : Int × Bool) (es : List (Int × Bool)) (n : Nat) : entsFrom (p :: es) n = mkE (p, n) :: entsFrom es (n + 1) := rfl
theorem findNow_ents (kk : Int) : ∀ (es : List (Int × Bool)) (n i : Nat),
    Instr.findNow (.int .i64) (.int .i64 kk) (entsFrom es n) i = some (match es.findIdx? (fun p => kk == p.1) with | none => none | some j => some (i + j, .bool (mlook es kk)))
  | [], n, i => rfl
  | p :: es, n, i => by
    rw [entsFrom_cons, Instr.findNow]
    simp only [mkE, Instr.sameNow, if_true]
    rw [List.findIdx?_cons]
    by_cases h : kk = p.1
    · have h' : (kk == p.1) = true := by simp [h]
      simp only [h']
      simp [mlook, h]
    · have h' : (kk == p.1) = false := by simp [h]
      simp only [h']
      rw [findNow_ents kk es (n + 1) (i + 1)]
      simp only [mlook, h, if_false]
      cases es.findIdx? (fun p => kk == p.1) with
      | none => rfl
      | some j => simp; omega

theorem mlook_none (kk : Int) : ∀ (es : List (Int × Bool)), es.findIdx? (fun p => kk == p.1) = none → mlook es kk = false
  | [], _ => rfl
  | p :: es, h => by
    rw [List.findIdx?_cons] at h
    by_cases hk : kk = p.1
    · have h' : (kk == p.1) = true := by simp [hk]
      rw [h'] at h; simp at h
    · have h' : (kk == p.1) = false := by simp [hk]
      rw [h'] at h
      simp at h
      simp only [mlook, hk, if_false]
      exact mlook_none kk es (by simpa using h)

theorem run_getObj (w : World) (b : Nat) (o : Obj) (h : w.heap[b]? = some o) (hn : ∀ c e f, o ≠ .cells c e f) : (getObj b).run Try.prog w = .ok o w := by
  simp only [getObj, Sem.run, h]

theorem run_checkKey (b : Bool) (n : Nat) (kk : Int) (w : World) : (Instr.checkKey b (n + 1) 3 (.int .i64 kk)).run Try.prog w = .ok () w := by
  simp only [Instr.checkKey, Sem.run_bind, run_underlying Try.underlying3, Result.andThen]; rfl
theorem run_look (w : World) (M : Nat) (es : List (Int × Bool)) (kk : Int) (h : w.heap[M]? = some (mapObj es)) :
    (Instr.lookup 34 (.map (some M)) (.int .i64 kk) false).run Try.prog w = .ok (.bool (mlook es kk)) w := by
  have hg := run_getObj w M _ h (by intro c e f; simp [mapObj])
  have hck : (Instr.checkKey (entsFrom es 0).toArray.isEmpty 10000 3 (.int .i64 kk)).run Try.prog w = .ok () w := run_checkKey _ 9999 kk w
  have hfk : (Instr.findKey 3 (.int .i64 kk) (entsFrom es 0)).run Try.prog w = .ok (match es.findIdx? (fun p => kk == p.1) with | none => none | some j => some (0 + j, .bool (mlook es kk))) w := by
    simp only [Instr.findKey, Sem.run_bind, run_underlying Try.underlying3, Result.andThen, findNow_ents]; rfl
  simp only [Instr.lookup, Sem.run_bind, run_underlying Try.underlying34, Result.andThen, hg, mapObj, Sem.run_pure, hck, hfk]
  cases hj : es.findIdx? (fun p => kk == p.1) with
  | none =>
    simp only [mlook_none kk es hj]
    simp [Try.zeroValue4]
  | some j => rfl

theorem mset_none (kk : Int) (v : Bool) : ∀ (es : List (Int × Bool)), es.findIdx? (fun p => kk == p.1) = none → mset es kk v = es ++ [(kk, v)]
  | [], _ => rfl
  | p :: es, h => by
    rw [List.findIdx?_cons] at h
    by_cases hk : kk = p.1
    · have h' : (kk == p.1) = true := by simp [hk]
      rw [h'] at h; simp at h
    · have h' : (kk == p.1) = false := by simp [hk]
      rw [h'] at h
      simp only [mset, hk, if_false, List.cons_append]
      rw [mset_none kk v es (by simpa using h)]
theorem mset_some (kk : Int) (v : Bool) : ∀ (es : List (Int × Bool)) (n j : Nat), es.findIdx? (fun p => kk == p.1) = some j →
    (entsFrom es n).modify j (fun e => { e with key := .int .i64 kk, val := .bool v }) = entsFrom (mset es kk v) n ∧ (mset es kk v).length = es.length ∧ (entsFrom es n)[j]?.map (·.key) = some (.int .i64 kk)
  | [], _, _, h => by simp at h
  | p :: es, n, j, h => by
    rw [List.findIdx?_cons] at h
    by_cases hk : kk = p.1
    · have h' : (kk == p.1) = true := by simp [hk]
      rw [h'] at h
      simp at h
      subst h
      refine ⟨?_, by simp [mset, hk], by simp [entsFrom_cons, mkE, hk]⟩
      simp only [mset, hk, if_true, entsFrom_cons, List.modify_zero_cons]
      rfl
    · have h' : (kk == p.1) = false := by simp [hk]
      rw [h'] at h
      simp at h
      obtain ⟨j', hj', rfl⟩ := h
      obtain ⟨a, b, c⟩ := mset_some kk v es (n + 1) j' hj'
      refine ⟨?_, by simp [mset, hk, b], by simp [entsFrom_cons, c]⟩
      simp only [mset, hk, if_false, entsFrom_cons, List.modify_succ_cons, a]
theorem entsFrom_append (es : List (Int × Bool)) (p : Int × Bool) (n : Nat) : entsFrom (es ++ [p]) n = entsFrom es n ++ [mkE (p, n + es.length)] := by
  simp [entsFrom, List.zipIdx_append]

theorem run_upd (w : World) (M : Nat) (es : List (Int × Bool)) (kk : Int) (v : Bool) (h : w.heap[M]? = some (mapObj es)) :
    (Instr.mapUpdate 34 (.map (some M)) (.int .i64 kk) (.bool v)).run Try.prog w = .ok () { w with heap := w.heap.setIfInBounds M (mapObj (mset es kk v)) } := by
  have hg := run_getObj w M _ h (by intro c e f; simp [mapObj])
  have hck : (Instr.checkKey false 10000 3 (.int .i64 kk)).run Try.prog w = .ok () w := run_checkKey _ 9999 kk w
  have hfk : (Instr.findKey 3 (.int .i64 kk) (entsFrom es 0)).run Try.prog w = .ok (match es.findIdx? (fun p => kk == p.1) with | none => none | some j => some (0 + j, .bool (mlook es kk))) w := by
    simp only [Instr.findKey, Sem.run_bind, run_underlying Try.underlying3, Result.andThen, findNow_ents]; rfl
  have hset : ∀ o, (setObj M o).run Try.prog w = .ok () { w with heap := w.heap.setIfInBounds M o } := by
    intro o; simp [setObj, Sem.run, h, mapObj]
  simp only [Instr.mapUpdate, Sem.run_bind, run_underlying Try.underlying34, Result.andThen, hg, mapObj, hck, hfk]
  cases hj : es.findIdx? (fun p => kk == p.1) with
  | none =>
    have e : Obj.map (entsFrom (mset es kk v) 0).toArray (mset es kk v).length = .map ((entsFrom es 0).toArray.push { key := .int .i64 kk, val := .bool v, born := es.length }) (es.length + 1) := by
      rw [mset_none kk v es hj, entsFrom_append]
      simp [mkE]
    rw [e]
    exact hset _
  | some j =>
    obtain ⟨a, b, c⟩ := mset_some kk v es 0 j hj
    have hkey : ((entsFrom es 0).toArray[0 + j]?.map (·.key)).getD (.int .i64 kk) = .int .i64 kk := by
      rw [Nat.zero_add, List.getElem?_toArray, c]; rfl
    simp only [hkey]
    have hst : (Instr.keyThatStays (.int .i64 kk) (.int .i64 kk)).run Try.prog w = .ok (.int .i64 kk) w := by
      simp [Instr.keyThatStays, Instr.sameBits]
    simp only [Sem.run_bind, hst, Result.andThen, hset]
    rw [b, ← a, Nat.zero_add]
    simp
end Go.Proofs.Ytcoabmnekccdpaa
