/- A row of bytes lengthened by noughts: append of a made slice. -/
import Derived.Test.YtccdciokokcomaaNum
namespace Go.Proofs.Ytccdciokokcomaa
open Go.RowKit

theorem zero_cells (k : Nat) : Builtin.zeroCells (Value.int .u8 0).cells k = (byteV (List.replicate k 0)).toArray := by
  have e : (Value.int IntKind.u8 0).cells = #[.int .u8 0] := rfl
  rw [e]
  apply Array.ext
  · simp [Builtin.zeroCells, byteV]
  · intro i h1 h2
    simp [Builtin.zeroCells, byteV, Nat.mod_one]
theorem run_zero_room (w : World) (g n cap k : Nat) (cur : Array Value) (hg : w.heap[g]? = some (.cells cur 5 (0, 0))) (hk : 0 < k) (hk2 : k ≤ 1000) (hroom : n + k ≤ cap) (hfit : n + k ≤ cur.size) (ty : TypeId) :
    (Builtin.append_ #[25, 3] ty #[.slice (some ⟨g, 0, none⟩) n cap, .int .i64 (k : Int)]).run Try.prog w =
      .ok (.slice (some ⟨g, 0, none⟩) (n + k) cap) (w.setRow g (cur.toList.take n ++ byteV (List.replicate k 0) ++ cur.toList.drop (n + k)).toArray) := by
  obtain ⟨i, hi, hz, hs, hb⟩ := info_parts info5
  have hwr : IntKind.i64.wrap (k : Int) = (k : Int) := IntWalk.i64_in _ (by omega)
  have h0 : ¬ ((k : Int) < 0) := by omega
  have h1 : ¬ (281474976710656 < (k : Int)) := by omega
  have h2 : ¬ (k = 0) := by omega
  have hst := run_storeCells_at Try.prog g n 5 (byteV (List.replicate k 0)) 0 cur w hg (by simp [byteV]; omega) (byteV_one _)
  simp only [Nat.add_zero] at hst
  have hl : (byteV (List.replicate k 0)).length = k := by simp [byteV]
  rw [hl] at hst
  simp [Builtin.append_, run_underlying Try.underlying25, run_underlying Try.underlying3, asInt, asIntOf, sizeOf, typeInfo, zeroValue, hi, hz, hs, hb, hwr, h0, h1, h2, hroom, Addr.add_lit, zero_cells, hst]
theorem run_zero_grow (w : World) (g n cap k : Nat) (olds : List Value) (hlo : olds.length = n) (holds : ∀ j v, olds[j]? = some v → w.cell? ((⟨g, 0, none⟩ : Addr).add j) = some v) (hk : 0 < k) (hk2 : k ≤ 1000) (hn : n ≤ 100000) (hc : cap < n + k) (ty : TypeId) :
    (Builtin.append_ #[25, 3] ty #[.slice (some ⟨g, 0, none⟩) n cap, .int .i64 (k : Int)]).run Try.prog w =
      .ok (.slice (some ⟨w.heap.size, 0, none⟩) (n + k) (grownCap w (n + k) cap 5))
        (w.drew.alloc (.cells (olds.toArray ++ (byteV (List.replicate k 0)).toArray ++ Builtin.zeroCells (Value.int .u8 0).cells (grownCap w (n + k) cap 5 - (n + k))) 5)) := by
  obtain ⟨i, hi, hz, hs, hb⟩ := info_parts info5
  have hwr : IntKind.i64.wrap (k : Int) = (k : Int) := IntWalk.i64_in _ (by omega)
  have h0 : ¬ ((k : Int) < 0) := by omega
  have h1 : ¬ (281474976710656 < (k : Int)) := by omega
  have h2 : ¬ (k = 0) := by omega
  have hn2 : ¬ (n + k ≤ cap) := by omega
  have h63 : ¬ (9223372036854775807 < ((n : Int) + (k : Int))) := by omega
  have h48 : ¬ (281474976710656 < Builtin.nextslicecap (n + k) cap) := by
    have := growslice_fits (need := n + k) (old := cap) (bytes := 1) hc (by omega)
    omega
  have hfo := run_firstCells_some (P := Try.prog) w.drew 1 n ⟨g, 0, none⟩ n cap olds (by rw [hlo, Nat.mul_one]) (by simpa using holds)
  simp [Builtin.append_, run_underlying Try.underlying25, run_underlying Try.underlying3, asInt, asIntOf, sizeOf, typeInfo, zeroValue, hi, hz, hs, hb, hwr, h0, h1, h2, hn2, h63, h48, Question.forced, hfo, newRow, grownCap, zero_cells]
section
variable {ops : Array Oper} {rest : List Oper} {o : Oper} {a : Act} {w : World} {Q : Exit → Act → World → Prop}
/-- append of so many noughts -/
theorem arm_zeros (hgd : o.guard = none) (x y : Operand) (ho : o.op = .call { callee := .builtin .append, args := #[x, y], argTypes := #[25, 3] }) (B : Nat) (v : Value) (l : List Nat) (k : Nat) (hx : a.eval x = v) (hy : a.eval y = .int .i64 (k : Int)) (hv : Own w B v l)
    (hl : 0 < l.length) (hk : 0 < k) (hk2 : k ≤ 1000) (hn : l.length ≤ 100000) (hB : B ≤ w.heap.size)
    (h : ∀ v' w', Own w' B v' (l ++ List.replicate k 0) → Below B w w' → wpList Try.prog ops Q rest (a.put o.dst v') w') : wpList Try.prog ops Q (o :: rest) a w := by
  have hbyte : ∀ x ∈ l ++ List.replicate k 0, x < 256 := app_byte hv.byte (by simp)
  have hlen : (byteV (l ++ List.replicate k 0)).length = (l ++ List.replicate k 0).length := byteV_length _
  rcases hv.row.2 with ⟨_, h0⟩ | ⟨g, cap, cur, rfl, hbg, hg, hnc, hcm, hcs, htake⟩
  · omega
  have goOn : ∀ v' w', (Builtin.append_ #[25, 3] o.type #[.slice (some ⟨g, 0, none⟩) l.length cap, .int .i64 (k : Int)]).run Try.prog w = .ok v' w' → Own w' B v' (l ++ List.replicate k 0) → Below B w w' → wpList Try.prog ops Q (o :: rest) a w := fun v' w' hr ho' hb =>
    wpList_plain hgd fun K hK => by
      unfold Oper.wp execOp
      simp only [ho, resolve, invoke, builtin, Sem.run_bind, Sem.run_pure, Result.andThen_ok, List.map_toArray, List.map_cons, List.map_nil, hx, hy, hr]
      exact hK _ _ (h v' w' ho' hb)
  simp only [Nat.mul_one] at hcs htake
  by_cases hroom : l.length + k ≤ cap
  · refine goOn _ _ (run_zero_room w g l.length cap k cur hg hk hk2 hroom (by omega) _) ⟨⟨by rw [byteV_length, Nat.mul_one], .inr ⟨g, cap, _, by rw [List.length_append, List.length_replicate], hbg, setRow_heap w g cur _ 5 _ hg, by simp; omega, hcm, ?_, ?_⟩⟩, hbyte⟩ ⟨rfl, rfl, rfl, by simp, fun j hj => setRow_other w g j _ (by omega)⟩
    · simp [byteV]; omega
    · rw [htake, Nat.mul_one, byteV_append, List.toList_toArray, List.length_append, ← byteV_length l, ← byteV_length (List.replicate k 0), ← List.length_append]
      exact List.take_left
  · have holds : ∀ j v, (byteV l)[j]? = some v → w.cell? ((⟨g, 0, none⟩ : Addr).add j) = some v := hv.row.cells (g := g) rfl
    have hge := grownCap_ge w (l.length + k) cap 5
    have hcm2 : grownCap w (l.length + k) cap 5 ≤ maxLen := grownCap_le_maxLen w (l.length + k) cap 5 (by unfold maxLen; omega)
    refine goOn _ _ (run_zero_grow w g l.length cap k (byteV l) (byteV_length l) holds hk hk2 hn (by omega) _) ⟨⟨by rw [byteV_length, Nat.mul_one], .inr ⟨w.heap.size, _, _, by rw [List.length_append, List.length_replicate], hB, heap_alloc_new w.drew _, by simp only [List.length_append, List.length_replicate]; exact hge, hcm2, ?_, ?_⟩⟩, hbyte⟩ ⟨rfl, rfl, rfl, by simp, fun j hj => Below.heap_alloc w.drew _ j (Nat.lt_of_lt_of_le hj hB)⟩
    · simp only [Array.size_append, List.size_toArray, size_zeroCells, byteV_length, List.length_replicate]
      have : (Value.int IntKind.u8 0).cells.size = 1 := rfl
      rw [this]; omega
    · simp only [Array.toList_append, List.append_assoc]
      rw [← List.append_assoc, ← byteV_append, Nat.mul_one, ← byteV_length]
      exact List.take_left
end
end Go.Proofs.Ytccdciokokcomaa
