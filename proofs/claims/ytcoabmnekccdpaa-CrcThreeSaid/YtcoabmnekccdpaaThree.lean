/- 'CrcThree' returns true for every input: one, two or three bits that are turned change the sum. -/
import Derived.Test.YtcoabmnekccdpaaMapR
import Derived.Test.YtcoabmnekccdpaaSumsA
import Derived.Test.YtcoabmnekccdpaaRow
import Derived.Deep.AppendLies
import Derived.ProofKit
import Derived.OpenShut
import Derived.ShutString
import Derived.ChangeOld
namespace Go.Proofs.Ytcoabmnekccdpaa.crcThree
open Go.ChangeShapes Go.WideShapes Go.ChangeAt Go.RowKit
open Go.ChangeMaps (open_string shut_string)
set_option linter.unusedVariables false

theorem own : ownKnob Try.prog.godebug = none := by kernel_rfl
theorem laidOut : laidOutB Try.prog = true := by kernel_rfl

/-- the bits that are turned, one behind the other -/
def esOf (ix : Nat → Nat) : Nat → List (Int × Bool)
  | 0 => []
  | k + 1 => toggle (esOf ix k) (ix k : Int)
def rowOf (ix : Nat → Nat) (l : List Nat) : Nat → List Nat
  | 0 => l
  | k + 1 => flip (rowOf ix l k) (ix k)
theorem rowOf_length (ix : Nat → Nat) (l : List Nat) : ∀ k, (rowOf ix l k).length = l.length
  | 0 => rfl
  | k + 1 => by rw [rowOf, flip_length, rowOf_length ix l k]
theorem rowOf_byte (ix : Nat → Nat) (l : List Nat) (hl : ∀ x ∈ l, x < 256) : ∀ k, ∀ x ∈ rowOf ix l k, x < 256
  | 0 => hl
  | k + 1 => flip_byte _ _ (rowOf_byte ix l hl k)

/-- block g holds these bytes at its head, and may be written -/
structure RowAt (w : World) (g : Nat) (L : List Nat) : Prop where
  cell : ∀ i, i < L.length → w.cell? ⟨g, i, none⟩ = some (.int .u8 (L.getD i 0 : Nat))
  free : ∀ i, w.frozen? ⟨g, i, none⟩ = false
theorem RowAt.of_block {w w' : World} {g : Nat} {L : List Nat} (h : RowAt w g L) (hb : w'.heap[g]? = w.heap[g]?) : RowAt w' g L :=
  ⟨fun i hi => by rw [World.cell?_of_block (w := w) (a := ⟨g, i, none⟩) hb]; exact h.cell i hi, fun i => by rw [World.frozen?_of_block (w := w) (a := ⟨g, i, none⟩) hb]; exact h.free i⟩
theorem RowAt.set {w : World} {g : Nat} {L : List Nat} (h : RowAt w g L) (i v : Nat) (hi : i < L.length) : RowAt (w.setCell ⟨g, i, none⟩ (.int .u8 (v : Int))) g (L.set i v) := by
  have hfr : ∀ p, (w.setCell ⟨g, i, none⟩ (.int .u8 (v : Int))).frozen? p = w.frozen? p := fun p => by
    simp only [World.frozen?, World.setCell, Array.getElem?_modify]
    by_cases e : g = p.block
    · rw [if_pos e]
      cases h' : w.heap[p.block]? with
      | none => simp
      | some o => cases o <;> simp
    · rw [if_neg e]
  refine ⟨fun j hj => ?_, fun j => by rw [hfr]; exact h.free j⟩
  rw [List.length_set] at hj
  have hc := h.cell i hi
  by_cases e : i = j
  · subst e
    rw [World.cell?_setCell_same _ _ _ hc, List.getD_eq_getElem?_getD, List.getElem?_set_self hi]; rfl
  · rw [World.cell?_setCell_other _ _ _ _ (by intro he; exact e (by injection he)), h.cell j hj, List.getD_eq_getElem?_getD, List.getD_eq_getElem?_getD, List.getElem?_set_ne e]

/-- whom an iterator has met -/
def seenOf (w : World) (R : Nat) : Array Nat := match w.heap[R]? with
  | some (.mapIter _ _ seen _) => seen
  | _ => #[]
def unmet (n : Nat) (seen : Array Nat) : Nat := ((List.range n).filter fun j => !seen.contains j).length
theorem unmet_push (n : Nat) (seen : Array Nat) (j : Nat) (hj : j < n) (hs : j ∉ seen) : unmet n (seen.push j) < unmet n seen := by
  refine filter_less (List.range n) (fun j => !seen.contains j) (fun i => !(seen.push j).contains i) (fun i _ h => ?_) j (by simpa using hj) (by simpa using hs) (by simp)
  simp only [Bool.not_eq_true', Array.contains_push, Bool.or_eq_false_iff] at h ⊢
  exact h.1
theorem left_none {es : List (Int × Bool)} {seen : Array Nat} (h : leftOf es seen = #[]) (j : Nat) (p : Int × Bool) (hj : es[j]? = some p) : j ∈ seen := by
  have hm := ents_get es 0 j p hj
  rw [Nat.zero_add] at hm
  by_cases hs : j ∈ seen
  · exact hs
  · exfalso
    have : mkE (p, j) ∈ leftOf es seen := by
      unfold leftOf
      rw [Array.mem_filter]
      exact ⟨by simpa using hm, by simpa [mkE] using hs⟩
    rw [h] at this
    simp at this
def Calm (es : List (Int × Bool)) (seen : Array Nat) : Prop := ∀ j p, j ∈ seen → es[j]? = some p → p.2 = false

set_option maxRecDepth 100000 in
theorem walk (a0 : Option Addr) (len0 cap0 : Nat) (z0 : List Int) (a1 : Int) (a2 : Int) (a3 : Int) (w : World) (w0 : IsRow .u8 w a0 len0 cap0 z0) (w1 : (Lit.int .i64 a1).wf = true) (w2 : (Lit.int .i64 a2).wf = true) (w3 : (Lit.int .i64 a3).wf = true) :
    Calls Try.prog 4 #[.slice a0 len0 cap0, .int .i64 a1, .int .i64 a2, .int .i64 a3] w fun e w' => e = .returned (.bool true) ∧ Below w.heap.size w w' := by
  obtain ⟨l, hl, hcap, hb⟩ := bytes_of_row w0
  clear w0 w1 w2 w3
  by_cases hbig : len0 < 1
  · have haw := awake_walk w
    have HAW := Lib.hid haw; clear haw hb hl
    go_enter Try.func4, Try.ntmps4
    go_wp2_with fail
    refine HAW.out.mono ?_
    rintro e w' ⟨rfl, hbw⟩
    go_wp2_with fail
    go_ret
    exact ⟨rfl, hbw⟩
  by_cases hbig1 : 2000 < len0
  · have haw := awake_walk w
    have HAW := Lib.hid haw; clear haw hb hl
    go_enter Try.func4, Try.ntmps4
    go_wp2_with fail
    refine HAW.out.mono ?_
    rintro e w' ⟨rfl, hbw⟩
    go_wp2_with fail
    go_ret
    exact ⟨rfl, hbw⟩
  obtain ⟨b, off, rfl, hbB, hc0⟩ := hb.cell 0 (by omega)
  clear hc0
  obtain ⟨i5, hi5, hz5, hs5, hby5⟩ := info_parts info5
  have hB3 : Below w.heap.size w (((w.alloc (.cells (tabCells tab) 26)).alloc (.cells (tabCells tab) 26)).alloc (.cells #[] 5)) := (((Below.refl _ _).alloc (Nat.le_refl _) _).alloc (by simp) _).alloc (by simp; omega) _
  have hown0 : (((w.alloc (.cells (tabCells tab) 26)).alloc (.cells (tabCells tab) 26)).alloc (.cells #[] 5)).ownsRow w.heap.size 5 1 (.slice (some ⟨w.heap.size + 1 + 1, 0, none⟩) 0 0) 0 [] := by
    refine ⟨by simp, .inr ⟨w.heap.size + 1 + 1, 0, #[], rfl, by omega, ?_, Nat.le_refl _, by simp [maxLen], by simp, by simp⟩⟩
    have := heap_alloc_new ((w.alloc (.cells (tabCells tab) 26)).alloc (.cells (tabCells tab) 26)) (.cells #[] 5)
    simpa using this
  have hnews : ∀ j u, (l.map fun (x : Nat) => Value.int .u8 (x : Int))[j]? = some u → (((w.alloc (.cells (tabCells tab) 26)).alloc (.cells (tabCells tab) 26)).alloc (.cells #[] 5)).cell? ((⟨b, off, none⟩ : Addr).add j) = some u := by
    intro j u hu
    have hj : j < l.length := by
      have := (List.getElem?_eq_some_iff.1 hu).1
      simpa using this
    obtain ⟨b', off', e, hb1, hc⟩ := hb.cell j hj
    simp only [Option.some.injEq, Addr.mk.injEq, and_true] at e
    obtain ⟨rfl, rfl⟩ := e
    have hadd : (⟨b, off, none⟩ : Addr).add j = ⟨b, off + j, none⟩ := by unfold Addr.add; split <;> simp_all
    rw [hadd, hB3.cell (p := ⟨b, off + j, none⟩) hb1, hc]
    rw [← hu, List.getElem?_map, List.getElem?_eq_getElem hj, List.getD_eq_getElem?_getD, List.getElem?_eq_getElem hj]; rfl
  have hB1 : (((w.alloc (.cells (tabCells tab) 26)).alloc (.cells (tabCells tab) 26)).alloc (.cells #[] 5)).heap[w.heap.size + 1]? = some (.cells (tabCells tab) 26 (0, 0)) := by
    have h1 := heap_alloc_new (w.alloc (.cells (tabCells tab) 26)) (.cells (tabCells tab) 26)
    have h2 := Below.heap_alloc ((w.alloc (.cells (tabCells tab) 26)).alloc (.cells (tabCells tab) 26)) (.cells #[] 5) (w.heap.size + 1) (by simp)
    rw [h2]; simpa using h1
  have hsz3 : (((w.alloc (.cells (tabCells tab) 26)).alloc (.cells (tabCells tab) 26)).alloc (.cells #[] 5)).heap.size = w.heap.size + 3 := by simp
  have HL := Lib.hid hl
  have HB := Lib.hid hb
  have HI := Lib.hid (And.intro hi5 (And.intro hz5 (And.intro hs5 hby5)))
  have HB3 := Lib.hid hB3
  have HOWN := Lib.hid hown0
  have HNEWS := Lib.hid hnews
  have HB1 := Lib.hid hB1
  have HSZ := Lib.hid hsz3
  clear hl hb hi5 hz5 hs5 hby5 hB3 hown0 hnews hB1 hsz3
  have hmm := @run_makeMap Try.prog
  go_enter Try.func4, Try.ntmps4
  go_wp2_with fail
  refine (Make_walk _).mono ?_
  rintro e w' ⟨rfl, rfl⟩
  go_wp2_with (first
    | (refine wpList_alloc26 rfl rfl ?_)
    | refine wpList_store_row rfl 26 (.tmp 9) (.tmp 28) rfl (tabCells (fun _ => 0)) (tabCells tab) _ (by simp) rfl rfl size26 (tabCells_same _ _) (tabCells_one tab) ?_
    | (at_builtin; refine wpList_append_lies _ rfl (.tmp 32) (.tmp 33) 22 rfl w.heap.size 5 i5 (.int .u8 0) 1 1 Try.underlying22 HI.out.1 HI.out.2.1 HI.out.2.2.1 HI.out.2.2.2 rfl (by omega) (.slice (some ⟨w.heap.size + 1 + 1, 0, none⟩) 0 0) 0 [] (by rfl) HOWN.out ⟨b, off, none⟩ len0 cap0 (l.map fun (x : Nat) => Value.int .u8 (x : Int)) (by rfl) (by rw [List.length_map, HL.out]; omega) HNEWS.out (by intro u hu; obtain ⟨x, _, rfl⟩ := List.mem_map.1 hu; rfl) (by omega) (by simp only [maxLen]; omega) (by omega) (by have := HSZ.out; omega) (w.heap.size + 3) HSZ.out ?_
       intro g cap wg hown hgrow hat hltg
       have HAPP := Lib.hid (And.intro hown (And.intro hgrow hat))
       clear hown hgrow hat))
  obtain ⟨hown, hgrow, hat⟩ := HAPP.out
  have hBg : Below w.heap.size w wg := HB3.out.grown hgrow (by have := HSZ.out; omega) (by intro k hk; simp [Value.ownBlock] at hk; omega)
  have hTab : wg.heap[w.heap.size + 1]? = some (.cells (tabCells tab) 26 (0, 0)) := by
    rw [hgrow.block (w.heap.size + 1) (by have := HSZ.out; omega) (by simp [Value.ownBlock])]; exact HB1.out
  have hg2 : w.heap.size + 1 < g := by
    rcases hat with h | h
    · simp [Value.ownBlock] at h; omega
    · omega
  have hcapg0 : len0 ≤ cap := by
    obtain ⟨_, h⟩ := hown
    rcases h with ⟨h, _⟩ | ⟨g', cap', cur, he, _, hh, h1, _, h3, h4⟩
    · cases h
    · simp only [Value.slice.injEq] at he
      omega
  have hrow : RowAt wg g l := by
    obtain ⟨_, h⟩ := hown
    rcases h with ⟨h, _⟩ | ⟨g', cap', cur, he, _, hh, h1, _, h3, h4⟩
    · cases h
    · simp only [Value.slice.injEq, Option.some.injEq, Addr.mk.injEq, and_true] at he
      obtain ⟨e1, _⟩ := he
      subst e1
      refine ⟨fun i hi => ?_, fun i => frozen_of_row wg g i cur 5 hh⟩
      rw [cell_of_row wg g i cur 5 _ hh]
      have h5 : (cur.toList.take ((0 + len0) * 1))[i]? = ([] ++ l.map fun (x : Nat) => Value.int .u8 (x : Int))[i]? := by rw [h4]
      have hll := HL.out
      rw [List.getElem?_take_of_lt (by omega), List.nil_append, List.getElem?_map, List.getElem?_eq_getElem hi] at h5
      rw [← Array.getElem?_toList, h5, List.getD_eq_getElem?_getD, List.getElem?_eq_getElem hi]; rfl
  have hM0 : (wg.alloc (.map #[] 0)).heap[wg.heap.size]? = some (mapObj []) := heap_alloc_new wg _
  have hlen := HL.out
  obtain ⟨ix, hix⟩ : ∃ ix : Nat → Nat, ix = fun k => ([a1, a2, a3].getD k 0 % (8 * (len0 : Int))).toNat := ⟨_, rfl⟩
  have hixlt : ∀ k, ix k < 8 * len0 := fun k => by
    subst hix
    have := Int.emod_lt_of_pos ([a1, a2, a3].getD k 0) (show (0 : Int) < 8 * (len0 : Int) by omega)
    have := Int.emod_nonneg ([a1, a2, a3].getD k 0) (show 8 * (len0 : Int) ≠ 0 by omega)
    show ([a1, a2, a3].getD k 0 % (8 * (len0 : Int))).toNat < 8 * len0
    omega
  have hround : ∀ k W, Calls Try.prog 9 #[.int .i64 ([a1, a2, a3].getD k 0), .int .i64 (8 * (len0 : Int))] W fun e w' => e = .returned (.int .i64 ((ix k : Nat) : Int)) ∧ W = w' := fun k W => by
    have h := Round_walk ([a1, a2, a3].getD k 0) (8 * (len0 : Int)) (by omega) (by omega) W
    have := Int.emod_nonneg ([a1, a2, a3].getD k 0) (show 8 * (len0 : Int) ≠ 0 by omega)
    have e : ((ix k : Nat) : Int) = [a1, a2, a3].getD k 0 % (8 * (len0 : Int)) := by subst hix; exact Int.toNat_of_nonneg this
    rw [e]; exact h
  have hidx : ∀ k : Nat, k < 3 → ∀ W, (Instr.index 35 (.agg #[.int .i64 a1, .int .i64 a2, .int .i64 a3]) (.int .i64 (k : Int))).run Try.prog W = .ok (.int .i64 ([a1, a2, a3].getD k 0)) W := by
    intro k hk W
    have h3 : k = 0 ∨ k = 1 ∨ k = 2 := by omega
    rcases h3 with rfl | rfl | rfl
    · show _ = _; kernel_rfl
    · show _ = _; kernel_rfl
    · show _ = _; kernel_rfl
  have hBM : Below w.heap.size w (wg.alloc (.map #[] 0)) := hBg.alloc hBg.size _
  have hTabM : (wg.alloc (.map #[] 0)).heap[w.heap.size + 1]? = some (.cells (tabCells tab) 26 (0, 0)) := by
    rw [Below.heap_alloc wg _ _ (by omega)]; exact hTab
  have hrowM : RowAt (wg.alloc (.map #[] 0)) g l := hrow.of_block (Below.heap_alloc wg _ _ hltg)
  have hltM : wg.heap.size < (wg.alloc (.map #[] 0)).heap.size := by simp
  generalize wg.alloc (.map #[] 0) = wm at *
  generalize wg.heap.size = M at *
  have hcapg := Lib.hid hcapg0
  have HIX := Lib.hid hix
  have HRO := Lib.hid hround
  have HID := Lib.hid hidx
  have HLT := Lib.hid hixlt
  clear hix hround hidx hixlt hown hgrow hat hBg hTab hrow hlen hmm HAPP HNEWS HOWN HSZ HB1 HB3 HI
  clear hcapg0
  clear wg
  generalize hB1e : w.heap.size + 1 = B1 at *
  have HBE := Lib.hid hB1e; clear hB1e
  go_loopw [40] (fun i wr => ∃ k : Nat, k ≤ 3 ∧ i = .int .i64 k ∧ Below w.heap.size w wr ∧ wr.heap[B1]? = some (.cells (tabCells tab) 26 (0, 0)) ∧ M < wr.heap.size ∧ wr.heap[M]? = some (mapObj (esOf ix k)) ∧ RowAt wr g (rowOf ix l k)) (fun i _ => 3 - (intOf i).toNat)
  case atStart => exact ⟨0, by omega, rfl, hBM, hTabM, hltM, hM0, hrowM⟩
  case round =>
    obtain ⟨k, hk, rfl, hB, hT, hltr, hM, hR⟩ := hrel
    clear hBM hTabM hltM hM0 hrowM
    by_cases hk3 : k < 3
    · have hidx := HID.out k hk3 wr
      have hi := HLT.out k
      have HROK := HRO.out k
      have HRK := Lib.hid HROK; clear HROK
      have hes : esOf ix (k + 1) = mset (esOf ix k) (ix k : Int) (!mlook (esOf ix k) (ix k : Int)) := rfl
      have hro : rowOf ix l (k + 1) = (rowOf ix l k).set (ix k / 8) ((rowOf ix l k).getD (ix k / 8) 0 ^^^ 2 ^ (ix k % 8)) := rfl
      have hrl := rowOf_length ix l k
      rw [HL.out] at hrl
      have hby := rowOf_byte ix l HB.out.byte k
      have HES := Lib.hid hes; have HROW := Lib.hid hro
      clear hes hro
      generalize [a1, a2, a3].getD k 0 = x at *
      generalize ix k = i at *
      generalize esOf ix k = es at *
      generalize rowOf ix l k = L at *
      have hlook := run_look wr M es (i : Int) hM
      have hupd := run_upd wr M es (i : Int) (!mlook es (i : Int)) hM
      obtain ⟨W1, hW1⟩ : ∃ W1 : World, W1 = { wr with heap := wr.heap.setIfInBounds M (mapObj (mset es (i : Int) (!mlook es (i : Int)))) } := ⟨_, rfl⟩
      rw [← hW1] at hupd
      have hMlt : w.heap.size ≤ M := by have := HBE.out; omega
      have hB1' : Below w.heap.size w W1 := by
        subst hW1
        exact hB.trans ⟨rfl, rfl, rfl, by simp, fun k hk => by show (wr.heap.setIfInBounds M _)[k]? = _; rw [Array.getElem?_setIfInBounds, if_neg (by omega)]⟩
      have hoth : ∀ c, c ≠ M → W1.heap[c]? = wr.heap[c]? := fun c hc => by
        subst hW1; show (wr.heap.setIfInBounds M _)[c]? = _; rw [Array.getElem?_setIfInBounds, if_neg (fun e => hc e.symm)]
      have hT1 : W1.heap[B1]? = some (.cells (tabCells tab) 26 (0, 0)) := by rw [hoth B1 (by omega)]; exact hT
      have hM1 : W1.heap[M]? = some (mapObj (mset es (i : Int) (!mlook es (i : Int)))) := by
        subst hW1; show (wr.heap.setIfInBounds M _)[M]? = _; rw [Array.getElem?_setIfInBounds, if_pos rfl, if_pos hltr]
      have hR1 : RowAt W1 g L := hR.of_block (hoth g (by omega))
      have hl1 : M < W1.heap.size := by subst hW1; simpa using hltr
      have hi8 : i / 8 < L.length := by omega
      have hc := hR1.cell (i / 8) hi8
      have hf := hR1.free (i / 8)
      have hpw : 2 ^ (i % 8) < 256 := by
        have : 2 ^ (i % 8) ≤ 2 ^ 7 := Nat.pow_le_pow_right (by omega) (by omega)
        omega
      have hCb : L.getD (i / 8) 0 < 256 := by
        rw [List.getD_eq_getElem?_getD, List.getElem?_eq_getElem hi8]; exact hby _ (List.getElem_mem hi8)
      have hbx := byte_xor _ _ hCb hpw
      have hset := hR1.set (i / 8) (L.getD (i / 8) 0 ^^^ 2 ^ (i % 8)) hi8
      have hnext : Below w.heap.size w (W1.setCell ⟨g, i / 8, none⟩ (.int .u8 ((L.getD (i / 8) 0 ^^^ 2 ^ (i % 8) : Nat) : Int))).drew ∧
          (W1.setCell ⟨g, i / 8, none⟩ (.int .u8 ((L.getD (i / 8) 0 ^^^ 2 ^ (i % 8) : Nat) : Int))).drew.heap[B1]? = some (.cells (tabCells tab) 26 (0, 0)) ∧
          M < (W1.setCell ⟨g, i / 8, none⟩ (.int .u8 ((L.getD (i / 8) 0 ^^^ 2 ^ (i % 8) : Nat) : Int))).drew.heap.size ∧
          (W1.setCell ⟨g, i / 8, none⟩ (.int .u8 ((L.getD (i / 8) 0 ^^^ 2 ^ (i % 8) : Nat) : Int))).drew.heap[M]? = some (mapObj (mset es (i : Int) (!mlook es (i : Int)))) ∧
          RowAt (W1.setCell ⟨g, i / 8, none⟩ (.int .u8 ((L.getD (i / 8) 0 ^^^ 2 ^ (i % 8) : Nat) : Int))).drew g (L.set (i / 8) (L.getD (i / 8) 0 ^^^ 2 ^ (i % 8))) := by
        refine ⟨(hB1'.setCell (by show w.heap.size ≤ g; have := HBE.out; omega) _).drew, ?_, ?_, ?_, hset.of_block rfl⟩
        · show (W1.setCell _ _).heap[B1]? = _
          rw [Below.heap_setCell _ _ _ _ (by show B1 ≠ g; omega)]; exact hT1
        · show M < (W1.setCell _ _).heap.size
          simp [World.setCell]; exact hl1
        · show (W1.setCell _ _).heap[M]? = _
          rw [Below.heap_setCell _ _ _ _ (by show M ≠ g; omega)]; exact hM1
      have HNEXT := Lib.hid hnext
      clear hnext hset hR1 hM1 hT1 hoth hB1' hW1 hR hM hT hB hby
      have hq : (i : Int) / 8 = ((i / 8 : Nat) : Int) := by omega
      generalize hqq : i / 8 = q at *
      have HQ := Lib.hid hqq; clear hqq
      have hpi : (2 : Int) ^ (i % 8) = ((2 ^ (i % 8) : Nat) : Int) := by simp
      generalize 2 ^ (i % 8) = pp at *
      generalize L.getD q 0 = cc at *
      go_wp2_with (go_at_call 9; refine (HRK.out _).mono ?_; rintro e w' ⟨rfl, rfl⟩)
      have hi0 : (0 : Int) ≤ (i : Int) := by omega
      have hiu : (i : Int) < 16000 := by omega
      go_region
      go_wp2_with fail
      go_roundw
      case rel => exact ⟨k + 1, by omega, by go_num, HNEXT.out.1, HNEXT.out.2.1, HNEXT.out.2.2.1, by rw [HES.out]; exact HNEXT.out.2.2.2.1, by rw [HROW.out]; exact HNEXT.out.2.2.2.2⟩
      case measure => simp [intOf]; omega
    · have e : k = 3 := by omega
      subst e
      obtain ⟨wo, rfl⟩ : ∃ wo : World, wo = wr := ⟨_, rfl⟩
      have hfin := on_three l (ix 0) (ix 1) (ix 2) (by have := HL.out; omega) (by rw [HL.out]; exact HLT.out 0) (by rw [HL.out]; exact HLT.out 1) (by rw [HL.out]; exact HLT.out 2)
      have hrow3 : rowOf ix l 3 = flip (flip (flip l (ix 0)) (ix 1)) (ix 2) := rfl
      have htog : (esOf ix 3).all (fun p => !p.2) = false := three_toggles (ix 0) (ix 1) (ix 2)
      have hl3 := rowOf_length ix l 3
      rw [HL.out] at hl3
      have hby3 := rowOf_byte ix l HB.out.byte 3
      rw [← hrow3] at hfin
      generalize rowOf ix l 3 = L at *
      generalize esOf ix 3 = es at *
      have HFIN := Lib.hid (And.intro hfin (And.intro htog (And.intro hl3 (And.intro hby3 hR))))
      have hra := run_range wo M es hM
      have HBT := Lib.hid (And.intro hB (And.intro hT (And.intro hltr hM)))
      clear hfin htog hl3 hby3 hR hB hT hltr hM hrow3
      go_wp2_with fail
      obtain ⟨hB, hT, hltr, hM⟩ := HBT.out
      have hB2 : Below w.heap.size w (wo.alloc (.mapIter (some M) es.length #[] es.length)) := hB.alloc hB.size _
      have hI2 : (wo.alloc (.mapIter (some M) es.length #[] es.length)).heap[wo.heap.size]? = some (.mapIter (some M) es.length #[] es.length) := heap_alloc_new wo _
      have hO2 : ∀ c, c < wo.heap.size → (wo.alloc (.mapIter (some M) es.length #[] es.length)).heap[c]? = wo.heap[c]? := fun c hc => Below.heap_alloc wo _ c hc
      have hL2 : wo.heap.size < (wo.alloc (.mapIter (some M) es.length #[] es.length)).heap.size := by simp
      have hRB := hB.size
      generalize wo.alloc (.mapIter (some M) es.length #[] es.length) = W0 at *
      generalize hRe : wo.heap.size = R at *
      have HRE := Lib.hid hRe
      clear hRe hra hB hT hltr hM
      go_loopw [16] (fun c W => ∃ (seen : Array Nat) (sm : Bool), c = .bool sm ∧ (sm = true → Calm es seen) ∧ (sm = false → ¬ Calm es seen) ∧ Below w.heap.size w W ∧ W.heap[R]? = some (.mapIter (some M) es.length seen es.length) ∧ (∀ c, c < R → W.heap[c]? = wo.heap[c]?) ∧ R < W.heap.size) (fun _ W => unmet es.length (seenOf W R))
      case atStart => exact ⟨#[], true, rfl, fun _ j p hj => by simp at hj, fun h => by simp at h, hB2, hI2, hO2, hL2⟩
      case round =>
        obtain ⟨seen, sm, rfl, hs1, hs2, hBz, hIz, hOz, hLz⟩ := hrel
        clear hB2 hI2 hO2 hL2
        have hMz : wr.heap[M]? = some (mapObj es) := by rw [hOz M (by have := HRE.out; have := HBT.out.2.2.1; omega)]; exact HBT.out.2.2.2
        by_cases hall : leftOf es seen = #[]
        · have hsm : sm = false := by
            cases hsm : sm with
            | false => rfl
            | true =>
              exfalso
              have hc := hs1 hsm
              have hall2 : es.all (fun p => !p.2) = true := by
                rw [List.all_eq_true]
                intro p hp
                obtain ⟨j, hj⟩ := List.getElem?_of_mem hp
                rw [hc j p (left_none hall j p hj) hj]; rfl
              rw [HFIN.out.2.1] at hall2
              cases hall2
          subst hsm
          have hnx := run_next_end wr R M es seen 0 hMz hIz hall
          have HALL := Lib.hid (And.intro hBz (And.intro hOz hLz))
          clear hs1 hs2 hBz hOz hIz hLz hMz hall
          go_wp2_with fail
          obtain ⟨hBz, hOz, hLz⟩ := HALL.out
          have hRM : M < R := by have := HRE.out; have := HBT.out.2.2.1; omega
          have hwW : Below w.heap.size w wr := hBz
          have hB1w : wr.heap[B1]? = some (.cells (tabCells tab) 26 (0, 0)) := by rw [hOz B1 (by omega)]; exact HBT.out.2.1
          have hltB : B1 < wr.heap.size := by omega
          have hRow : RowAt wr g L := HFIN.out.2.2.2.2.of_block (hOz g (by omega))
          have hLL := HFIN.out.2.2.1
          have hne := HFIN.out.1
          have hll := HL.out
          have hapL : len0 ≤ cap := hcapg.out
          have hrow2 : ∀ w', Up wr w' → w'.heap[B1]? = some (.cells (tabCells tab) 26 (0, 0)) := fun w' h => by rw [h.block B1 hltB]; exact hB1w
          have hs0' : isBytes L (.slice (some ⟨g, 0, none⟩) len0 cap) wr := ⟨_, cap, by rw [hLL], by omega, HFIN.out.2.2.2.1, fun i hi => ⟨g, 0, rfl, by omega, by rw [Nat.zero_add]; exact hRow.cell i hi⟩⟩
          have hs0 : ∀ w', Up wr w' → isBytes L (.slice (some ⟨g, 0, none⟩) len0 cap) w' := fun w' h => stable_isBytes _ _ _ _ (ext_of_below h) hs0'
          have hsl : ∀ w', Up wr w' → isBytes l (.slice (some ⟨b, off, none⟩) len0 cap0) w' := fun w' h => ⟨_, cap0, by rw [hll], by omega, (HB.out.below (hwW.trans (h.mono hwW.size))).mono (Nat.le_trans hwW.size h.size)⟩
          refine wp_region_inv 86 mixed (by kernel_rfl) (by rfl) (Up wr) (Below.refl _ _).drew ?_
          refine wpI_cons (is (.agg (tabCells tab))) (stable_is _) (step_loadRow (go0 rfl) 26 (.tmp 9) rfl B1 26 (tabCells tab) (0, 0) _ (opO' 9 (.pointer (some ⟨B1, 0, none⟩)) rfl rfl) hrow2 Try.underlying26 rfl size26) ?_
          refine wpI_cons (is (.slice (some ⟨g, 0, none⟩) len0 cap)) (stable_is _) (step_move (go0 rfl) (.tmp 11) rfl (opO' 11 (.slice (some ⟨g, 0, none⟩) len0 cap) rfl rfl)) ?_
          refine wpI_cons (is (.int .u32 (crcOn 0 L : Nat))) (stable_is _) (step_call2 (go0 rfl) 10 (.tmp 74) (.tmp 75) _ rfl enter10 (opT' 74 0 rfl rfl) (OpIs.imp (opT' 75 1 rfl rfl) (fun v w h e => by obtain rfl : v = _ := e; exact hs0 w h)) (fun u v w h1 h2 h3 => Of_ok L (by omega) u v w h1 h2 h3)) ?_
          refine wpI_cons (is (.agg (tabCells tab))) (stable_is _) (step_loadRow (go0 rfl) 26 (.tmp 9) rfl B1 26 (tabCells tab) (0, 0) _ (opO' 9 (.pointer (some ⟨B1, 0, none⟩)) rfl rfl) hrow2 Try.underlying26 rfl size26) ?_
          refine wpI_cons (is (.slice (some ⟨b, off, none⟩) len0 cap0)) (stable_is _) (step_move (go0 rfl) (.tmp 0) rfl (opO' 0 (.slice (some ⟨b, off, none⟩) len0 cap0) rfl rfl)) ?_
          refine wpI_cons (is (.int .u32 (crcOn 0 l : Nat))) (stable_is _) (step_call2 (go0 rfl) 10 (.tmp 77) (.tmp 78) _ rfl enter10 (opT' 77 3 rfl rfl) (OpIs.imp (opT' 78 4 rfl rfl) (fun v w h e => by obtain rfl : v = _ := e; exact hsl w h)) (fun u v w h1 h2 h3 => Of_ok l (by omega) u v w h1 h2 h3)) ?_
          refine wpI_cons (is (.bool false)) (stable_is _) (step_eq (go0 rfl) 23 23 (.tmp 76) (.tmp 79) rfl _ _ _ false (opT' 76 2 rfl rfl) (opT' 79 5 rfl rfl) (by have h := hne; simp; omega)) ?_
          refine wpI_cons (is (.bool false)) (stable_is _) (step_move (go0 rfl) (.tmp 16) rfl (opO' 16 (.bool false) rfl rfl)) ?_
          refine wpI_cons (is (.bool true)) (stable_is _) (step_eqb (go0 rfl) 4 4 (.tmp 80) (.tmp 81) rfl false false true (opT' 80 6 rfl rfl) (opT' 81 7 rfl rfl) (fun w => by kernel_rfl)) ?_
          refine wpI_cons (is (.bool true)) (stable_is _) (step_move (go0 rfl) (.tmp 82) rfl (opT' 82 8 rfl rfl)) ?_
          refine wpI_cons (is (.bool true)) (stable_is _) (step_call0 (go1 9 true 83 rfl rfl rfl rfl) 7 _ rfl enter7 (fun w h => awake_ok w h)) ?_
          refine wpI_cons (is (.bool true)) (stable_is _) (step_pickT (go0 rfl) (.tmp 83) (.tmp 84) (.const (.bool false)) rfl (opT' 83 9 rfl rfl) (opT' 84 10 rfl rfl)) ?_
          refine wpI_cons (is (.bool true)) (stable_is _) (step_assign (go0 rfl) (.tmp 85) rfl (opT' 85 11 rfl rfl)) ?_
          refine wpI_nil ?_
          rintro ⟨tmps, dfr⟩ w' hI _ rfl _ hdone _
          have hr : tmps.getD 8 undef = .bool true := hdone 12 8 rfl
          clear hdone hrow2 hs0 hsl hB1w hOz
          go_wp2
          go_ret
          exact ⟨by rw [hr], hwW.trans (hI.mono hwW.size)⟩
        · obtain ⟨j, p, d, hj, hns, hrun⟩ := run_next_some wr R M es seen 0 hMz hIz hall
          obtain ⟨W1, hW1⟩ : ∃ W1 : World, W1 = { wr with heap := wr.heap.setIfInBounds R (.mapIter (some M) es.length (seen.push j) es.length), drawn := d } := ⟨_, rfl⟩
          rw [← hW1] at hrun
          have hoth : ∀ c, c ≠ R → W1.heap[c]? = wr.heap[c]? := fun c hc => by
            subst hW1; show (wr.heap.setIfInBounds R _)[c]? = _; rw [Array.getElem?_setIfInBounds, if_neg (fun e => hc e.symm)]
          have hR1 : W1.heap[R]? = some (.mapIter (some M) es.length (seen.push j) es.length) := by
            subst hW1; show (wr.heap.setIfInBounds R _)[R]? = _; rw [Array.getElem?_setIfInBounds, if_pos rfl, if_pos hLz]
          have hBz1 : Below w.heap.size w W1 := by
            have hsz : W1.heap.size = wr.heap.size := by subst hW1; simp
            have h1 : W1.os = wr.os ∧ W1.tape = wr.tape ∧ W1.output = wr.output := by subst hW1; exact ⟨rfl, rfl, rfl⟩
            exact hBz.trans ⟨h1.1, h1.2.1, h1.2.2, by omega, fun k hk => hoth k (by omega)⟩
          have hL1 : R < W1.heap.size := by subst hW1; simpa using hLz
          have hM1 : W1.heap[M]? = some (mapObj es) := by rw [hoth M (by have := HRE.out; have := HBT.out.2.2.1; omega)]; exact hMz
          have hen := run_entry W1 R M es seen j p hj hM1 hR1
          have hmu : unmet es.length (seenOf W1 R) < unmet es.length (seenOf wr R) := by
            have e1 : seenOf W1 R = seen.push j := by unfold seenOf; rw [hR1]
            have e2 : seenOf wr R = seen := by unfold seenOf; rw [hIz]
            rw [e1, e2]; exact unmet_push _ _ _ (lt_of_get hj) hns
          have hO1 : ∀ c, c < R → W1.heap[c]? = wo.heap[c]? := fun c hc => by rw [hoth c (by omega)]; exact hOz c hc
          have hcalm : Calm es (seen.push j) ↔ (Calm es seen ∧ p.2 = false) := by
            constructor
            · intro h
              exact ⟨fun j' p' h1 h2 => h j' p' (by simp [h1]) h2, h j p (by simp) hj⟩
            · rintro ⟨h1, h2⟩ j' p' h3 h4
              rw [Array.mem_push] at h3
              rcases h3 with h3 | rfl
              · exact h1 j' p' h3 h4
              · rw [hj] at h4; cases h4; exact h2
          obtain ⟨p1, p2⟩ := p
          have HALL := Lib.hid (And.intro hBz1 (And.intro hR1 (And.intro hO1 (And.intro hL1 (And.intro hmu (And.intro hcalm (And.intro hs1 hs2)))))))
          clear hBz1 hR1 hO1 hL1 hmu hcalm hs1 hs2 hoth hM1 hMz hW1 hOz hIz hBz hLz hall hj hns
          cases sm
          · go_wp2_with fail
            obtain ⟨h1, h2, h3, h4, h5, h6, h7, h8⟩ := HALL.out
            exact ⟨⟨seen.push j, false, rfl, (fun h => by cases h), fun _ hc => h8 rfl (h6.1 hc).1, h1, h2, h3, h4⟩, h5⟩
          · cases p2
            · go_wp2_with fail
              obtain ⟨h1, h2, h3, h4, h5, h6, h7, h8⟩ := HALL.out
              exact ⟨⟨seen.push j, true, rfl, fun _ => h6.2 ⟨h7 rfl, rfl⟩, (fun h => by cases h), h1, h2, h3, h4⟩, h5⟩
            · go_wp2_with fail
              obtain ⟨h1, h2, h3, h4, h5, h6, h7, h8⟩ := HALL.out
              exact ⟨⟨seen.push j, false, rfl, (fun h => by cases h), (fun _ hc => by have := (h6.1 hc).2; cases this), h1, h2, h3, h4⟩, h5⟩

/-! ### THE ROW's STEP: WRITTEN OUT: LEAVE IT -/
set_option maxRecDepth 100000 in
theorem lifted (os : Os) (started : os.Started) (H : Type) (enc : TypeId × Value → H) :
    ReturnsInHanded {} Try.checked os 4 .any (Rows.crcThreeSpec.pre6 enc Try.prog Try.f4 Rows.crcThreeRow.domain false) (Rows.crcThreeSpec.post enc Try.prog Try.f4 false true false false) := by
  refine returnsInHanded_of_change (C := Try.checked) own started (by kernel_rfl) Try.func4
    (ChangeSpec.witness6 (enc := enc) (C := Try.checked) false ⟨#[], #[.slice none 0 0, .int .i64 0, .int .i64 0, .int .i64 0], []⟩ 8 (by kernel_rfl) (by kernel_rfl) (by kernel_rfl) (by kernel_rfl)) ?_
  intro W base args ds gs before hval0 hW hcnd _
  have hval : ∀ (j : Nat) t v, Try.f4.params[j]? = some t → args[j]? = some v → Value.okWide Try.prog W .any base t v := hval0
  have hW' := hW
  obtain ⟨p, q, hA0, hV, rfl, hfz, hnd⟩ := hW
  have hA : DataW.TrodAll enc Try.prog W 0 (fun _ => true) true Try.f4.params.toList args.toList ds p := hA0
  rw [Try.params4] at hA hval
  obtain ⟨v0, vs0, d0, ds0, p0, q0, hargs, rfl, rfl, h0, r0⟩ := trodAll_cons hA
  obtain ⟨v1, vs1, d1, ds1, p1, q1, rfl, rfl, rfl, h1, r1⟩ := trodAll_cons r0
  obtain ⟨v2, vs2, d2, ds2, p2, q2, rfl, rfl, rfl, h2, r2⟩ := trodAll_cons r1
  obtain ⟨v3, vs3, d3, ds3, p3, q3, rfl, rfl, rfl, h3, r3⟩ := trodAll_cons r2
  obtain ⟨rfl, rfl, rfl⟩ := trodAll_nil r3
  obtain rfl : args = #[v0, v1, v2, v3] := by cases args; simp_all
  obtain ⟨rfl, rfl⟩ := trodVars_none hV
  obtain ⟨a0, len0, cap0, rfl⟩ := okWide_slice Try.underlying22 (hval 0 22 v0 rfl rfl)
  have k0 := h0
  have lt0 : ∀ x ∈ p0, x.block < W.heap.size := by obtain ⟨m, hm⟩ := k0; exact DataW.trod_lt m _ _ _ hm
  obtain ⟨z0, w0⟩ : ∃ zs, IsRow .u8 W a0 len0 cap0 zs := by
    obtain ⟨fuel, hf⟩ := h0
    rcases open_ints Try.underlying22 Try.underlying5 (by kernel_rfl) hf with ⟨hcs, _⟩ | ⟨x, l, c, zs, hcs, _, hl, hm, hz, _, hcell, hwz⟩
    · simp [Value.cells] at hcs
      obtain ⟨rfl, rfl, rfl⟩ := hcs
      exact ⟨[], .inl ⟨rfl, rfl, rfl, rfl⟩⟩
    · simp [Value.cells] at hcs
      obtain ⟨rfl, rfl, rfl⟩ := hcs
      exact ⟨zs, .inr ⟨_, rfl, hl, hm, by simpa using hz, hcell, hwz⟩⟩
  obtain ⟨a1, rfl, rfl, rfl, w1⟩ := open_int Try.underlying3 (hval 1 3 v1 rfl rfl) h1
  obtain ⟨a2, rfl, rfl, rfl, w2⟩ := open_int Try.underlying3 (hval 2 3 v2 rfl rfl) h2
  obtain ⟨a3, rfl, rfl, rfl, w3⟩ := open_int Try.underlying3 (hval 3 3 v3 rfl rfl) h3
  clear hA0 hval0
  refine (walk a0 len0 cap0 z0 a1 a2 a3 W w0 w1 w2 w3).mono fun e W' ⟨he, bel⟩ => ?_
  subst he
  exact ⟨_, rfl, _, _, _, [], _, [], hW', trodAll_mk1 (shut_bool Try.underlying4 _), (trodAll_cons_mk (Below.trod laidOut (by kernel_rfl) (of_decide_eq_true (by kernel_rfl)) k0 bel lt0) (trodAll_cons_mk (shut_int Try.underlying3 w1) (trodAll_cons_mk (shut_int Try.underlying3 w2) (trodAll_cons_mk (shut_int Try.underlying3 w3) trodAll_mk0)))), rfl, bel.frame _, fun h => by cases h⟩

theorem over : Rows.crcThreeRow.holds Try.pinned (OpenSpec.ofChange Rows.crcThreeSpec) :=
  OpenClaim.holds_of_wide 4 Try.f4 rfl rfl rfl rfl rfl rfl rfl ⟨rfl, rfl, rfl, rfl, rfl⟩ rfl rfl rfl rfl rfl (by kernel_rfl) Try.func4 (by kernel_rfl)
    (of_decide_eq_true (by kernel_rfl)) (by unfold Func.isWrapper; first | (rw [if_pos (by decide +kernel)]; kernel_rfl) | (rw [if_neg (by decide +kernel)]; exact ⟨rfl, rfl⟩))
    (fun os started H enc _ => lifted os started H enc)

/-- ████ THE STATEMENT ████ -/
theorem proved : Rows.CrcThreeSaid := over
end Go.Proofs.Ytcoabmnekccdpaa.crcThree
