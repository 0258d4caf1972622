/- A region in its text's order by the same law as one that draws its order. -/
import Derived.Test.YtgkidgpdgcdgnaaLink
namespace Go.Proofs.Ytgkidgpdgcdgnaa
open Go.RowKit

theorem wpOps_text {P : Program} {ops : Array Oper} {Q : Exit → Act → World → Prop} {m : Nat} (hs : shapeOk ops m = true) : ∀ (n k fuel : Nat) (listed : Array Bool) (a : Act) (w : World), k + n = ops.size → listed.size = ops.size →
    (∀ j, j < ops.size → listed[j]? = some (decide (j < k))) → n ≤ fuel → wpAny P .any ops Q fuel listed a w → wpOps P ops Q (List.range' k n) a w := by
  intro n
  induction n with
  | zero =>
    intro k fuel listed a w hk hsz hl hf h
    have hr : Region.ready .any ops listed = [] := by
      rw [List.eq_nil_iff_forall_not_mem]
      intro j hj
      rw [mem_ready] at hj
      obtain ⟨h1, o, ho, _⟩ := hj
      have hlt := (Array.getElem?_eq_some_iff.1 ho).1
      rw [Array.getD_eq_getD_getElem?, hl j hlt] at h1
      simp at h1
      omega
    cases fuel with
    | zero => exact h.2
    | succ fuel => exact h.1 hr
  | succ n ih =>
    intro k fuel listed a w hk hsz hl hf h
    cases fuel with
    | zero => omega
    | succ fuel =>
      have hlt : k < ops.size := by omega
      have hmem : k ∈ Region.ready .any ops listed := by
        rw [mem_ready]
        refine ⟨?_, ops[k], Array.getElem?_eq_getElem hlt, fun e he hb => ?_⟩
        · rw [Array.getD_eq_getD_getElem?, hl k hlt]; simp
        · have hw : waitsFor ops k e.on = true := by
            unfold waitsFor
            simp only [Array.getElem?_eq_getElem hlt, Option.map_some, Option.getD_some, List.any_eq_true, Bool.and_eq_true, beq_iff_eq]
            exact ⟨e, Array.mem_toList_iff.2 he, hb, rfl⟩
          have := waitsFor_lt hs hw
          rw [Array.getD_eq_getD_getElem?, hl e.on (by omega)]
          simpa using this
      rw [List.range'_succ, wpOps_cons]
      refine wpOp_mono (fun a' w' h' => ?_) (h.2 k hmem)
      refine ih (k + 1) fuel _ a' w' (by omega) (by simpa using hsz) (fun j hj => ?_) (by omega) h'
      rw [Array.getElem?_setIfInBounds]
      by_cases e : k = j
      · subst e
        simp [hsz, hj]
      · rw [if_neg e, hl j hj]
        by_cases h2 : j < k
        · simp [h2]; omega
        · have : ¬ j < k + 1 := by omega
          simp [h2, this]
theorem wpOps_all {P : Program} {ops : Array Oper} {Q : Exit → Act → World → Prop} {m : Nat} {a : Act} {w : World} (hs : shapeOk ops m = true) (h : wpAny P .any ops Q ops.size (Array.replicate ops.size false) a w) : wpOps P ops Q (List.range ops.size) a w := by
  rw [List.range_eq_range']
  exact wpOps_text hs ops.size 0 ops.size _ a w (by omega) (by simp) (fun j hj => by simp [hj]) (Nat.le_refl _) h
theorem wp_region_text {P : Program} {id : Nat} {ops : List Oper} {a0 : Act} {w : World} {Q : Exit → Act → World → Prop} (n : Nat) (hs : shapeOk ops.toArray n = true)
    (hn : a0.tmps.size = n) (I : Cls) (hI : I w)
    (h : wpL P ops.toArray I a0 (fun sp => ∀ (v : Nat → Value) w', I w' → I.rel w w' → (∀ (m : Nat) (t : Tmp), (ops.toArray[m]?).bind (·.dst) = some t → sp m (v m) w') → (∀ m, m < ops.length → ∃ u, sp m u w' ∧ ∀ t, seatOf ops.toArray m = some t → u = (putAll ops 0 v a0).tmps.getD t undef) → Q .normal (putAll ops 0 v a0) w') 0 ops (fun _ => is undef)) :
    (Code.region id ops.toArray false).wp P Q a0 w := by
  obtain ⟨sp, h1, h2, h3⟩ := wpL_out hs ops 0 _ (fun j => by simp) (fun m => stable_is _) (fun i o hi => by omega) h
  refine wp_region (wpOps_all hs ?_)
  refine wpAny_link (w0 := w) hs hn h1 h2 (fun a w' i1 i2 i3 i4 i5 i6 i7 => ?_) _ _ a0 _ ?_ ?_
  · have e : putAll ops 0 (fun m => match (ops.toArray[m]?).bind (·.dst) with | some t => a.tmps.getD t undef | none => undef) a0 = a := by
      obtain ⟨ta, da⟩ := a
      have hd := putAll_defers (fun m => match (ops.toArray[m]?).bind (·.dst) with | some t => ta.getD t undef | none => undef) ops 0 a0
      have hsz := putAll_size (fun m => match (ops.toArray[m]?).bind (·.dst) with | some t => ta.getD t undef | none => undef) ops 0 a0
      generalize hX : putAll ops 0 (fun m => match (ops.toArray[m]?).bind (·.dst) with | some t => ta.getD t undef | none => undef) a0 = X at hd hsz
      obtain ⟨tx, dx⟩ := X
      simp only at hd hsz i3 i4
      have htm : tx = ta := by
        apply Array.ext_getElem?
        intro t
        have hget : tx.getD t undef = ta.getD t undef := by
          have hX' : tx = (putAll ops 0 (fun m => match (ops.toArray[m]?).bind (·.dst) with | some t => ta.getD t undef | none => undef) a0).tmps := by rw [hX]
          rw [hX']
          cases hw : writers ops.toArray t with
          | nil =>
            rw [putAll_none _ t ops 0 a0 (fun o ho hd' => by
              obtain ⟨i, hi⟩ := List.getElem?_of_mem ho
              have : i ∈ writers ops.toArray t := by
                unfold writers
                rw [List.mem_filter]
                exact ⟨by simpa using (List.getElem?_eq_some_iff.1 hi).1, by simp [hi, hd']⟩
              rw [hw] at this; simp at this)]
            exact (i6 t hw).symm
          | cons m r =>
            have hm' : m ∈ writers ops.toArray t := by rw [hw]; simp
            unfold writers at hm'
            rw [List.mem_filter] at hm'
            have hmd : (ops.toArray[m]?).bind (·.dst) = some t := by simpa using hm'.2
            cases ho : ops.toArray[m]? with
            | none => simp [ho] at hmd
            | some o =>
              have hod : o.dst = some t := by simpa [ho] using hmd
              rw [putAll_some _ t ops 0 a0 m o (by simpa using ho) hod (fun i o' hi hd' => shape_one hs (by simpa [hd'] using congrArg (fun x => x.bind (·.dst)) (show ops.toArray[i]? = some o' by simpa using hi)) hmd) (by rw [hn]; exact (shape_dst hs ho hod).1)]
              simp only [Nat.zero_add, hmd]
        by_cases ht : t < tx.size
        · have ht2 : t < ta.size := by omega
          rw [Array.getD_eq_getD_getElem?, Array.getD_eq_getD_getElem?, Array.getElem?_eq_getElem ht, Array.getElem?_eq_getElem ht2] at hget
          rw [Array.getElem?_eq_getElem ht, Array.getElem?_eq_getElem ht2]
          exact congrArg some hget
        · rw [Array.getElem?_eq_none (by omega), Array.getElem?_eq_none (by omega)]
      rw [htm, hd, i3]
    refine e ▸ h3 (fun m => match (ops.toArray[m]?).bind (·.dst) with | some t => a.tmps.getD t undef | none => undef) w' i1 i2 (fun m t hmt => by simp only [hmt]; exact i5 m t hmt) (fun m hm => ?_)
    rw [e]; exact i7 m (by simpa using hm)
  · refine ⟨hI, I.refl _, rfl, rfl, by simp, ?_, fun t _ => rfl, ?_, fun m hl => by simp [Array.getElem?_replicate] at hl; split at hl <;> simp at hl⟩
    · intro m t _ hl; simp [Array.getElem?_replicate] at hl; split at hl <;> simp at hl
    · intro m j hl; simp [Array.getElem?_replicate] at hl; split at hl <;> simp at hl
  · have := List.length_filter_le (fun j => !(Array.replicate ops.toArray.size false).getD j true) (List.range ops.toArray.size)
    simpa using this


end Go.Proofs.Ytgkidgpdgcdgnaa
