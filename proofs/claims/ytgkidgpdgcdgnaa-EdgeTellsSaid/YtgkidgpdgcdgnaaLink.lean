/- The law of a region that draws its order, with a word more: what a store into a block of its own has left is told of the block's address. -/
import Derived.Test.YtgkidgpdgcdgnaaG
namespace Go.Proofs.Ytgkidgpdgcdgnaa
open Go.RowKit

/-- the slot of the block that operation k stores into, where the region laid it -/
def seatOf (ops : Array Oper) (k : Nat) : Option Tmp :=
  match ops[k]? with
  | some { dst := none, guard := none, op := .store _ (.tmp t) _, .. } => match srcOf ops k t with | some (some _) => some t | _ => none
  | _ => none
theorem seat_src {ops : Array Oper} {k : Nat} {t : Tmp} (h : seatOf ops k = some t) : ∃ o m, ops[k]? = some o ∧ (o.dst = none ∧ o.guard = none) ∧ srcOf ops k t = some (some m) := by
  unfold seatOf at h
  split at h
  · rename_i ho
    split at h
    · rename_i hs
      cases h
      exact ⟨_, _, ho, ⟨rfl, rfl⟩, hs⟩
    · cases h
  · cases h
theorem seat_spec {ops : Array Oper} {k : Nat} {t : Tmp} {o : Oper} (h : seatOf ops k = some t) (ho : ops[k]? = some o) : o.dst = none ∧ o.guard = none := by
  obtain ⟨o', m, h1, h2, _⟩ := seat_src h
  rw [ho] at h1; cases h1; exact h2
section
variable (P : Program) (ops : Array Oper) (I : Cls) (a0 : Act)
def StoreOk (sp : Nat → Spec) (k : Nat) (o : Oper) (t : Tmp) (Φ : Spec) : Prop :=
  ∀ a w, Knows ops I a0 sp k a w → ∃ w', (execOp a.eval o).run P w = .ok .skip w' ∧ I w' ∧ I.rel w w' ∧ Φ (a.tmps.getD t undef) w'
def StepL (sp : Nat → Spec) (k : Nat) (o : Oper) (Φ : Spec) : Prop :=
  match seatOf ops k with
  | some t => StoreOk P ops I a0 sp k o t Φ
  | none => StepOk P ops I a0 sp k o Φ
def wpL (Fin : (Nat → Spec) → Prop) : Nat → List Oper → (Nat → Spec) → Prop
  | _, [], sp => Fin sp
  | k, o :: rest, sp => ∃ Φ, Stable I Φ ∧ StepL P ops I a0 sp k o Φ ∧ wpL Fin (k + 1) rest (upd sp k Φ)
end
section
variable {P : Program} {ops : Array Oper} {I : Cls} {a0 : Act} {sp : Nat → Spec} {k : Nat} {o : Oper}
theorem StepL.know {sp' : Nat → Spec} {Φ : Spec} (h : StepL P ops I a0 sp k o Φ) (hk : ∀ a w, Knows ops I a0 sp' k a w → Knows ops I a0 sp k a w) : StepL P ops I a0 sp' k o Φ := by
  unfold StepL at h ⊢
  split at h
  · exact fun a w K => h a w (hk a w K)
  · exact fun a w K => h a w (hk a w K)
structure SofarL (ops : Array Oper) (I : Cls) (a0 : Act) (w0 : World) (sp : Nat → Spec) (listed : Array Bool) (a : Act) (w : World) : Prop where
  inv : I w
  ext : I.rel w0 w
  dfr : a.defers = a0.defers
  size : a.tmps.size = a0.tmps.size
  lsize : listed.size = ops.size
  done : ∀ (m : Nat) (t : Tmp), (ops[m]?).bind (·.dst) = some t → listed.getD m false = true → sp m (a.tmps.getD t undef) w
  rest : ∀ t, (∀ m, (ops[m]?).bind (·.dst) = some t → listed.getD m false = false) → a.tmps.getD t undef = a0.tmps.getD t undef
  shut : ∀ m j, listed.getD m false = true → waitsFor ops m j = true → listed.getD j false = true
  some : ∀ m, listed.getD m false = true → ∃ v, sp m v w ∧ ∀ t, seatOf ops m = some t → v = a.tmps.getD t undef
theorem wpAny_link {n : Nat} {w0 : World} {Q : Exit → Act → World → Prop} (hs : shapeOk ops n = true) (hn : a0.tmps.size = n)
    (hstab : ∀ m, Stable I (sp m)) (hstep : ∀ i o, ops[i]? = some o → StepL P ops I a0 sp i o (sp i))
    (hfin : ∀ a w, I w → I.rel w0 w → a.defers = a0.defers → a.tmps.size = a0.tmps.size → (∀ (m : Nat) (t : Tmp), (ops[m]?).bind (·.dst) = some t → sp m (a.tmps.getD t undef) w) →
      (∀ t, writers ops t = [] → a.tmps.getD t undef = a0.tmps.getD t undef) → (∀ m, m < ops.size → ∃ v, sp m v w ∧ ∀ t, seatOf ops m = some t → v = a.tmps.getD t undef) → Q .normal a w) :
    ∀ (fuel : Nat) (listed : Array Bool) (a : Act) (w : World), SofarL ops I a0 w0 sp listed a w →
      ((List.range ops.size).filter fun j => !listed.getD j true).length ≤ fuel → wpAny P .any ops Q fuel listed a w := by
  have hend : ∀ (listed : Array Bool) (a : Act) (w : World), SofarL ops I a0 w0 sp listed a w → Region.ready .any ops listed = [] → Q .normal a w := by
    intro listed a w S hr
    have hall : ∀ i, i < ops.size → listed.getD i false = true := by
      intro i
      induction i using Nat.strongRecOn with
      | ind i ih =>
        intro hi
        cases hl : listed.getD i false with
        | true => rfl
        | false =>
          exfalso
          have hmem : i ∈ Region.ready .any ops listed := by
            rw [mem_ready]
            have hlt : i < listed.size := by rw [S.lsize]; exact hi
            refine ⟨?_, ops[i], by simp [hi], fun e he hb => ?_⟩
            · rw [Array.getD_eq_getD_getElem?] at hl ⊢
              simp [hlt] at hl ⊢; exact hl
            · have hw : waitsFor ops i e.on = true := by
                unfold waitsFor
                simp only [Array.getElem?_eq_getElem hi, Option.map_some, Option.getD_some, List.any_eq_true, Bool.and_eq_true, beq_iff_eq]
                exact ⟨e, Array.mem_toList_iff.2 he, hb, rfl⟩
              have hlt2 := waitsFor_lt hs hw
              exact ih e.on hlt2 (by omega)
          rw [hr] at hmem
          simp at hmem
    refine hfin a w S.inv S.ext S.dfr S.size (fun m t hm => S.done m t hm (hall m ?_)) (fun t ht => S.rest t (fun m hm => ?_)) (fun m hm => S.some m (hall m hm))
    · cases h' : ops[m]? with
      | none => simp [h'] at hm
      | some o => exact (Array.getElem?_eq_some_iff.1 h').1
    · exfalso
      have hmem : m ∈ writers ops t := by
        unfold writers
        rw [List.mem_filter]
        refine ⟨?_, by simp [hm]⟩
        cases h' : ops[m]? with
        | none => simp [h'] at hm
        | some o => simpa using (Array.getElem?_eq_some_iff.1 h').1
      rw [ht] at hmem; simp at hmem
  intro fuel
  induction fuel with
  | zero =>
    intro listed a w S hc
    have hr := left_zero listed (Nat.le_zero.1 hc)
    exact ⟨hr, hend listed a w S hr⟩
  | succ fuel ih =>
    intro listed a w S hc
    refine ⟨hend listed a w S, fun i hi => ?_⟩
    have hi' := hi
    rw [mem_ready] at hi
    obtain ⟨hl, o, ho, hall⟩ := hi
    have hlt : i < ops.size := (Array.getElem?_eq_some_iff.1 ho).1
    have hlf := getD_false_of_true hl
    have hwf : ∀ j, waitsFor ops i j = true → listed.getD j false = true := by
      intro j hj
      unfold waitsFor at hj
      simp only [ho, Option.map_some, Option.getD_some, List.any_eq_true, Bool.and_eq_true, beq_iff_eq] at hj
      obtain ⟨e, he, hb, rfl⟩ := hj
      exact hall e (Array.mem_toList_iff.1 he) hb
    have hK : Knows ops I a0 sp i a w := ⟨S.inv,
      fun t m hm => S.done m t (srcOf_some hm).1 (hwf m (srcOf_some hm).2),
      fun t ht => S.rest t (fun m hm => by
        cases hml : listed.getD m false with
        | false => rfl
        | true =>
          have := S.shut m i hml (srcOf_none ht hm)
          rw [hlf] at this; cases this)⟩
    have hcount : ((List.range ops.size).filter fun j => !(listed.setIfInBounds i true).getD j true).length ≤ fuel := by
      have := filter_less (List.range ops.size) (fun j => !listed.getD j true) (fun j => !(listed.setIfInBounds i true).getD j true)
        (fun j _ hj => by
          by_cases e : i = j
          · subst e
            have : i < listed.size := by rw [S.lsize]; exact hlt
            simp [this] at hj
          · rw [getD_set_ne true e] at hj; exact hj) i (by simpa using hlt) (by simp only [hl, Bool.not_false]) (by
            have : i < listed.size := by rw [S.lsize]; exact hlt
            simp [this])
      omega
    have hnext : ∀ v w', I w' → I.rel w w' → sp i v w' → (∀ t, seatOf ops i = some t → v = a.tmps.getD t undef) → SofarL ops I a0 w0 sp (listed.setIfInBounds i true) (a.put o.dst v) w' := by
      intro v w' hI hE hv hseat
      have hget : ∀ t, o.dst ≠ some t → (a.put o.dst v).tmps.getD t undef = a.tmps.getD t undef := by
        intro t ht
        cases hd : o.dst with
        | none => simp [Act.put]
        | some d =>
          have hne : d ≠ t := fun e => ht (by rw [hd, e])
          simp [Act.put, Array.getElem?_setIfInBounds_ne hne]
      refine ⟨hI, I.trans _ _ _ S.ext hE, ?_, ?_, by simp [S.lsize], ?_, ?_, ?_, ?_⟩
      · rw [← S.dfr]; unfold Act.put; split <;> rfl
      · rw [← S.size]; unfold Act.put; split <;> simp
      · intro m t hm hml
        by_cases e : i = m
        · subst e
          have hd : o.dst = some t := by simpa [ho] using hm
          have ht := (shape_dst hs ho hd).1
          have : (a.put o.dst v).tmps.getD t undef = v := by
            rw [hd]
            have : t < a.tmps.size := by rw [S.size, hn]; exact ht
            simp [Act.put, this]
          rw [this]; exact hv
        · rw [getD_set_ne false e] at hml
          have hne : o.dst ≠ some t := fun hd => e (shape_one hs (by simpa [ho] using hd) hm)
          rw [hget t hne]
          exact hstab m _ _ _ hE (S.done m t hm hml)
      · intro t ht
        have hne : o.dst ≠ some t := fun hd => by
          have := ht i (by simpa [ho] using hd)
          have hi2 : i < listed.size := by rw [S.lsize]; exact hlt
          simp [hi2] at this
        rw [hget t hne]
        refine S.rest t (fun m hm => ?_)
        have := ht m hm
        by_cases e : i = m
        · subst e; exact absurd (by simpa [ho] using hm) hne
        · rwa [getD_set_ne false e] at this
      · intro m j hml hw
        by_cases e : i = m
        · subst e; exact getD_set_true (hwf j hw)
        · rw [getD_set_ne false e] at hml
          exact getD_set_true (S.shut m j hml hw)
      · intro m hml
        by_cases e : i = m
        · subst e
          refine ⟨v, hv, fun t ht => ?_⟩
          have hd := (seat_spec ht ho).1
          rw [hget t (by rw [hd]; simp)]
          exact hseat t ht
        · rw [getD_set_ne false e] at hml
          obtain ⟨u, hu, hus⟩ := S.some m hml
          refine ⟨u, hstab m _ _ _ hE hu, fun t ht => ?_⟩
          obtain ⟨om, m2, hom, hd2, hsr⟩ := seat_src ht
          have hw2 := (srcOf_some hsr).2
          have hl2 := S.shut m m2 hml hw2
          rw [hget t (fun hdt => ?_)]
          · exact hus t ht
          · have := shape_one hs (show (ops[i]?).bind (·.dst) = some t by simpa [ho] using hdt) (srcOf_some hsr).1
            subst this
            rw [hlf] at hl2; cases hl2
    unfold wpOp
    simp only [ho]
    have hst := hstep i o ho
    unfold StepL at hst
    cases hseat : seatOf ops i with
    | none =>
      rw [hseat] at hst
      rcases hst a w hK with ⟨hw, hrun⟩ | ⟨hw, hv⟩
      · rw [if_pos hw]
        exact .inl (hrun _ _ fun v w' h1 h2 h3 => ih _ _ _ (hnext v w' h1 h2 h3 (fun t ht => by rw [hseat] at ht; cases ht)) hcount)
      · rw [if_neg (by rw [hw]; simp)]
        exact ih _ _ _ (hnext undef w S.inv (I.refl w) hv (fun t ht => by rw [hseat] at ht; cases ht)) hcount
    | some t0 =>
      rw [hseat] at hst
      have hd := (seat_spec hseat ho)
      rw [if_pos (by simp [Region.wanted, hd.2])]
      refine .inl ?_
      obtain ⟨w', hr, h1, h2, h3⟩ := hst a w hK
      unfold Oper.wp
      rw [hr]
      have hput : a.put o.dst undef = a.put o.dst (a.tmps.getD t0 undef) := by rw [hd.1]; rfl
      show wpAny P .any ops Q fuel _ (a.put o.dst undef) w'
      rw [hput]
      exact ih _ _ _ (hnext _ w' h1 h2 h3 (fun t ht => by rw [hseat] at ht; cases ht; rfl)) hcount

theorem wpL_out {n : Nat} (hs : shapeOk ops n = true) {Fin : (Nat → Spec) → Prop} : ∀ (l : List Oper) (k : Nat) (sp : Nat → Spec), (∀ j, l[j]? = ops[k + j]?) →
    (∀ m, Stable I (sp m)) → (∀ i o, i < k → ops[i]? = some o → StepL P ops I a0 sp i o (sp i)) → wpL P ops I a0 Fin k l sp →
    ∃ sp' : Nat → Spec, (∀ m, Stable I (sp' m)) ∧ (∀ i o, ops[i]? = some o → StepL P ops I a0 sp' i o (sp' i)) ∧ Fin sp' := by
  intro l
  induction l with
  | nil =>
    intro k sp hl hst hok hfin
    refine ⟨sp, hst, fun i o ho => hok i o ?_ ho, hfin⟩
    have h0 := hl (i - k)
    by_cases hik : i < k
    · exact hik
    · rw [show k + (i - k) = i by omega, ho] at h0
      simp at h0
  | cons o rest ih =>
    intro k sp hl hst hok h
    obtain ⟨Φ, hΦ, hstep, hrest⟩ := h
    have hknow : ∀ i, i ≤ k → ∀ a w, Knows ops I a0 (upd sp k Φ) i a w → Knows ops I a0 sp i a w := by
      intro i hik a w K
      refine ⟨K.inv, fun t m hm => ?_, K.old⟩
      have hlt := srcOf_lt hs hm
      have := K.got t m hm
      unfold upd at this
      rwa [if_neg (by omega)] at this
    refine ih (k + 1) (upd sp k Φ) (fun j => by have := hl (j + 1); simpa [Nat.add_assoc, Nat.add_comm 1 j] using this) ?_ ?_ hrest
    · intro m
      unfold upd
      split
      · exact hΦ
      · exact hst m
    · intro i oi hi hoi
      by_cases e : i = k
      · subst e
        have h0 : ops[i]? = some o := by simpa using (hl 0).symm
        rw [h0] at hoi
        simp at hoi; subst hoi
        have := hstep.know (hknow i (Nat.le_refl _))
        simpa [upd] using this
      · have := (hok i oi (by omega) hoi).know (hknow i (by omega))
        unfold upd
        rw [if_neg e]
        exact this
end
theorem wpL_mono {P : Program} {ops : Array Oper} {I : Cls} {a0 : Act} {Fin Fin' : (Nat → Spec) → Prop} (hf : ∀ sp, Fin sp → Fin' sp) : ∀ (l : List Oper) (k : Nat) (sp : Nat → Spec), wpL P ops I a0 Fin k l sp → wpL P ops I a0 Fin' k l sp
  | [], _, _, h => hf _ h
  | _ :: r, k, _, ⟨Φ, h1, h2, h3⟩ => ⟨Φ, h1, h2, wpL_mono hf r (k + 1) _ h3⟩
theorem wp_region_link {P : Program} {id : Nat} {ops : List Oper} {a0 : Act} {w : World} {Q : Exit → Act → World → Prop} (n : Nat) (hm : P.follows .mixedOrders = true) (hs : shapeOk ops.toArray n = true)
    (hn : a0.tmps.size = n) (I : Cls) (hI : I w.drew)
    (h : wpL P ops.toArray I a0 (fun sp => ∀ (v : Nat → Value) w', I w' → I.rel w.drew w' → (∀ (m : Nat) (t : Tmp), (ops.toArray[m]?).bind (·.dst) = some t → sp m (v m) w') → (∀ m, m < ops.length → ∃ u, sp m u w' ∧ ∀ t, seatOf ops.toArray m = some t → u = (putAll ops 0 v a0).tmps.getD t undef) → Q .normal (putAll ops 0 v a0) w') 0 ops (fun _ => is undef)) :
    (Code.region id ops.toArray true).wp P Q a0 w := by
  obtain ⟨sp, h1, h2, h3⟩ := wpL_out hs ops 0 _ (fun j => by simp) (fun m => stable_is _) (fun i o hi => by omega) h
  refine wp_region_any hm ?_
  refine wpAny_link (w0 := w.drew) hs hn h1 h2 (fun a w' i1 i2 i3 i4 i5 i6 i7 => ?_) _ _ a0 _ ?_ ?_
  · have e : putAll ops 0 (fun m => match (ops.toArray[m]?).bind (·.dst) with | some t => a.tmps.getD t undef | none => undef) a0 = a := by
      obtain ⟨ta, da⟩ := a
      have hd := putAll_defers (fun m => match (ops.toArray[m]?).bind (·.dst) with | some t => ta.getD t undef | none => undef) ops 0 a0
      have hsz := putAll_size (fun m => match (ops.toArray[m]?).bind (·.dst) with | some t => ta.getD t undef | none => undef) ops 0 a0
      generalize hX : putAll ops 0 (fun m => match (ops.toArray[m]?).bind (·.dst) with | some t => ta.getD t undef | none => undef) a0 = X at hd hsz
      obtain ⟨tx, dx⟩ := X
      simp only at hd hsz i3 i4
      have htm : tx = ta := by
        apply Array.ext_getElem?
        intro t
        have hget : tx.getD t undef = ta.getD t undef := by
          have hX' : tx = (putAll ops 0 (fun m => match (ops.toArray[m]?).bind (·.dst) with | some t => ta.getD t undef | none => undef) a0).tmps := by rw [hX]
          rw [hX']
          cases hw : writers ops.toArray t with
          | nil =>
            rw [putAll_none _ t ops 0 a0 (fun o ho hd' => by
              obtain ⟨i, hi⟩ := List.getElem?_of_mem ho
              have : i ∈ writers ops.toArray t := by
                unfold writers
                rw [List.mem_filter]
                exact ⟨by simpa using (List.getElem?_eq_some_iff.1 hi).1, by simp [hi, hd']⟩
              rw [hw] at this; simp at this)]
            exact (i6 t hw).symm
          | cons m r =>
            have hm' : m ∈ writers ops.toArray t := by rw [hw]; simp
            unfold writers at hm'
            rw [List.mem_filter] at hm'
            have hmd : (ops.toArray[m]?).bind (·.dst) = some t := by simpa using hm'.2
            cases ho : ops.toArray[m]? with
            | none => simp [ho] at hmd
            | some o =>
              have hod : o.dst = some t := by simpa [ho] using hmd
              rw [putAll_some _ t ops 0 a0 m o (by simpa using ho) hod (fun i o' hi hd' => shape_one hs (by simpa [hd'] using congrArg (fun x => x.bind (·.dst)) (show ops.toArray[i]? = some o' by simpa using hi)) hmd) (by rw [hn]; exact (shape_dst hs ho hod).1)]
              simp only [Nat.zero_add, hmd]
        by_cases ht : t < tx.size
        · have ht2 : t < ta.size := by omega
          rw [Array.getD_eq_getD_getElem?, Array.getD_eq_getD_getElem?, Array.getElem?_eq_getElem ht, Array.getElem?_eq_getElem ht2] at hget
          rw [Array.getElem?_eq_getElem ht, Array.getElem?_eq_getElem ht2]
          exact congrArg some hget
        · rw [Array.getElem?_eq_none (by omega), Array.getElem?_eq_none (by omega)]
      rw [htm, hd, i3]
    refine e ▸ h3 (fun m => match (ops.toArray[m]?).bind (·.dst) with | some t => a.tmps.getD t undef | none => undef) w' i1 i2 (fun m t hmt => by simp only [hmt]; exact i5 m t hmt) (fun m hm => ?_)
    rw [e]; exact i7 m (by simpa using hm)
  · refine ⟨hI, I.refl _, rfl, rfl, by simp, ?_, fun t _ => rfl, ?_, fun m hl => by simp [Array.getElem?_replicate] at hl; split at hl <;> simp at hl⟩
    · intro m t _ hl; simp [Array.getElem?_replicate] at hl; split at hl <;> simp at hl
    · intro m j hl; simp [Array.getElem?_replicate] at hl; split at hl <;> simp at hl
  · have := List.length_filter_le (fun j => !(Array.replicate ops.toArray.size false).getD j true) (List.range ops.toArray.size)
    simpa using this

section
variable {P : Program} {ops : Array Oper} {I : Cls} {a0 : Act} {sp : Nat → Spec} {k : Nat} {o : Oper}
theorem wpL_cons {Fin : (Nat → Spec) → Prop} {rest : List Oper} (Φ : Spec) (h1 : Stable I Φ) (h2 : StepOk P ops I a0 sp k o Φ) (h3 : wpL P ops I a0 Fin (k + 1) rest (upd sp k Φ)) (hs : seatOf ops k = none := by rfl) : wpL P ops I a0 Fin k (o :: rest) sp :=
  ⟨Φ, h1, by unfold StepL; rw [hs]; exact h2, h3⟩
theorem wpL_store {Fin : (Nat → Spec) → Prop} {rest : List Oper} (t : Tmp) (hs : seatOf ops k = some t) (Φ : Spec) (h1 : Stable I Φ) (h2 : StoreOk P ops I a0 sp k o t Φ) (h3 : wpL P ops I a0 Fin (k + 1) rest (upd sp k Φ)) : wpL P ops I a0 Fin k (o :: rest) sp :=
  ⟨Φ, h1, by unfold StepL; rw [hs]; exact h2, h3⟩
theorem wpL_nil {Fin : (Nat → Spec) → Prop} (h : Fin sp) : wpL P ops I a0 Fin k [] sp := h
end
end Go.Proofs.Ytgkidgpdgcdgnaa
