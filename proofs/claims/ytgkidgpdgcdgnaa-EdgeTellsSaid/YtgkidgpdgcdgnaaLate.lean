/- A region that draws its order and whose last operation, a store, waits for all the others: till then nothing is written. -/
import Derived.Test.YtgkidgpdgcdgnaaLink
namespace Go.Proofs.Ytgkidgpdgcdgnaa
open Go.RowKit
section
variable {P : Program} {ops : Array Oper} {I : Cls} {a0 : Act} {sp : Nat → Spec} {k : Nat} {o : Oper}
structure SofarT (ops : Array Oper) (I : Cls) (I1 : World → Prop) (s : Nat) (a0 : Act) (sp : Nat → Spec) (listed : Array Bool) (a : Act) (w : World) : Prop where
  inv : if listed.getD s false = true then I1 w else I w
  dfr : a.defers = a0.defers
  size : a.tmps.size = a0.tmps.size
  lsize : listed.size = ops.size
  done : ∀ (m : Nat) (t : Tmp), (ops[m]?).bind (·.dst) = some t → listed.getD m false = true → sp m (a.tmps.getD t undef) w
  rest : ∀ t, (∀ m, (ops[m]?).bind (·.dst) = some t → listed.getD m false = false) → a.tmps.getD t undef = a0.tmps.getD t undef
  shut : ∀ m j, listed.getD m false = true → waitsFor ops m j = true → listed.getD j false = true
theorem wpAny_late {n s : Nat} {I1 : World → Prop} {Q : Exit → Act → World → Prop} (hs : shapeOk ops n = true) (hn : a0.tmps.size = n)
    (hpure : ∀ m v w w', sp m v w → sp m v w') (hwait : ∀ i, i < ops.size → i ≠ s → waitsFor ops s i = true) (hsl : s < ops.size) (hstep : ∀ i o, ops[i]? = some o → i ≠ s → StepOk P ops I a0 sp i o (sp i))
    (hlast : ∀ o, ops[s]? = some o → o.guard = none ∧ o.dst = none ∧ ∀ a w, Knows ops I a0 sp s a w → ∃ w', (execOp a.eval o).run P w = .ok .skip w' ∧ I1 w')
    (hfin : ∀ a w, I1 w → a.defers = a0.defers → a.tmps.size = a0.tmps.size → (∀ (m : Nat) (t : Tmp), (ops[m]?).bind (·.dst) = some t → sp m (a.tmps.getD t undef) w) →
      (∀ t, writers ops t = [] → a.tmps.getD t undef = a0.tmps.getD t undef) → Q .normal a w) :
    ∀ (fuel : Nat) (listed : Array Bool) (a : Act) (w : World), SofarT ops I I1 s a0 sp listed a w →
      ((List.range ops.size).filter fun j => !listed.getD j true).length ≤ fuel → wpAny P .any ops Q fuel listed a w := by
  have hend : ∀ (listed : Array Bool) (a : Act) (w : World), SofarT ops I I1 s a0 sp listed a w → Region.ready .any ops listed = [] → Q .normal a w := by
    intro listed a w S hr
    have hall : ∀ i, i < ops.size → listed.getD i false = true := by
      intro i
      induction i using Nat.strongRecOn with
      | ind i ih =>
        intro hi
        cases hl : listed.getD i false with
        | true => rfl
        | false =>
          exfalso
          have hmem : i ∈ Region.ready .any ops listed := by
            rw [mem_ready]
            have hlt : i < listed.size := by rw [S.lsize]; exact hi
            refine ⟨?_, ops[i], by simp [hi], fun e he hb => ?_⟩
            · rw [Array.getD_eq_getD_getElem?] at hl ⊢
              simp [hlt] at hl ⊢; exact hl
            · have hw : waitsFor ops i e.on = true := by
                unfold waitsFor
                simp only [Array.getElem?_eq_getElem hi, Option.map_some, Option.getD_some, List.any_eq_true, Bool.and_eq_true, beq_iff_eq]
                exact ⟨e, Array.mem_toList_iff.2 he, hb, rfl⟩
              have hlt2 := waitsFor_lt hs hw
              exact ih e.on hlt2 (by omega)
          rw [hr] at hmem
          simp at hmem
    refine hfin a w (by have := S.inv; rw [hall s hsl] at this; exact this) S.dfr S.size (fun m t hm => S.done m t hm (hall m ?_)) (fun t ht => S.rest t (fun m hm => ?_))
    · cases h' : ops[m]? with
      | none => simp [h'] at hm
      | some o => exact (Array.getElem?_eq_some_iff.1 h').1
    · exfalso
      have hmem : m ∈ writers ops t := by
        unfold writers
        rw [List.mem_filter]
        refine ⟨?_, by simp [hm]⟩
        cases h' : ops[m]? with
        | none => simp [h'] at hm
        | some o => simpa using (Array.getElem?_eq_some_iff.1 h').1
      rw [ht] at hmem; simp at hmem
  intro fuel
  induction fuel with
  | zero =>
    intro listed a w S hc
    have hr := left_zero listed (Nat.le_zero.1 hc)
    exact ⟨hr, hend listed a w S hr⟩
  | succ fuel ih =>
    intro listed a w S hc
    refine ⟨hend listed a w S, fun i hi => ?_⟩
    have hi' := hi
    rw [mem_ready] at hi
    obtain ⟨hl, o, ho, hall⟩ := hi
    have hlt : i < ops.size := (Array.getElem?_eq_some_iff.1 ho).1
    have hlf := getD_false_of_true hl
    have hwf : ∀ j, waitsFor ops i j = true → listed.getD j false = true := by
      intro j hj
      unfold waitsFor at hj
      simp only [ho, Option.map_some, Option.getD_some, List.any_eq_true, Bool.and_eq_true, beq_iff_eq] at hj
      obtain ⟨e, he, hb, rfl⟩ := hj
      exact hall e (Array.mem_toList_iff.1 he) hb
    have hsf : listed.getD s false = false := by
      by_cases e : i = s
      · rw [← e]; exact hlf
      · cases h : listed.getD s false with
        | false => rfl
        | true => have := S.shut s i h (hwait i hlt e); rw [hlf] at this; cases this
    have hI0 : I w := by have := S.inv; rw [hsf] at this; exact this
    have hK : Knows ops I a0 sp i a w := ⟨hI0,
      fun t m hm => S.done m t (srcOf_some hm).1 (hwf m (srcOf_some hm).2),
      fun t ht => S.rest t (fun m hm => by
        cases hml : listed.getD m false with
        | false => rfl
        | true =>
          have := S.shut m i hml (srcOf_none ht hm)
          rw [hlf] at this; cases this)⟩
    have hcount : ((List.range ops.size).filter fun j => !(listed.setIfInBounds i true).getD j true).length ≤ fuel := by
      have := filter_less (List.range ops.size) (fun j => !listed.getD j true) (fun j => !(listed.setIfInBounds i true).getD j true)
        (fun j _ hj => by
          by_cases e : i = j
          · subst e
            have : i < listed.size := by rw [S.lsize]; exact hlt
            simp [this] at hj
          · rw [getD_set_ne true e] at hj; exact hj) i (by simpa using hlt) (by simp only [hl, Bool.not_false]) (by
            have : i < listed.size := by rw [S.lsize]; exact hlt
            simp [this])
      omega
    have hnext : ∀ v w', (if (listed.setIfInBounds i true).getD s false = true then I1 w' else I w') → ((∃ t, o.dst = some t) → sp i v w') → SofarT ops I I1 s a0 sp (listed.setIfInBounds i true) (a.put o.dst v) w' := by
      intro v w' hI hv
      have hget : ∀ t, o.dst ≠ some t → (a.put o.dst v).tmps.getD t undef = a.tmps.getD t undef := by
        intro t ht
        cases hd : o.dst with
        | none => simp [Act.put]
        | some d =>
          have hne : d ≠ t := fun e => ht (by rw [hd, e])
          simp [Act.put, Array.getElem?_setIfInBounds_ne hne]
      refine ⟨hI, ?_, ?_, by simp [S.lsize], ?_, ?_, ?_⟩
      · rw [← S.dfr]; unfold Act.put; split <;> rfl
      · rw [← S.size]; unfold Act.put; split <;> simp
      · intro m t hm hml
        by_cases e : i = m
        · subst e
          have hd : o.dst = some t := by simpa [ho] using hm
          have ht := (shape_dst hs ho hd).1
          have : (a.put o.dst v).tmps.getD t undef = v := by
            rw [hd]
            have : t < a.tmps.size := by rw [S.size, hn]; exact ht
            simp [Act.put, this]
          rw [this]; exact hv ⟨t, hd⟩
        · rw [getD_set_ne false e] at hml
          have hne : o.dst ≠ some t := fun hd => e (shape_one hs (by simpa [ho] using hd) hm)
          rw [hget t hne]
          exact hpure m _ _ _ (S.done m t hm hml)
      · intro t ht
        have hne : o.dst ≠ some t := fun hd => by
          have := ht i (by simpa [ho] using hd)
          have hi2 : i < listed.size := by rw [S.lsize]; exact hlt
          simp [hi2] at this
        rw [hget t hne]
        refine S.rest t (fun m hm => ?_)
        have := ht m hm
        by_cases e : i = m
        · subst e; exact absurd (by simpa [ho] using hm) hne
        · rwa [getD_set_ne false e] at this
      · intro m j hml hw
        by_cases e : i = m
        · subst e; exact getD_set_true (hwf j hw)
        · rw [getD_set_ne false e] at hml
          exact getD_set_true (S.shut m j hml hw)
    unfold wpOp
    simp only [ho]
    by_cases e : i = s
    · obtain ⟨hg, hd, hrun⟩ := hlast o (by rw [← e]; exact ho)
      rw [if_pos (by simp [Region.wanted, hg])]
      refine .inl ?_
      obtain ⟨w', hr, h1⟩ := hrun a w (by rw [← e]; exact hK)
      unfold Oper.wp
      rw [hr]
      refine ih _ _ _ (hnext undef w' ?_ (fun ⟨t, ht⟩ => by rw [hd] at ht; cases ht)) hcount
      rw [e, if_pos (by
        have : s < listed.size := by rw [S.lsize]; exact hsl
        simp [this])]
      exact h1
    · have hset : (listed.setIfInBounds i true).getD s false = false := by rw [getD_set_ne false e]; exact hsf
      rcases hstep i o ho e a w hK with ⟨hw, hrun⟩ | ⟨hw, hv⟩
      · rw [if_pos hw]
        exact .inl (hrun _ _ fun v w' h1 h2 h3 => ih _ _ _ (hnext v w' (by rw [hset]; exact h1) (fun _ => h3)) hcount)
      · rw [if_neg (by rw [hw]; simp)]
        exact ih _ _ _ (hnext undef w (by rw [hset]; exact hI0) (fun _ => hv)) hcount

/-- the operations ahead of the rest -/
theorem wpI_upto {n : Nat} (hs : shapeOk ops n = true) {Fin : (Nat → Spec) → Prop} : ∀ (l : List Oper) (k : Nat) (sp : Nat → Spec), (∀ j, j < l.length → l[j]? = ops[k + j]?) →
    (∀ i o, i < k → ops[i]? = some o → StepOk P ops I a0 sp i o (sp i)) → wpI P ops I a0 Fin k l sp →
    ∃ sp' : Nat → Spec, (∀ i o, i < k + l.length → ops[i]? = some o → StepOk P ops I a0 sp' i o (sp' i)) ∧ Fin sp' := by
  intro l
  induction l with
  | nil =>
    intro k sp hl hok hfin
    exact ⟨sp, fun i o hi ho => hok i o (by simpa using hi) ho, hfin⟩
  | cons o rest ih =>
    intro k sp hl hok h
    obtain ⟨Φ, hΦ, hstep, hrest⟩ := h
    have hknow : ∀ i, i ≤ k → ∀ a w, Knows ops I a0 (upd sp k Φ) i a w → Knows ops I a0 sp i a w := by
      intro i hik a w K
      refine ⟨K.inv, fun t m hm => ?_, K.old⟩
      have hlt := srcOf_lt hs hm
      have := K.got t m hm
      unfold upd at this
      rwa [if_neg (by omega)] at this
    have hok' : ∀ i o, i < k + 1 → ops[i]? = some o → StepOk P ops I a0 (upd sp k Φ) i o (upd sp k Φ i) := by
      intro i oi hi hoi a w K
      by_cases e : i = k
      · subst e
        have h0 : ops[i]? = some o := by simpa using (hl 0 (by simp)).symm
        rw [h0] at hoi
        simp at hoi; subst hoi
        have := hstep a w (hknow i (Nat.le_refl _) a w K)
        simpa [upd] using this
      · have := hok i oi (by omega) hoi a w (hknow i (by omega) a w K)
        unfold upd
        rw [if_neg e]
        exact this
    obtain ⟨sp', h1, h2⟩ := ih (k + 1) (upd sp k Φ) (fun j hj => by have := hl (j + 1) (by simpa using hj); simpa [Nat.add_assoc, Nat.add_comm 1 j] using this) hok' hrest
    exact ⟨sp', fun i o hi ho => h1 i o (by simp at hi; omega) ho, h2⟩
end
theorem wp_region_late {P : Program} {id : Nat} {init : List Oper} {st : Oper} {a0 : Act} {w : World} {Q : Exit → Act → World → Prop} (n : Nat) (hm : P.follows .mixedOrders = true) (hs : shapeOk (init ++ [st]).toArray n = true)
        (hn : a0.tmps.size = n) (I : Cls) (hI : I w.drew) (I1 : World → Prop) (hg : st.guard = none) (hd : st.dst = none) (hwait : (List.range init.length).all (fun i => waitsFor (init ++ [st]).toArray init.length i) = true)
    (h : wpI P (init ++ [st]).toArray I a0 (fun sp => (∀ m v w w', sp m v w → sp m v w') ∧ (∀ a w, Knows (init ++ [st]).toArray I a0 sp init.length a w → ∃ w', (execOp a.eval st).run P w = .ok .skip w' ∧ I1 w') ∧
      ∀ (v : Nat → Value) w', I1 w' → (∀ (m : Nat) (t : Tmp), ((init ++ [st]).toArray[m]?).bind (·.dst) = some t → sp m (v m) w') → Q .normal (putAll (init ++ [st]) 0 v a0) w') 0 init (fun _ => is undef)) :
    (Code.region id (init ++ [st]).toArray true).wp P Q a0 w := by
  obtain ⟨sp, h2, hp, hl, h3⟩ := wpI_upto hs init 0 _ (fun j hj => by simp [List.getElem?_append, hj]) (fun i o hi => by omega) h
  refine wp_region_any hm ?_
  refine wpAny_late (s := init.length) (I1 := I1) hs hn hp (fun i hi hne => ?_) (by simp) (fun i o ho hne => h2 i o (by have := (Array.getElem?_eq_some_iff.1 ho).1; simp at this; omega) ho) (fun o ho => ?_) (fun a w' i1 i3 i4 i5 i6 => ?_) _ _ a0 _ ?_ ?_
  · rw [List.all_eq_true] at hwait
    exact hwait i (by simp at hi ⊢; omega)
  · obtain rfl : st = o := by simpa using ho
    exact ⟨hg, hd, hl⟩
  · have e : putAll (init ++ [st]) 0 (fun m => match ((init ++ [st]).toArray[m]?).bind (·.dst) with | some t => a.tmps.getD t undef | none => undef) a0 = a := by
      obtain ⟨ta, da⟩ := a
      have hd := putAll_defers (fun m => match ((init ++ [st]).toArray[m]?).bind (·.dst) with | some t => ta.getD t undef | none => undef) (init ++ [st]) 0 a0
      have hsz := putAll_size (fun m => match ((init ++ [st]).toArray[m]?).bind (·.dst) with | some t => ta.getD t undef | none => undef) (init ++ [st]) 0 a0
      generalize hX : putAll (init ++ [st]) 0 (fun m => match ((init ++ [st]).toArray[m]?).bind (·.dst) with | some t => ta.getD t undef | none => undef) a0 = X at hd hsz
      obtain ⟨tx, dx⟩ := X
      simp only at hd hsz i3 i4
      have htm : tx = ta := by
        apply Array.ext_getElem?
        intro t
        have hget : tx.getD t undef = ta.getD t undef := by
          have hX' : tx = (putAll (init ++ [st]) 0 (fun m => match ((init ++ [st]).toArray[m]?).bind (·.dst) with | some t => ta.getD t undef | none => undef) a0).tmps := by rw [hX]
          rw [hX']
          cases hw : writers (init ++ [st]).toArray t with
          | nil =>
            rw [putAll_none _ t (init ++ [st]) 0 a0 (fun o ho hd' => by
              obtain ⟨i, hi⟩ := List.getElem?_of_mem ho
              have : i ∈ writers (init ++ [st]).toArray t := by
                unfold writers
                rw [List.mem_filter]
                exact ⟨by simpa using (List.getElem?_eq_some_iff.1 hi).1, by simp [hi, hd']⟩
              rw [hw] at this; simp at this)]
            exact (i6 t hw).symm
          | cons m r =>
            have hm' : m ∈ writers (init ++ [st]).toArray t := by rw [hw]; simp
            unfold writers at hm'
            rw [List.mem_filter] at hm'
            have hmd : ((init ++ [st]).toArray[m]?).bind (·.dst) = some t := by simpa using hm'.2
            cases ho : (init ++ [st]).toArray[m]? with
            | none => simp [ho] at hmd
            | some o =>
              have hod : o.dst = some t := by simpa [ho] using hmd
              rw [putAll_some _ t (init ++ [st]) 0 a0 m o (by simpa using ho) hod (fun i o' hi hd' => shape_one hs (by simpa [hd'] using congrArg (fun x => x.bind (·.dst)) (show (init ++ [st]).toArray[i]? = some o' by simpa using hi)) hmd) (by rw [hn]; exact (shape_dst hs ho hod).1)]
              simp only [Nat.zero_add, hmd]
        by_cases ht : t < tx.size
        · have ht2 : t < ta.size := by omega
          rw [Array.getD_eq_getD_getElem?, Array.getD_eq_getD_getElem?, Array.getElem?_eq_getElem ht, Array.getElem?_eq_getElem ht2] at hget
          rw [Array.getElem?_eq_getElem ht, Array.getElem?_eq_getElem ht2]
          exact congrArg some hget
        · rw [Array.getElem?_eq_none (by omega), Array.getElem?_eq_none (by omega)]
      rw [htm, hd, i3]
    refine e ▸ h3 (fun m => match ((init ++ [st]).toArray[m]?).bind (·.dst) with | some t => a.tmps.getD t undef | none => undef) w' i1 (fun m t hmt => by simp only [hmt]; exact i5 m t hmt)
  · refine ⟨by simp; exact hI, rfl, rfl, by simp, ?_, fun t _ => rfl, ?_⟩
    · intro m t _ hl; simp [Array.getElem?_replicate] at hl; split at hl <;> simp at hl
    · intro m j hl; simp [Array.getElem?_replicate] at hl; split at hl <;> simp at hl
  · have := List.length_filter_le (fun j => !(Array.replicate (init ++ [st]).toArray.size false).getD j true) (List.range (init ++ [st]).toArray.size)
    simpa using this
/-- .. the list as it stands -/
theorem wp_region_store {P : Program} {id : Nat} {ops : List Oper} {st : Oper} {a0 : Act} {w : World} {Q : Exit → Act → World → Prop} (n : Nat) (hop : ops.dropLast ++ [st] = ops) (hm : P.follows .mixedOrders = true) (hs : shapeOk ops.toArray n = true)
    (hn : a0.tmps.size = n) (I : Cls) (hI : I w.drew) (I1 : World → Prop) (hg : st.guard = none) (hd : st.dst = none) (hwait : (List.range ops.dropLast.length).all (fun i => waitsFor ops.toArray ops.dropLast.length i) = true)
    (h : wpI P ops.toArray I a0 (fun sp => (∀ m v w w', sp m v w → sp m v w') ∧ (∀ a w, Knows ops.toArray I a0 sp ops.dropLast.length a w → ∃ w', (execOp a.eval st).run P w = .ok .skip w' ∧ I1 w') ∧
      ∀ (v : Nat → Value) w', I1 w' → (∀ (m : Nat) (t : Tmp), (ops.toArray[m]?).bind (·.dst) = some t → sp m (v m) w') → Q .normal (putAll ops 0 v a0) w') 0 ops.dropLast (fun _ => is undef)) :
    (Code.region id ops.toArray true).wp P Q a0 w := by
  generalize ops.dropLast = init at hop hwait h
  subst hop
  exact wp_region_late n hm hs hn I hI I1 hg hd hwait h
theorem pure_base : ∀ (m : Nat) (v : Value) (w w' : World), (fun _ : Nat => is undef) m v w → (fun _ : Nat => is undef) m v w' := fun _ _ _ _ h => h
theorem pure_upd {sp : Nat → Spec} (k : Nat) (u : Value) (h : ∀ m v w w', sp m v w → sp m v w') : ∀ (m : Nat) (v : Value) (w w' : World), upd sp k (is u) m v w → upd sp k (is u) m v w' := fun m v w w' hv => by
  unfold upd at hv ⊢
  split
  · rename_i e; rw [if_pos e] at hv; exact hv
  · rename_i e; rw [if_neg e] at hv; exact h m v w w' hv
end Go.Proofs.Ytgkidgpdgcdgnaa
