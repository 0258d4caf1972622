/- A region that draws its order, walked once: each operation leaves a value of which one thing is known, whatever the order. -/
import Derived.Test.YtcoabmnekccdpaaBase
import Derived.Orders
namespace Go.Proofs.Ytcoabmnekccdpaa
open Go.RowKit

/-- what is known of a value in a world -/
def Spec := Value → World → Prop
def is (v : Value) : Spec := fun u _ => u = v
structure Ext (w w' : World) : Prop where
  size : w.heap.size ≤ w'.heap.size
  cell : ∀ a v, w.cell? a = some v → w'.cell? a = some v
theorem Ext.refl (w : World) : Ext w w := ⟨Nat.le_refl _, fun _ _ h => h⟩
theorem Ext.trans {a b c : World} (h : Ext a b) (k : Ext b c) : Ext a c := ⟨Nat.le_trans h.size k.size, fun x v hx => k.cell x v (h.cell x v hx)⟩
theorem ext_of_below {w w' : World} (h : Below w.heap.size w w') : Ext w w' := ⟨h.size, fun a v hv => by rw [h.cell (block_lt_of_cell hv)]; exact hv⟩
def Stable (Φ : Spec) : Prop := ∀ v w w', Ext w w' → Φ v w → Φ v w'
theorem stable_is (v : Value) : Stable (is v) := fun _ _ _ _ h => h

section
variable (P : Program) (ops : Array Oper) (I : World → Prop) (a0 : Act)

/-- must k wait for j? -/
def waitsFor (k j : Nat) : Bool := ((ops[k]?).map fun o => o.after.toList.any fun e => Region.binds .any e && e.on == j).getD false
def writers (t : Tmp) : List Nat := (List.range ops.size).filter fun m => (ops[m]?).bind (·.dst) == some t
/-- where operation k finds what slot t holds: written by operation m, or as it was ahead of the region -/
def srcOf (k : Nat) (t : Tmp) : Option (Option Nat) :=
  match writers ops t with
  | [] => some none
  | [m] => if waitsFor ops k m then some (some m) else if waitsFor ops m k then some none else none
  | _ => none

structure Knows (sp : Nat → Spec) (k : Nat) (a : Act) (w : World) : Prop where
  inv : I w
  got : ∀ t m, srcOf ops k t = some (some m) → sp m (a.tmps.getD t undef) w
  old : ∀ t, srcOf ops k t = some none → a.tmps.getD t undef = a0.tmps.getD t undef

def StepOk (sp : Nat → Spec) (k : Nat) (o : Oper) (Φ : Spec) : Prop :=
  ∀ a w, Knows ops I a0 sp k a w →
    (Region.wanted o (yielded ops a.tmps) = true ∧ ∀ (K : Act → World → Prop) (Q : Exit → Act → World → Prop), (∀ v w', I w' → Ext w w' → Φ v w' → K (a.put o.dst v) w') → o.wp P a w K Q) ∨
    (Region.wanted o (yielded ops a.tmps) = false ∧ Φ undef w)

def upd (sp : Nat → Spec) (k : Nat) (Φ : Spec) : Nat → Spec := fun j => if j = k then Φ else sp j

def wpI (Fin : (Nat → Spec) → Prop) : Nat → List Oper → (Nat → Spec) → Prop
  | _, [], sp => Fin sp
  | k, o :: rest, sp => ∃ Φ, Stable Φ ∧ StepOk P ops I a0 sp k o Φ ∧ wpI Fin (k + 1) rest (upd sp k Φ)

/-- the region's shape: each waits for elder ones alone; no slot is written twice; each slot lies in the frame -/
def shapeOk (n : Nat) : Bool :=
  (List.range ops.size).all (fun k => ((ops[k]?).map fun o => o.after.all (fun e => !Region.binds .any e || e.on < k) && (match o.dst with | some t => decide (t < n) && (writers ops t == [k]) | none => true)).getD false)
end

section
variable {P : Program} {ops : Array Oper} {I : World → Prop} {a0 : Act} {sp : Nat → Spec} {k : Nat} {o : Oper}

theorem waitsFor_lt {n : Nat} (hs : shapeOk ops n = true) {k j : Nat} (h : waitsFor ops k j = true) : j < k := by
  unfold waitsFor at h
  cases hk : ops[k]? with
  | none => simp [hk] at h
  | some o =>
    simp only [hk, Option.map_some, Option.getD_some, List.any_eq_true, Bool.and_eq_true, beq_iff_eq] at h
    obtain ⟨e, he, hb, rfl⟩ := h
    have hlt : k < ops.size := (Array.getElem?_eq_some_iff.1 hk).1
    unfold shapeOk at hs
    rw [List.all_eq_true] at hs
    have := hs k (by simpa using hlt)
    simp only [hk, Option.map_some, Option.getD_some, Bool.and_eq_true, Array.all_eq_true_iff_forall_mem, Bool.or_eq_true, Bool.not_eq_true', decide_eq_true_eq] at this
    exact (this.1 e (Array.mem_toList_iff.1 he)).resolve_left (by simp [hb])

theorem srcOf_lt {n : Nat} (hs : shapeOk ops n = true) {k m : Nat} {t : Tmp} (h : srcOf ops k t = some (some m)) : m < k := by
  unfold srcOf at h
  split at h
  · simp at h
  · split at h
    · rename_i hw
      simp at h; subst h
      exact waitsFor_lt hs hw
    · split at h <;> simp at h
  · simp at h

theorem srcOf_some {k m : Nat} {t : Tmp} (h : srcOf ops k t = some (some m)) : (ops[m]?).bind (·.dst) = some t ∧ waitsFor ops k m = true := by
  unfold srcOf at h
  split at h
  · simp at h
  · rename_i x hx
    split at h
    · rename_i hw
      simp at h; subst h
      have : x ∈ writers ops t := by rw [hx]; simp
      unfold writers at this
      rw [List.mem_filter] at this
      exact ⟨by simpa using this.2, hw⟩
    · split at h <;> simp at h
  · simp at h

theorem srcOf_none {k m : Nat} {t : Tmp} (h : srcOf ops k t = some none) (hm : (ops[m]?).bind (·.dst) = some t) : waitsFor ops m k = true := by
  have hmem : m ∈ writers ops t := by
    unfold writers
    rw [List.mem_filter]
    refine ⟨?_, by simp [hm]⟩
    cases h' : ops[m]? with
    | none => simp [h'] at hm
    | some o => simpa using (Array.getElem?_eq_some_iff.1 h').1
  unfold srcOf at h
  split at h
  · rename_i hx; rw [hx] at hmem; simp at hmem
  · rename_i x hx
    rw [hx] at hmem
    simp at hmem; subst hmem
    split at h
    · simp at h
    · split at h
      · assumption
      · simp at h
  · simp at h

theorem shape_dst {n : Nat} (hs : shapeOk ops n = true) {i : Nat} {oi : Oper} {t : Tmp} (hi : ops[i]? = some oi) (hd : oi.dst = some t) : t < n ∧ writers ops t = [i] := by
  have hlt : i < ops.size := (Array.getElem?_eq_some_iff.1 hi).1
  unfold shapeOk at hs
  rw [List.all_eq_true] at hs
  have := hs i (by simpa using hlt)
  simp only [hi, Option.map_some, Option.getD_some, Bool.and_eq_true, hd, decide_eq_true_eq, beq_iff_eq] at this
  exact this.2

theorem shape_one {n : Nat} (hs : shapeOk ops n = true) {i j : Nat} {t : Tmp} (hi : (ops[i]?).bind (·.dst) = some t) (hj : (ops[j]?).bind (·.dst) = some t) : i = j := by
  cases h1 : ops[i]? with
  | none => simp [h1] at hi
  | some oi =>
    have hd : oi.dst = some t := by simpa [h1] using hi
    have hw := (shape_dst hs h1 hd).2
    have hmem : j ∈ writers ops t := by
      unfold writers
      rw [List.mem_filter]
      refine ⟨?_, by simp [hj]⟩
      cases h' : ops[j]? with
      | none => simp [h'] at hj
      | some o => simpa using (Array.getElem?_eq_some_iff.1 h').1
    rw [hw] at hmem
    simp at hmem
    exact hmem.symm

/-- what is known of a run that has come so far -/
structure Sofar (ops : Array Oper) (I : World → Prop) (a0 : Act) (w0 : World) (sp : Nat → Spec) (listed : Array Bool) (a : Act) (w : World) : Prop where
  inv : I w
  ext : Ext w0 w
  dfr : a.defers = a0.defers
  size : a.tmps.size = a0.tmps.size
  lsize : listed.size = ops.size
  done : ∀ (m : Nat) (t : Tmp), (ops[m]?).bind (·.dst) = some t → listed.getD m false = true → sp m (a.tmps.getD t undef) w
  rest : ∀ t, (∀ m, (ops[m]?).bind (·.dst) = some t → listed.getD m false = false) → a.tmps.getD t undef = a0.tmps.getD t undef
  shut : ∀ m j, listed.getD m false = true → waitsFor ops m j = true → listed.getD j false = true

theorem filter_less (l : List Nat) (p q : Nat → Bool) (h : ∀ j ∈ l, q j = true → p j = true) (i : Nat) (hi : i ∈ l) (hp : p i = true) (hq : q i = false) :
    (l.filter q).length < (l.filter p).length := by
  induction l with
  | nil => simp at hi
  | cons x l ih =>
    have hle : (l.filter q).length ≤ (l.filter p).length := by
      clear ih hi
      have h' : ∀ j ∈ l, q j = true → p j = true := fun j hj => h j (by simp [hj])
      clear h
      induction l with
      | nil => simp
      | cons y l ih2 =>
        have ih3 := ih2 (fun j hj => h' j (by simp [hj]))
        simp only [List.filter_cons]
        cases hqy : q y
        · cases p y <;> simp <;> omega
        · have := h' y (by simp) hqy
          simp [this]; omega
    simp only [List.filter_cons]
    rcases List.mem_cons.1 hi with rfl | hi'
    · rw [hp, hq]; simp; omega
    · have := ih (fun j hj => h j (by simp [hj])) hi'
      cases hqx : q x
      · cases p x <;> simp <;> omega
      · have := h x (by simp) hqx
        simp [this]; omega

theorem left_zero (listed : Array Bool) (h : ((List.range ops.size).filter fun j => !listed.getD j true).length = 0) : Region.ready .any ops listed = [] := by
  have h0 : (List.range ops.size).filter (fun j => !listed.getD j true) = [] := List.eq_nil_of_length_eq_zero h
  unfold Region.ready
  rw [List.filter_eq_nil_iff] at h0 ⊢
  intro i hi
  have := h0 i hi
  rw [Bool.not_eq_true] at this ⊢
  rw [this, Bool.false_and]

theorem getD_false_of_true {listed : Array Bool} {j : Nat} (h : listed.getD j true = false) : listed.getD j false = false := by
  rw [Array.getD_eq_getD_getElem?] at h ⊢
  cases hj : listed[j]? with
  | none => simp
  | some b => simp [hj] at h ⊢; exact h

theorem wpAny_inv {n : Nat} {w0 : World} {Q : Exit → Act → World → Prop} (hs : shapeOk ops n = true) (hn : a0.tmps.size = n)
    (hstab : ∀ m, Stable (sp m)) (hstep : ∀ i o, ops[i]? = some o → StepOk P ops I a0 sp i o (sp i))
    (hfin : ∀ a w, I w → Ext w0 w → a.defers = a0.defers → a.tmps.size = a0.tmps.size → (∀ (m : Nat) (t : Tmp), (ops[m]?).bind (·.dst) = some t → sp m (a.tmps.getD t undef) w) →
      (∀ t, writers ops t = [] → a.tmps.getD t undef = a0.tmps.getD t undef) → Q .normal a w) :
    ∀ (fuel : Nat) (listed : Array Bool) (a : Act) (w : World), Sofar ops I a0 w0 sp listed a w →
      ((List.range ops.size).filter fun j => !listed.getD j true).length ≤ fuel → wpAny P .any ops Q fuel listed a w := by
  have hend : ∀ (listed : Array Bool) (a : Act) (w : World), Sofar ops I a0 w0 sp listed a w → Region.ready .any ops listed = [] → Q .normal a w := by
    intro listed a w S hr
    have hall : ∀ i, i < ops.size → listed.getD i false = true := by
      intro i
      induction i using Nat.strongRecOn with
      | ind i ih =>
        intro hi
        cases hl : listed.getD i false with
        | true => rfl
        | false =>
          exfalso
          have hmem : i ∈ Region.ready .any ops listed := by
            rw [mem_ready]
            have hlt : i < listed.size := by rw [S.lsize]; exact hi
            refine ⟨?_, ops[i], by simp [hi], fun e he hb => ?_⟩
            · rw [Array.getD_eq_getD_getElem?] at hl ⊢
              simp [hlt] at hl ⊢; exact hl
            · have hw : waitsFor ops i e.on = true := by
                unfold waitsFor
                simp only [Array.getElem?_eq_getElem hi, Option.map_some, Option.getD_some, List.any_eq_true, Bool.and_eq_true, beq_iff_eq]
                exact ⟨e, Array.mem_toList_iff.2 he, hb, rfl⟩
              have hlt2 := waitsFor_lt hs hw
              exact ih e.on hlt2 (by omega)
          rw [hr] at hmem
          simp at hmem
    refine hfin a w S.inv S.ext S.dfr S.size (fun m t hm => S.done m t hm (hall m ?_)) (fun t ht => S.rest t (fun m hm => ?_))
    · cases h' : ops[m]? with
      | none => simp [h'] at hm
      | some o => exact (Array.getElem?_eq_some_iff.1 h').1
    · exfalso
      have hmem : m ∈ writers ops t := by
        unfold writers
        rw [List.mem_filter]
        refine ⟨?_, by simp [hm]⟩
        cases h' : ops[m]? with
        | none => simp [h'] at hm
        | some o => simpa using (Array.getElem?_eq_some_iff.1 h').1
      rw [ht] at hmem; simp at hmem
  intro fuel
  induction fuel with
  | zero =>
    intro listed a w S hc
    have hr := left_zero listed (Nat.le_zero.1 hc)
    exact ⟨hr, hend listed a w S hr⟩
  | succ fuel ih =>
    intro listed a w S hc
    refine ⟨hend listed a w S, fun i hi => ?_⟩
    have hi' := hi
    rw [mem_ready] at hi
    obtain ⟨hl, o, ho, hall⟩ := hi
    have hlt : i < ops.size := (Array.getElem?_eq_some_iff.1 ho).1
    have hlf := getD_false_of_true hl
    have hwf : ∀ j, waitsFor ops i j = true → listed.getD j false = true := by
      intro j hj
      unfold waitsFor at hj
      simp only [ho, Option.map_some, Option.getD_some, List.any_eq_true, Bool.and_eq_true, beq_iff_eq] at hj
      obtain ⟨e, he, hb, rfl⟩ := hj
      exact hall e (Array.mem_toList_iff.1 he) hb
    have hK : Knows ops I a0 sp i a w := ⟨S.inv,
      fun t m hm => S.done m t (srcOf_some hm).1 (hwf m (srcOf_some hm).2),
      fun t ht => S.rest t (fun m hm => by
        cases hml : listed.getD m false with
        | false => rfl
        | true =>
          have := S.shut m i hml (srcOf_none ht hm)
          rw [hlf] at this; cases this)⟩
    have hcount : ((List.range ops.size).filter fun j => !(listed.setIfInBounds i true).getD j true).length ≤ fuel := by
      have := filter_less (List.range ops.size) (fun j => !listed.getD j true) (fun j => !(listed.setIfInBounds i true).getD j true)
        (fun j _ hj => by
          by_cases e : i = j
          · subst e
            have : i < listed.size := by rw [S.lsize]; exact hlt
            simp [this] at hj
          · rw [getD_set_ne true e] at hj; exact hj) i (by simpa using hlt) (by simp only [hl, Bool.not_false]) (by
            have : i < listed.size := by rw [S.lsize]; exact hlt
            simp [this])
      omega
    have hnext : ∀ v w', I w' → Ext w w' → sp i v w' → Sofar ops I a0 w0 sp (listed.setIfInBounds i true) (a.put o.dst v) w' := by
      intro v w' hI hE hv
      have hget : ∀ t, o.dst ≠ some t → (a.put o.dst v).tmps.getD t undef = a.tmps.getD t undef := by
        intro t ht
        cases hd : o.dst with
        | none => simp [Act.put]
        | some d =>
          have hne : d ≠ t := fun e => ht (by rw [hd, e])
          simp [Act.put, Array.getElem?_setIfInBounds_ne hne]
      refine ⟨hI, S.ext.trans hE, ?_, ?_, by simp [S.lsize], ?_, ?_, ?_⟩
      · rw [← S.dfr]; unfold Act.put; split <;> rfl
      · rw [← S.size]; unfold Act.put; split <;> simp
      · intro m t hm hml
        by_cases e : i = m
        · subst e
          have hd : o.dst = some t := by simpa [ho] using hm
          have ht := (shape_dst hs ho hd).1
          have : (a.put o.dst v).tmps.getD t undef = v := by
            rw [hd]
            have : t < a.tmps.size := by rw [S.size, hn]; exact ht
            simp [Act.put, this]
          rw [this]; exact hv
        · rw [getD_set_ne false e] at hml
          have hne : o.dst ≠ some t := fun hd => e (shape_one hs (by simpa [ho] using hd) hm)
          rw [hget t hne]
          exact hstab m _ _ _ hE (S.done m t hm hml)
      · intro t ht
        have hne : o.dst ≠ some t := fun hd => by
          have := ht i (by simpa [ho] using hd)
          have hi2 : i < listed.size := by rw [S.lsize]; exact hlt
          simp [hi2] at this
        rw [hget t hne]
        refine S.rest t (fun m hm => ?_)
        have := ht m hm
        by_cases e : i = m
        · subst e; exact absurd (by simpa [ho] using hm) hne
        · rwa [getD_set_ne false e] at this
      · intro m j hml hw
        by_cases e : i = m
        · subst e; exact getD_set_true (hwf j hw)
        · rw [getD_set_ne false e] at hml
          exact getD_set_true (S.shut m j hml hw)
    unfold wpOp
    simp only [ho]
    rcases hstep i o ho a w hK with ⟨hw, hrun⟩ | ⟨hw, hv⟩
    · rw [if_pos hw]
      exact .inl (hrun _ _ fun v w' h1 h2 h3 => ih _ _ _ (hnext v w' h1 h2 h3) hcount)
    · rw [if_neg (by rw [hw]; simp)]
      exact ih _ _ _ (hnext undef w S.inv (Ext.refl w) hv) hcount

theorem wpI_out {n : Nat} (hs : shapeOk ops n = true) {Fin : (Nat → Spec) → Prop} : ∀ (l : List Oper) (k : Nat) (sp : Nat → Spec), (∀ j, l[j]? = ops[k + j]?) →
    (∀ m, Stable (sp m)) → (∀ i o, i < k → ops[i]? = some o → StepOk P ops I a0 sp i o (sp i)) → wpI P ops I a0 Fin k l sp →
    ∃ sp' : Nat → Spec, (∀ m, Stable (sp' m)) ∧ (∀ i o, ops[i]? = some o → StepOk P ops I a0 sp' i o (sp' i)) ∧ Fin sp' := by
  intro l
  induction l with
  | nil =>
    intro k sp hl hst hok hfin
    refine ⟨sp, hst, fun i o ho => hok i o ?_ ho, hfin⟩
    have h0 := hl (i - k)
    by_cases hik : i < k
    · exact hik
    · rw [show k + (i - k) = i by omega, ho] at h0
      simp at h0
  | cons o rest ih =>
    intro k sp hl hst hok h
    obtain ⟨Φ, hΦ, hstep, hrest⟩ := h
    have hknow : ∀ i, i ≤ k → ∀ a w, Knows ops I a0 (upd sp k Φ) i a w → Knows ops I a0 sp i a w := by
      intro i hik a w K
      refine ⟨K.inv, fun t m hm => ?_, K.old⟩
      have hlt := srcOf_lt hs hm
      have := K.got t m hm
      unfold upd at this
      rwa [if_neg (by omega)] at this
    refine ih (k + 1) (upd sp k Φ) (fun j => by have := hl (j + 1); simpa [Nat.add_assoc, Nat.add_comm 1 j] using this) ?_ ?_ hrest
    · intro m
      unfold upd
      split
      · exact hΦ
      · exact hst m
    · intro i oi hi hoi a w K
      by_cases e : i = k
      · subst e
        have h0 : ops[i]? = some o := by simpa using (hl 0).symm
        rw [h0] at hoi
        simp at hoi; subst hoi
        have := hstep a w (hknow i (Nat.le_refl _) a w K)
        simpa [upd] using this
      · have := hok i oi (by omega) hoi a w (hknow i (by omega) a w K)
        unfold upd
        rw [if_neg e]
        exact this

theorem wp_region_inv {id : Nat} {ops : List Oper} {a0 : Act} {w : World} {Q : Exit → Act → World → Prop} (n : Nat) (hm : P.follows .mixedOrders = true) (hs : shapeOk ops.toArray n = true)
    (hn : a0.tmps.size = n) (I : World → Prop) (hI : I w.drew)
    (h : wpI P ops.toArray I a0 (fun sp => ∀ a w', I w' → Ext w.drew w' → a.defers = a0.defers → a.tmps.size = n →
        (∀ (m : Nat) (t : Tmp), (ops.toArray[m]?).bind (·.dst) = some t → sp m (a.tmps.getD t undef) w') →
        (∀ t, writers ops.toArray t = [] → a.tmps.getD t undef = a0.tmps.getD t undef) → Q .normal a w') 0 ops (fun _ => is undef)) :
    (Code.region id ops.toArray true).wp P Q a0 w := by
  obtain ⟨sp, h1, h2, h3⟩ := wpI_out hs ops 0 _ (fun j => by simp) (fun m => stable_is _) (fun i o hi => by omega) h
  refine wp_region_any hm ?_
  refine wpAny_inv (w0 := w.drew) hs hn h1 h2 (fun a w' i1 i2 i3 i4 i5 i6 => h3 a w' i1 i2 i3 (by rw [i4, hn]) i5 i6) _ _ a0 _ ?_ ?_
  · refine ⟨hI, Ext.refl _, rfl, rfl, by simp, ?_, fun t _ => rfl, ?_⟩
    · intro m t _ hl; simp [Array.getElem?_replicate] at hl; split at hl <;> simp at hl
    · intro m j hl; simp [Array.getElem?_replicate] at hl; split at hl <;> simp at hl
  · have := List.length_filter_le (fun j => !(Array.replicate ops.toArray.size false).getD j true) (List.range ops.toArray.size)
    simpa using this
end
end Go.Proofs.Ytcoabmnekccdpaa
