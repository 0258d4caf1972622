/- A region that draws its order, walked once: each operation leaves a value of which one thing is known, whatever the order. Steps by the kind of operation. -/
import Derived.Test.YtgkidgpdgcdgnaaRows
import Derived.WalkKit
import Derived.WalkSpells
import Derived.Lib.Hide
import Derived.Deep.WholeRow
import Derived.Deep.Draws
import Derived.Orders
namespace Go.Proofs.Ytgkidgpdgcdgnaa
open Go.RowKit

theorem cellOld (w : World) (o : Obj) (a : Addr) (v : Value) (h : w.cell? a = some v) : (w.alloc o).cell? a = some v := by
  have hb := block_lt_of_cell h
  have he : (w.alloc o).heap[a.block]? = w.heap[a.block]? := Below.heap_alloc w o a.block hb
  unfold World.cell? at h ⊢
  rw [he]; exact h
theorem cellNew (w : World) (cs : Array Value) (t : TypeId) (fr : Nat × Nat) (i : Nat) : (w.alloc (.cells cs t fr)).cell? ⟨w.heap.size, i, none⟩ = cs[i]? :=
  cell_of_row _ _ _ _ _ _ (heap_alloc_new w _)
theorem belowAlloc (w : World) (o : Obj) : Below w.heap.size w (w.alloc o) := (Below.refl _ _).alloc (Nat.le_refl _) o
theorem belowDrewN {B : Nat} {a w : World} (h : Below B a w) (n : Nat) : Below B a (w.drewN n) := ⟨h.os, h.tape, h.output, h.size, h.block⟩


/-- what is known of a value in a world -/
def Spec := Value → World → Prop
def is (v : Value) : Spec := fun u _ => u = v
structure Ext (w w' : World) : Prop where
  size : w.heap.size ≤ w'.heap.size
  cell : ∀ a v, w.cell? a = some v → w'.cell? a = some v
theorem Ext.refl (w : World) : Ext w w := ⟨Nat.le_refl _, fun _ _ h => h⟩
theorem Ext.trans {a b c : World} (h : Ext a b) (k : Ext b c) : Ext a c := ⟨Nat.le_trans h.size k.size, fun x v hx => k.cell x v (h.cell x v hx)⟩
theorem ext_of_below {w w' : World} (h : Below w.heap.size w w') : Ext w w' := ⟨h.size, fun a v hv => by rw [h.cell (block_lt_of_cell hv)]; exact hv⟩
/-- a class of worlds, and how one becomes another in it -/
structure Cls where
  inv : World → Prop
  rel : World → World → Prop
  refl : ∀ w, rel w w
  trans : ∀ a b c, rel a b → rel b c → rel a c
instance : CoeFun Cls (fun _ => World → Prop) := ⟨Cls.inv⟩
def Cls.ext (I : World → Prop) : Cls := ⟨I, Ext, Ext.refl, fun _ _ _ => Ext.trans⟩
def Stable (I : Cls) (Φ : Spec) : Prop := ∀ v w w', I.rel w w' → Φ v w → Φ v w'
theorem stable_is {I : Cls} (v : Value) : Stable I (is v) := fun _ _ _ _ h => h

section
variable (P : Program) (ops : Array Oper) (I : Cls) (a0 : Act)

/-- must k wait for j? -/
def waitsFor (k j : Nat) : Bool := ((ops[k]?).map fun o => o.after.toList.any fun e => Region.binds .any e && e.on == j).getD false
def writers (t : Tmp) : List Nat := (List.range ops.size).filter fun m => (ops[m]?).bind (·.dst) == some t
/-- where operation k finds what slot t holds: written by operation m, or as it was ahead of the region -/
def srcOf (k : Nat) (t : Tmp) : Option (Option Nat) :=
  match writers ops t with
  | [] => some none
  | [m] => if waitsFor ops k m then some (some m) else if waitsFor ops m k then some none else none
  | _ => none

structure Knows (sp : Nat → Spec) (k : Nat) (a : Act) (w : World) : Prop where
  inv : I w
  got : ∀ t m, srcOf ops k t = some (some m) → sp m (a.tmps.getD t undef) w
  old : ∀ t, srcOf ops k t = some none → a.tmps.getD t undef = a0.tmps.getD t undef

def StepOk (sp : Nat → Spec) (k : Nat) (o : Oper) (Φ : Spec) : Prop :=
  ∀ a w, Knows ops I a0 sp k a w →
    (Region.wanted o (yielded ops a.tmps) = true ∧ ∀ (K : Act → World → Prop) (Q : Exit → Act → World → Prop), (∀ v w', I w' → I.rel w w' → Φ v w' → K (a.put o.dst v) w') → o.wp P a w K Q) ∨
    (Region.wanted o (yielded ops a.tmps) = false ∧ Φ undef w)

def upd (sp : Nat → Spec) (k : Nat) (Φ : Spec) : Nat → Spec := fun j => if j = k then Φ else sp j

def wpI (Fin : (Nat → Spec) → Prop) : Nat → List Oper → (Nat → Spec) → Prop
  | _, [], sp => Fin sp
  | k, o :: rest, sp => ∃ Φ, Stable I Φ ∧ StepOk P ops I a0 sp k o Φ ∧ wpI Fin (k + 1) rest (upd sp k Φ)

/-- the region's shape: each waits for elder ones alone; no slot is written twice; each slot lies in the frame -/
def shapeOk (n : Nat) : Bool :=
  (List.range ops.size).all (fun k => ((ops[k]?).map fun o => o.after.all (fun e => !Region.binds .any e || e.on < k) && (match o.dst with | some t => decide (t < n) && (writers ops t == [k]) | none => true)).getD false)
end

section
variable {P : Program} {ops : Array Oper} {I : Cls} {a0 : Act} {sp : Nat → Spec} {k : Nat} {o : Oper}

theorem waitsFor_lt {n : Nat} (hs : shapeOk ops n = true) {k j : Nat} (h : waitsFor ops k j = true) : j < k := by
  unfold waitsFor at h
  cases hk : ops[k]? with
  | none => simp [hk] at h
  | some o =>
    simp only [hk, Option.map_some, Option.getD_some, List.any_eq_true, Bool.and_eq_true, beq_iff_eq] at h
    obtain ⟨e, he, hb, rfl⟩ := h
    have hlt : k < ops.size := (Array.getElem?_eq_some_iff.1 hk).1
    unfold shapeOk at hs
    rw [List.all_eq_true] at hs
    have := hs k (by simpa using hlt)
    simp only [hk, Option.map_some, Option.getD_some, Bool.and_eq_true, Array.all_eq_true_iff_forall_mem, Bool.or_eq_true, Bool.not_eq_true', decide_eq_true_eq] at this
    exact (this.1 e (Array.mem_toList_iff.1 he)).resolve_left (by simp [hb])

theorem srcOf_lt {n : Nat} (hs : shapeOk ops n = true) {k m : Nat} {t : Tmp} (h : srcOf ops k t = some (some m)) : m < k := by
  unfold srcOf at h
  split at h
  · simp at h
  · split at h
    · rename_i hw
      simp at h; subst h
      exact waitsFor_lt hs hw
    · split at h <;> simp at h
  · simp at h

theorem srcOf_some {k m : Nat} {t : Tmp} (h : srcOf ops k t = some (some m)) : (ops[m]?).bind (·.dst) = some t ∧ waitsFor ops k m = true := by
  unfold srcOf at h
  split at h
  · simp at h
  · rename_i x hx
    split at h
    · rename_i hw
      simp at h; subst h
      have : x ∈ writers ops t := by rw [hx]; simp
      unfold writers at this
      rw [List.mem_filter] at this
      exact ⟨by simpa using this.2, hw⟩
    · split at h <;> simp at h
  · simp at h

theorem srcOf_none {k m : Nat} {t : Tmp} (h : srcOf ops k t = some none) (hm : (ops[m]?).bind (·.dst) = some t) : waitsFor ops m k = true := by
  have hmem : m ∈ writers ops t := by
    unfold writers
    rw [List.mem_filter]
    refine ⟨?_, by simp [hm]⟩
    cases h' : ops[m]? with
    | none => simp [h'] at hm
    | some o => simpa using (Array.getElem?_eq_some_iff.1 h').1
  unfold srcOf at h
  split at h
  · rename_i hx; rw [hx] at hmem; simp at hmem
  · rename_i x hx
    rw [hx] at hmem
    simp at hmem; subst hmem
    split at h
    · simp at h
    · split at h
      · assumption
      · simp at h
  · simp at h

theorem shape_dst {n : Nat} (hs : shapeOk ops n = true) {i : Nat} {oi : Oper} {t : Tmp} (hi : ops[i]? = some oi) (hd : oi.dst = some t) : t < n ∧ writers ops t = [i] := by
  have hlt : i < ops.size := (Array.getElem?_eq_some_iff.1 hi).1
  unfold shapeOk at hs
  rw [List.all_eq_true] at hs
  have := hs i (by simpa using hlt)
  simp only [hi, Option.map_some, Option.getD_some, Bool.and_eq_true, hd, decide_eq_true_eq, beq_iff_eq] at this
  exact this.2

theorem shape_one {n : Nat} (hs : shapeOk ops n = true) {i j : Nat} {t : Tmp} (hi : (ops[i]?).bind (·.dst) = some t) (hj : (ops[j]?).bind (·.dst) = some t) : i = j := by
  cases h1 : ops[i]? with
  | none => simp [h1] at hi
  | some oi =>
    have hd : oi.dst = some t := by simpa [h1] using hi
    have hw := (shape_dst hs h1 hd).2
    have hmem : j ∈ writers ops t := by
      unfold writers
      rw [List.mem_filter]
      refine ⟨?_, by simp [hj]⟩
      cases h' : ops[j]? with
      | none => simp [h'] at hj
      | some o => simpa using (Array.getElem?_eq_some_iff.1 h').1
    rw [hw] at hmem
    simp at hmem
    exact hmem.symm

/-- what is known of a run that has come so far -/
structure Sofar (ops : Array Oper) (I : Cls) (a0 : Act) (w0 : World) (sp : Nat → Spec) (listed : Array Bool) (a : Act) (w : World) : Prop where
  inv : I w
  ext : I.rel w0 w
  dfr : a.defers = a0.defers
  size : a.tmps.size = a0.tmps.size
  lsize : listed.size = ops.size
  done : ∀ (m : Nat) (t : Tmp), (ops[m]?).bind (·.dst) = some t → listed.getD m false = true → sp m (a.tmps.getD t undef) w
  rest : ∀ t, (∀ m, (ops[m]?).bind (·.dst) = some t → listed.getD m false = false) → a.tmps.getD t undef = a0.tmps.getD t undef
  shut : ∀ m j, listed.getD m false = true → waitsFor ops m j = true → listed.getD j false = true
  some : ∀ m, listed.getD m false = true → ∃ v, sp m v w

theorem filter_less (l : List Nat) (p q : Nat → Bool) (h : ∀ j ∈ l, q j = true → p j = true) (i : Nat) (hi : i ∈ l) (hp : p i = true) (hq : q i = false) :
    (l.filter q).length < (l.filter p).length := by
  induction l with
  | nil => simp at hi
  | cons x l ih =>
    have hle : (l.filter q).length ≤ (l.filter p).length := by
      clear ih hi
      have h' : ∀ j ∈ l, q j = true → p j = true := fun j hj => h j (by simp [hj])
      clear h
      induction l with
      | nil => simp
      | cons y l ih2 =>
        have ih3 := ih2 (fun j hj => h' j (by simp [hj]))
        simp only [List.filter_cons]
        cases hqy : q y
        · cases p y <;> simp <;> omega
        · have := h' y (by simp) hqy
          simp [this]; omega
    simp only [List.filter_cons]
    rcases List.mem_cons.1 hi with rfl | hi'
    · rw [hp, hq]; simp; omega
    · have := ih (fun j hj => h j (by simp [hj])) hi'
      cases hqx : q x
      · cases p x <;> simp <;> omega
      · have := h x (by simp) hqx
        simp [this]; omega

theorem left_zero (listed : Array Bool) (h : ((List.range ops.size).filter fun j => !listed.getD j true).length = 0) : Region.ready .any ops listed = [] := by
  have h0 : (List.range ops.size).filter (fun j => !listed.getD j true) = [] := List.eq_nil_of_length_eq_zero h
  unfold Region.ready
  rw [List.filter_eq_nil_iff] at h0 ⊢
  intro i hi
  have := h0 i hi
  rw [Bool.not_eq_true] at this ⊢
  rw [this, Bool.false_and]

theorem getD_false_of_true {listed : Array Bool} {j : Nat} (h : listed.getD j true = false) : listed.getD j false = false := by
  rw [Array.getD_eq_getD_getElem?] at h ⊢
  cases hj : listed[j]? with
  | none => simp
  | some b => simp [hj] at h ⊢; exact h

theorem wpAny_inv {n : Nat} {w0 : World} {Q : Exit → Act → World → Prop} (hs : shapeOk ops n = true) (hn : a0.tmps.size = n)
    (hstab : ∀ m, Stable I (sp m)) (hstep : ∀ i o, ops[i]? = some o → StepOk P ops I a0 sp i o (sp i))
    (hfin : ∀ a w, I w → I.rel w0 w → a.defers = a0.defers → a.tmps.size = a0.tmps.size → (∀ (m : Nat) (t : Tmp), (ops[m]?).bind (·.dst) = some t → sp m (a.tmps.getD t undef) w) →
      (∀ t, writers ops t = [] → a.tmps.getD t undef = a0.tmps.getD t undef) → (∀ m, m < ops.size → ∃ v, sp m v w) → Q .normal a w) :
    ∀ (fuel : Nat) (listed : Array Bool) (a : Act) (w : World), Sofar ops I a0 w0 sp listed a w →
      ((List.range ops.size).filter fun j => !listed.getD j true).length ≤ fuel → wpAny P .any ops Q fuel listed a w := by
  have hend : ∀ (listed : Array Bool) (a : Act) (w : World), Sofar ops I a0 w0 sp listed a w → Region.ready .any ops listed = [] → Q .normal a w := by
    intro listed a w S hr
    have hall : ∀ i, i < ops.size → listed.getD i false = true := by
      intro i
      induction i using Nat.strongRecOn with
      | ind i ih =>
        intro hi
        cases hl : listed.getD i false with
        | true => rfl
        | false =>
          exfalso
          have hmem : i ∈ Region.ready .any ops listed := by
            rw [mem_ready]
            have hlt : i < listed.size := by rw [S.lsize]; exact hi
            refine ⟨?_, ops[i], by simp [hi], fun e he hb => ?_⟩
            · rw [Array.getD_eq_getD_getElem?] at hl ⊢
              simp [hlt] at hl ⊢; exact hl
            · have hw : waitsFor ops i e.on = true := by
                unfold waitsFor
                simp only [Array.getElem?_eq_getElem hi, Option.map_some, Option.getD_some, List.any_eq_true, Bool.and_eq_true, beq_iff_eq]
                exact ⟨e, Array.mem_toList_iff.2 he, hb, rfl⟩
              have hlt2 := waitsFor_lt hs hw
              exact ih e.on hlt2 (by omega)
          rw [hr] at hmem
          simp at hmem
    refine hfin a w S.inv S.ext S.dfr S.size (fun m t hm => S.done m t hm (hall m ?_)) (fun t ht => S.rest t (fun m hm => ?_)) (fun m hm => S.some m (hall m hm))
    · cases h' : ops[m]? with
      | none => simp [h'] at hm
      | some o => exact (Array.getElem?_eq_some_iff.1 h').1
    · exfalso
      have hmem : m ∈ writers ops t := by
        unfold writers
        rw [List.mem_filter]
        refine ⟨?_, by simp [hm]⟩
        cases h' : ops[m]? with
        | none => simp [h'] at hm
        | some o => simpa using (Array.getElem?_eq_some_iff.1 h').1
      rw [ht] at hmem; simp at hmem
  intro fuel
  induction fuel with
  | zero =>
    intro listed a w S hc
    have hr := left_zero listed (Nat.le_zero.1 hc)
    exact ⟨hr, hend listed a w S hr⟩
  | succ fuel ih =>
    intro listed a w S hc
    refine ⟨hend listed a w S, fun i hi => ?_⟩
    have hi' := hi
    rw [mem_ready] at hi
    obtain ⟨hl, o, ho, hall⟩ := hi
    have hlt : i < ops.size := (Array.getElem?_eq_some_iff.1 ho).1
    have hlf := getD_false_of_true hl
    have hwf : ∀ j, waitsFor ops i j = true → listed.getD j false = true := by
      intro j hj
      unfold waitsFor at hj
      simp only [ho, Option.map_some, Option.getD_some, List.any_eq_true, Bool.and_eq_true, beq_iff_eq] at hj
      obtain ⟨e, he, hb, rfl⟩ := hj
      exact hall e (Array.mem_toList_iff.1 he) hb
    have hK : Knows ops I a0 sp i a w := ⟨S.inv,
      fun t m hm => S.done m t (srcOf_some hm).1 (hwf m (srcOf_some hm).2),
      fun t ht => S.rest t (fun m hm => by
        cases hml : listed.getD m false with
        | false => rfl
        | true =>
          have := S.shut m i hml (srcOf_none ht hm)
          rw [hlf] at this; cases this)⟩
    have hcount : ((List.range ops.size).filter fun j => !(listed.setIfInBounds i true).getD j true).length ≤ fuel := by
      have := filter_less (List.range ops.size) (fun j => !listed.getD j true) (fun j => !(listed.setIfInBounds i true).getD j true)
        (fun j _ hj => by
          by_cases e : i = j
          · subst e
            have : i < listed.size := by rw [S.lsize]; exact hlt
            simp [this] at hj
          · rw [getD_set_ne true e] at hj; exact hj) i (by simpa using hlt) (by simp only [hl, Bool.not_false]) (by
            have : i < listed.size := by rw [S.lsize]; exact hlt
            simp [this])
      omega
    have hnext : ∀ v w', I w' → I.rel w w' → sp i v w' → Sofar ops I a0 w0 sp (listed.setIfInBounds i true) (a.put o.dst v) w' := by
      intro v w' hI hE hv
      have hget : ∀ t, o.dst ≠ some t → (a.put o.dst v).tmps.getD t undef = a.tmps.getD t undef := by
        intro t ht
        cases hd : o.dst with
        | none => simp [Act.put]
        | some d =>
          have hne : d ≠ t := fun e => ht (by rw [hd, e])
          simp [Act.put, Array.getElem?_setIfInBounds_ne hne]
      refine ⟨hI, I.trans _ _ _ S.ext hE, ?_, ?_, by simp [S.lsize], ?_, ?_, ?_, ?_⟩
      · rw [← S.dfr]; unfold Act.put; split <;> rfl
      · rw [← S.size]; unfold Act.put; split <;> simp
      · intro m t hm hml
        by_cases e : i = m
        · subst e
          have hd : o.dst = some t := by simpa [ho] using hm
          have ht := (shape_dst hs ho hd).1
          have : (a.put o.dst v).tmps.getD t undef = v := by
            rw [hd]
            have : t < a.tmps.size := by rw [S.size, hn]; exact ht
            simp [Act.put, this]
          rw [this]; exact hv
        · rw [getD_set_ne false e] at hml
          have hne : o.dst ≠ some t := fun hd => e (shape_one hs (by simpa [ho] using hd) hm)
          rw [hget t hne]
          exact hstab m _ _ _ hE (S.done m t hm hml)
      · intro t ht
        have hne : o.dst ≠ some t := fun hd => by
          have := ht i (by simpa [ho] using hd)
          have hi2 : i < listed.size := by rw [S.lsize]; exact hlt
          simp [hi2] at this
        rw [hget t hne]
        refine S.rest t (fun m hm => ?_)
        have := ht m hm
        by_cases e : i = m
        · subst e; exact absurd (by simpa [ho] using hm) hne
        · rwa [getD_set_ne false e] at this
      · intro m j hml hw
        by_cases e : i = m
        · subst e; exact getD_set_true (hwf j hw)
        · rw [getD_set_ne false e] at hml
          exact getD_set_true (S.shut m j hml hw)
      · intro m hml
        by_cases e : i = m
        · subst e; exact ⟨v, hv⟩
        · rw [getD_set_ne false e] at hml
          obtain ⟨u, hu⟩ := S.some m hml
          exact ⟨u, hstab m _ _ _ hE hu⟩
    unfold wpOp
    simp only [ho]
    rcases hstep i o ho a w hK with ⟨hw, hrun⟩ | ⟨hw, hv⟩
    · rw [if_pos hw]
      exact .inl (hrun _ _ fun v w' h1 h2 h3 => ih _ _ _ (hnext v w' h1 h2 h3) hcount)
    · rw [if_neg (by rw [hw]; simp)]
      exact ih _ _ _ (hnext undef w S.inv (I.refl w) hv) hcount

theorem wpI_out {n : Nat} (hs : shapeOk ops n = true) {Fin : (Nat → Spec) → Prop} : ∀ (l : List Oper) (k : Nat) (sp : Nat → Spec), (∀ j, l[j]? = ops[k + j]?) →
    (∀ m, Stable I (sp m)) → (∀ i o, i < k → ops[i]? = some o → StepOk P ops I a0 sp i o (sp i)) → wpI P ops I a0 Fin k l sp →
    ∃ sp' : Nat → Spec, (∀ m, Stable I (sp' m)) ∧ (∀ i o, ops[i]? = some o → StepOk P ops I a0 sp' i o (sp' i)) ∧ Fin sp' := by
  intro l
  induction l with
  | nil =>
    intro k sp hl hst hok hfin
    refine ⟨sp, hst, fun i o ho => hok i o ?_ ho, hfin⟩
    have h0 := hl (i - k)
    by_cases hik : i < k
    · exact hik
    · rw [show k + (i - k) = i by omega, ho] at h0
      simp at h0
  | cons o rest ih =>
    intro k sp hl hst hok h
    obtain ⟨Φ, hΦ, hstep, hrest⟩ := h
    have hknow : ∀ i, i ≤ k → ∀ a w, Knows ops I a0 (upd sp k Φ) i a w → Knows ops I a0 sp i a w := by
      intro i hik a w K
      refine ⟨K.inv, fun t m hm => ?_, K.old⟩
      have hlt := srcOf_lt hs hm
      have := K.got t m hm
      unfold upd at this
      rwa [if_neg (by omega)] at this
    refine ih (k + 1) (upd sp k Φ) (fun j => by have := hl (j + 1); simpa [Nat.add_assoc, Nat.add_comm 1 j] using this) ?_ ?_ hrest
    · intro m
      unfold upd
      split
      · exact hΦ
      · exact hst m
    · intro i oi hi hoi a w K
      by_cases e : i = k
      · subst e
        have h0 : ops[i]? = some o := by simpa using (hl 0).symm
        rw [h0] at hoi
        simp at hoi; subst hoi
        have := hstep a w (hknow i (Nat.le_refl _) a w K)
        simpa [upd] using this
      · have := hok i oi (by omega) hoi a w (hknow i (by omega) a w K)
        unfold upd
        rw [if_neg e]
        exact this

theorem wp_region_inv {id : Nat} {ops : List Oper} {a0 : Act} {w : World} {Q : Exit → Act → World → Prop} (n : Nat) (hm : P.follows .mixedOrders = true) (hs : shapeOk ops.toArray n = true)
    (hn : a0.tmps.size = n) (I : Cls) (hI : I w.drew)
    (h : wpI P ops.toArray I a0 (fun sp => ∀ a w', I w' → I.rel w.drew w' → a.defers = a0.defers → a.tmps.size = n →
        (∀ (m : Nat) (t : Tmp), (ops.toArray[m]?).bind (·.dst) = some t → sp m (a.tmps.getD t undef) w') →
        (∀ t, writers ops.toArray t = [] → a.tmps.getD t undef = a0.tmps.getD t undef) → Q .normal a w') 0 ops (fun _ => is undef)) :
    (Code.region id ops.toArray true).wp P Q a0 w := by
  obtain ⟨sp, h1, h2, h3⟩ := wpI_out hs ops 0 _ (fun j => by simp) (fun m => stable_is _) (fun i o hi => by omega) h
  refine wp_region_any hm ?_
  refine wpAny_inv (w0 := w.drew) hs hn h1 h2 (fun a w' i1 i2 i3 i4 i5 i6 _ => h3 a w' i1 i2 i3 (by rw [i4, hn]) i5 i6) _ _ a0 _ ?_ ?_
  · refine ⟨hI, I.refl _, rfl, rfl, by simp, ?_, fun t _ => rfl, ?_, fun m hl => by simp [Array.getElem?_replicate] at hl; split at hl <;> simp at hl⟩
    · intro m t _ hl; simp [Array.getElem?_replicate] at hl; split at hl <;> simp at hl
    · intro m j hl; simp [Array.getElem?_replicate] at hl; split at hl <;> simp at hl
  · have := List.length_filter_le (fun j => !(Array.replicate ops.toArray.size false).getD j true) (List.range ops.toArray.size)
    simpa using this
end

/-- the frame behind the region: each operation's value in its slot -/
def putAll : List Oper → Nat → (Nat → Value) → Act → Act
  | [], _, _, a => a
  | o :: r, k, v, a => putAll r (k + 1) v (a.put o.dst (v k))
theorem putAll_defers (v : Nat → Value) : ∀ (l : List Oper) (k : Nat) (a : Act), (putAll l k v a).defers = a.defers
  | [], _, _ => rfl
  | o :: r, k, a => by rw [putAll, putAll_defers v r (k + 1)]; unfold Act.put; split <;> rfl
theorem putAll_size (v : Nat → Value) : ∀ (l : List Oper) (k : Nat) (a : Act), (putAll l k v a).tmps.size = a.tmps.size
  | [], _, _ => rfl
  | o :: r, k, a => by rw [putAll, putAll_size v r (k + 1)]; unfold Act.put; split <;> simp
theorem put_getD_other (a : Act) (d : Option Tmp) (u : Value) (t : Tmp) (h : d ≠ some t) : (a.put d u).tmps.getD t undef = a.tmps.getD t undef := by
  cases d with
  | none => rfl
  | some d =>
    have hne : d ≠ t := fun e => h (by rw [e])
    simp [Act.put, Array.getElem?_setIfInBounds_ne hne]
theorem putAll_none (v : Nat → Value) (t : Tmp) : ∀ (l : List Oper) (k : Nat) (a : Act), (∀ o ∈ l, o.dst ≠ some t) → (putAll l k v a).tmps.getD t undef = a.tmps.getD t undef
  | [], _, _, _ => rfl
  | o :: r, k, a, h => by
    rw [putAll, putAll_none v t r (k + 1) _ (fun o' ho' => h o' (by simp [ho'])), put_getD_other _ _ _ _ (h o (by simp))]
theorem putAll_some (v : Nat → Value) (t : Tmp) : ∀ (l : List Oper) (k : Nat) (a : Act) (j : Nat) (o : Oper), l[j]? = some o → o.dst = some t → (∀ i o', l[i]? = some o' → o'.dst = some t → i = j) → t < a.tmps.size →
    (putAll l k v a).tmps.getD t undef = v (k + j)
  | [], _, _, _, _, h, _, _, _ => by simp at h
  | o1 :: r, k, a, 0, o, h, hd, hu, ht => by
    simp at h; subst h
    rw [putAll, putAll_none v t r (k + 1) _ (fun o' ho' hd' => by
      obtain ⟨i, hi⟩ := List.getElem?_of_mem ho'
      have := hu (i + 1) o' (by simpa using hi) hd'
      omega)]
    rw [hd]
    simp [Act.put, ht]
  | o1 :: r, k, a, j + 1, o, h, hd, hu, ht => by
    rw [putAll, putAll_some v t r (k + 1) _ j o (by simpa using h) hd (fun i o' hi hd' => by
      have := hu (i + 1) o' (by simpa using hi) hd'
      omega) (by unfold Act.put; split <;> simpa using ht)]
    congr 1; omega

theorem wpI_mono {P : Program} {ops : Array Oper} {I : Cls} {a0 : Act} {Fin Fin' : (Nat → Spec) → Prop} (hf : ∀ sp, Fin sp → Fin' sp) : ∀ (l : List Oper) (k : Nat) (sp : Nat → Spec), wpI P ops I a0 Fin k l sp → wpI P ops I a0 Fin' k l sp
  | [], _, _, h => hf _ h
  | _ :: r, k, _, ⟨Φ, h1, h2, h3⟩ => ⟨Φ, h1, h2, wpI_mono hf r (k + 1) _ h3⟩
/-- .. and go on, the frame written out -/
theorem wp_region_inv3 {P : Program} {id : Nat} {ops : List Oper} {a0 : Act} {w : World} {Q : Exit → Act → World → Prop} (n : Nat) (hm : P.follows .mixedOrders = true) (hs : shapeOk ops.toArray n = true)
    (hn : a0.tmps.size = n) (I : Cls) (hI : I w.drew)
    (h : wpI P ops.toArray I a0 (fun sp => ∀ (v : Nat → Value) w', I w' → I.rel w.drew w' → (∀ (m : Nat) (t : Tmp), (ops.toArray[m]?).bind (·.dst) = some t → sp m (v m) w') → (∀ m, m < ops.length → ∃ u, sp m u w') → Q .normal (putAll ops 0 v a0) w') 0 ops (fun _ => is undef)) :
    (Code.region id ops.toArray true).wp P Q a0 w := by
  obtain ⟨sp, h1, h2, h3⟩ := wpI_out hs ops 0 _ (fun j => by simp) (fun m => stable_is _) (fun i o hi => by omega) h
  refine wp_region_any hm ?_
  refine wpAny_inv (w0 := w.drew) hs hn h1 h2 (fun a w' i1 i2 i3 i4 i5 i6 i7 => ?_) _ _ a0 _ ?_ ?_
  · have hv := h3 (fun m => match (ops.toArray[m]?).bind (·.dst) with | some t => a.tmps.getD t undef | none => undef) w' i1 i2 (fun m t hmt => by simp only [hmt]; exact i5 m t hmt) (fun m hm => i7 m (by simpa using hm))
    have e : putAll ops 0 (fun m => match (ops.toArray[m]?).bind (·.dst) with | some t => a.tmps.getD t undef | none => undef) a0 = a := by
      obtain ⟨ta, da⟩ := a
      have hd := putAll_defers (fun m => match (ops.toArray[m]?).bind (·.dst) with | some t => ta.getD t undef | none => undef) ops 0 a0
      have hsz := putAll_size (fun m => match (ops.toArray[m]?).bind (·.dst) with | some t => ta.getD t undef | none => undef) ops 0 a0
      generalize hX : putAll ops 0 (fun m => match (ops.toArray[m]?).bind (·.dst) with | some t => ta.getD t undef | none => undef) a0 = X at hd hsz
      obtain ⟨tx, dx⟩ := X
      simp only at hd hsz i3 i4
      have htm : tx = ta := by
        apply Array.ext_getElem?
        intro t
        have hget : tx.getD t undef = ta.getD t undef := by
          have hX' : tx = (putAll ops 0 (fun m => match (ops.toArray[m]?).bind (·.dst) with | some t => ta.getD t undef | none => undef) a0).tmps := by rw [hX]
          rw [hX']
          cases hw : writers ops.toArray t with
          | nil =>
            rw [putAll_none _ t ops 0 a0 (fun o ho hd' => by
              obtain ⟨i, hi⟩ := List.getElem?_of_mem ho
              have : i ∈ writers ops.toArray t := by
                unfold writers
                rw [List.mem_filter]
                exact ⟨by simpa using (List.getElem?_eq_some_iff.1 hi).1, by simp [hi, hd']⟩
              rw [hw] at this; simp at this)]
            exact (i6 t hw).symm
          | cons m r =>
            have hm' : m ∈ writers ops.toArray t := by rw [hw]; simp
            unfold writers at hm'
            rw [List.mem_filter] at hm'
            have hmd : (ops.toArray[m]?).bind (·.dst) = some t := by simpa using hm'.2
            cases ho : ops.toArray[m]? with
            | none => simp [ho] at hmd
            | some o =>
              have hod : o.dst = some t := by simpa [ho] using hmd
              rw [putAll_some _ t ops 0 a0 m o (by simpa using ho) hod (fun i o' hi hd' => shape_one hs (by simpa [hd'] using congrArg (fun x => x.bind (·.dst)) (show ops.toArray[i]? = some o' by simpa using hi)) hmd) (by rw [hn]; exact (shape_dst hs ho hod).1)]
              simp only [Nat.zero_add, hmd]
        by_cases ht : t < tx.size
        · have ht2 : t < ta.size := by omega
          rw [Array.getD_eq_getD_getElem?, Array.getD_eq_getD_getElem?, Array.getElem?_eq_getElem ht, Array.getElem?_eq_getElem ht2] at hget
          rw [Array.getElem?_eq_getElem ht, Array.getElem?_eq_getElem ht2]
          exact congrArg some hget
        · rw [Array.getElem?_eq_none (by omega), Array.getElem?_eq_none (by omega)]
      rw [htm, hd, i3]
    rw [e] at hv
    exact hv
  · refine ⟨hI, I.refl _, rfl, rfl, by simp, ?_, fun t _ => rfl, ?_, fun m hl => by simp [Array.getElem?_replicate] at hl; split at hl <;> simp at hl⟩
    · intro m t _ hl; simp [Array.getElem?_replicate] at hl; split at hl <;> simp at hl
    · intro m j hl; simp [Array.getElem?_replicate] at hl; split at hl <;> simp at hl
  · have := List.length_filter_le (fun j => !(Array.replicate ops.toArray.size false).getD j true) (List.range ops.toArray.size)
    simpa using this

/-- .. and go on, the frame written out -/
theorem wp_region_inv2 {P : Program} {id : Nat} {ops : List Oper} {a0 : Act} {w : World} {Q : Exit → Act → World → Prop} (n : Nat) (hm : P.follows .mixedOrders = true) (hs : shapeOk ops.toArray n = true)
    (hn : a0.tmps.size = n) (I : Cls) (hI : I w.drew)
    (h : wpI P ops.toArray I a0 (fun sp => ∀ (v : Nat → Value) w', I w' → I.rel w.drew w' → (∀ (m : Nat) (t : Tmp), (ops.toArray[m]?).bind (·.dst) = some t → sp m (v m) w') → Q .normal (putAll ops 0 v a0) w') 0 ops (fun _ => is undef)) :
    (Code.region id ops.toArray true).wp P Q a0 w := by
  exact wp_region_inv3 n hm hs hn I hI (wpI_mono (fun sp h v w' i1 i2 i3 _ => h v w' i1 i2 i3) _ _ _ h)

section
variable {P : Program} {ops : Array Oper} {I : Cls} {a0 : Act} {sp : Nat → Spec} {k : Nat} {o : Oper} {Φ Ψ Φ1 Φ2 Φ3 : Spec}

theorem wpI_cons {Fin : (Nat → Spec) → Prop} {rest : List Oper} (Φ : Spec) (h1 : Stable I Φ) (h2 : StepOk P ops I a0 sp k o Φ) (h3 : wpI P ops I a0 Fin (k + 1) rest (upd sp k Φ)) : wpI P ops I a0 Fin k (o :: rest) sp := ⟨Φ, h1, h2, h3⟩
theorem wpI_nil {Fin : (Nat → Spec) → Prop} (h : Fin sp) : wpI P ops I a0 Fin k [] sp := h

/-- what an operand reads as -/
def OpIs (ops : Array Oper) (I : Cls) (a0 : Act) (sp : Nat → Spec) (k : Nat) (x : Operand) (Φ : Spec) : Prop := ∀ a w, Knows ops I a0 sp k a w → Φ (a.eval x) w
theorem opC (v : Value) : OpIs ops I a0 sp k (.const v) (is v) := fun _ _ _ => rfl
theorem opT (t m : Nat) (h : srcOf ops k t = some (some m)) : OpIs ops I a0 sp k (.tmp t) (sp m) := fun _ _ K => K.got t m h
theorem opO (t : Nat) (h : srcOf ops k t = some none) : OpIs ops I a0 sp k (.tmp t) (is (a0.tmps.getD t undef)) := fun _ _ K => K.old t h
theorem opT' (t m : Nat) (h : srcOf ops k t = some (some m)) (e : sp m = Φ) : OpIs ops I a0 sp k (.tmp t) Φ := e ▸ opT t m h
theorem opO' (t : Nat) (v : Value) (h : srcOf ops k t = some none) (e : a0.tmps.getD t undef = v) : OpIs ops I a0 sp k (.tmp t) (is v) := e ▸ opO t h
theorem OpIs.imp {x : Operand} (h : OpIs ops I a0 sp k x Φ) (hi : ∀ v w, I w → Φ v w → Ψ v w) : OpIs ops I a0 sp k x Ψ := fun a w K => hi _ _ K.inv (h a w K)

/-- the guard says: carry it out -/
def Goes (ops : Array Oper) (sp : Nat → Spec) (k : Nat) (o : Oper) : Prop :=
  o.guard = none ∨ ∃ g b t, o.guard = some (g, b) ∧ (ops[g]?).bind (·.dst) = some t ∧ srcOf ops k t = some (some g) ∧ sp g = is (.bool b)
theorem go0 (h : o.guard = none) : Goes ops sp k o := .inl h
theorem go1 (g : Nat) (b : Bool) (t : Nat) (h : o.guard = some (g, b)) (h2 : (ops[g]?).bind (·.dst) = some t) (h3 : srcOf ops k t = some (some g)) (h4 : sp g = is (.bool b)) : Goes ops sp k o := .inr ⟨g, b, t, h, h2, h3, h4⟩
theorem getD_bool {l : Array Value} {t : Nat} {b : Bool} (h : l.getD t undef = .bool b) : l[t]? = some (.bool b) := by
  rw [Array.getD_eq_getD_getElem?] at h
  cases ht : l[t]? with
  | none => rw [ht] at h; exact absurd h (by simp [undef])
  | some v => rw [ht] at h; exact congrArg some h
theorem Goes.wanted (h : Goes ops sp k o) {a : Act} {w : World} (K : Knows ops I a0 sp k a w) : Region.wanted o (yielded ops a.tmps) = true := by
  rcases h with h | ⟨g, b, t, h, h2, h3, h4⟩
  · simp [Region.wanted, h]
  · have hv := K.got t g h3
    rw [h4] at hv
    have := getD_bool hv
    simp [Region.wanted, h, yielded, h2, this]

theorem step_off (g : Nat) (b : Bool) (t : Nat) (h : o.guard = some (g, b)) (h2 : (ops[g]?).bind (·.dst) = some t) (h3 : srcOf ops k t = some (some g)) (h4 : sp g = is (.bool (!b))) :
    StepOk P ops I a0 sp k o (is undef) := fun a w K => by
  have hv := K.got t g h3
  rw [h4] at hv
  have := getD_bool hv
  refine .inr ⟨?_, rfl⟩
  simp [Region.wanted, h, yielded, h2, this]

theorem step_run (hg : Goes ops sp k o) (h : ∀ a w, Knows ops I a0 sp k a w → ∃ v w', (execOp a.eval o).run P w = .ok (.value v) w' ∧ I w' ∧ I.rel w w' ∧ Φ v w') : StepOk P ops I a0 sp k o Φ :=
  fun a w K => .inl ⟨hg.wanted K, fun K' Q hK => by
    obtain ⟨v, w', hr, h1, h2, h3⟩ := h a w K
    unfold Oper.wp
    rw [hr]
    exact hK v w' h1 h2 h3⟩
theorem step_same (hg : Goes ops sp k o) (h : ∀ a w, Knows ops I a0 sp k a w → ∃ v, (execOp a.eval o).run P w = .ok (.value v) w ∧ Φ v w) : StepOk P ops I a0 sp k o Φ :=
  step_run hg fun a w K => by
    obtain ⟨v, hr, hv⟩ := h a w K
    exact ⟨v, w, hr, K.inv, I.refl w, hv⟩

theorem step_skip (hg : Goes ops sp k o) (h : ∀ a w, Knows ops I a0 sp k a w → ∃ w', (execOp a.eval o).run P w = .ok .skip w' ∧ I w' ∧ I.rel w w' ∧ Φ undef w') : StepOk P ops I a0 sp k o Φ :=
  fun a w K => .inl ⟨hg.wanted K, fun K' Q hK => by
    obtain ⟨w', hr, h1, h2, h3⟩ := h a w K
    unfold Oper.wp
    rw [hr]
    exact hK undef w' h1 h2 h3⟩
theorem step_move (hg : Goes ops sp k o) (x : Operand) (ho : o.op = .move x) (hx : OpIs ops I a0 sp k x Φ) : StepOk P ops I a0 sp k o Φ :=
  step_same hg fun a w K => ⟨_, by simp only [execOp, ho]; rfl, hx a w K⟩
theorem step_assign (hg : Goes ops sp k o) (x : Operand) (ho : o.op = .assign x) (hx : OpIs ops I a0 sp k x Φ) : StepOk P ops I a0 sp k o Φ :=
  step_same hg fun a w K => ⟨_, by simp only [execOp, ho]; rfl, hx a w K⟩
theorem step_pickT (hg : Goes ops sp k o) (c x y : Operand) (ho : o.op = .pick c x y) (hc : OpIs ops I a0 sp k c (is (.bool true))) (hx : OpIs ops I a0 sp k x Φ) : StepOk P ops I a0 sp k o Φ :=
  step_same hg fun a w K => ⟨_, by
    have : a.eval c = .bool true := hc a w K
    simp only [execOp, ho, this, asBool]; rfl, hx a w K⟩
theorem step_pickF (hg : Goes ops sp k o) (c x y : Operand) (ho : o.op = .pick c x y) (hc : OpIs ops I a0 sp k c (is (.bool false))) (hy : OpIs ops I a0 sp k y Φ) : StepOk P ops I a0 sp k o Φ :=
  step_same hg fun a w K => ⟨_, by
    have : a.eval c = .bool false := hc a w K
    simp only [execOp, ho, this, asBool]; rfl, hy a w K⟩

/-- an operation on one, on two values whose outcome is fixed -/
theorem step_one (hg : Goes ops sp k o) (x : Operand) (u v : Value) (hx : OpIs ops I a0 sp k x (is u)) (hr : ∀ (ρ : Operand → Value) w, ρ x = u → (execOp ρ o).run P w = .ok (.value v) w) : StepOk P ops I a0 sp k o (is v) :=
  step_same hg fun a w K => ⟨v, hr a.eval w (hx a w K), rfl⟩
theorem step_two (hg : Goes ops sp k o) (x y : Operand) (u1 u2 v : Value) (hx : OpIs ops I a0 sp k x (is u1)) (hy : OpIs ops I a0 sp k y (is u2))
    (hr : ∀ (ρ : Operand → Value) w, ρ x = u1 → ρ y = u2 → (execOp ρ o).run P w = .ok (.value v) w) : StepOk P ops I a0 sp k o (is v) :=
  step_same hg fun a w K => ⟨v, hr a.eval w (hx a w K) (hy a w K), rfl⟩

theorem run_eqGuard_int (op : BinOp) (t : TypeId) (x y : Operand) (k1 k2 : IntKind) (m n : Int) (w : World) : (eqGuard op t x y (.int k1 m) (.int k2 n)).run P w = .ok () w := by
  unfold eqGuard
  cases op <;> rfl
theorem run_eqGuard_bool (op : BinOp) (t : TypeId) (x y : Operand) (m n : Bool) (w : World) : (eqGuard op t x y (.bool m) (.bool n)).run P w = .ok () w := by
  unfold eqGuard
  cases op <;> rfl
/-- an operation on two whole numbers -/
theorem step_int (hg : Goes ops sp k o) (op : BinOp) (t t2 : TypeId) (x y : Operand) (ho : o.op = .binOp op t x y t2) (k1 k2 : IntKind) (m n : Int) (v : Value) (hx : OpIs ops I a0 sp k x (is (.int k1 m))) (hy : OpIs ops I a0 sp k y (is (.int k2 n)))
    (hr : ∀ w, (binOp op t (.int k1 m) (.int k2 n)).run P w = .ok v w) : StepOk P ops I a0 sp k o (is v) :=
  step_two hg x y _ _ v hx hy fun ρ w h1 h2 => by
    simp only [execOp, ho, h1, h2, Sem.run_bind, run_eqGuard_int, hr, Result.andThen]; rfl
theorem step_eq (hg : Goes ops sp k o) (t t2 : TypeId) (x y : Operand) (ho : o.op = .binOp .eql t x y t2) (k1 : IntKind) (m n : Int) (b : Bool) (hx : OpIs ops I a0 sp k x (is (.int k1 m))) (hy : OpIs ops I a0 sp k y (is (.int k1 n)))
    (hb : (m == n) = b) : StepOk P ops I a0 sp k o (is (.bool b)) :=
  step_int hg .eql t t2 x y ho k1 k1 m n _ hx hy fun w => by subst hb; simp [binOp, Op.intCmp]

/-- a call of a Go function by its contract -/
def CallOk (P : Program) (I : Cls) (f : FuncId) (args : Array Value) (w : World) (Φ : Spec) : Prop :=
  Calls P f args w fun e w' => ∃ u, e = .returned u ∧ I w' ∧ I.rel w w' ∧ Φ u w'
theorem step_enter (hg : Goes ops sp k o) (f : FuncId) (h : ∀ a w, Knows ops I a0 sp k a w → ∃ args, (execOp a.eval o).run P w = .ok (.enter f args) w ∧ CallOk P I f args w Φ) : StepOk P ops I a0 sp k o Φ :=
  fun a w K => .inl ⟨hg.wanted K, fun K' Q hK => by
    obtain ⟨args, hr, hc⟩ := h a w K
    unfold Oper.wp
    rw [hr]
    exact hc.mono fun e w' ⟨u, he, h1, h2, h3⟩ => by subst he; exact hK u w' h1 h2 h3⟩
theorem run_call (o : Oper) (ρ : Operand → Value) (f : FuncId) (xs : Array Operand) (ts : Array TypeId) (ho : o.op = .call { callee := .value (.func f), args := xs, argTypes := ts }) (hf : ρ (.func f) = .func (.func f) #[] #[])
    (he : ∀ args w, (callFunc f args).run P w = .ok (.enter f args) w) (w : World) : (execOp ρ o).run P w = .ok (.enter f (xs.map ρ)) w := by
  simp only [execOp, ho, resolve, hf, Deferred.ofValue, Sem.run_bind, Sem.run_pure, Result.andThen, invoke, Array.empty_append, Array.append_empty, he]
theorem step_call0 (hg : Goes ops sp k o) (f : FuncId) (ts : Array TypeId) (ho : o.op = .call { callee := .value (.func f), args := #[], argTypes := ts })
    (he : ∀ args w, (callFunc f args).run P w = .ok (.enter f args) w) (hc : ∀ w, I w → CallOk P I f #[] w Φ) : StepOk P ops I a0 sp k o Φ :=
  step_enter hg f fun a w K => ⟨_, run_call o a.eval f _ ts ho rfl he w, by simpa using hc w K.inv⟩
theorem step_call1 (hg : Goes ops sp k o) (f : FuncId) (x : Operand) (ts : Array TypeId) (ho : o.op = .call { callee := .value (.func f), args := #[x], argTypes := ts })
    (he : ∀ args w, (callFunc f args).run P w = .ok (.enter f args) w) (hx : OpIs ops I a0 sp k x Φ1) (hc : ∀ u w, I w → Φ1 u w → CallOk P I f #[u] w Φ) : StepOk P ops I a0 sp k o Φ :=
  step_enter hg f fun a w K => ⟨_, run_call o a.eval f _ ts ho rfl he w, by simpa using hc _ w K.inv (hx a w K)⟩
theorem step_call2 (hg : Goes ops sp k o) (f : FuncId) (x y : Operand) (ts : Array TypeId) (ho : o.op = .call { callee := .value (.func f), args := #[x, y], argTypes := ts })
    (he : ∀ args w, (callFunc f args).run P w = .ok (.enter f args) w) (hx : OpIs ops I a0 sp k x Φ1) (hy : OpIs ops I a0 sp k y Φ2) (hc : ∀ u v w, I w → Φ1 u w → Φ2 v w → CallOk P I f #[u, v] w Φ) : StepOk P ops I a0 sp k o Φ :=
  step_enter hg f fun a w K => ⟨_, run_call o a.eval f _ ts ho rfl he w, by simpa using hc _ _ w K.inv (hx a w K) (hy a w K)⟩
theorem step_call3 (hg : Goes ops sp k o) (f : FuncId) (x y z : Operand) (ts : Array TypeId) (ho : o.op = .call { callee := .value (.func f), args := #[x, y, z], argTypes := ts })
    (he : ∀ args w, (callFunc f args).run P w = .ok (.enter f args) w) (hx : OpIs ops I a0 sp k x Φ1) (hy : OpIs ops I a0 sp k y Φ2) (hz : OpIs ops I a0 sp k z Φ3)
    (hc : ∀ u v t w, I w → Φ1 u w → Φ2 v w → Φ3 t w → CallOk P I f #[u, v, t] w Φ) : StepOk P ops I a0 sp k o Φ :=
  step_enter hg f fun a w K => ⟨_, run_call o a.eval f _ ts ho rfl he w, by simpa using hc _ _ _ w K.inv (hx a w K) (hy a w K) (hz a w K)⟩
theorem run_callFunc_enter {f : FuncId} {fn : Func} (hf : P.funcs[f]? = some fn) (hname : (fn.name == "runtime.NumGoroutine") = false) (hb : fn.body.isNone = false) (args : Array Value) (w : World) :
    (callFunc f args).run P w = .ok (.enter f args) w := by
  have h1 : ¬ fn.name = "runtime.NumGoroutine" := by simpa using hname
  have h2 : ¬ fn.body = none := by intro e; simp [e] at hb
  simp only [callFunc, program, Sem.run_bind]
  simp [Sem.run, hf, h1, h2]

/-- a whole row out of a block that lay there ahead of the region -/
theorem step_loadRow (hg : Goes ops sp k o) (ty : TypeId) (x : Operand) (ho : o.op = .load ty x) (g : Nat) (t : TypeId) (cs : Array Value) (fr : Nat × Nat) (d : TypeDesc)
    (hx : OpIs ops I a0 sp k x (is (.pointer (some ⟨g, 0, none⟩)))) (hI : ∀ w, I w → w.heap[g]? = some (.cells cs t fr))
    (hu : P.underlying ty = some d) (hd : (match d with | .struct _ | .array _ _ => true | _ => false) = true) (hi : (P.info? ty).map (·.size) = some cs.size) : StepOk P ops I a0 sp k o (is (.agg cs)) :=
  step_same hg fun a w K => ⟨.agg cs, by
    have h1 : a.eval x = .pointer (some ⟨g, 0, none⟩) := hx a w K
    simp only [execOp, ho, h1, Instr.loadAt, Instr.sureAddr, Sem.run_bind, Sem.run_pure, Result.andThen, run_loadVar_row w g t ty cs fr d (hI w K.inv) hu hd hi], rfl⟩

/-- an address of a place -/
theorem step_idx (hg : Goes ops sp k o) (t : TypeId) (x y : Operand) (ho : o.op = .indexAddr t x y) (u1 u2 v : Value) (hx : OpIs ops I a0 sp k x (is u1)) (hy : OpIs ops I a0 sp k y (is u2))
    (hr : ∀ w, (Instr.indexAt t u1 u2).run P w = .ok v w) : StepOk P ops I a0 sp k o (is v) :=
  step_two hg x y _ _ v hx hy fun ρ w h1 h2 => by simp only [execOp, ho, h1, h2, Sem.run_bind, hr, Result.andThen]; rfl
/-- one cell that lay there ahead of the region -/
theorem step_cell (hg : Goes ops sp k o) (ty : TypeId) (x : Operand) (ho : o.op = .load ty x) (p : Addr) (v : Value) (hx : OpIs ops I a0 sp k x (is (.pointer (some p)))) (hI : ∀ w, I w → w.cell? p = some v)
    (ha : ∀ w, (isAgg ty).run P w = .ok false w) : StepOk P ops I a0 sp k o (is v) :=
  step_same hg fun a w K => ⟨v, by
    have h1 : a.eval x = .pointer (some p) := hx a w K
    simp only [execOp, ho, h1, Instr.loadAt, Instr.sureAddr, Sem.run_bind, Sem.run_pure, Result.andThen, loadVar, ha]
    simp [load, Sem.run, hI w K.inv], rfl⟩
theorem step_eqb (hg : Goes ops sp k o) (t t2 : TypeId) (x y : Operand) (ho : o.op = .binOp .eql t x y t2) (m n b : Bool) (hx : OpIs ops I a0 sp k x (is (.bool m))) (hy : OpIs ops I a0 sp k y (is (.bool n)))
    (hr : ∀ w, (binOp .eql t (.bool m) (.bool n)).run P w = .ok (.bool b) w) : StepOk P ops I a0 sp k o (is (.bool b)) :=
  step_two hg x y _ _ _ hx hy fun ρ w h1 h2 => by
    simp only [execOp, ho, h1, h2, Sem.run_bind, run_eqGuard_bool, hr, Result.andThen]; rfl
end
end Go.Proofs.Ytgkidgpdgcdgnaa
