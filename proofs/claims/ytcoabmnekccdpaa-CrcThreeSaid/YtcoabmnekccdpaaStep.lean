/- The steps of a region that draws its order, by the kind of operation. -/
import Derived.Test.YtcoabmnekccdpaaReg
namespace Go.Proofs.Ytcoabmnekccdpaa
open Go.RowKit

section
variable {P : Program} {ops : Array Oper} {I : World → Prop} {a0 : Act} {sp : Nat → Spec} {k : Nat} {o : Oper} {Φ Ψ Φ1 Φ2 Φ3 : Spec}

theorem wpI_cons {Fin : (Nat → Spec) → Prop} {rest : List Oper} (Φ : Spec) (h1 : Stable Φ) (h2 : StepOk P ops I a0 sp k o Φ) (h3 : wpI P ops I a0 Fin (k + 1) rest (upd sp k Φ)) : wpI P ops I a0 Fin k (o :: rest) sp := ⟨Φ, h1, h2, h3⟩
theorem wpI_nil {Fin : (Nat → Spec) → Prop} (h : Fin sp) : wpI P ops I a0 Fin k [] sp := h

/-- what an operand reads as -/
def OpIs (ops : Array Oper) (I : World → Prop) (a0 : Act) (sp : Nat → Spec) (k : Nat) (x : Operand) (Φ : Spec) : Prop := ∀ a w, Knows ops I a0 sp k a w → Φ (a.eval x) w
theorem opC (v : Value) : OpIs ops I a0 sp k (.const v) (is v) := fun _ _ _ => rfl
theorem opT (t m : Nat) (h : srcOf ops k t = some (some m)) : OpIs ops I a0 sp k (.tmp t) (sp m) := fun _ _ K => K.got t m h
theorem opO (t : Nat) (h : srcOf ops k t = some none) : OpIs ops I a0 sp k (.tmp t) (is (a0.tmps.getD t undef)) := fun _ _ K => K.old t h
theorem opT' (t m : Nat) (h : srcOf ops k t = some (some m)) (e : sp m = Φ) : OpIs ops I a0 sp k (.tmp t) Φ := e ▸ opT t m h
theorem opO' (t : Nat) (v : Value) (h : srcOf ops k t = some none) (e : a0.tmps.getD t undef = v) : OpIs ops I a0 sp k (.tmp t) (is v) := e ▸ opO t h
theorem OpIs.imp {x : Operand} (h : OpIs ops I a0 sp k x Φ) (hi : ∀ v w, I w → Φ v w → Ψ v w) : OpIs ops I a0 sp k x Ψ := fun a w K => hi _ _ K.inv (h a w K)

/-- the guard says: carry it out -/
def Goes (ops : Array Oper) (sp : Nat → Spec) (k : Nat) (o : Oper) : Prop :=
  o.guard = none ∨ ∃ g b t, o.guard = some (g, b) ∧ (ops[g]?).bind (·.dst) = some t ∧ srcOf ops k t = some (some g) ∧ sp g = is (.bool b)
theorem go0 (h : o.guard = none) : Goes ops sp k o := .inl h
theorem go1 (g : Nat) (b : Bool) (t : Nat) (h : o.guard = some (g, b)) (h2 : (ops[g]?).bind (·.dst) = some t) (h3 : srcOf ops k t = some (some g)) (h4 : sp g = is (.bool b)) : Goes ops sp k o := .inr ⟨g, b, t, h, h2, h3, h4⟩
theorem getD_bool {l : Array Value} {t : Nat} {b : Bool} (h : l.getD t undef = .bool b) : l[t]? = some (.bool b) := by
  rw [Array.getD_eq_getD_getElem?] at h
  cases ht : l[t]? with
  | none => rw [ht] at h; exact absurd h (by simp [undef])
  | some v => rw [ht] at h; exact congrArg some h
theorem Goes.wanted (h : Goes ops sp k o) {a : Act} {w : World} (K : Knows ops I a0 sp k a w) : Region.wanted o (yielded ops a.tmps) = true := by
  rcases h with h | ⟨g, b, t, h, h2, h3, h4⟩
  · simp [Region.wanted, h]
  · have hv := K.got t g h3
    rw [h4] at hv
    have := getD_bool hv
    simp [Region.wanted, h, yielded, h2, this]

theorem step_off (g : Nat) (b : Bool) (t : Nat) (h : o.guard = some (g, b)) (h2 : (ops[g]?).bind (·.dst) = some t) (h3 : srcOf ops k t = some (some g)) (h4 : sp g = is (.bool (!b))) :
    StepOk P ops I a0 sp k o (is undef) := fun a w K => by
  have hv := K.got t g h3
  rw [h4] at hv
  have := getD_bool hv
  refine .inr ⟨?_, rfl⟩
  simp [Region.wanted, h, yielded, h2, this]

theorem step_run (hg : Goes ops sp k o) (h : ∀ a w, Knows ops I a0 sp k a w → ∃ v w', (execOp a.eval o).run P w = .ok (.value v) w' ∧ I w' ∧ Ext w w' ∧ Φ v w') : StepOk P ops I a0 sp k o Φ :=
  fun a w K => .inl ⟨hg.wanted K, fun K' Q hK => by
    obtain ⟨v, w', hr, h1, h2, h3⟩ := h a w K
    unfold Oper.wp
    rw [hr]
    exact hK v w' h1 h2 h3⟩
theorem step_same (hg : Goes ops sp k o) (h : ∀ a w, Knows ops I a0 sp k a w → ∃ v, (execOp a.eval o).run P w = .ok (.value v) w ∧ Φ v w) : StepOk P ops I a0 sp k o Φ :=
  step_run hg fun a w K => by
    obtain ⟨v, hr, hv⟩ := h a w K
    exact ⟨v, w, hr, K.inv, Ext.refl w, hv⟩

theorem step_move (hg : Goes ops sp k o) (x : Operand) (ho : o.op = .move x) (hx : OpIs ops I a0 sp k x Φ) : StepOk P ops I a0 sp k o Φ :=
  step_same hg fun a w K => ⟨_, by simp only [execOp, ho]; rfl, hx a w K⟩
theorem step_assign (hg : Goes ops sp k o) (x : Operand) (ho : o.op = .assign x) (hx : OpIs ops I a0 sp k x Φ) : StepOk P ops I a0 sp k o Φ :=
  step_same hg fun a w K => ⟨_, by simp only [execOp, ho]; rfl, hx a w K⟩
theorem step_pickT (hg : Goes ops sp k o) (c x y : Operand) (ho : o.op = .pick c x y) (hc : OpIs ops I a0 sp k c (is (.bool true))) (hx : OpIs ops I a0 sp k x Φ) : StepOk P ops I a0 sp k o Φ :=
  step_same hg fun a w K => ⟨_, by
    have : a.eval c = .bool true := hc a w K
    simp only [execOp, ho, this, asBool]; rfl, hx a w K⟩
theorem step_pickF (hg : Goes ops sp k o) (c x y : Operand) (ho : o.op = .pick c x y) (hc : OpIs ops I a0 sp k c (is (.bool false))) (hy : OpIs ops I a0 sp k y Φ) : StepOk P ops I a0 sp k o Φ :=
  step_same hg fun a w K => ⟨_, by
    have : a.eval c = .bool false := hc a w K
    simp only [execOp, ho, this, asBool]; rfl, hy a w K⟩

/-- an operation on one, on two values whose outcome is fixed -/
theorem step_one (hg : Goes ops sp k o) (x : Operand) (u v : Value) (hx : OpIs ops I a0 sp k x (is u)) (hr : ∀ (ρ : Operand → Value) w, ρ x = u → (execOp ρ o).run P w = .ok (.value v) w) : StepOk P ops I a0 sp k o (is v) :=
  step_same hg fun a w K => ⟨v, hr a.eval w (hx a w K), rfl⟩
theorem step_two (hg : Goes ops sp k o) (x y : Operand) (u1 u2 v : Value) (hx : OpIs ops I a0 sp k x (is u1)) (hy : OpIs ops I a0 sp k y (is u2))
    (hr : ∀ (ρ : Operand → Value) w, ρ x = u1 → ρ y = u2 → (execOp ρ o).run P w = .ok (.value v) w) : StepOk P ops I a0 sp k o (is v) :=
  step_same hg fun a w K => ⟨v, hr a.eval w (hx a w K) (hy a w K), rfl⟩

theorem run_eqGuard_int (op : BinOp) (t : TypeId) (x y : Operand) (k1 k2 : IntKind) (m n : Int) (w : World) : (eqGuard op t x y (.int k1 m) (.int k2 n)).run P w = .ok () w := by
  unfold eqGuard
  cases op <;> rfl
theorem run_eqGuard_bool (op : BinOp) (t : TypeId) (x y : Operand) (m n : Bool) (w : World) : (eqGuard op t x y (.bool m) (.bool n)).run P w = .ok () w := by
  unfold eqGuard
  cases op <;> rfl
/-- an operation on two whole numbers -/
theorem step_int (hg : Goes ops sp k o) (op : BinOp) (t t2 : TypeId) (x y : Operand) (ho : o.op = .binOp op t x y t2) (k1 k2 : IntKind) (m n : Int) (v : Value) (hx : OpIs ops I a0 sp k x (is (.int k1 m))) (hy : OpIs ops I a0 sp k y (is (.int k2 n)))
    (hr : ∀ w, (binOp op t (.int k1 m) (.int k2 n)).run P w = .ok v w) : StepOk P ops I a0 sp k o (is v) :=
  step_two hg x y _ _ v hx hy fun ρ w h1 h2 => by
    simp only [execOp, ho, h1, h2, Sem.run_bind, run_eqGuard_int, hr, Result.andThen]; rfl
theorem step_eq (hg : Goes ops sp k o) (t t2 : TypeId) (x y : Operand) (ho : o.op = .binOp .eql t x y t2) (k1 : IntKind) (m n : Int) (b : Bool) (hx : OpIs ops I a0 sp k x (is (.int k1 m))) (hy : OpIs ops I a0 sp k y (is (.int k1 n)))
    (hb : (m == n) = b) : StepOk P ops I a0 sp k o (is (.bool b)) :=
  step_int hg .eql t t2 x y ho k1 k1 m n _ hx hy fun w => by subst hb; simp [binOp, Op.intCmp]

/-- a call of a Go function by its contract -/
def CallOk (P : Program) (I : World → Prop) (f : FuncId) (args : Array Value) (w : World) (Φ : Spec) : Prop :=
  Calls P f args w fun e w' => ∃ u, e = .returned u ∧ I w' ∧ Ext w w' ∧ Φ u w'
theorem step_enter (hg : Goes ops sp k o) (f : FuncId) (h : ∀ a w, Knows ops I a0 sp k a w → ∃ args, (execOp a.eval o).run P w = .ok (.enter f args) w ∧ CallOk P I f args w Φ) : StepOk P ops I a0 sp k o Φ :=
  fun a w K => .inl ⟨hg.wanted K, fun K' Q hK => by
    obtain ⟨args, hr, hc⟩ := h a w K
    unfold Oper.wp
    rw [hr]
    exact hc.mono fun e w' ⟨u, he, h1, h2, h3⟩ => by subst he; exact hK u w' h1 h2 h3⟩
theorem run_call (o : Oper) (ρ : Operand → Value) (f : FuncId) (xs : Array Operand) (ts : Array TypeId) (ho : o.op = .call { callee := .value (.func f), args := xs, argTypes := ts }) (hf : ρ (.func f) = .func (.func f) #[] #[])
    (he : ∀ args w, (callFunc f args).run P w = .ok (.enter f args) w) (w : World) : (execOp ρ o).run P w = .ok (.enter f (xs.map ρ)) w := by
  simp only [execOp, ho, resolve, hf, Deferred.ofValue, Sem.run_bind, Sem.run_pure, Result.andThen, invoke, Array.empty_append, Array.append_empty, he]
theorem step_call0 (hg : Goes ops sp k o) (f : FuncId) (ts : Array TypeId) (ho : o.op = .call { callee := .value (.func f), args := #[], argTypes := ts })
    (he : ∀ args w, (callFunc f args).run P w = .ok (.enter f args) w) (hc : ∀ w, I w → CallOk P I f #[] w Φ) : StepOk P ops I a0 sp k o Φ :=
  step_enter hg f fun a w K => ⟨_, run_call o a.eval f _ ts ho rfl he w, by simpa using hc w K.inv⟩
theorem step_call1 (hg : Goes ops sp k o) (f : FuncId) (x : Operand) (ts : Array TypeId) (ho : o.op = .call { callee := .value (.func f), args := #[x], argTypes := ts })
    (he : ∀ args w, (callFunc f args).run P w = .ok (.enter f args) w) (hx : OpIs ops I a0 sp k x Φ1) (hc : ∀ u w, I w → Φ1 u w → CallOk P I f #[u] w Φ) : StepOk P ops I a0 sp k o Φ :=
  step_enter hg f fun a w K => ⟨_, run_call o a.eval f _ ts ho rfl he w, by simpa using hc _ w K.inv (hx a w K)⟩
theorem step_call2 (hg : Goes ops sp k o) (f : FuncId) (x y : Operand) (ts : Array TypeId) (ho : o.op = .call { callee := .value (.func f), args := #[x, y], argTypes := ts })
    (he : ∀ args w, (callFunc f args).run P w = .ok (.enter f args) w) (hx : OpIs ops I a0 sp k x Φ1) (hy : OpIs ops I a0 sp k y Φ2) (hc : ∀ u v w, I w → Φ1 u w → Φ2 v w → CallOk P I f #[u, v] w Φ) : StepOk P ops I a0 sp k o Φ :=
  step_enter hg f fun a w K => ⟨_, run_call o a.eval f _ ts ho rfl he w, by simpa using hc _ _ w K.inv (hx a w K) (hy a w K)⟩
theorem step_call3 (hg : Goes ops sp k o) (f : FuncId) (x y z : Operand) (ts : Array TypeId) (ho : o.op = .call { callee := .value (.func f), args := #[x, y, z], argTypes := ts })
    (he : ∀ args w, (callFunc f args).run P w = .ok (.enter f args) w) (hx : OpIs ops I a0 sp k x Φ1) (hy : OpIs ops I a0 sp k y Φ2) (hz : OpIs ops I a0 sp k z Φ3)
    (hc : ∀ u v t w, I w → Φ1 u w → Φ2 v w → Φ3 t w → CallOk P I f #[u, v, t] w Φ) : StepOk P ops I a0 sp k o Φ :=
  step_enter hg f fun a w K => ⟨_, run_call o a.eval f _ ts ho rfl he w, by simpa using hc _ _ _ w K.inv (hx a w K) (hy a w K) (hz a w K)⟩
theorem run_callFunc_enter {f : FuncId} {fn : Func} (hf : P.funcs[f]? = some fn) (hname : (fn.name == "runtime.NumGoroutine") = false) (hb : fn.body.isNone = false) (args : Array Value) (w : World) :
    (callFunc f args).run P w = .ok (.enter f args) w := by
  have h1 : ¬ fn.name = "runtime.NumGoroutine" := by simpa using hname
  have h2 : ¬ fn.body = none := by intro e; simp [e] at hb
  simp only [callFunc, program, Sem.run_bind]
  simp [Sem.run, hf, h1, h2]

/-- a whole row out of a block that lay there ahead of the region -/
theorem step_loadRow (hg : Goes ops sp k o) (ty : TypeId) (x : Operand) (ho : o.op = .load ty x) (g : Nat) (t : TypeId) (cs : Array Value) (fr : Nat × Nat) (d : TypeDesc)
    (hx : OpIs ops I a0 sp k x (is (.pointer (some ⟨g, 0, none⟩)))) (hI : ∀ w, I w → w.heap[g]? = some (.cells cs t fr))
    (hu : P.underlying ty = some d) (hd : (match d with | .struct _ | .array _ _ => true | _ => false) = true) (hi : (P.info? ty).map (·.size) = some cs.size) : StepOk P ops I a0 sp k o (is (.agg cs)) :=
  step_same hg fun a w K => ⟨.agg cs, by
    have h1 : a.eval x = .pointer (some ⟨g, 0, none⟩) := hx a w K
    simp only [execOp, ho, h1, Instr.loadAt, Instr.sureAddr, Sem.run_bind, Sem.run_pure, Result.andThen, run_loadVar_row w g t ty cs fr d (hI w K.inv) hu hd hi], rfl⟩

/-- a slice of these bytes -/
def isBytes (l : List Nat) : Spec := fun v w => ∃ A cap, v = .slice A l.length cap ∧ l.length ≤ cap ∧ Bytes w w.heap.size A l
/-- .. made from block number base on -/
def isNew (base : Nat) (l : List Nat) : Spec := fun v w => ∃ b cap, v = .slice (some ⟨b, 0, none⟩) l.length cap ∧ l.length ≤ cap ∧ base ≤ b ∧ Bytes w w.heap.size (some ⟨b, 0, none⟩) l
theorem Bytes.ext {w w' : World} {B : Nat} {A : Option Addr} {l : List Nat} (h : Bytes w B A l) (e : Ext w w') : Bytes w' B A l :=
  ⟨h.byte, fun i hi => by
    obtain ⟨b, off, e1, hB, hc⟩ := h.cell i hi
    exact ⟨b, off, e1, hB, e.cell _ _ hc⟩⟩
theorem stable_isBytes (l : List Nat) : Stable (isBytes l) := fun _ _ _ e ⟨A, cap, h1, h2, h3⟩ => ⟨A, cap, h1, h2, (h3.ext e).mono e.size⟩
theorem stable_isNew (base : Nat) (l : List Nat) : Stable (isNew base l) := fun _ _ _ e ⟨b, cap, h1, h2, h3, h4⟩ => ⟨b, cap, h1, h2, h3, (h4.ext e).mono e.size⟩
theorem isNew_isBytes {base : Nat} {l : List Nat} {v : Value} {w : World} (h : isNew base l v w) : isBytes l v w := by
  obtain ⟨b, cap, h1, h2, _, h4⟩ := h
  exact ⟨_, cap, h1, h2, h4⟩
theorem isBytes_nil (w : World) : isBytes [] (.slice none 0 0) w := ⟨none, 0, rfl, Nat.le_refl _, Bytes.nil _ _ _⟩

def byteCells (l : List Nat) : Array Value := (l.map fun (b : Nat) => Value.int .u8 (b : Int)).toArray
theorem byteCells_get (l : List Nat) (i : Nat) (h : i < l.length) : (byteCells l)[i]? = some (.int .u8 (l.getD i 0 : Nat)) := by
  simp [byteCells, List.getD_eq_getElem?_getD, h]
theorem bytes_new (w : World) (l : List Nat) (hl : ∀ x ∈ l, x < 256) (t : TypeId) (fr : Nat × Nat) : Bytes (w.alloc (.cells (byteCells l) t fr)) (w.alloc (.cells (byteCells l) t fr)).heap.size (some ⟨w.heap.size, 0, none⟩) l :=
  ⟨hl, fun i hi => ⟨w.heap.size, 0, rfl, by simp, by rw [Nat.zero_add, cellNew, byteCells_get l i hi]⟩⟩

/-- a slice of bytes that is written out -/
theorem step_buildSlice {w0 : World} (hI : I = fun w => Below w0.heap.size w0 w) (hg : Goes ops sp k o) (l : List Nat) (hl : ∀ x ∈ l, x < 256) (t : TypeId)
    (hr : ∀ (a : Act) (w : World), (execOp a.eval o).run P w = .ok (.value (.slice (some ⟨w.heap.size, 0, none⟩) l.length l.length)) (w.alloc (.cells (byteCells l) t))) : StepOk P ops I a0 sp k o (isNew w0.heap.size l) := by
  subst hI
  exact step_run hg fun a w K => ⟨_, _, hr a w, K.inv.alloc K.inv.size _, ext_of_below (belowAlloc w _), w.heap.size, l.length, rfl, Nat.le_refl _, K.inv.size, bytes_new w l hl t _⟩

theorem freeze_cell (w : World) (a p : Addr) (n : Nat) : (w.freeze a n).cell? p = w.cell? p := by
  unfold World.freeze
  split
  · rfl
  · simp only [World.cell?, Array.getElem?_modify]
    by_cases h : a.block = p.block
    · rw [if_pos h]
      cases h' : w.heap[p.block]? with
      | none => simp
      | some o => cases o <;> simp
    · rw [if_neg h]
theorem freeze_below {B : Nat} {w0 w : World} (h : Below B w0 w) (a : Addr) (n : Nat) (ha : B ≤ a.block) : Below B w0 (w.freeze a n) := by
  unfold World.freeze
  split
  · exact h
  · exact h.trans ⟨rfl, rfl, rfl, by simp, fun k hk => by
      simp only [Array.getElem?_modify]
      rw [if_neg (by omega)]⟩
theorem freeze_ext (w : World) (a : Addr) (n : Nat) : Ext w (w.freeze a n) := ⟨by unfold World.freeze; split <;> simp, fun p v h => by rw [freeze_cell]; exact h⟩
theorem run_mark (w : World) (a : Addr) : (markStringish a).run P w = .ok () w ∨ ∃ n, (markStringish a).run P w = .ok () (w.freeze { block := a.block, off := n } 1) := by
  unfold markStringish
  simp only [Sem.run_bind]
  have hs : (Go.shape a.block).run P w = .ok (w.shape? a.block) w := by simp [Go.shape, Sem.run]
  rw [hs]
  cases h : w.shape? a.block with
  | none => exact .inl rfl
  | some x => exact .inr ⟨x.2, rfl⟩
/-- a slice turned to its own type -/
theorem step_convert {w0 : World} (hI : I = fun w => Below w0.heap.size w0 w) (hg : Goes ops sp k o) (l : List Nat) (t e : TypeId) (x : Operand) (ho : o.op = .convert t t x) (hx : OpIs ops I a0 sp k x (isNew w0.heap.size l))
    (ht : P.underlying t = some (.slice e)) (he : P.underlying e = some (.int .u8)) : StepOk P ops I a0 sp k o (isNew w0.heap.size l) := by
  subst hI
  refine step_run hg fun a w K => ?_
  obtain ⟨b, cap, h1, h2, h3, h4⟩ := hx a w K
  have hrun : ∀ w', (markStringish ⟨b, 0, none⟩).run P w = .ok () w' → (execOp a.eval o).run P w = .ok (.value (.slice (some ⟨b, 0, none⟩) l.length cap)) w' := by
    intro w' hw'
    simp only [execOp, ho, h1]
    simp [convert, run_underlying ht, run_underlying he, hw']
  rcases run_mark (P := P) w ⟨b, 0, none⟩ with h | ⟨n, h⟩
  · exact ⟨_, w, hrun w h, K.inv, Ext.refl w, b, cap, rfl, h2, h3, h4⟩
  · exact ⟨_, _, hrun _ h, freeze_below K.inv _ _ h3, freeze_ext w _ _, b, cap, rfl, h2, h3, (h4.ext (freeze_ext w _ _)).mono (freeze_ext w _ _).size⟩
/-- an address of a place -/
theorem step_idx (hg : Goes ops sp k o) (t : TypeId) (x y : Operand) (ho : o.op = .indexAddr t x y) (u1 u2 v : Value) (hx : OpIs ops I a0 sp k x (is u1)) (hy : OpIs ops I a0 sp k y (is u2))
    (hr : ∀ w, (Instr.indexAt t u1 u2).run P w = .ok v w) : StepOk P ops I a0 sp k o (is v) :=
  step_two hg x y _ _ v hx hy fun ρ w h1 h2 => by simp only [execOp, ho, h1, h2, Sem.run_bind, hr, Result.andThen]; rfl
/-- one cell that lay there ahead of the region -/
theorem step_cell (hg : Goes ops sp k o) (ty : TypeId) (x : Operand) (ho : o.op = .load ty x) (p : Addr) (v : Value) (hx : OpIs ops I a0 sp k x (is (.pointer (some p)))) (hI : ∀ w, I w → w.cell? p = some v)
    (ha : ∀ w, (isAgg ty).run P w = .ok false w) : StepOk P ops I a0 sp k o (is v) :=
  step_same hg fun a w K => ⟨v, by
    have h1 : a.eval x = .pointer (some p) := hx a w K
    simp only [execOp, ho, h1, Instr.loadAt, Instr.sureAddr, Sem.run_bind, Sem.run_pure, Result.andThen, loadVar, ha]
    simp [load, Sem.run, hI w K.inv], rfl⟩
theorem step_eqb (hg : Goes ops sp k o) (t t2 : TypeId) (x y : Operand) (ho : o.op = .binOp .eql t x y t2) (m n b : Bool) (hx : OpIs ops I a0 sp k x (is (.bool m))) (hy : OpIs ops I a0 sp k y (is (.bool n)))
    (hr : ∀ w, (binOp .eql t (.bool m) (.bool n)).run P w = .ok (.bool b) w) : StepOk P ops I a0 sp k o (is (.bool b)) :=
  step_two hg x y _ _ _ hx hy fun ρ w h1 h2 => by
    simp only [execOp, ho, h1, h2, Sem.run_bind, run_eqGuard_bool, hr, Result.andThen]; rfl
end
end Go.Proofs.Ytcoabmnekccdpaa
