/- Steps of a region that draws its order, for the laws on lists. -/
import Derived.Test.YtnedpmibmldbfaaRow
namespace Go.Proofs.Ytnedpmibmldbfaa
open Go.RowKit

abbrev Up (w : World) : Cls := Cls.ext (fun w' => Below w.heap.size w w')
theorem callOk_of {w0 w : World} {f : FuncId} {args : Array Value} {v : Value} {Φ : Spec} (hI : Up w0 w) (h : Calls Try.prog f args w fun e w' => e = .returned v ∧ Below w.heap.size w w') (hv : ∀ w', Φ v w') :
    CallOk Try.prog (Up w0) f args w Φ :=
  h.mono fun e w' ⟨he, hb⟩ => ⟨v, he, Below.trans hI (hb.mono (Below.size hI)), ext_of_below hb, hv w'⟩

section
variable {P : Program} {ops : Array Oper} {I : Cls} {a0 : Act} {sp : Nat → Spec} {k : Nat} {o : Oper}
theorem step_nilc (hg : Goes ops sp k o) (x : Operand) (ho : o.op = .nilCheck x) (p : Addr) (hx : OpIs ops I a0 sp k x (is (.pointer (some p)))) : StepOk P ops I a0 sp k o (is (.pointer (some p))) :=
  step_one hg x _ _ hx fun ρ w h => by simp only [execOp, ho, h]; rfl
theorem step_field (hg : Goes ops sp k o) (s : TypeId) (f : Nat) (x : Operand) (ho : o.op = .fieldAddr s x f) (u v : Value) (hx : OpIs ops I a0 sp k x (is u)) (hr : ∀ w, (Instr.fieldAt s u f).run P w = .ok v w) : StepOk P ops I a0 sp k o (is v) :=
  step_one hg x _ _ hx fun ρ w h => by simp only [execOp, ho, h, Sem.run_bind, hr, Result.andThen]; rfl
theorem step_not (hg : Goes ops sp k o) (t : TypeId) (x : Operand) (ho : o.op = .unOp .not t x) (b : Bool) (hx : OpIs ops I a0 sp k x (is (.bool b))) : StepOk P ops I a0 sp k o (is (.bool (!b))) :=
  step_one hg x _ _ hx fun ρ w h => by simp only [execOp, ho, h]; rfl
theorem step_neqb (hg : Goes ops sp k o) (t t2 : TypeId) (x y : Operand) (ho : o.op = .binOp .neq t x y t2) (m n b : Bool) (hx : OpIs ops I a0 sp k x (is (.bool m))) (hy : OpIs ops I a0 sp k y (is (.bool n)))
    (hr : ∀ w, (binOp .neq t (.bool m) (.bool n)).run P w = .ok (.bool b) w) : StepOk P ops I a0 sp k o (is (.bool b)) :=
  step_two hg x y _ _ _ hx hy fun ρ w h1 h2 => by
    simp only [execOp, ho, h1, h2, Sem.run_bind, run_eqGuard_bool, hr, Result.andThen]; rfl
theorem step_len (hg : Goes ops sp k o) (x : Operand) (t : TypeId) (ho : o.op = .call { callee := .builtin .len, args := #[x], argTypes := #[t] }) (u v : Value) (hx : OpIs ops I a0 sp k x (is u))
    (hr : ∀ w, (Builtin.len_ #[t] o.type #[u]).run P w = .ok v w) : StepOk P ops I a0 sp k o (is v) :=
  step_one hg x _ _ hx fun ρ w h => by
    simp [execOp, ho, h, resolve, invoke, builtin, Result.andThen, go_sem, hr]
theorem step_sl (hg : Goes ops sp k o) (t : TypeId) (x y : Operand) (ho : o.op = .slice t x none (some y) none) (u1 u2 v : Value) (hx : OpIs ops I a0 sp k x (is u1)) (hy : OpIs ops I a0 sp k y (is u2))
    (hr : ∀ w, (Instr.sliceAt t u1 none (some u2) none).run P w = .ok v w) : StepOk P ops I a0 sp k o (is v) :=
  step_two hg x y _ _ v hx hy fun ρ w h1 h2 => by
    simp only [execOp, ho, h1, h2, Option.map_some, Option.map_none, Sem.run_bind, hr, Result.andThen]; rfl
theorem step_min (hg : Goes ops sp k o) (x y : Operand) (t : TypeId) (o_ : o.type = 3) (ho : o.op = .call { callee := .builtin .min, args := #[x, y], argTypes := #[t, t] }) (m n : Int) (hx : OpIs ops I a0 sp k x (is (.int .i64 m))) (hy : OpIs ops I a0 sp k y (is (.int .i64 n))) : StepOk P ops I a0 sp k o (is (.int .i64 (min m n))) :=
  step_two hg x y _ _ _ hx hy fun ρ w h1 h2 => by
    simp [execOp, ho, h1, h2, resolve, invoke, builtin, Result.andThen, go_sem]
    rw [Int.min_def]; split <;> split <;> omega
end

/-- a row that is read as these numbers -/
def isRowS (l : List Nat) : Spec := fun v w => ∃ A cap, v = .slice A l.length cap ∧ l.length ≤ cap ∧ Row w A l
theorem stable_isRowS (w0 : World) (l : List Nat) : Stable (Up w0) (isRowS l) := fun v w w' h ⟨A, cap, h1, h2, h3⟩ => ⟨A, cap, h1, h2, h3.ext h⟩
theorem enter7 (args : Array Value) (w : World) : (callFunc 7 args).run Try.prog w = .ok (.enter 7 args) w := run_callFunc_enter Try.func7 (by kernel_rfl) (by kernel_rfl) args w
theorem enter10 (args : Array Value) (w : World) : (callFunc 10 args).run Try.prog w = .ok (.enter 10 args) w := run_callFunc_enter Try.func10 (by kernel_rfl) (by kernel_rfl) args w
theorem enter11 (args : Array Value) (w : World) : (callFunc 11 args).run Try.prog w = .ok (.enter 11 args) w := run_callFunc_enter Try.func11 (by kernel_rfl) (by kernel_rfl) args w
theorem enter12 (args : Array Value) (w : World) : (callFunc 12 args).run Try.prog w = .ok (.enter 12 args) w := run_callFunc_enter Try.func12 (by kernel_rfl) (by kernel_rfl) args w
theorem enter13 (args : Array Value) (w : World) : (callFunc 13 args).run Try.prog w = .ok (.enter 13 args) w := run_callFunc_enter Try.func13 (by kernel_rfl) (by kernel_rfl) args w
theorem enter16 (args : Array Value) (w : World) : (callFunc 16 args).run Try.prog w = .ok (.enter 16 args) w := run_callFunc_enter Try.func16 (by kernel_rfl) (by kernel_rfl) args w
theorem enter17 (args : Array Value) (w : World) : (callFunc 17 args).run Try.prog w = .ok (.enter 17 args) w := run_callFunc_enter Try.func17 (by kernel_rfl) (by kernel_rfl) args w
theorem order_ok {w0 : World} {k bE bY bP n : Nat} {o : List Nat} {p : Nat → Bool} (h : IsX w0 k bE bY bP n o p) (most : Int) (w : World) (hI : Up w0 w) :
    CallOk Try.prog (Up w0) 17 #[.pointer (some ⟨k, 0, none⟩), .int .i64 most] w (isRowS (ordR most o)) :=
  (order_calls most (h.below hI h.lt).isO).mono fun e w' ⟨A, cap, he, hR, hc, hb⟩ => ⟨_, he, Below.trans hI (hb.mono (Below.size hI)), ext_of_below hb, A, cap, rfl, hc, hR⟩
theorem Ints_ok {w0 : World} (l : List Nat) (hl : l.length ≤ 1000) (u v : Value) (w : World) (hI : Up w0 w) (hu : isRowS l u w) (hv : isRowS l v w) :
    CallOk Try.prog (Up w0) 16 #[u, v] w (is (.bool true)) := by
  obtain ⟨A, cap, rfl, h1, h2⟩ := hu
  obtain ⟨B, cap', rfl, h3, h4⟩ := hv
  have h := Ints_walk A B l.length l.length cap cap' l l rfl rfl w h2 h4 (by omega)
  rw [decide_eq_true (show l = l from rfl)] at h
  exact callOk_of hI h (fun _ => rfl)
theorem cells31 : Try.prog.cellsOf 31 = 2 := by kernel_rfl
theorem run_ix22 (w : World) (b off len cap t : Nat) (h : t < len) : (Instr.indexAt 22 (.slice (some ⟨b, off, none⟩) len cap) (.int .i64 (t : Int))).run Try.prog w = .ok (.pointer (some ⟨b, off + t * 2, none⟩)) w := by
  have h0 : (0 : Int) ≤ (t : Int) := by omega
  have h1 : (t : Int) < (len : Int) := by omega
  simp [go_sem, h0, h1]
theorem run_fa0 (w : World) (b off : Nat) : (Instr.fieldAt 31 (.pointer (some ⟨b, off, none⟩)) 0).run Try.prog w = .ok (.pointer (some ⟨b, off, none⟩)) w := by
  simp [go_sem]
theorem run_fa1 (w : World) (b off : Nat) : (Instr.fieldAt 31 (.pointer (some ⟨b, off, none⟩)) 1).run Try.prog w = .ok (.pointer (some ⟨b, off + 1, none⟩)) w := by
  simp [go_sem]
theorem run_fb0 (w : World) (b off : Nat) : (Instr.fieldAt 42 (.pointer (some ⟨b, off, none⟩)) 0).run Try.prog w = .ok (.pointer (some ⟨b, off, none⟩)) w := by
  simp [go_sem]
theorem run_sl38 (w : World) (a : Option Addr) (len cap n : Nat) (hk : n ≤ cap) : (Instr.sliceAt 38 (.slice a len cap) none (some (.int .i64 (min 2 (n : Int)))) none).run Try.prog w = .ok (.slice a (min 2 n) cap) w := by
  have e : min 2 (n : Int) = ((min 2 n : Nat) : Int) := by omega
  rw [e]
  have h0 : (0 : Int) ≤ ((min 2 n : Nat) : Int) := by omega
  have h1 : ((min 2 n : Nat) : Int) ≤ (cap : Int) := by omega
  generalize min 2 n = k at *
  simp [go_sem, h0, h1]
theorem run_len38 (A : Option Addr) (n cap : Nat) (w : World) : (Builtin.len_ #[38] 3 #[.slice A n cap]).run Try.prog w = .ok (.int .i64 (n : Int)) w := by
  simp [go_sem, Builtin.len_]
theorem run_load3 (w : World) : (isAgg 3).run Try.prog w = .ok false w := by kernel_rfl
theorem run_load38 (w : World) : (isAgg 38).run Try.prog w = .ok false w := by kernel_rfl
end Go.Proofs.Ytnedpmibmldbfaa
