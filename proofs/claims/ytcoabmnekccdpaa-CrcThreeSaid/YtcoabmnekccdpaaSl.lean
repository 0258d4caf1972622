/- Slices of slices in a region that draws its order; the callees' contracts in that form. -/
import Derived.Test.YtcoabmnekccdpaaWAwake
import Derived.Test.YtcoabmnekccdpaaWRef
namespace Go.Proofs.Ytcoabmnekccdpaa
open Go.RowKit

theorem run_sl_h (w : World) (a : Option Addr) (len cap k : Nat) (hk : k ≤ cap) : (Instr.sliceAt 22 (.slice a len cap) none (some (.int .i64 (k : Int))) none).run Try.prog w = .ok (.slice a k cap) w := by
  have h0 : (0 : Int) ≤ (k : Int) := by omega
  have h1 : (k : Int) ≤ (cap : Int) := by omega
  simp [go_sem, h0, h1]
theorem run_sl_l (w : World) (a : Option Addr) (len cap k : Nat) (hk : k ≤ len) : (Instr.sliceAt 22 (.slice a len cap) (some (.int .i64 (k : Int))) none none).run Try.prog w = .ok (.slice (if cap = k then a else a.map (·.add k)) (len - k) (cap - k)) w := by
  have h0 : (0 : Int) ≤ (k : Int) := by omega
  have h1 : (k : Int) ≤ (len : Int) := by omega
  simp [go_sem, h0, h1]

section
variable {ops : Array Oper} {I : World → Prop} {a0 : Act} {sp : Nat → Spec} {k : Nat} {o : Oper} {Φ Ψ Φ1 Φ2 Φ3 : Spec}
theorem step_sliceH (hg : Goes ops sp k o) (l : List Nat) (j : Nat) (hj : j ≤ l.length) (x y : Operand) (ho : o.op = .slice 22 x none (some y) none) (hx : OpIs ops I a0 sp k x (isBytes l)) (hy : OpIs ops I a0 sp k y (is (.int .i64 (j : Int)))) :
    StepOk Try.prog ops I a0 sp k o (isBytes (l.take j)) :=
  step_same hg fun a w K => by
    obtain ⟨A, cap, h1, h2, h3⟩ := hx a w K
    have h4 : a.eval y = .int .i64 (j : Int) := hy a w K
    refine ⟨.slice A j cap, ?_, A, cap, ?_, ?_, h3.take j⟩
    · simp only [execOp, ho, h1, h4, Option.map_some, Option.map_none, Sem.run_bind, run_sl_h w A l.length cap j (by omega), Result.andThen]; rfl
    · rw [List.length_take, Nat.min_eq_left hj]
    · rw [List.length_take]; omega
theorem step_sliceL (hg : Goes ops sp k o) (l : List Nat) (j : Nat) (hj : j ≤ l.length) (x y : Operand) (ho : o.op = .slice 22 x (some y) none none) (hx : OpIs ops I a0 sp k x (isBytes l)) (hy : OpIs ops I a0 sp k y (is (.int .i64 (j : Int)))) :
    StepOk Try.prog ops I a0 sp k o (isBytes (l.drop j)) :=
  step_same hg fun a w K => by
    obtain ⟨A, cap, h1, h2, h3⟩ := hx a w K
    have h4 : a.eval y = .int .i64 (j : Int) := hy a w K
    refine ⟨.slice (if cap = j then A else A.map (·.add j)) (l.length - j) (cap - j), ?_, (if cap = j then A else A.map (·.add j)), cap - j, ?_, ?_, ?_⟩
    · simp only [execOp, ho, h1, h4, Option.map_some, Option.map_none, Sem.run_bind, run_sl_l w A l.length cap j hj, Result.andThen]; rfl
    · rw [List.length_drop]
    · rw [List.length_drop]; omega
    · by_cases he : j = l.length
      · rw [List.drop_of_length_le (by omega)]; exact Bytes.nil _ _ _
      · obtain ⟨b, off, e, _, _⟩ := h3.cell 0 (by omega)
        subst e
        rw [if_neg (by omega)]
        have hadd : (⟨b, off, none⟩ : Addr).add j = ⟨b, off + j, none⟩ := by unfold Addr.add; split <;> simp_all
        simp only [Option.map_some, hadd]
        exact h3.drop j
end

theorem enter11 (args : Array Value) (w : World) : (callFunc 11 args).run Try.prog w = .ok (.enter 11 args) w := run_callFunc_enter Try.func11 (by kernel_rfl) (by kernel_rfl) args w
theorem enter13 (args : Array Value) (w : World) : (callFunc 13 args).run Try.prog w = .ok (.enter 13 args) w := run_callFunc_enter Try.func13 (by kernel_rfl) (by kernel_rfl) args w
theorem enter7 (args : Array Value) (w : World) : (callFunc 7 args).run Try.prog w = .ok (.enter 7 args) w := run_callFunc_enter Try.func7 (by kernel_rfl) (by kernel_rfl) args w
theorem Crc_ok {w0 : World} (l : List Nat) (hl : l.length ≤ 140737488351232) (v : Value) (w : World) (hI : Up w0 w) (hv : isBytes l v w) :
    CallOk Try.prog (Up w0) 11 #[v] w (is (.int .u32 (refOn 0 l : Nat))) := by
  obtain ⟨A, cap, rfl, _, hb⟩ := hv
  exact callOk_of hI ((Crc_walk A l.length cap w.heap.size l rfl w hb hl).mono fun e w' ⟨he, hw⟩ => ⟨he, hw ▸ Below.refl _ _⟩) (fun _ => rfl)
theorem CrcOn_ok {w0 : World} (s : Nat) (hs : s < 4294967296) (l : List Nat) (hl : l.length ≤ 140737488351232) (c v : Value) (w : World) (hI : Up w0 w) (hc : is (.int .u32 (s : Int)) c w) (hv : isBytes l v w) :
    CallOk Try.prog (Up w0) 13 #[c, v] w (is (.int .u32 (refOn s l : Nat))) := by
  obtain ⟨A, cap, rfl, _, hb⟩ := hv
  obtain rfl : c = _ := hc
  exact callOk_of hI ((CrcOn_walk s hs A l.length cap w.heap.size l rfl w hb hl).mono fun e w' ⟨he, hw⟩ => ⟨he, hw ▸ Below.refl _ _⟩) (fun _ => rfl)
theorem awake_ok {w0 : World} (w : World) (hI : Up w0 w) : CallOk Try.prog (Up w0) 7 #[] w (is (.bool true)) := callOk_of hI (awake_walk w) (fun _ => rfl)
end Go.Proofs.Ytcoabmnekccdpaa
