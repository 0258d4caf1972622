/- Bytes as strings; back and num as a region has them; and what a region that lays a block of its own is to keep. -/
import Derived.Test.YtccdciokokcomaaHeadR
import Derived.Laws.BytesArg
namespace Go.Proofs.Ytccdciokokcomaa
open Go.RowKit

def str (l : List Nat) : ByteArray := strOfNums (l.map fun (n : Nat) => (n : Int))
theorem str_inj {a b : List Nat} (ha : ∀ x ∈ a, x < 256) (hb : ∀ x ∈ b, x < 256) (h : str a = str b) : a = b := by
  have h1 : (str a).data.toList = (str b).data.toList := by rw [h]
  unfold str at h1
  rw [strOfNums_data, strOfNums_data, List.map_map, List.map_map] at h1
  have h2 : ∀ (a b : List Nat), (∀ x ∈ a, x < 256) → (∀ x ∈ b, x < 256) → a.map ((fun n : Int => UInt8.ofNat n.toNat) ∘ fun (n : Nat) => (n : Int)) = b.map ((fun n : Int => UInt8.ofNat n.toNat) ∘ fun (n : Nat) => (n : Int)) → a = b := by
    intro a
    induction a with
    | nil => intro b _ _ h; cases b with
      | nil => rfl
      | cons => simp at h
    | cons x a ih =>
      intro b ha hb h
      cases b with
      | nil => simp at h
      | cons y b =>
        simp only [List.map_cons, List.cons.injEq] at h
        have e : x = y := by
          have h3 := congrArg UInt8.toNat h.1
          simp only [Function.comp, Int.toNat_natCast, UInt8.toNat_ofNat'] at h3
          have hx := ha x (by simp)
          have hy := hb y (by simp)
          omega
        rw [e, ih b (fun x hx => ha x (by simp [hx])) (fun x hx => hb x (by simp [hx])) h.2]
  exact h2 a b ha hb h1
theorem isBytes.byte {l : List Nat} {v : Value} {w : World} (h : isBytes l v w) : ∀ x ∈ l, x < 256 := by
  obtain ⟨_, _, _, _, h3⟩ := h; exact h3.byte
theorem conv_str {l : List Nat} {v : Value} {w : World} (h : isBytes l v w) : (convert 25 9 v).run Try.prog w = .ok (.string (str l)) w := by
  obtain ⟨A, cap, rfl, _, hb⟩ := h
  cases hl : l with
  | nil =>
    subst hl
    cases A with
    | none => exact run_convert_bytes_nil (P := Try.prog) w 25 5 Try.underlying25 Try.underlying5 _ _ 9 Try.underlying9
    | some p =>
      rw [run_convert_bytes_string w 25 9 5 _ _ cap Try.underlying25 Try.underlying5 Try.underlying9]
      simp [Conv.bytesToString, loadCells, loadCellsFrom]
      rfl
  | cons x r =>
    rw [← hl]
    obtain ⟨b, off, rfl, _, _⟩ := hb.cell 0 (by rw [hl]; simp)
    refine run_convert_bytes_arg (P := Try.prog) w 25 5 Try.underlying25 Try.underlying5 b off l.length cap (l.map fun (n : Nat) => (n : Int)) (by simp) (fun i hi => ?_) 9 Try.underlying9
    obtain ⟨b', off', e, _, hc⟩ := hb.cell i hi
    simp only [Option.some.injEq, Addr.mk.injEq, and_true] at e
    obtain ⟨rfl, rfl⟩ := e
    rw [hc]
    simp [List.getD_eq_getElem?_getD, hi]
theorem str_list {a b : List Nat} (ha : ∀ x ∈ a, x < 256) (hb : ∀ x ∈ b, x < 256) : ((str a).toList == (str b).toList) = decide (a = b) := by
  rw [ByteArray.toList_eq, ByteArray.toList_eq]
  by_cases h : a = b
  · subst h
    rw [decide_eq_true rfl]
    exact beq_self_eq_true _
  · have : ¬ (str a).data.toList = (str b).data.toList := fun e => h (str_inj ha hb (by
      cases ea : str a
      cases eb : str b
      rw [ea, eb] at e
      simp only at e
      congr 1
      exact Array.toList_inj.1 e))
    rw [decide_eq_false h]
    exact beq_eq_false_iff_ne.2 this
theorem eql_str {a b : List Nat} (ha : ∀ x ∈ a, x < 256) (hb : ∀ x ∈ b, x < 256) (w : World) : (binOp .eql 9 (.string (str a)) (.string (str b))).run Try.prog w = .ok (.bool (decide (a = b))) w := by
  rw [binOp_string_eql, str_list ha hb]; rfl
theorem neq_str {a b : List Nat} (ha : ∀ x ∈ a, x < 256) (hb : ∀ x ∈ b, x < 256) (w : World) : (binOp .neq 9 (.string (str a)) (.string (str b))).run Try.prog w = .ok (.bool (!decide (a = b))) w := by
  rw [binOp_string_neq, str_list ha hb]; rfl
set_option maxRecDepth 100000 in
theorem equal_walk {a b : List Nat} {u v : Value} (w : World) (hu : isBytes a u w) (hv : isBytes b v w) (c : Bool) (hc : decide (a = b) = c) :
    Calls Try.prog 25 #[u, v] w fun e w' => e = .returned (.bool c) ∧ w = w' := by
  have k1 := conv_str hu
  have k2 := conv_str hv
  have k3 := eql_str hu.byte hv.byte w
  have k4 := str_list hu.byte hv.byte
  rw [hc] at k3 k4
  clear hc
  obtain ⟨A, cap, rfl, _, _⟩ := hu
  obtain ⟨A2, cap2, rfl, _, _⟩ := hv
  go_enter Try.func25, Try.ntmps25
  go_wp2
  go_ret
  exact ⟨rfl, rfl⟩
end Go.Proofs.Ytccdciokokcomaa
