/- What crc.On, crc.Of and the reference's CrcOn, Crc come to. -/
import Derived.Test.YtccdciokokcomaaBase
namespace Go.Proofs.Ytccdciokokcomaa
open Go.RowKit

set_option maxRecDepth 100000 in
theorem On_walk (s : Nat) (hs : s < 4294967296) (A : Option Addr) (len cap B : Nat) (l : List Nat) (hl : l.length = len) (w : World) (hr : Bytes w B A l)
    (hlen : len ≤ 140737488351232) :
    Calls Try.prog 27 #[.agg (tabCells tab), .int .u32 (s : Int), .slice A len cap] w fun e w' =>
      e = .returned (.int .u32 (crcOn s l : Nat)) ∧ w.alloc (.cells (tabCells tab) 28) = w' := by
  have hx1 := unary_xor_u32 s hs
  have hs0 : (4294967295 ^^^ s) < 4294967296 := xor_lt32 (by omega) hs
  go_enter Try.func27, Try.ntmps27
  go_wp2
  go_loop [1, 8, 13] (fun c _ i => ∃ k : Nat, k ≤ len ∧ i = .int .i64 k ∧ c = .int .u32 (crcRaw (4294967295 ^^^ s) (l.take k) : Nat)) (fun _ _ i => len - (intOf i).toNat)
  case atStart => exact ⟨0, Nat.zero_le _, rfl, rfl⟩
  case round =>
    obtain ⟨k, hk, rfl, rfl⟩ := hrel
    clear hx1
    have hS := crcRaw_lt (l.take k) (getD_take_lt l hr.byte k) _ hs0
    by_cases hlt : k < len
    · obtain ⟨b, off, rfl, hbB, hck⟩ := hr.cell k (by omega)
      have hck := cellOld w (.cells (tabCells tab) 28) _ _ hck
      have hC := hr.lt k (by omega)
      have hsucc := crcRaw_succ (4294967295 ^^^ s) l k (by omega)
      generalize crcRaw (4294967295 ^^^ s) (l.take k) = S at *
      generalize l.getD k 0 = c at *
      have hstl := crcStep_lt S c hS hC
      have HSU := Lib.hid hsucc; clear hsucc hr
      have hidx : bits .xor .u8 ((S : Int) % 256) (c : Int) = ((S % 256 ^^^ c : Nat) : Int) := by
        have := u8_xor_nat (S % 256) c (by omega) hC
        rw [← this]; simp
      have hj : S % 256 ^^^ c < 256 := xor_lt8 (by omega) hC
      have htc := tabCells_get tab _ hj
      have ht := tab_lt (S % 256 ^^^ c) (by omega)
      have hst : crcStep S c = tab (S % 256 ^^^ c) ^^^ (S / 256) := rfl
      generalize S % 256 ^^^ c = j at *
      generalize tab j = t at *
      have hx2 : bits .xor .u32 (t : Int) ((S : Int) / 256) = (crcStep S c : Int) := by
        have := u32_xor_nat t (S / 256) ht (by omega)
        rw [hst, ← this]; simp
      clear hst
      generalize crcStep S c = S2 at *
      go_wp2
      go_round
      case rel => exact ⟨k + 1, by omega, by go_num, by rw [HSU.out]⟩
      case measure => simp [intOf]; omega
    · have e : k = len := by omega
      subst e
      have hx3 := unary_xor_u32 _ hS
      clear hr
      go_wp2
      go_ret
      exact ⟨by rw [List.take_of_length_le (by omega)]; rfl, rfl⟩

set_option maxRecDepth 100000 in
theorem Of_walk (A : Option Addr) (len cap B : Nat) (l : List Nat) (hl : l.length = len) (w : World) (hr : Bytes w B A l) (hB : B ≤ w.heap.size)
    (hlen : len ≤ 140737488351232) :
    Calls Try.prog 21 #[.agg (tabCells tab), .slice A len cap] w fun e w' =>
      e = .returned (.int .u32 (crcOn 0 l : Nat)) ∧ (w.alloc (.cells (tabCells tab) 28)).alloc (.cells (tabCells tab) 28) = w' := by
  have hr1 := (hr.mono hB).below (belowAlloc w (.cells (tabCells tab) 28))
  have hg := heap_alloc_new w (.cells (tabCells tab) 28)
  have hi : (Try.prog.info? 28).map (·.size) = some (tabCells tab).size := by rw [tabCells_size]; kernel_rfl
  have HG := Lib.hid hg; have HI := Lib.hid hi; clear hg hi
  have hon := On_walk 0 (by omega) A len cap w.heap.size l hl (w.alloc (.cells (tabCells tab) 28)) hr1 hlen
  have HON := Lib.hid hon
  clear hr hr1 hon hl
  go_enter Try.func21, Try.ntmps21
  go_wp2_with (refine wpList_load_row rfl 28 (.tmp 2) rfl w.heap.size rfl 28 (tabCells tab) (0, 0) _ HG.out Try.underlying28 rfl HI.out ?_)
  refine HON.out.mono ?_
  rintro e w' ⟨rfl, rfl⟩
  go_wp2_with fail
  go_ret
  exact ⟨rfl, rfl⟩
end Go.Proofs.Ytccdciokokcomaa
