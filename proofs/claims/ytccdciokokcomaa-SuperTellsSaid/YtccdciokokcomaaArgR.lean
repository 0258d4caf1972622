/- Rows of bytes that came in as arguments. -/
import Derived.Test.YtccdciokokcomaaArgs
import Derived.ProofKit
import Derived.OpenShut
namespace Go.Proofs.Ytccdciokokcomaa
open Go.RowKit
def IsRow (k : IntKind) (w : World) (a : Option Addr) (len cap : Nat) (zs : List Int) : Prop :=
  (a = none ∧ len = 0 ∧ cap = 0 ∧ zs = []) ∨
  ∃ x, a = some x ∧ len ≤ cap ∧ cap ≤ maxLen ∧ zs.length = cap ∧ (∀ i, i < zs.length → w.cell? (x.add i) = some (.int k (zs.getD i 0))) ∧ ∀ n ∈ zs, (Lit.int k n).wf = true

/-- a row of bytes that came in -/
theorem bytes_of_row {w : World} {a : Option Addr} {len cap : Nat} {zs : List Int} (h : IsRow .u8 w a len cap zs) :
    ∃ l : List Nat, l.length = len ∧ len ≤ cap ∧ Bytes w w.heap.size a l := by
  rcases h with ⟨rfl, rfl, rfl, rfl⟩ | ⟨x, rfl, hl, _, hz, hc, hwf⟩
  · exact ⟨[], rfl, Nat.le_refl _, Bytes.nil _ _ _⟩
  · have hr : ∀ n ∈ zs, 0 ≤ n ∧ n < 256 := fun n hn => by
      have := hwf n hn
      simp [Lit.wf, IntKind.min, IntKind.max, IntKind.signed, IntKind.bits] at this
      omega
    refine ⟨(zs.take len).map Int.toNat, by simp; omega, hl, ?_, ?_⟩
    · intro y hy
      simp only [List.mem_map] at hy
      obtain ⟨n, hn, rfl⟩ := hy
      have := hr n (List.mem_of_mem_take hn)
      omega
    · intro i hi
      simp at hi
      have h0 := hc i (by omega)
      have hx : ∃ b off, x = ⟨b, off, none⟩ := by
        have h00 := hc 0 (by omega)
        obtain ⟨b, off, spot⟩ := x
        cases spot with
        | none => exact ⟨b, off, rfl⟩
        | some s =>
          exfalso
          simp only [Addr.add, if_true] at h00
          unfold World.cell? at h00
          split at h00 <;> simp at h00
      obtain ⟨b, off, rfl⟩ := hx
      have hadd : (⟨b, off, none⟩ : Addr).add i = ⟨b, off + i, none⟩ := by
        unfold Addr.add; split <;> simp_all
      rw [hadd] at h0
      refine ⟨b, off, rfl, block_lt_of_cell h0, ?_⟩
      rw [h0]
      have hm := hr (zs.getD i 0) (by rw [List.getD_eq_getElem?_getD, List.getElem?_eq_getElem (by omega)]; simp)
      have hi2 : i < zs.length := by omega
      have e : (((zs.take len).map Int.toNat).getD i 0) = (zs[i]).toNat := by
        rw [List.getD_eq_getElem?_getD, List.getElem?_map, List.getElem?_take_of_lt (by omega), List.getElem?_eq_getElem hi2]; rfl
      rw [e]
      rw [List.getD_eq_getElem?_getD, List.getElem?_eq_getElem hi2] at hm ⊢
      simp at hm ⊢
      omega

end Go.Proofs.Ytccdciokokcomaa
