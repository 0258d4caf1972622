/- Which pixels, plainly. -/
import Derived.Test.YtgkidgpdgcdgnaaCov
namespace Go.Proofs.Ytgkidgpdgcdgnaa
open Go.RowKit

/-- a pixel that is covered -/
structure Hit where
  x : Int
  y : Int
  e0 : Int
  e1 : Int
  e2 : Int
deriving DecidableEq
def Hit.cells (h : Hit) : Array Value := hitA h.x h.y h.e0 h.e1 h.e2
/-- the pixel of that number, of a screen so wide -/
def pixel (t : Spot × Spot × Spot) (w at_ : Nat) : Option Hit :=
  if covered t.1 t.2.1 t.2.2 ((at_ % w : Nat) : Int) ((at_ / w : Nat) : Int) = true then
    some ⟨((at_ % w : Nat) : Int), ((at_ / w : Nat) : Int), side t.2.1 t.2.2 (256 * ((at_ % w : Nat) : Int) + 128) (256 * ((at_ / w : Nat) : Int) + 128), side t.2.2 t.1 (256 * ((at_ % w : Nat) : Int) + 128) (256 * ((at_ / w : Nat) : Int) + 128), side t.1 t.2.1 (256 * ((at_ % w : Nat) : Int) + 128) (256 * ((at_ / w : Nat) : Int) + 128)⟩
  else none
def pixTo (t : Spot × Spot × Spot) (w k : Nat) : List Hit := (List.range k).filterMap (pixel t w)
theorem pixTo_succ (t : Spot × Spot × Spot) (w k : Nat) : pixTo t w (k + 1) = pixTo t w k ++ (pixel t w k).toList := by
  unfold pixTo
  rw [List.range_succ, List.filterMap_append]
  cases h : pixel t w k <;> simp [h]
/-- all pixels -/
def pix (a b c : Spot) (w h : Int) : List Hit :=
  if (turned a b c).2 = true ∧ 1 ≤ w ∧ w ≤ 32 ∧ 1 ≤ h ∧ h ≤ 32 then pixTo (turned a b c).1 w.toNat (w.toNat * h.toNat) else []
theorem pixTo_len (t : Spot × Spot × Spot) (w k : Nat) : (pixTo t w k).length ≤ k := by
  unfold pixTo
  exact Nat.le_trans (List.length_filterMap_le _ _) (by simp)
theorem pix_len (a b c : Spot) (w h : Int) : (pix a b c w h).length ≤ 1024 := by
  unfold pix
  split
  · rename_i hh
    refine Nat.le_trans (pixTo_len _ _ _) ?_
    have h1 : w.toNat ≤ 32 := by omega
    have h2 : h.toNat ≤ 32 := by omega
    exact Nat.le_trans (Nat.mul_le_mul h1 h2) (by omega)
  · simp
end Go.Proofs.Ytgkidgpdgcdgnaa
