/- The program's list and the reference's, turned side by side in a region that draws its order. -/
import Derived.Test.YtnedpmibmldbfaaReg
namespace Go.Proofs.Ytnedpmibmldbfaa
open Go.RowKit

/-- the two lists alike -/
structure Both (w : World) (k bE bY bP k' bL bQ n cap : Nat) (o : List Nat) (p : Nat → Bool) : Prop where
  x : IsX w k bE bY bP n o p
  m : IsM w k' bL bQ n cap o p
  s1 : k ≠ k' ∧ k ≠ bL ∧ k ≠ bQ
  s2 : bE ≠ k' ∧ bE ≠ bL ∧ bE ≠ bQ
  s3 : bY ≠ k' ∧ bY ≠ bL ∧ bY ≠ bQ
  s4 : bP ≠ k' ∧ bP ≠ bL ∧ bP ≠ bQ
theorem Both.below {w w' : World} {k bE bY bP k' bL bQ n cap : Nat} {o : List Nat} {p : Nat → Bool} (h : Both w k bE bY bP k' bL bQ n cap o p) (hb : Below w.heap.size w w') : Both w' k bE bY bP k' bL bQ n cap o p :=
  ⟨h.x.below hb h.x.lt, h.m.other (hb.block _ h.m.lt.1) (hb.block _ h.m.lt.2.1) (hb.block _ h.m.lt.2.2), h.s1, h.s2, h.s3, h.s4⟩

/-- between the start w0 and the end of such a region -/
def BothC (w0 : World) (X0 X1 M0 M1 : World → Prop) (L : List Nat) : Cls where
  inv := fun w => (X0 w ∨ X1 w) ∧ (M0 w ∨ M1 w) ∧ Only L w0 w
  rel := fun w w' => (X1 w → X1 w') ∧ (M1 w → M1 w')
  refl := fun _ => ⟨id, id⟩
  trans := fun _ _ _ h k => ⟨fun x => k.1 (h.1 x), fun x => k.2 (h.2 x)⟩

theorem touchX_ok {w0 : World} {k bE bY bP k' bL bQ n cap : Nat} {o : List Nat} {p : Nat → Bool} (j : Nat) (hB : Both w0 k bE bY bP k' bL bQ n cap o p) (hj : j < n)
    (w : World) (hI : BothC w0 (fun w => IsX w k bE bY bP n o p) (fun w => IsX w k bE bY bP n (tch j o) p) (fun w => IsM w k' bL bQ n cap o p) (fun w => ∃ g c, IsM w k' g bQ n c (tch j o) p ∧ w0.heap.size ≤ g) [bE, bY, k'] w) :
    CallOk Try.prog (BothC w0 (fun w => IsX w k bE bY bP n o p) (fun w => IsX w k bE bY bP n (tch j o) p) (fun w => IsM w k' bL bQ n cap o p) (fun w => ∃ g c, IsM w k' g bQ n c (tch j o) p ∧ w0.heap.size ≤ g) [bE, bY, k']) 10 #[.pointer (some ⟨k, 0, none⟩), .int .i64 (j : Int)] w
      (fun v w => v = .int .i64 0 ∧ IsX w k bE bY bP n (tch j o) p) := by
  obtain ⟨hx, hm, ho⟩ := hI
  have hs1 := hB.s1; have hs2 := hB.s2; have hs3 := hB.s3
  have hlt := hB.x.lt
  have hmo : ∀ {w' : World}, Only [bE, bY] w w' → (IsM w k' bL bQ n cap o p → IsM w' k' bL bQ n cap o p) ∧ ((∃ g c, IsM w k' g bQ n c (tch j o) p ∧ w0.heap.size ≤ g) → ∃ g c, IsM w' k' g bQ n c (tch j o) p ∧ w0.heap.size ≤ g) := fun hO =>
    ⟨fun h => h.only hO (by simp; omega), fun ⟨g, c, h, hg⟩ => ⟨g, c, h.only hO (by simp; omega), hg⟩⟩
  have fin : ∀ o', IsX w k bE bY bP n o' p → tch j o' = tch j o → CallOk Try.prog (BothC w0 (fun w => IsX w k bE bY bP n o p) (fun w => IsX w k bE bY bP n (tch j o) p) (fun w => IsM w k' bL bQ n cap o p) (fun w => ∃ g c, IsM w k' g bQ n c (tch j o) p ∧ w0.heap.size ≤ g) [bE, bY, k']) 10 #[.pointer (some ⟨k, 0, none⟩), .int .i64 (j : Int)] w
      (fun v w => v = .int .i64 0 ∧ IsX w k bE bY bP n (tch j o) p) := fun o' h e =>
    (Touch_is j h hj).mono fun r w' ⟨h1, h2, h3⟩ => by
      rw [e] at h2
      exact ⟨_, h1, ⟨.inr h2, hm.imp (hmo h3).1 (hmo h3).2, ho.trans (h3.mono (by simp +contextual))⟩, ⟨fun _ => h2, (hmo h3).2⟩, rfl, h2⟩
  rcases hx with hx | hx
  · exact fin _ hx rfl
  · exact fin _ hx (tch_tch _ _)
theorem touchM_ok {w0 : World} {k bE bY bP k' bL bQ n cap : Nat} {o : List Nat} {p : Nat → Bool} (j : Nat) (hB : Both w0 k bE bY bP k' bL bQ n cap o p) (hj : j < n)
    (w : World) (hI : BothC w0 (fun w => IsX w k bE bY bP n o p) (fun w => IsX w k bE bY bP n (tch j o) p) (fun w => IsM w k' bL bQ n cap o p) (fun w => ∃ g c, IsM w k' g bQ n c (tch j o) p ∧ w0.heap.size ≤ g) [bE, bY, k'] w) :
    CallOk Try.prog (BothC w0 (fun w => IsX w k bE bY bP n o p) (fun w => IsX w k bE bY bP n (tch j o) p) (fun w => IsM w k' bL bQ n cap o p) (fun w => ∃ g c, IsM w k' g bQ n c (tch j o) p ∧ w0.heap.size ≤ g) [bE, bY, k']) 11 #[.pointer (some ⟨k', 0, none⟩), .int .i64 (j : Int)] w
      (fun v w => v = .int .i64 0 ∧ ∃ g c, IsM w k' g bQ n c (tch j o) p ∧ w0.heap.size ≤ g) := by
  obtain ⟨hx, hm, ho⟩ := hI
  have hs1 := hB.s1; have hs2 := hB.s2; have hs3 := hB.s3; have hs4 := hB.s4
  have hxo : ∀ {w' : World} {o' : List Nat}, Only [k'] w w' → IsX w k bE bY bP n o' p → IsX w' k bE bY bP n o' p := fun hO h => h.only hO (by simp; omega)
  have hsz := ho.size
  have fin : ∀ bL' c' o', IsM w k' bL' bQ n c' o' p → tch j o' = tch j o → CallOk Try.prog (BothC w0 (fun w => IsX w k bE bY bP n o p) (fun w => IsX w k bE bY bP n (tch j o) p) (fun w => IsM w k' bL bQ n cap o p) (fun w => ∃ g c, IsM w k' g bQ n c (tch j o) p ∧ w0.heap.size ≤ g) [bE, bY, k']) 11 #[.pointer (some ⟨k', 0, none⟩), .int .i64 (j : Int)] w
      (fun v w => v = .int .i64 0 ∧ ∃ g c, IsM w k' g bQ n c (tch j o) p ∧ w0.heap.size ≤ g) := fun bL' c' o' h e =>
    (RTouch_walk j h hj).mono fun r w' ⟨h1, g, c, h2, h3, h4⟩ => by
      rw [e] at h2
      have hM : ∃ g c, IsM w' k' g bQ n c (tch j o) p ∧ w0.heap.size ≤ g := ⟨g, c, h2, by omega⟩
      exact ⟨_, h1, ⟨hx.imp (hxo h4) (hxo h4), .inr hM, ho.trans (h4.mono (by simp))⟩, ⟨hxo h4, fun _ => hM⟩, rfl, hM⟩
  rcases hm with hm | ⟨g, c, hm, _⟩
  · exact fin _ _ _ hm rfl
  · exact fin _ _ _ hm (tch_tch _ _)

theorem putB_putB (p : Nat → Bool) (j : Nat) : putB (putB p j) j = putB p j := by
  funext i; unfold putB; split <;> rfl
theorem pinX_ok {w0 : World} {k bE bY bP k' bL bQ n cap : Nat} {o : List Nat} {p : Nat → Bool} (j : Nat) (hB : Both w0 k bE bY bP k' bL bQ n cap o p) (hj : j < n)
    (w : World) (hI : BothC w0 (fun w => IsX w k bE bY bP n o p) (fun w => IsX w k bE bY bP n o (putB p j)) (fun w => IsM w k' bL bQ n cap o p) (fun w => IsM w k' bL bQ n cap o (putB p j)) [bP, bQ] w) :
    CallOk Try.prog (BothC w0 (fun w => IsX w k bE bY bP n o p) (fun w => IsX w k bE bY bP n o (putB p j)) (fun w => IsM w k' bL bQ n cap o p) (fun w => IsM w k' bL bQ n cap o (putB p j)) [bP, bQ]) 12 #[.pointer (some ⟨k, 0, none⟩), .int .i64 (j : Int)] w
      (fun v w => v = .int .i64 0 ∧ IsX w k bE bY bP n o (putB p j)) := by
  obtain ⟨hx, hm, ho⟩ := hI
  have hs4 := hB.s4
  have hmo : ∀ {w' : World} {p' : Nat → Bool}, Only [bP] w w' → IsM w k' bL bQ n cap o p' → IsM w' k' bL bQ n cap o p' := fun hO h => h.only hO (by simp; omega)
  have fin : ∀ p', IsX w k bE bY bP n o p' → putB p' j = putB p j → CallOk Try.prog (BothC w0 (fun w => IsX w k bE bY bP n o p) (fun w => IsX w k bE bY bP n o (putB p j)) (fun w => IsM w k' bL bQ n cap o p) (fun w => IsM w k' bL bQ n cap o (putB p j)) [bP, bQ]) 12 #[.pointer (some ⟨k, 0, none⟩), .int .i64 (j : Int)] w
      (fun v w => v = .int .i64 0 ∧ IsX w k bE bY bP n o (putB p j)) := fun p' h e =>
    (Pin_is j h hj).mono fun r w' ⟨h1, h2, h3⟩ => by
      rw [e] at h2
      exact ⟨_, h1, ⟨.inr h2, hm.imp (hmo h3) (hmo h3), ho.trans (h3.mono (by simp))⟩, ⟨fun _ => h2, hmo h3⟩, rfl, h2⟩
  rcases hx with hx | hx
  · exact fin _ hx rfl
  · exact fin _ hx (putB_putB _ _)
theorem pinM_ok {w0 : World} {k bE bY bP k' bL bQ n cap : Nat} {o : List Nat} {p : Nat → Bool} (j : Nat) (hB : Both w0 k bE bY bP k' bL bQ n cap o p) (hj : j < n)
    (w : World) (hI : BothC w0 (fun w => IsX w k bE bY bP n o p) (fun w => IsX w k bE bY bP n o (putB p j)) (fun w => IsM w k' bL bQ n cap o p) (fun w => IsM w k' bL bQ n cap o (putB p j)) [bP, bQ] w) :
    CallOk Try.prog (BothC w0 (fun w => IsX w k bE bY bP n o p) (fun w => IsX w k bE bY bP n o (putB p j)) (fun w => IsM w k' bL bQ n cap o p) (fun w => IsM w k' bL bQ n cap o (putB p j)) [bP, bQ]) 13 #[.pointer (some ⟨k', 0, none⟩), .int .i64 (j : Int)] w
      (fun v w => v = .int .i64 0 ∧ IsM w k' bL bQ n cap o (putB p j)) := by
  obtain ⟨hx, hm, ho⟩ := hI
  have hs1 := hB.s1; have hs2 := hB.s2; have hs3 := hB.s3; have hs4 := hB.s4
  have hxo : ∀ {w' : World} {p' : Nat → Bool}, Only [bQ] w w' → IsX w k bE bY bP n o p' → IsX w' k bE bY bP n o p' := fun hO h => h.only hO (by simp; omega)
  have fin : ∀ p', IsM w k' bL bQ n cap o p' → putB p' j = putB p j → CallOk Try.prog (BothC w0 (fun w => IsX w k bE bY bP n o p) (fun w => IsX w k bE bY bP n o (putB p j)) (fun w => IsM w k' bL bQ n cap o p) (fun w => IsM w k' bL bQ n cap o (putB p j)) [bP, bQ]) 13 #[.pointer (some ⟨k', 0, none⟩), .int .i64 (j : Int)] w
      (fun v w => v = .int .i64 0 ∧ IsM w k' bL bQ n cap o (putB p j)) := fun p' h e =>
    (RPin_is j h hj).mono fun r w' ⟨h1, h2, h3⟩ => by
      rw [e] at h2
      exact ⟨_, h1, ⟨hx.imp (hxo h3) (hxo h3), .inr h2, ho.trans (h3.mono (by simp))⟩, ⟨hxo h3, fun _ => h2⟩, rfl, h2⟩
  rcases hm with hm | hm
  · exact fin _ hm rfl
  · exact fin _ hm (putB_putB _ _)
end Go.Proofs.Ytnedpmibmldbfaa
