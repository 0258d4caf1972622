/- Encode, Decode, Head, ReadHead: each in one contract. -/
import Derived.Test.YtccdciokokcomaaDecW
import Derived.Test.YtccdciokokcomaaReadW
import Derived.Test.YtccdciokokcomaaSmall
namespace Go.Proofs.Ytccdciokokcomaa
open Go.RowKit

/-- a block's bytes, or none -/
def encL (x : Blk) : List Nat := if okB x = true then enc x else []
def encE (x : Blk) : Int := if okB x = true then 0 else 1
def decE (l : List Nat) : Int := if decOk l = true then 0 else 3
def isEnc (x : Blk) (r : Value) (w0 : World) (e : Ending) (w : World) : Prop := ∃ v, e = .returned (.tuple #[v, r]) ∧ isBytes (encL x) v w ∧ Below w0.heap.size w0 w
theorem nil_bytes (w : World) : isBytes [] (.slice none 0 0) w := ⟨none, 0, rfl, Nat.le_refl _, Bytes.nil _ _ _⟩
theorem enc_walk (x : Blk) (hs : x.sum < 4294967296) (w : World) : Calls Try.prog 9 #[.agg (tabCells tab), .agg (blkA x)] w fun e w' => isEnc x (.int .i64 (encE x)) w e w' := by
  cases h : okB x with
  | true =>
    refine (encA_yes x h hs w).mono fun e w' ⟨v, he, hv, hb⟩ => ?_
    unfold isEnc encL encE
    rw [h]
    exact ⟨v, he, hv.is, hb⟩
  | false =>
    refine (encA_no x h w).mono fun e w' ⟨he, hb⟩ => ?_
    unfold isEnc encL encE
    rw [h]
    exact ⟨_, he, nil_bytes _, hb⟩
theorem head_walk (x : Blk) (hs : x.sum < 4294967296) (w : World) : Calls Try.prog 10 #[.agg (blkA x)] w fun e w' => isEnc x (.bool (okB x)) w e w' := by
  cases h : okB x with
  | true =>
    refine (headA_yes x h hs w).mono fun e w' ⟨v, he, hv, hb⟩ => ?_
    unfold isEnc encL
    rw [h]
    exact ⟨v, he, hv.is, hb⟩
  | false =>
    refine (headA_no x h w).mono fun e w' ⟨he, hb⟩ => ?_
    unfold isEnc encL
    rw [h]
    exact ⟨_, he, nil_bytes _, hb⟩
theorem dec_cases (l : List Nat) : (l.length ≠ 32 ∧ decOk l = false) ∨ (l.length = 32 ∧ okB (read l) = false ∧ decOk l = false) ∨ (l.length = 32 ∧ okB (read l) = true ∧ decide (enc (read l) = l) = false ∧ decOk l = false) ∨ (l.length = 32 ∧ okB (read l) = true ∧ decide (enc (read l) = l) = true ∧ decOk l = true) := by
  unfold decOk
  by_cases h1 : l.length = 32
  · cases h2 : okB (read l)
    · exact .inr (.inl ⟨h1, rfl, by simp⟩)
    · cases h3 : decide (enc (read l) = l)
      · exact .inr (.inr (.inl ⟨h1, rfl, rfl, by simp⟩))
      · exact .inr (.inr (.inr ⟨h1, rfl, rfl, by simp [h1]⟩))
  · exact .inl ⟨h1, by simp [h1]⟩
theorem dec_walk (l : List Nat) (v : Value) (w : World) (hv : isBytes l v w) : Calls Try.prog 12 #[.agg (tabCells tab), v] w fun e w' => e = .returned (.tuple #[.agg (blkA (dec l)), .int .i64 (decE l)]) ∧ Below w.heap.size w w' := by
  unfold dec decE
  rcases dec_cases l with ⟨h1, h⟩ | ⟨h1, h2, h⟩ | ⟨h1, h2, h3, h⟩ | ⟨h1, h2, h3, h⟩
  · rw [h]; exact dec_short l v w hv h1
  · rw [h]; exact dec_no l v w hv h1 h2
  · rw [h]; exact dec_differs l v w hv h1 h2 h3
  · rw [h]; exact dec_yes l v w hv h1 h2 h3
theorem rd_walk (l : List Nat) (v : Value) (w : World) (hv : isBytes l v w) : Calls Try.prog 13 #[v] w fun e w' => e = .returned (.tuple #[.agg (blkA (dec l)), .bool (decOk l)]) ∧ Below w.heap.size w w' := by
  unfold dec
  rcases dec_cases l with ⟨h1, h⟩ | ⟨h1, h2, h⟩ | ⟨h1, h2, h3, h⟩ | ⟨h1, h2, h3, h⟩
  · rw [h]; exact rd_short l v w hv h1
  · rw [h]; exact rd_no l v w hv h1 h2
  · rw [h]; exact rd_differs l v w hv h1 h2 h3
  · rw [h]; exact rd_yes l v w hv h1 h2 h3
/-- the head that awake looks at -/
def blkX : Blk := ⟨258, 3, true, 5, 7, 9⟩
def blkD : Blk := ⟨0, 4, false, 0, 0, 0⟩
theorem okX : okB blkX = true := by decide
theorem okD : okB blkD = false := by decide
theorem decX : dec (enc blkX) = blkX ∧ decE (enc blkX) = 0 := by
  have h := decOk_enc blkX okX (by decide)
  unfold dec decE
  rw [h]
  exact ⟨read_enc blkX okX (by decide), rfl⟩
theorem dec0 : dec (List.replicate 32 0) = blk0 ∧ decE (List.replicate 32 0) = 3 := by
  have h : decOk (List.replicate 32 0) = false := by
    rcases dec_cases (List.replicate 32 0) with ⟨h1, h⟩ | ⟨h1, h2, h⟩ | ⟨h1, h2, h3, h⟩ | ⟨h1, h2, h3, h⟩
    · exact h
    · exact h
    · exact h
    · exfalso
      have h4 := of_decide_eq_true h3
      have h5 := congrArg (fun l : List Nat => l.getD 0 0) h4
      simp [enc, head, Go.Proofs.Ytccdciokokcomaa.h5, Go.Proofs.Ytccdciokokcomaa.h4, Go.Proofs.Ytccdciokokcomaa.h3, Go.Proofs.Ytccdciokokcomaa.h2, Go.Proofs.Ytccdciokokcomaa.h1] at h5
  unfold dec decE
  rw [h]
  exact ⟨rfl, rfl⟩
theorem encX : encL blkX = enc blkX ∧ encE blkX = 0 ∧ encE blkD = 1 := by
  unfold encL encE
  rw [okX, okD]
  exact ⟨rfl, rfl, rfl⟩
theorem takeX : (enc blkX).take 10 = [87, 65, 73, 78, 0, 0, 1, 2, 3, 1] := by
  have e : enc blkX = h2 blkX ++ (be 2 5 ++ (be 2 7 ++ (be 4 9 ++ (List.replicate 10 0 ++ be 4 (crcOn 0 (head blkX)))))) := by
    simp only [enc, head, h5, h4, h3, List.append_assoc]; rfl
  rw [e, List.take_left' (h2_length _)]
  decide
end Go.Proofs.Ytccdciokokcomaa
