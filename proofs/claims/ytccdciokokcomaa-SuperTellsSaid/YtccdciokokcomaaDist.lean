/- Up to 16000 rounds of the register bring 16000 unlike states (by reckoning). -/
import Derived.Test.YtccdciokokcomaaPlain
namespace Go.Proofs.Ytccdciokokcomaa

noncomputable def dStep (c : Nat) : Nat := Nat.xor (Nat.div c 2) (Nat.mul (Nat.mod c 2) 3988292384)
noncomputable def gen (n : Nat) : Nat → List Nat := Nat.rec (fun _ => []) (fun _ ih c => (Nat.div c 2) :: ih (dStep c)) n
noncomputable def keep (b v : Nat) (l : List Nat) : List Nat := List.rec [] (fun x _ ih => cond (Nat.beq (Nat.mod (Nat.shiftRight x b) 2) v) (x :: ih) ih) l
/-- are all in l unlike, by their bits from b - 1 down? -/
noncomputable def unlike (b : Nat) : List Nat → Bool := Nat.rec (fun l => match l with | [] => true | [_] => true | _ => false) (fun b ih l => match l with
    | [] => true
    | [_] => true
    | l => cond (ih (keep b 0 l)) (ih (keep b 1 l)) false) b

set_option maxRecDepth 100000 in
theorem all_unlike : unlike 31 (gen 16000 1) = true := by decide +kernel

theorem keep_cons (b v x : Nat) (l : List Nat) : keep b v (x :: l) = cond (Nat.beq (Nat.mod (Nat.shiftRight x b) 2) v) (x :: keep b v l) (keep b v l) := rfl
theorem keep_filter (b v : Nat) (l : List Nat) : keep b v l = l.filter (fun x => Nat.beq (Nat.mod (Nat.shiftRight x b) 2) v) := by
  induction l with
  | nil => rfl
  | cons x l ih =>
    rw [keep_cons, ih, List.filter_cons]
    cases Nat.beq (Nat.mod (Nat.shiftRight x b) 2) v <;> rfl
theorem unlike_succ (b x y : Nat) (l : List Nat) : unlike (b + 1) (x :: y :: l) = cond (unlike b (keep b 0 (x :: y :: l))) (unlike b (keep b 1 (x :: y :: l))) false := rfl
/-- no two places hold the same -/
def Apart (l : List Nat) : Prop := l.Pairwise (· ≠ ·)
theorem apart_of_filters (p : Nat → Nat) (l : List Nat) (h0 : Apart (l.filter (fun x => Nat.beq (p x) 0))) (h1 : Apart (l.filter (fun x => Nat.beq (p x) 1))) (hp : ∀ x, p x = 0 ∨ p x = 1) : Apart l := by
  induction l with
  | nil => exact List.Pairwise.nil
  | cons x l ih =>
    have hsub : ∀ v, Apart ((x :: l).filter (fun x => Nat.beq (p x) v)) → Apart (l.filter (fun x => Nat.beq (p x) v)) := fun v h =>
      List.Pairwise.sublist (List.Sublist.filter _ (List.sublist_cons_self x l)) h
    refine List.Pairwise.cons ?_ (ih (hsub 0 h0) (hsub 1 h1))
    intro y hy e
    subst e
    rcases hp x with hx | hx
    · rw [List.filter_cons, if_pos (by rw [hx]; rfl)] at h0
      exact (List.pairwise_cons.1 h0).1 x (List.mem_filter.2 ⟨hy, by rw [hx]; rfl⟩) rfl
    · rw [List.filter_cons, if_pos (by rw [hx]; rfl)] at h1
      exact (List.pairwise_cons.1 h1).1 x (List.mem_filter.2 ⟨hy, by rw [hx]; rfl⟩) rfl
theorem unlike_apart (b : Nat) : ∀ l, unlike b l = true → Apart l := by
  induction b with
  | zero =>
    intro l h
    match l, h with
    | [], _ => exact List.Pairwise.nil
    | [x], _ => exact List.pairwise_singleton _ _
    | _ :: _ :: _, h => exact absurd h (by simp [unlike])
  | succ b ih =>
    intro l h
    match l, h with
    | [], _ => exact List.Pairwise.nil
    | [x], _ => exact List.pairwise_singleton _ _
    | x :: y :: l, h =>
      rw [unlike_succ] at h
      have h0 : unlike b (keep b 0 (x :: y :: l)) = true := by
        cases h' : unlike b (keep b 0 (x :: y :: l)) with
        | true => rfl
        | false => rw [h'] at h; exact absurd h (by simp)
      rw [h0] at h
      have h1 : unlike b (keep b 1 (x :: y :: l)) = true := h
      have a0 := ih _ h0
      have a1 := ih _ h1
      rw [keep_filter] at a0 a1
      refine apart_of_filters (fun x => Nat.mod (Nat.shiftRight x b) 2) _ a0 a1 (fun x => ?_)
      have : Nat.mod (Nat.shiftRight x b) 2 < 2 := Nat.mod_lt _ (by omega)
      omega

/-- the register behind k rounds -/
def pw (k : Nat) : Nat := bitSteps k 1
theorem dStep_eq (c : Nat) : dStep c = bitStep c := by
  unfold dStep bitStep
  show (c / 2) ^^^ ((c % 2) * 3988292384) = _
  have h : c % 2 = 0 ∨ c % 2 = 1 := by omega
  rcases h with h | h <;> simp [h]
theorem gen_get (n : Nat) : ∀ c i, i < n → (gen n c)[i]? = some (bitSteps i c / 2) := by
  induction n with
  | zero => intro c i h; omega
  | succ n ih =>
    intro c i h
    have e : gen (n + 1) c = (c / 2) :: gen n (dStep c) := rfl
    rw [e]
    cases i with
    | zero => rfl
    | succ i => rw [List.getElem?_cons_succ, ih _ i (by omega), dStep_eq]; rfl
theorem gen_length (n : Nat) : ∀ c, (gen n c).length = n := by
  induction n with
  | zero => intro c; rfl
  | succ n ih => intro c; have e : gen (n + 1) c = (c / 2) :: gen n (dStep c) := rfl; rw [e, List.length_cons, ih]
theorem pw_unlike (i j : Nat) (hij : i < j) (hj : j < 16000) : pw i / 2 ≠ pw j / 2 := by
  have h := unlike_apart _ _ all_unlike
  have hl := gen_length 16000 1
  have := (List.pairwise_iff_getElem.1 h) i j (by omega) (by omega) hij
  have gi := gen_get 16000 1 i (by omega)
  have gj := gen_get 16000 1 j hj
  rw [List.getElem?_eq_getElem (by omega)] at gi gj
  simp only [Option.some.injEq] at gi gj
  rw [gi, gj] at this
  exact this
end Go.Proofs.Ytccdciokokcomaa
