/- Who was used last, plainly: a ring of neighbours, an order, and what is found of it. -/
import Derived.Test.YtnedpmibmldbfaaRows
namespace Go.Proofs.Ytnedpmibmldbfaa

def put (f : Nat → Nat) (i v : Nat) : Nat → Nat := fun j => if j = i then v else f j
def putB (f : Nat → Bool) (i : Nat) : Nat → Bool := fun j => if j = i then true else f j
def Ring (e y : Nat → Nat) : List Nat → Prop
  | a :: b :: l => (y a = b ∧ e b = a) ∧ Ring e y (b :: l)
  | _ => True
theorem ring_split (e y : Nat → Nat) (a : Nat) (l2 : List Nat) : ∀ l1 : List Nat, Ring e y (l1 ++ a :: l2) ↔ Ring e y (l1 ++ [a]) ∧ Ring e y (a :: l2)
  | [] => by simp [Ring]
  | [x] => by simp [Ring]
  | x :: z :: r => by
    have := ring_split e y a l2 (z :: r)
    simp only [List.cons_append] at this ⊢
    simp only [Ring, this, and_assoc]
theorem ring_congr (e y e' y' : Nat → Nat) : ∀ l : List Nat, Ring e y l → (∀ x ∈ l.dropLast, y' x = y x) → (∀ x ∈ l.tail, e' x = e x) → Ring e' y' l
  | [], _, _, _ => trivial
  | [_], _, _, _ => trivial
  | a :: b :: l, h, h1, h2 => by
    refine ⟨⟨?_, ?_⟩, ring_congr e y e' y' (b :: l) h.2 (fun x hx => h1 x ?_) (fun x hx => h2 x ?_)⟩
    · rw [h1 a (by simp)]; exact h.1.1
    · rw [h2 b (by simp)]; exact h.1.2
    · simp only [List.dropLast_cons_cons]; exact List.mem_cons_of_mem _ hx
    · simp only [List.tail_cons] at hx ⊢; exact List.mem_cons_of_mem _ hx

structure OkOrd (n : Nat) (o : List Nat) : Prop where
  nodup : o.Nodup
  lt : ∀ x ∈ o, x < n
  all : ∀ x, x < n → x ∈ o
  len : o.length = n
theorem okOrd_range (n : Nat) : OkOrd n (List.range n) := ⟨List.nodup_range, fun x hx => by simpa using hx, fun x hx => by simpa using hx, by simp⟩

def tch (i : Nat) (o : List Nat) : List Nat := o.filter (fun x => !(x == i)) ++ [i]
theorem filter_ne_self (l : List Nat) (i : Nat) (h : i ∉ l) : l.filter (fun x => !(x == i)) = l := by
  rw [List.filter_eq_self]
  intro x hx
  have : x ≠ i := fun e => h (e ▸ hx)
  simpa using this
theorem tch_split (pre post : List Nat) (i : Nat) (h : (pre ++ i :: post).Nodup) : tch i (pre ++ i :: post) = pre ++ post ++ [i] := by
  rw [List.nodup_append] at h
  obtain ⟨h1, h2, h3⟩ := h
  rw [List.nodup_cons] at h2
  unfold tch
  rw [List.filter_append, List.filter_cons, filter_ne_self pre i (fun hi => h3 i hi i (by simp) rfl), filter_ne_self post i h2.1]
  simp
theorem okOrd_tch {n : Nat} {o : List Nat} (h : OkOrd n o) (i : Nat) (hi : i < n) : OkOrd n (tch i o) := by
  refine ⟨?_, ?_, ?_, ?_⟩
  · unfold tch
    rw [List.nodup_append]
    refine ⟨h.nodup.filter _, by simp, ?_⟩
    intro a ha b hb
    simp at ha hb
    subst hb; exact ha.2
  · intro x hx
    simp [tch] at hx
    rcases hx with hx | rfl
    · exact h.lt x hx.1
    · exact hi
  · intro x hx
    by_cases e : x = i
    · simp [tch, e]
    · simp [tch, e, h.all x hx]
  · obtain ⟨pre, post, rfl⟩ := List.append_of_mem (h.all i hi)
    rw [tch_split _ _ _ h.nodup, ← h.len]; simp
    try omega
theorem tch_tch (i : Nat) (o : List Nat) : tch i (tch i o) = tch i o := by
  unfold tch
  rw [List.filter_append, List.filter_filter]
  simp

theorem ring_touch {n : Nat} {o : List Nat} {e y : Nat → Nat} (ho : OkOrd n o) (hr : Ring e y (n :: (o ++ [n]))) (i : Nat) (hi : i < n)
    (a b last : Nat) (ha : e i = a) (hb : y i = b) (hl : put e b a n = last) :
    a ≤ n ∧ b ≤ n ∧ last ≤ n ∧ Ring (put (put (put e b a) i last) n i) (put (put (put y a b) last i) i n) (n :: (tch i o ++ [n])) := by
  obtain ⟨pre, post, rfl⟩ := List.append_of_mem (ho.all i hi)
  rw [tch_split _ _ _ ho.nodup]
  have hnd := ho.nodup
  have hlt := ho.lt
  rw [List.nodup_append, List.nodup_cons] at hnd
  obtain ⟨n1, ⟨n2, n3⟩, n4⟩ := hnd
  have e1 : n :: (pre ++ i :: post ++ [n]) = (n :: pre) ++ i :: (post ++ [n]) := by simp
  rw [e1, ring_split] at hr
  obtain ⟨r1, r2⟩ := hr
  obtain ⟨P, c, hP⟩ : ∃ P c, n :: pre = P ++ [c] := ⟨(n :: pre).dropLast, (n :: pre).getLast (by simp), (List.dropLast_concat_getLast (by simp)).symm⟩
  obtain ⟨d, Q, hQ⟩ : ∃ d Q, post ++ [n] = d :: Q := by
    cases post with
    | nil => exact ⟨n, [], rfl⟩
    | cons x r => exact ⟨x, r ++ [n], rfl⟩
  rw [hP, List.append_assoc, List.cons_append, List.nil_append, ring_split] at r1
  obtain ⟨r1, r3⟩ := r1
  rw [hQ] at r2
  obtain rfl : c = a := by rw [← ha]; exact r3.1.2.symm
  obtain rfl : d = b := by rw [← hb]; exact r2.1.1.symm
  have r2 := r2.2
  have hnpre : n ∉ pre := fun h => by have := hlt n (by simp [h]); omega
  have hnpost : n ∉ post := fun h => by have := hlt n (by simp [h]); omega
  have hcm : c ∈ n :: pre := by rw [hP]; simp
  have hdm : d ∈ post ++ [n] := by rw [hQ]; simp
  have hc : c ≤ n := by
    rcases List.mem_cons.1 hcm with h | h
    · omega
    · have := hlt c (by simp [h]); omega
  have hd : d ≤ n := by
    rcases List.mem_append.1 hdm with h | h
    · have := hlt d (by simp [h]); omega
    · have : d = n := by simpa using h
      omega
  have nd1 : (n :: pre).Nodup := by rw [List.nodup_cons]; exact ⟨hnpre, n1⟩
  have nd2 : (post ++ [n]).Nodup := by
    rw [List.nodup_append]
    refine ⟨n3, by simp, fun x hx z hz => ?_⟩
    have : z = n := by simpa using hz
    subst this; exact fun e => hnpost (e ▸ hx)
  -- behind the first step: i is out
  have hring1 : Ring (put e d c) (put y c d) ((n :: pre) ++ (post ++ [n])) := by
    rw [hQ, hP, List.append_assoc, List.cons_append, List.nil_append, ring_split]
    have hPc : ∀ x ∈ P, x ≠ c := fun x hx e => by
      rw [hP, List.nodup_append] at nd1
      exact nd1.2.2 x hx c (by simp) e
    have hdQ : d ∉ Q := by rw [hQ, List.nodup_cons] at nd2; exact nd2.1
    refine ⟨ring_congr _ _ _ _ _ r1 (fun x hx => ?_) (fun x hx => ?_), ⟨⟨by simp [put], by simp [put]⟩, ?_⟩⟩
    · rw [List.dropLast_concat] at hx
      have := hPc x hx
      simp [put, this]
    · rw [← hP] at hx
      simp only [List.tail_cons] at hx
      have : x ≠ d := fun e => by
        subst e
        rcases List.mem_append.1 hdm with h | h
        · exact n4 x hx x (by simp [h]) rfl
        · exact hnpre ((show x = n by simpa using h) ▸ hx)
      simp [put, this]
    · refine ring_congr _ _ _ _ _ r2 (fun x hx => ?_) (fun x hx => ?_)
      · have hx' : x ∈ post := by
          have : (d :: Q).dropLast = post := by rw [← hQ, List.dropLast_concat]
          rw [this] at hx; exact hx
        have : x ≠ c := fun e => by
          subst e
          rcases List.mem_cons.1 hcm with h | h
          · exact hnpost (h ▸ hx')
          · exact n4 x h x (by simp [hx']) rfl
        simp [put, this]
      · simp only [List.tail_cons] at hx
        have : x ≠ d := fun e => hdQ (e ▸ hx)
        simp [put, this]
  -- who is last now
  have e2 : (n :: pre) ++ (post ++ [n]) = (n :: (pre ++ post)) ++ [n] := by simp
  rw [e2] at hring1
  obtain ⟨P2, c2, hP2⟩ : ∃ P2 c2, n :: (pre ++ post) = P2 ++ [c2] := ⟨(n :: (pre ++ post)).dropLast, (n :: (pre ++ post)).getLast (by simp), (List.dropLast_concat_getLast (by simp)).symm⟩
  rw [hP2, List.append_assoc, List.cons_append, List.nil_append, ring_split] at hring1
  obtain ⟨q1, q2⟩ := hring1
  have hlast : c2 = last := by rw [← hl]; exact q2.1.2.symm
  subst hlast
  have hc2m : c2 ∈ n :: (pre ++ post) := by rw [hP2]; simp
  have hc2 : c2 ≤ n := by
    rcases List.mem_cons.1 hc2m with h | h
    · omega
    · have := hlt c2 (by rcases List.mem_append.1 h with h | h <;> simp [h]); omega
  refine ⟨hc, hd, hc2, ?_⟩
  have nd3 : (n :: (pre ++ post)).Nodup := by
    rw [List.nodup_cons, List.nodup_append]
    exact ⟨by simp [hnpre, hnpost], n1, n3, fun x hx z hz => n4 x hx z (by simp [hz])⟩
  have hin : i ∉ n :: (pre ++ post) := by
    intro h
    rcases List.mem_cons.1 h with h | h
    · omega
    · rcases List.mem_append.1 h with h | h
      · exact n4 i h i (by simp) rfl
      · exact n2 h
  have hci : c2 ≠ i := fun e => hin (e ▸ hc2m)
  have hni : n ≠ i := by omega
  have e3 : n :: (pre ++ post ++ [i] ++ [n]) = P2 ++ c2 :: [i, n] := by
    have : n :: (pre ++ post ++ [i] ++ [n]) = (n :: (pre ++ post)) ++ [i, n] := by simp
    rw [this, hP2]; simp
  rw [e3, ring_split]
  refine ⟨ring_congr _ _ _ _ _ q1 (fun x hx => ?_) (fun x hx => ?_), ⟨?_, ?_⟩, ⟨?_, ?_⟩, trivial⟩
  · rw [List.dropLast_concat] at hx
    have h1 : x ≠ c2 := fun e => by
      rw [hP2, List.nodup_append] at nd3
      exact nd3.2.2 x hx c2 (by simp) e
    have h2 : x ≠ i := fun e => hin (by rw [hP2, ← e]; simp [hx])
    simp [put, h1, h2]
  · rw [← hP2] at hx
    simp only [List.tail_cons] at hx
    have h1 : x ≠ i := fun e => hin (by rw [← e]; exact List.mem_cons_of_mem _ hx)
    have h2 : x ≠ n := fun e => by
      subst e
      rw [List.nodup_cons] at nd3
      exact nd3.1 hx
    simp [put, h1, h2]
  · simp [put, hci]
  · simp [put, Ne.symm hni]
  · simp [put]
  · simp [put]

def hd (n : Nat) : List Nat → Nat
  | [] => n
  | x :: _ => x
theorem ring_next {n : Nat} {o : List Nat} {e y : Nat → Nat} (hr : Ring e y (n :: (o ++ [n]))) (pre : List Nat) (x : Nat) (r : List Nat) (h : o = pre ++ x :: r) : y x = hd n r := by
  subst h
  have e1 : n :: (pre ++ x :: r ++ [n]) = (n :: pre) ++ x :: (r ++ [n]) := by simp
  rw [e1, ring_split] at hr
  cases r with
  | nil => exact hr.2.1.1
  | cons z r => exact hr.2.1.1
theorem ring_first {n : Nat} {o : List Nat} {e y : Nat → Nat} (hr : Ring e y (n :: (o ++ [n]))) : y n = hd n o := by
  cases o with
  | nil => exact hr.1.1
  | cons z r => exact hr.1.1
theorem ring_new (n : Nat) (e y : Nat → Nat) (he : ∀ i, i ≤ n → e i = (i + n) % (n + 1)) (hy : ∀ i, i ≤ n → y i = (i + 1) % (n + 1)) : Ring e y (n :: (List.range n ++ [n])) := by
  have hgo : ∀ m k, k + m = n → Ring e y (List.range' k m ++ [n]) := by
    intro m
    induction m with
    | zero => intro k h; simp [Ring]
    | succ m ih =>
      intro k h
      have ih' := ih (k + 1) (by omega)
      rw [List.range'_succ, List.cons_append]
      cases m with
      | zero =>
        have : k + 1 = n := by omega
        subst this
        simp only [List.range'_zero, List.nil_append]
        refine ⟨⟨?_, ?_⟩, trivial⟩
        · rw [hy k (by omega), Nat.mod_eq_of_lt (by omega)]
        · rw [he (k + 1) (by omega)]
          have : k + 1 + (k + 1) = k + (k + 1 + 1) := by omega
          rw [this, Nat.add_mod_right, Nat.mod_eq_of_lt (by omega)]
      | succ m =>
        rw [List.range'_succ, List.cons_append] at ih' ⊢
        refine ⟨⟨?_, ?_⟩, ih'⟩
        · rw [hy k (by omega), Nat.mod_eq_of_lt (by omega)]
        · rw [he (k + 1) (by omega)]
          have : k + 1 + n = k + (n + 1) := by omega
          rw [this, Nat.add_mod_right, Nat.mod_eq_of_lt (by omega)]
  have h0 := hgo n 0 (by omega)
  rw [← List.range_eq_range'] at h0
  cases n with
  | zero => 
    refine ⟨⟨?_, ?_⟩, trivial⟩
    · rw [hy 0 (by omega)]
    · rw [he 0 (by omega)]
  | succ n =>
    rw [List.range_succ_eq_map, List.cons_append] at h0 ⊢
    refine ⟨⟨?_, ?_⟩, h0⟩
    · rw [hy (n + 1) (by omega), Nat.mod_self]
    · rw [he 0 (by omega), Nat.zero_add, Nat.mod_eq_of_lt (by omega)]

/-! used in a row -/
def tchs (o : List Nat) (ks : List Nat) : List Nat := ks.foldl (fun o k => tch k o) o
theorem tchs_snoc (o ks : List Nat) (k : Nat) : tchs o (ks ++ [k]) = tch k (tchs o ks) := by simp [tchs]
theorem okOrd_tchs {n : Nat} {ks : List Nat} (hk : ∀ k ∈ ks, k < n) : ∀ {o : List Nat}, OkOrd n o → OkOrd n (tchs o ks) := by
  induction ks with
  | nil => intro o h; exact h
  | cons k ks ih => intro o h; exact ih (fun x hx => hk x (by simp [hx])) (okOrd_tch h k (hk k (by simp)))
def lasts : List Nat → List Nat
  | [] => []
  | k :: ks => if k ∈ ks then lasts ks else k :: lasts ks
theorem mem_lasts (x : Nat) : ∀ ks, x ∈ lasts ks ↔ x ∈ ks
  | [] => by simp [lasts]
  | k :: ks => by
    unfold lasts
    split
    · rename_i h
      rw [mem_lasts x ks]
      constructor
      · intro hx; simp [hx]
      · intro hx
        rcases List.mem_cons.1 hx with rfl | hx
        · exact h
        · exact hx
    · simp [mem_lasts x ks]
theorem lasts_nodup : ∀ ks, lasts (lasts ks) = lasts ks
  | [] => rfl
  | k :: ks => by
    by_cases h : k ∈ ks
    · have e : lasts (k :: ks) = lasts ks := by rw [lasts, if_pos h]
      rw [e, lasts_nodup ks]
    · have e : lasts (k :: ks) = k :: lasts ks := by rw [lasts, if_neg h]
      have h2 : k ∉ lasts ks := fun hk => h ((mem_lasts k ks).1 hk)
      rw [e, lasts, if_neg h2, lasts_nodup ks]
theorem tchs_eq (ks : List Nat) : ∀ o, tchs o ks = o.filter (fun x => decide (x ∉ ks)) ++ lasts ks := by
  induction ks with
  | nil => intro o; rw [List.filter_eq_self.2 (fun x _ => by simp)]; simp [tchs, lasts]
  | cons k ks ih =>
    intro o
    have e : tchs o (k :: ks) = tchs (tch k o) ks := rfl
    rw [e, ih (tch k o)]
    unfold tch
    rw [List.filter_append, List.filter_filter]
    have e2 : (fun x => decide (x ∉ ks) && !(x == k)) = fun x => decide (x ∉ k :: ks) := by
      funext x
      by_cases h1 : x = k <;> by_cases h2 : x ∈ ks <;> simp [h1, h2]
    rw [e2, List.append_assoc]
    congr 1
    by_cases h : k ∈ ks
    · have e : lasts (k :: ks) = lasts ks := by rw [lasts, if_pos h]
      rw [e]; simp [h]
    · have e : lasts (k :: ks) = k :: lasts ks := by rw [lasts, if_neg h]
      rw [e]; simp [h]
theorem tchs_lasts (o ks : List Nat) : tchs o (lasts ks) = tchs o ks := by
  rw [tchs_eq, tchs_eq, lasts_nodup]
  congr 2
  funext x
  simp [mem_lasts]
def selTo : List Nat → Nat → List Nat
  | [], _ => []
  | _ :: _, 0 => []
  | k :: ks, i + 1 => if k ∈ ks then selTo ks i else k :: selTo ks i
theorem selTo_zero (ks : List Nat) : selTo ks 0 = [] := by cases ks <;> rfl
theorem selTo_succ : ∀ (ks : List Nat) (i : Nat) (h : i < ks.length), selTo ks (i + 1) = if ks.getD i 0 ∈ ks.drop (i + 1) then selTo ks i else selTo ks i ++ [ks.getD i 0]
  | [], i, h => by simp at h
  | k :: ks, 0, h => by simp [selTo, selTo_zero]
  | k :: ks, i + 1, h => by
    have := selTo_succ ks i (by simpa using h)
    rw [selTo, this, selTo]
    simp only [List.getD_cons_succ, List.drop_succ_cons]
    by_cases h1 : k ∈ ks
    · simp only [h1, if_true]
    · simp only [h1, if_false]
      by_cases h2 : ks.getD i 0 ∈ ks.drop (i + 1)
      · rw [if_pos h2, if_pos h2]
      · rw [if_neg h2, if_neg h2, List.cons_append]
theorem selTo_all : ∀ (ks : List Nat), selTo ks ks.length = lasts ks
  | [] => rfl
  | k :: ks => by rw [List.length_cons, selTo, lasts, selTo_all ks]

/-! when each was used -/
structure When (o : List Nat) (when : Nat → Nat) (i : Nat) : Prop where
  le : ∀ x, when x ≤ i
  two : o.Pairwise fun a b => when a ≤ when b ∧ (when b = 0 → a ≤ b)
theorem when_zero (n : Nat) : When (List.range n) (fun _ => 0) 0 := ⟨fun _ => Nat.le_refl _, List.pairwise_lt_range.imp fun h => ⟨Nat.le_refl _, fun _ => Nat.le_of_lt h⟩⟩
theorem when_tch {o : List Nat} {when : Nat → Nat} {i : Nat} (h : When o when i) (k : Nat) : When (tch k o) (put when k (i + 1)) (i + 1) := by
  refine ⟨fun x => ?_, ?_⟩
  · unfold put; split
    · omega
    · have := h.le x; omega
  · unfold tch
    rw [List.pairwise_append]
    refine ⟨?_, List.pairwise_singleton _ _, ?_⟩
    · refine List.Pairwise.imp_of_mem ?_ (h.two.filter _)
      intro a b ha hb hab
      simp at ha hb
      simp [put, ha.2, hb.2]
      exact hab
    · intro a ha b hb
      simp at ha hb
      subst hb
      have := h.le a
      simp [put, ha.2]
      omega
theorem when_at {o : List Nat} {when : Nat → Nat} {i : Nat} (h : When o when i) (j : Nat) (hj : j + 1 < o.length) :
    when (o.getD j 0) ≤ when (o.getD (j + 1) 0) ∧ (when (o.getD (j + 1) 0) = 0 → o.getD j 0 ≤ o.getD (j + 1) 0) := by
  have := List.pairwise_iff_getElem.1 h.two j (j + 1) (by omega) hj (by omega)
  rw [List.getD_eq_getElem?_getD, List.getD_eq_getElem?_getD, List.getElem?_eq_getElem (by omega), List.getElem?_eq_getElem hj]
  exact this

/-! the oldest one -/
def oldest (p : Nat → Bool) (o : List Nat) : Option Nat := o.find? fun x => !p x
end Go.Proofs.Ytnedpmibmldbfaa
