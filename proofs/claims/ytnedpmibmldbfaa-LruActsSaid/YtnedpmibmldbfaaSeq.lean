/- The list's iterator: all numbers, from the oldest on; and its callers Oldest and order. -/
import Derived.RangeFuncNested
import Derived.RangeFuncBound
import Derived.RangeFuncCalls
import Derived.RangeFuncLeaves
import Derived.RangeFuncBox
import Derived.Shelf.Abstract
import Derived.Shelf.RegionOpen
import Derived.OwnWalkIn
import Derived.TacticsInMore
import Derived.LoopNIn
import Derived.LoopIn
import Derived.Maps.AppendAt
import Derived.Test.YtnedpmibmldbfaaNew
namespace Go.Proofs.Ytnedpmibmldbfaa
open Go.RowKit Go.Shelf

attribute [local go_sem] Oper.semAt_some

/-- what the iterator reads: a list in the order xs, or none -/
def IsO (w : World) (n₀ : Nat) (P0 : Option Addr) (p : Nat → Bool) (xs : List Nat) : Prop :=
  (P0 = none ∧ xs = []) ∨ ∃ k bE bY bP n, P0 = some ⟨k, 0, none⟩ ∧ IsX w k bE bY bP n xs p ∧ k < n₀ ∧ bE < n₀ ∧ bY < n₀ ∧ bP < n₀
theorem IsO.below {w w' : World} {n₀ : Nat} {P0 : Option Addr} {p : Nat → Bool} {xs : List Nat} (h : IsO w n₀ P0 p xs) (hb : Below n₀ w w') : IsO w' n₀ P0 p xs := by
  rcases h with h | ⟨k, bE, bY, bP, n, h1, h2, h3⟩
  · exact .inl h
  · exact .inr ⟨k, bE, bY, bP, n, h1, h2.below hb h3, h3⟩
theorem IsO.mono {w : World} {n₀ n₁ : Nat} {P0 : Option Addr} {p : Nat → Bool} {xs : List Nat} (h : IsO w n₀ P0 p xs) (hn : n₀ ≤ n₁) : IsO w n₁ P0 p xs := by
  rcases h with h | ⟨k, bE, bY, bP, n, h1, h2, h3, h4, h5, h6⟩
  · exact .inl h
  · exact .inr ⟨k, bE, bY, bP, n, h1, h2, by omega, by omega, by omega, by omega⟩
theorem IsO.len {w : World} {n₀ : Nat} {P0 : Option Addr} {p : Nat → Bool} {xs : List Nat} (h : IsO w n₀ P0 p xs) : xs.length ≤ 128 := by
  rcases h with ⟨_, rfl⟩ | ⟨k, bE, bY, bP, n, h1, h2, h3, h4, h5, h6⟩
  · simp
  · rw [h2.ok.len]; exact h2.pos.2
theorem IsX.isO {w : World} {k bE bY bP n : Nat} {o : List Nat} {p : Nat → Bool} (h : IsX w k bE bY bP n o p) : IsO w w.heap.size (some ⟨k, 0, none⟩) p o :=
  .inr ⟨k, bE, bY, bP, n, rfl, h, h.lt.1, h.lt.2.1, h.lt.2.2.1, h.lt.2.2.2⟩

theorem idx_of (pre rest : List Nat) (x : Nat) (h : x ∉ pre) : (pre ++ x :: rest).idxOf x = pre.length := by
  rw [List.idxOf_append, if_neg h]; simp
theorem idx_none (xs : List Nat) (n : Nat) (h : n ∉ xs) : xs.idxOf n = xs.length :=
  List.idxOf_eq_length h

/-- what a round that goes on keeps: what lay below n₀, and the iterator's own box -/
def Kq (n₀ Bn : Nat) (W W' : World) : Prop := Below n₀ W W' ∧ W'.heap[Bn]? = W.heap[Bn]?
theorem Kq.t {n₀ Bn : Nat} {A B C : World} (h : Kq n₀ Bn A B) (k : Kq n₀ Bn B C) : Kq n₀ Bn A C := ⟨h.1.trans k.1, k.2.trans h.2⟩
theorem Kq.b {n₀ Bn : Nat} {w : World} (hn : n₀ ≤ w.heap.size) (hB : Bn < w.heap.size) (W : World) (l : Nat) (o o' : Obj) (hl : w.heap.size ≤ l) (h : W.heap[l]? = some o) (h1 : o.isCells = false) (h2 : o.isWalk = false) : Kq n₀ Bn W (W.putObj l o') :=
  ⟨belowK_b hn W l o o' hl h h1 h2, (grownBy_putObj' W l o').block Bn (by have := (Array.getElem?_eq_some_iff.1 h).1; omega) (fun e => by cases e; omega)⟩

set_option maxRecDepth 100000 in
set_option maxHeartbeats 1000000 in
theorem seq1_in (F : Fence) (m : Nat) (h6 : F.fn 22) (hro : F.round = none) (hm : 1 ≤ m) (l Bn n₀ : Nat) (P0 : Option Addr) (p : Nat → Bool) (xs : List Nat) (J Jx : List Nat → World → Prop)
    (hY : ∀ pre x W, J pre W → pre ++ [x] <+: xs → YieldAt F (m - 1) Try.prog l #[.int .i64 (x : Nat)] W fun e W' =>
      (e = .returned (.bool true) ∧ J (pre ++ [x]) W' ∧ Kq n₀ Bn W W') ∨ (e = .returned (.bool false) ∧ Jx (pre ++ [x]) W'))
    (W : World) (hBn : W.cell? ⟨Bn, 0, none⟩ = some (.pointer P0)) (hL : IsO W n₀ P0 p xs) (h0 : J [] W) :
    CallsIn F m Try.prog 22 #[.func (.yield l) #[] #[], .pointer (some ⟨Bn, 0, none⟩)] W fun e W' => (∃ v, e = .returned v) ∧
      ((∃ ys, ys = xs ∧ J ys W') ∨ (∃ pre, pre <+: xs ∧ Jx pre W')) := by
  rcases hL with ⟨rfl, rfl⟩ | ⟨k, bE, bY, bP, n, rfl, hX, hk, hE, hYb, hP⟩
  · refine callsIn_of_wp Try.func22 rfl h6 ?_ hro
    simp only [Try.ntmps22, List.size_toArray, List.length_cons, List.length_nil, Nat.reduceAdd, Nat.reduceSub, Array.replicate_succ, Array.replicate_zero, List.push_toArray, List.append_toArray, List.nil_append, List.cons_append]
    gi_wp2
    refine bodyPost_ret (results_none rfl _ _ _) rfl ?_
    exact ⟨⟨_, rfl⟩, .inl ⟨[], rfl, h0⟩⟩
  · obtain ⟨⟨e, y, hl, hr⟩, ok⟩ := hX
    have hfirst := ring_first hr
    have htop := hl.top
    have hcell2 := hl.f2
    have hcell1 := hl.f1
    have hcy := hl.cy.cell n (by omega)
    rw [hfirst] at hcy
    obtain ⟨f0, hf0⟩ : ∃ f0 : Nat, f0 = hd n xs := ⟨_, rfl⟩
    rw [← hf0] at hcy
    have HF := Lib.hid hf0
    clear hf0 hfirst
    have hnx : n ∉ xs := fun h => by have := ok.lt n h; omega
    have hlen := ok.len
    refine callsIn_of_wp Try.func22 rfl h6 ?_ hro
    simp only [Try.ntmps22, List.size_toArray, List.length_cons, List.length_nil, Nat.reduceAdd, Nat.reduceSub, Array.replicate_succ, Array.replicate_zero, List.push_toArray, List.append_toArray, List.nil_append, List.cons_append]
    gi_wp2
    gi_loopw [4] (fun v wr => ∃ (pre rest : List Nat) (f : Nat), v = .int .i64 (f : Nat) ∧ f = hd n rest ∧ xs = pre ++ rest ∧ Lst wr k bE bY bP n e y p ∧ wr.cell? ⟨Bn, 0, none⟩ = some (.pointer (some ⟨k, 0, none⟩)) ∧ J pre wr)
      (fun v wr => n - xs.idxOf (intOf v).toNat)
    case atStart => exact ⟨[], xs, f0, rfl, HF.out, rfl, hl, hBn, h0⟩
    case round =>
      obtain ⟨pre, rest, f, rfl, hf, hx, hl', hbn, hJs⟩ := hrel
      clear hl hcell2 hcell1 hcy hBn
      cases rest with
      | nil =>
        obtain rfl : f = n := hf
        gi_wp2
        go_end0
        exact ⟨⟨_, rfl⟩, .inl ⟨pre, by simp [hx], hJs⟩⟩
      | cons x rest =>
        have hxn : x < n := ok.lt x (by rw [hx]; simp)
        have hxp : x ∉ pre := fun h => by
          have := ok.nodup
          rw [hx, List.nodup_append] at this
          exact this.2.2 x h x (by simp) rfl
        have hidx := idx_of pre rest x hxp
        rw [← hx] at hidx
        have hnext := ring_next hr pre x rest hx
        have hlx : pre ++ [x] <+: xs := ⟨rest, by rw [hx]; simp⟩
        have hln : pre.length < n := by rw [← hlen, hx]; simp
        have hidx2 : xs.idxOf (hd n rest) = pre.length + 1 := by
          cases rest with
          | nil =>
            simp only [hd]
            rw [idx_none xs n hnx, hx]; simp
          | cons z rest =>
            simp only [hd]
            have e1 : xs = (pre ++ [x]) ++ z :: rest := by rw [hx]; simp
            have hz : z ∉ pre ++ [x] := fun h => by
              have := ok.nodup
              rw [e1, List.nodup_append] at this
              exact this.2.2 z h z (by simp) rfl
            have := idx_of (pre ++ [x]) rest z hz
            rw [← e1] at this
            rw [this]; simp
        obtain ⟨fn, tmps, assign, body, hy, hR⟩ := hY pre x wr hJs hlx
        have hxne : ((x : Int) != (n : Int)) = true := by simp; omega
        obtain rfl : f = x := hf
        clear HF
        gi_wp2
        refine hR.mono ?_
        rintro e W3 (⟨rfl, hJ3, hk3, hq3⟩ | ⟨rfl, hJx3⟩)
        · have hl3 := hl'.below hk3 ⟨hk, hE, hYb, hP⟩
          have hbn3 : W3.cell? ⟨Bn, 0, none⟩ = some (.pointer (some ⟨k, 0, none⟩)) := by rw [World.cell?_of_block (w := wr) (a := ⟨Bn, 0, none⟩) hq3]; exact hbn
          have hc1 := hl3.f1
          have hcx := hl3.cy.cell f (by omega)
          rw [hnext] at hcx
          have HX := Lib.hid hx
          gi_wp2
          go_roundw
          case rel => exact ⟨pre ++ [f], rest, _, rfl, rfl, by simp [hx], hl3, hbn3, hJ3⟩
          case measure =>
            show n - xs.idxOf ((hd n rest : Nat) : Int).toNat < n - xs.idxOf ((f : Nat) : Int).toNat
            rw [Int.toNat_natCast, Int.toNat_natCast, hidx, hidx2]; omega
        · gi_wp2
          refine bodyPost_ret (results_none rfl _ _ _) rfl ?_
          exact ⟨⟨_, rfl⟩, .inr ⟨pre ++ [f], ⟨rest, by simp [hx]⟩, hJx3⟩⟩

set_option maxHeartbeats 1000000 in
theorem seq_in (F : Fence) (m : Nat) (h5 : F.fn 21) (hro : F.round = none) (P0 : Option Addr) (w : World) :
    CallsIn F m Try.prog 21 #[.pointer P0] w fun e w' => e = .returned (.func (.func 22) #[] #[.pointer (some ⟨w.heap.size, 0, none⟩)]) ∧ w' = w.alloc (.cells #[.pointer P0] 24) := by
  refine callsIn_of_wp Try.func21 rfl h5 ?_ hro
  simp only [Try.ntmps21, List.size_toArray, List.length_cons, List.length_nil, Nat.reduceAdd, Nat.reduceSub, Array.replicate_succ, Array.replicate_zero, List.push_toArray, List.append_toArray, List.nil_append, List.cons_append]
  gi_wp2
  go_ret
  exact ⟨rfl, rfl⟩

/-- a number of a list so long -/
abbrev Num (n : Nat) := { x : Nat // x < n }
def vals {n : Nat} (l : List (Num n)) : List Nat := l.map (·.1)
theorem vals_snoc {n : Nat} (l : List (Num n)) (x : Num n) : vals (l ++ [x]) = vals l ++ [x.1] := by simp [vals]
theorem vals_inj {n : Nat} : ∀ {a b : List (Num n)}, vals a = vals b → a = b
  | [], [], _ => rfl
  | [], _ :: _, h => by simp [vals] at h
  | _ :: _, [], h => by simp [vals] at h
  | x :: a, y :: b, h => by
    simp only [vals, List.map_cons, List.cons.injEq] at h
    rw [Subtype.ext h.1, vals_inj h.2]

theorem seq_stops (F : Fence) (m : Nat) (h6 : F.fn 22) (hro : F.round = none) (hm : 1 ≤ m) (Bn n₀ n : Nat) (P0 : Option Addr) (p : Nat → Bool) (xs : List Nat) (w : World) (hBn : Bn < w.heap.size) (hn₀ : n₀ ≤ w.heap.size)
    (hc : w.cell? ⟨Bn, 0, none⟩ = some (.pointer P0)) (hL : IsO w n₀ P0 p xs) (hlt : ∀ x ∈ xs, x < n) :
    SeqStopsK F m Try.prog 22 #[.pointer (some ⟨Bn, 0, none⟩)] (fun x : Num n => #[Value.int .i64 (x.1 : Nat)]) (Kq n₀ Bn) (fun ys => vals ys = xs) (fun pre => vals pre <+: xs) xs.length w := fun l J Jx W hW _ _ hY h0 => by
  have := seq1_in F m h6 hro hm l Bn n₀ P0 p xs (fun pre W => ∃ q : List (Num n), vals q = pre ∧ J q W) (fun pre W => ∃ q : List (Num n), vals q = pre ∧ Jx q W) ?_ W ((hW.cell (p := ⟨Bn, 0, none⟩) hBn).trans hc) (hL.below (hW.mono hn₀)) ⟨[], rfl, h0⟩
  · refine this.mono ?_
    rintro e W' ⟨h1, h2⟩
    refine ⟨h1, ?_⟩
    rcases h2 with ⟨ys, rfl, q, hq, hJ⟩ | ⟨pre, hp, q, hq, hJ⟩
    · exact .inl ⟨q, hq, hJ⟩
    · exact .inr ⟨q, by show vals q <+: xs; rw [hq]; exact hp, hJ⟩
  · rintro pre x W1 ⟨q, rfl, hJ⟩ hp
    have hx : x < n := hlt x (hp.subset (by simp))
    have hl : q.length < xs.length := by
      have := hp.length_le
      simp [vals] at this; omega
    refine (hY q ⟨x, hx⟩ W1 hJ hl).mono ?_
    rintro e W' (⟨h1, h2, h3⟩ | ⟨h1, h2⟩)
    · exact .inl ⟨h1, ⟨q ++ [⟨x, hx⟩], vals_snoc _ _, h2⟩, h3⟩
    · exact .inr ⟨h1, q ++ [⟨x, hx⟩], vals_snoc _ _, h2⟩
end Go.Proofs.Ytnedpmibmldbfaa
