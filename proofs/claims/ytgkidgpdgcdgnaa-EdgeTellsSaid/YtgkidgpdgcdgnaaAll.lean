/- What the law's all comes to: the pixels of a triangle, or the first ones. -/
import Derived.Test.YtgkidgpdgcdgnaaPix
namespace Go.Proofs.Ytgkidgpdgcdgnaa
open Go.RowKit Go.Shelf

theorem wide_fn (f : Nat) : Fence.wide.fn f = True := rfl
attribute [local go_sem] Oper.semAt_some wide_fn

set_option maxRecDepth 100000 in
theorem Pixels_in (m : Nat) (a b c : Spot) (wd ht : Int) (w : World) :
    CallsIn Fence.wide m Try.prog 22 #[.agg (triA a b c), .int .i64 wd, .int .i64 ht] w fun e w' => e = .returned (.func (.func 23) #[] #[.pointer (some ⟨w.heap.size, 0, none⟩), .pointer (some ⟨w.heap.size + 1, 0, none⟩), .pointer (some ⟨w.heap.size + 2, 0, none⟩)]) ∧
      w' = ((w.alloc (.cells (triA a b c) 24)).alloc (.cells #[.int .i64 wd] 3)).alloc (.cells #[.int .i64 ht] 3) := by
  refine callsIn_wide.2 ?_
  go_enter Try.func22, Try.ntmps22
  go_wp2_with fail
  go_ret
  exact ⟨by simp, rfl⟩

section
variable {F : Fence} {n : Nat} {P : Program} {ops : Array Oper} {Q : Exit → Act → World → Prop} {a : Act} {w : World} {rest : List Oper} {o : Oper}
theorem wpListIn_allocV (hw : Region.wanted o (yielded ops a.tmps) = true) (ty : TypeId) (ho : o.op = .alloc ty)
    (v : Value) (w' : World) (hl : (Instr.alloc ty true (.tuple #[])).run P w = .ok v w') (h : wpListIn F n P ops Q rest (a.put o.dst v) w') : wpListIn F n P ops Q (o :: rest) a w :=
  wpListIn_step fun K hK => by
    simp only [hw, if_true]
    unfold Oper.wpIn
    refine ⟨by simp [Oper.about, ho], ?_⟩
    rw [Oper.semAt_plain F _ _ (by rw [ho]; intro c hc; cases hc)]
    simp only [execOp, ho, Sem.run_bind, hl]
    exact hK _ _ h
theorem wpListIn_storeV (hw : Region.wanted o (yielded ops a.tmps) = true) (ty : TypeId) (x y : Operand) (ho : o.op = .store ty x y)
    (p : Addr) (u : Value) (w' : World) (hx : a.eval x = .pointer (some p)) (hy : a.eval y = u) (hl : (storeVar ty p u).run P w = .ok () w') (h : wpListIn F n P ops Q rest (a.put o.dst undef) w') : wpListIn F n P ops Q (o :: rest) a w :=
  wpListIn_step fun K hK => by
    simp only [hw, if_true]
    unfold Oper.wpIn
    refine ⟨by simp [Oper.about, ho], ?_⟩
    rw [Oper.semAt_plain F _ _ (by rw [ho]; intro c hc; cases hc)]
    simp only [execOp, ho, hx, hy, Instr.storeAt, Instr.sureAddr, Sem.run_bind, Sem.run_pure, Result.andThen_ok, hl]
    exact hK _ _ h
theorem wpListIn_buildV (hw : Region.wanted o (yielded ops a.tmps) = true) (ty : TypeId) (x : Operand) (ho : o.op = .buildSlice ty 1 #[(0, x)])
    (u v : Value) (w' : World) (hx : a.eval x = u) (hl : (Instr.buildSlice ty 1 #[(0, u)]).run P w = .ok v w') (h : wpListIn F n P ops Q rest (a.put o.dst v) w') : wpListIn F n P ops Q (o :: rest) a w :=
  wpListIn_step fun K hK => by
    simp only [hw, if_true]
    unfold Oper.wpIn
    refine ⟨by simp [Oper.about, ho], ?_⟩
    rw [Oper.semAt_plain F _ _ (by rw [ho]; intro c hc; cases hc)]
    simp [execOp, ho, hx, hl, Result.andThen]
    exact hK _ _ h
end
/-- the cells of a row of hits -/
def cellsOf (l : List Hit) : List Value := l.flatMap fun x => x.cells.toList
theorem Hit.cells_size (x : Hit) : x.cells.size = 5 := hitA_size _ _ _ _ _
theorem cellsOf_snoc (l : List Hit) (x : Hit) : cellsOf (l ++ [x]) = cellsOf l ++ x.cells.toList := by simp [cellsOf]
theorem cellsOf_len (l : List Hit) : (cellsOf l).length = l.length * 5 := by
  induction l with
  | nil => rfl
  | cons x l ih =>
    have := Hit.cells_size x
    simp [cellsOf] at ih ⊢
    omega
theorem cellsOf_at (l : List Hit) (i : Nat) (x : Hit) (h : l[i]? = some x) (j : Nat) (hj : j < 5) : (cellsOf l)[i * 5 + j]? = x.cells[j]? := by
  obtain ⟨hi, hx⟩ := List.getElem?_eq_some_iff.1 h
  have e : l = l.take i ++ (x :: l.drop (i + 1)) := by rw [← hx, ← List.drop_eq_getElem_cons hi]; simp
  have hl : (cellsOf (l.take i)).length = i * 5 := by rw [cellsOf_len, List.length_take, Nat.min_eq_left (by omega)]
  have e2 : cellsOf l = cellsOf (l.take i) ++ (x.cells.toList ++ cellsOf (l.drop (i + 1))) := by
    conv => lhs; rw [e]
    simp [cellsOf]
  rw [e2, List.getElem?_append_right (by omega), hl, List.getElem?_append_left (by rw [Array.length_toList, Hit.cells_size]; omega)]
  rw [show i * 5 + j - i * 5 = j by omega, Array.getElem?_toList]
/-- a row of hits -/
structure HRow (w : World) (A : Option Addr) (l : List Hit) : Prop where
  at_ : ∀ i, i < l.length → ∃ b, A = some ⟨b, 0, none⟩ ∧ w.rangeAt b 0 (cellsOf l)
theorem own_hits {W : World} {base : Nat} {v : Value} {l : List Hit} (h : W.ownsRow base 31 5 v l.length (cellsOf l)) : ∃ A cap, v = .slice A l.length cap ∧ HRow W A l ∧ l.length ≤ cap ∧ ∀ b off, A = some ⟨b, off, none⟩ → base ≤ b := by
  rcases h.2 with ⟨h1, h2⟩ | ⟨g, cap, cur, rfl, h3, h4, h5, h6, h7, h8⟩
  · have : l = [] := List.eq_nil_of_length_eq_zero h2
    subst this
    exact ⟨none, 0, h1, ⟨fun i hi => by simp at hi⟩, by simp, fun b off e => by cases e⟩
  · refine ⟨_, cap, rfl, ⟨fun i hi => ⟨g, rfl, fun j u hu => ?_⟩⟩, h5, fun b off e => by cases e; exact h3⟩
    rw [cell_of_row W g _ cur 31 _ h4, ← hu, ← h8, Nat.zero_add]
    have hj := (List.getElem?_eq_some_iff.1 hu).1
    rw [cellsOf_len] at hj
    rw [List.getElem?_take_of_lt hj, Array.getElem?_toList]

theorem info31 : (Try.prog.info? 31).map (fun i => (i.zero, i.size, i.bytes)) = some (some (.agg (hitA 0 0 0 0 0)), 5, 40) := by unfold hitA; kernel_rfl
theorem run_build38 (x : Hit) (w : World) : (Instr.buildSlice 38 1 #[(0, .agg x.cells)]).run Try.prog w = .ok (.slice (some ⟨w.heap.size, 0, none⟩) 1 1) (w.alloc (.cells x.cells 31)) := by
  unfold Hit.cells hitA; kernel_rfl
theorem run_nilFunc (b c d : Nat) (W : World) : (binOp .eql 52 (.func (.func 23) #[] #[.pointer (some ⟨b, 0, none⟩), .pointer (some ⟨c, 0, none⟩), .pointer (some ⟨d, 0, none⟩)]) .nilFunc).run Try.prog W = .ok (.bool false) W := by kernel_rfl
def allR (most : Int) (xs : List Hit) : List Hit := if most < 0 then xs else xs.take most.toNat
theorem pix_stops (m : Nat) (hm : 1 ≤ m) (bt bw bh : Nat) (a b c : Spot) (ha : a.ok) (hb : b.ok) (hc : c.ok) (wd ht : Int) (w : World) (hT : TriAt w bt a b c) (hw : NumAt w bw wd) (hh : NumAt w bh ht) :
    SeqStopsK Fence.wide m Try.prog 23 #[.pointer (some ⟨bt, 0, none⟩), .pointer (some ⟨bw, 0, none⟩), .pointer (some ⟨bh, 0, none⟩)] (fun x : Hit => #[.agg x.cells]) Kt (fun ys => ys = pix a b c wd ht) (fun pre => pre <+: pix a b c wd ht) (pix a b c wd ht).length w := fun l J Jx W hW hA _ hY h0 =>
  pixels1_in m l bt bw bh hm a b c ha hb hc wd ht J Jx (fun s A B hs h => hA s A B none hs ⟨h.os, h.tape, h.output, h.size, fun k hk _ => h.block k hk⟩ (fun r e => by cases e))
    (fun pre x W1 hJ hp => hY pre x W1 hJ (by have := hp.length_le; simp at this; omega)) W (hT.below hW) (hw.below hW) (hh.below hW) h0

theorem cells_kept {X Y : World} {row : Option Nat} (hg : X.grownBy Y row) (hr : ∀ r, row = some r → ∃ o : Obj, X.heap[r]? = some o ∧ o.isCells = false) {b : Nat} {cs : Array Value} {t : TypeId} {fr : Nat × Nat} (h : X.heap[b]? = some (.cells cs t fr)) : Y.heap[b]? = some (.cells cs t fr) :=
  (hg.block b (Array.getElem?_eq_some_iff.1 h).1 (fun e => by obtain ⟨o, ho, hc⟩ := hr b e.symm; rw [h] at ho; cases ho; cases hc)).trans h
theorem grown_none {W W' : World} (h : Below W.heap.size W W') : W.grownBy W' none := ⟨h.os, h.tape, h.output, h.size, fun k hk _ => h.block k hk⟩
theorem kt_of_below {W W' : World} (h : Below W.heap.size W W') : Kt W W' := fun b _ _ _ _ hb => (h.block b (Array.getElem?_eq_some_iff.1 hb).1).trans hb
def AllI (w : World) (most : Int) (pre : List Hit) (W : World) : Prop :=
  (((∃ v, Boxed W (w.heap.size + 1 + 1) 38 v ∧ W.ownsRow (w.heap.size + 1 + 1) 31 5 v pre.length (cellsOf pre) ∧ True) ∧ Boxed W (w.heap.size + 1) 3 (.int .i64 most)) ∧ (most < 0 ∨ (pre.length : Int) ≤ most)) ∧ Below w.heap.size w W
theorem AllI.own (w : World) (most : Int) (B : Nat) (hB : w.heap.size ≤ B) : OwnFrom B (AllI w most) :=
  OwnFrom.and (OwnFrom.and (OwnFrom.and (Own.from (holdsRow_own (w.heap.size + 1 + 1) (w.heap.size + 1 + 1) 38 31 5 (fun (pre : List Hit) => pre.length) (fun pre => cellsOf pre) (fun _ _ => True)) _) (Own.from (boxed_own _ _ _) _)) (ownFrom_pure _ _)) (ownFrom_below (Nat.le_refl _) hB)
def AllX (w : World) (most : Int) (c : Code) (pre : List Hit) (W : World) : Prop :=
  (∃ v, Boxed W (w.heap.size + 1 + 1) 38 v ∧ W.ownsRow (w.heap.size + 1 + 1) 31 5 v pre.dropLast.length (cellsOf pre.dropLast) ∧ (c = .exit 0 ∧ (pre.dropLast.length : Int) = most)) ∧ Below w.heap.size w W
theorem AllX.own (w : World) (most : Int) (c : Code) (B : Nat) (hB : w.heap.size ≤ B) : OwnFrom B (AllX w most c) :=
  OwnFrom.and (Own.from (holdsRow_own (w.heap.size + 1 + 1) (w.heap.size + 1 + 1) 38 31 5 (fun (pre : List Hit) => pre.dropLast.length) (fun (pre : List Hit) => cellsOf pre.dropLast) (fun (pre : List Hit) _ => c = .exit 0 ∧ (pre.dropLast.length : Int) = most)) _) (ownFrom_below (Nat.le_refl _) hB)
theorem kt_append {W w1 : World} {tmp : Obj} {B base size k : Nat} {v v' : Value} {xs : List Value} (hv : Boxed W B 38 v) (hrow : W.ownsRow base 31 size v k xs) (hgrow : (W.alloc tmp).grownBy w1 v.ownBlock) : Kt W (w1.setCell ⟨B, 0, none⟩ v') := fun b cs t fr ht hb => by
  have hlt := (Array.getElem?_eq_some_iff.1 hb).1
  have h1 : (W.alloc tmp).heap[b]? = some (.cells cs t fr) := (Below.heap_alloc W tmp b hlt).trans hb
  have hne : b ≠ B := fun e => by
    subst e
    have := (show W.heap[b]? = _ from hv).symm.trans hb
    simp at this
    rcases ht with rfl | rfl <;> simp at this
  have hne2 : some b ≠ v.ownBlock := fun e => by
    rcases hrow.2 with ⟨rfl, _⟩ | ⟨g, cap, cur, rfl, _, hgb, _⟩
    · simp [Value.ownBlock] at e
    · obtain rfl : b = g := by simpa [Value.ownBlock] using e
      have := hgb.symm.trans hb
      simp at this
      rcases ht with rfl | rfl <;> simp at this
  rw [setCell_other _ _ _ _ hne]
  exact (hgrow.block b (by simp; omega) hne2).trans h1
theorem Hit.one (x : Hit) : ∀ u ∈ x.cells.toList, u.oneCell' = true := fun u hu => (Array.all_eq_true_iff_forall_mem.1 (hitA_one _ _ _ _ _)) u (by unfold Hit.cells at hu; simpa using hu)
theorem cells_new (w : World) (x : Hit) : ∀ j u, x.cells.toList[j]? = some u → (w.alloc (.cells x.cells 31)).cell? ((⟨w.heap.size, 0, none⟩ : Addr).add j) = some u := fun j u hu => by
  have := cell_of_row _ _ j _ _ _ (heap_alloc_new w (.cells x.cells 31))
  have e : (⟨w.heap.size, 0, none⟩ : Addr).add j = ⟨w.heap.size, j, none⟩ := by
    unfold Addr.add
    split
    · simp_all
    · simp
  rw [e, this]; simpa using hu
/-- the loop's variable, laid anew -/
theorem lay31 (W : World) (x : Hit) : (storeVar 31 ⟨W.heap.size, 0, none⟩ (.agg x.cells)).run Try.prog (W.alloc (.cells (hitA 0 0 0 0 0) 31)) = .ok () ((W.alloc (.cells (hitA 0 0 0 0 0) 31)).setRow W.heap.size x.cells) ∧
    HitAt ((W.alloc (.cells (hitA 0 0 0 0 0) 31)).setRow W.heap.size x.cells) W.heap.size x.x x.y x.e0 x.e1 x.e2 ∧ Below W.heap.size W ((W.alloc (.cells (hitA 0 0 0 0 0) 31)).setRow W.heap.size x.cells) := by
  have hz := HitAt.new W 0 0 0 0 0
  refine ⟨run_storeVar_row _ W.heap.size 31 31 (hitA 0 0 0 0 0) x.cells hz (size31 _ _ _ _ _) (by rw [hitA_size, Hit.cells_size]) (hitA_one _ _ _ _ _), setRow_heap _ W.heap.size _ _ 31 _ hz, ?_⟩
  exact (below_alloc W _).trans ⟨rfl, rfl, rfl, by simp [World.setRow], fun k hk => setRow_other _ W.heap.size k _ (by omega)⟩

set_option maxRecDepth 100000 in
set_option maxHeartbeats 2000000 in
theorem all_in (a b c : Spot) (ha : a.ok) (hb : b.ok) (hc : c.ok) (wd ht most : Int) (w : World) :
    CallsIn Fence.wide 5 Try.prog 18 #[.agg (triA a b c), .int .i64 wd, .int .i64 ht, .int .i64 most] w fun e W' => ∃ A cap, e = .returned (.slice A (allR most (pix a b c wd ht)).length cap) ∧ HRow W' A (allR most (pix a b c wd ht)) ∧ (allR most (pix a b c wd ht)).length ≤ cap ∧ Below w.heap.size w W' ∧ ∀ b off, A = some ⟨b, off, none⟩ → w.heap.size ≤ b := by
  obtain ⟨i0, hi, hz0, hz1, hz2⟩ := info_parts info31
  have hxl := pix_len a b c wd ht
  have hnf := run_nilFunc
  have HT := Lib.hid (TriAt.new w a b c)
  refine callsIn_of_wp_marks Try.func18 rfl trivial ?_ rfl
  simp only [Try.ntmps18, List.size_toArray, List.length_cons, List.length_nil, Nat.reduceAdd, Nat.reduceSub, Array.replicate_succ, Array.replicate_zero, List.push_toArray, List.append_toArray, List.nil_append, List.cons_append]
  gi_wp2_with (first
    | refine wpListIn_loadV rfl 24 (.tmp 4) rfl ⟨w.heap.size, 0, none⟩ (.agg (triA a b c)) rfl (TriAt.load ((HT.out.below (below_alloc _ _)).below (below_alloc _ _))) ?_)
  refine (Pixels_in 4 a b c wd ht _).mono ?_
  rintro e w' ⟨rfl, rfl⟩
  simp only [World.size_alloc]
  have b0 := ((((((TriAt.new w a b c).below (below_alloc _ (.cells #[.int .i64 most] 3))).below (below_alloc _ (.cells #[.slice none 0 0] 38))).below (below_alloc _ (.cells (triA a b c) 24))).below (below_alloc _ (.cells #[.int .i64 wd] 3))).below (below_alloc _ (.cells #[.int .i64 ht] 3)))
  have b1 := (((((Boxed.new (w.alloc (.cells (triA a b c) 24)) 3 (.int .i64 most)).alloc (.cells #[.slice none 0 0] 38)).alloc (.cells (triA a b c) 24)).alloc (.cells #[.int .i64 wd] 3)).alloc (.cells #[.int .i64 ht] 3))
  have b2 := ((((Boxed.new ((w.alloc (.cells (triA a b c) 24)).alloc (.cells #[.int .i64 most] 3)) 38 (.slice none 0 0)).alloc (.cells (triA a b c) 24)).alloc (.cells #[.int .i64 wd] 3)).alloc (.cells #[.int .i64 ht] 3))
  have b3 := ((TriAt.new (((w.alloc (.cells (triA a b c) 24)).alloc (.cells #[.int .i64 most] 3)).alloc (.cells #[.slice none 0 0] 38)) a b c).below (below_alloc _ (.cells #[.int .i64 wd] 3))).below (below_alloc _ (.cells #[.int .i64 ht] 3))
  have b4 := (NumAt.new ((((w.alloc (.cells (triA a b c) 24)).alloc (.cells #[.int .i64 most] 3)).alloc (.cells #[.slice none 0 0] 38)).alloc (.cells (triA a b c) 24)) wd).below (below_alloc _ (.cells #[.int .i64 ht] 3))
  have b5 := NumAt.new (((((w.alloc (.cells (triA a b c) 24)).alloc (.cells #[.int .i64 most] 3)).alloc (.cells #[.slice none 0 0] 38)).alloc (.cells (triA a b c) 24)).alloc (.cells #[.int .i64 wd] 3)) ht
  have hB0 : Below w.heap.size w ((((((w.alloc (.cells (triA a b c) 24)).alloc (.cells #[.int .i64 most] 3)).alloc (.cells #[.slice none 0 0] 38)).alloc (.cells (triA a b c) 24)).alloc (.cells #[.int .i64 wd] 3)).alloc (.cells #[.int .i64 ht] 3)) :=
    ((((((Below.refl _ w).alloc (Nat.le_refl _) _).alloc (by simp) _).alloc (by simp; omega) _).alloc (by simp; omega) _).alloc (by simp; omega) _).alloc (by simp; omega) _
  have hsz : ((((((w.alloc (.cells (triA a b c) 24)).alloc (.cells #[.int .i64 most] 3)).alloc (.cells #[.slice none 0 0] 38)).alloc (.cells (triA a b c) 24)).alloc (.cells #[.int .i64 wd] 3)).alloc (.cells #[.int .i64 ht] 3)).heap.size = w.heap.size + 6 := by simp
  simp only [World.size_alloc] at b1 b2 b3 b4 b5
  generalize ((((((w.alloc (.cells (triA a b c) 24)).alloc (.cells #[.int .i64 most] 3)).alloc (.cells #[.slice none 0 0] 38)).alloc (.cells (triA a b c) 24)).alloc (.cells #[.int .i64 wd] 3)).alloc (.cells #[.int .i64 ht] 3)) = W0 at *
  clear HT
  gi_wp2_with fail
  refine wpIn_rangeFunc_ownH rfl (by omega) (gf := 23) (lb := #[.pointer (some ⟨w.heap.size + 1 + 1 + 1, 0, none⟩), .pointer (some ⟨w.heap.size + 1 + 1 + 1 + 1, 0, none⟩), .pointer (some ⟨w.heap.size + 1 + 1 + 1 + 2, 0, none⟩)]) rfl trivial (enters_of Try.func23 (by kernel_rfl) rfl)
    (pix_stops 4 (by omega) _ _ _ a b c ha hb hc wd ht W0 b3 b4 b5) Kt.t (fun W l o o' _ hl h1 _ => Kt.b W l o o' hl h1) (Below.refl _ _) (fun _ => rfl)
    (AllI w most) (AllX w most) (AllI.own w most _ (by omega)) (fun c => AllX.own w most c _ (by omega))
    ⟨⟨⟨⟨_, b2, World.ownsRow_nil _ _ _ _, trivial⟩, b1⟩, by simp; omega⟩, hB0⟩
    (fun x a' W => ∃ Bx, HitAt W Bx x.x x.y x.e0 x.e1 x.e2 ∧ a' = { tmps := #[.agg (triA a b c), .int .i64 wd, .int .i64 ht, .int .i64 most, .pointer (some ⟨w.heap.size, 0, none⟩), undef, undef, .pointer (some ⟨w.heap.size + 1, 0, none⟩), .slice none 0 0, .pointer (some ⟨w.heap.size + 1 + 1, 0, none⟩), .func (.func 23) #[] #[.pointer (some ⟨w.heap.size + 1 + 1 + 1, 0, none⟩), .pointer (some ⟨w.heap.size + 1 + 1 + 1 + 1, 0, none⟩), .pointer (some ⟨w.heap.size + 1 + 1 + 1 + 2, 0, none⟩)], .pointer (some ⟨Bx, 0, none⟩), .agg (triA a b c), .int .i64 wd, .int .i64 ht, .func (.func 23) #[] #[.pointer (some ⟨w.heap.size + 1 + 1 + 1, 0, none⟩), .pointer (some ⟨w.heap.size + 1 + 1 + 1 + 1, 0, none⟩), .pointer (some ⟨w.heap.size + 1 + 1 + 1 + 2, 0, none⟩)], .func (.func 23) #[] #[.pointer (some ⟨w.heap.size + 1 + 1 + 1, 0, none⟩), .pointer (some ⟨w.heap.size + 1 + 1 + 1 + 1, 0, none⟩), .pointer (some ⟨w.heap.size + 1 + 1 + 1 + 2, 0, none⟩)], .bool false, .func (.func 23) #[] #[.pointer (some ⟨w.heap.size + 1 + 1 + 1, 0, none⟩), .pointer (some ⟨w.heap.size + 1 + 1 + 1 + 1, 0, none⟩), .pointer (some ⟨w.heap.size + 1 + 1 + 1 + 2, 0, none⟩)], .agg x.cells, undef, undef, undef, undef, undef, undef, undef, undef, undef], defers := [] })
    (fun x a' _ X Y row hs hg hr => by obtain ⟨Bx, h1, h2⟩ := hs; exact ⟨Bx, cells_kept hg (fun r e => (hr r e).2) h1, h2⟩)
    ?assign ?body ?done ?stop
  case assign =>
    intro l pre x W K hI hK
    obtain ⟨hl1, hl2, hl3⟩ := lay31 W x
    simp only [List.zip_toArray, List.zip_cons_cons, List.zip_nil_right, List.foldl_toArray, List.foldl_cons, List.foldl_nil, List.setIfInBounds_toArray, List.set_cons_succ, List.set_cons_zero]
    refine wpIn_region_lit ?_
    refine wpListIn_allocV rfl 31 rfl _ _ (alloc31 _) ?_
    refine wpListIn_storeV rfl 31 (.tmp 11) (.tmp 19) rfl ⟨W.heap.size, 0, none⟩ (.agg x.cells) _ rfl rfl hl1 ?_
    refine wpListIn_nil ?_
    exact hK _ _ ((KeepsOthers.of_grownBy (grown_none hl3) (fun j o e => by cases e)).from _) (kt_of_below hl3) (AllI.own w most w.heap.size (Nat.le_refl _) pre W _ none hI (grown_none hl3) (fun r e => by cases e)) ⟨W.heap.size, hl2, rfl⟩
  case body =>
    rintro l pre x a' W hl _ ⟨⟨⟨⟨v, hv, hrow, _⟩, hmo⟩, hle⟩, hB⟩ ⟨Bx, hHx, rfl⟩ hpl
    obtain ⟨A, cap, rfl, _⟩ := own_hits hrow
    have hc := hv.cell
    have hcm := hmo.cell
    have hvl : pre.length < 1024 := by omega
    clear hpl
    by_cases he : (pre.length : Int) = most
    · have he2 : ((pre.length : Int) == most) = true := by simp [he]
      have HH := Lib.hid (And.intro hv (And.intro hrow (And.intro he hB)))
      clear hrow hB hle
      gi_wp2
      obtain ⟨hv, hrow, he, hB⟩ := HH.out
      refine ⟨KeepsFrom.refl _ _, ⟨_, hv, ?_, rfl, ?_⟩, hB⟩
      · rw [List.dropLast_concat]; exact hrow
      · rw [List.dropLast_concat]; exact he
    · have he2 : ((pre.length : Int) == most) = false := by simpa using he
      have hle2 : most < 0 ∨ ((pre ++ [x]).length : Int) ≤ most := by
        rw [List.length_append]; simp; omega
      have HH := Lib.hid (And.intro hle2 hmo)
      clear hle2 hle
      gi_wp2_with (first
        | refine wpListIn_loadV rfl 31 (.tmp 11) rfl ⟨Bx, 0, none⟩ (.agg x.cells) rfl hHx.load ?_
        | refine wpListIn_buildV rfl 38 (.tmp 25) rfl (.agg x.cells) _ _ rfl (run_build38 x _) ?_
        | (gi_at_builtin; refine wpListIn_append_own _ rfl _ _ 38 rfl (w.heap.size + 1 + 1) 31 i0 (.agg (hitA 0 0 0 0 0)) 5 40 Try.underlying38 hi hz0 hz1 hz2 (by show (hitA 0 0 0 0 0).size = 5; exact hitA_size _ _ _ _ _) (by decide) (.slice A pre.length cap) pre.length (cellsOf pre) rfl (hrow.alloc _) ⟨W.heap.size, 0, none⟩ 1 1 x.cells.toList rfl (by rw [Array.length_toList, Hit.cells_size]) (cells_new W x) x.one (by simp only [maxLen]; omega) (by omega) (by have := hv.lt; simp; omega) ?_
           intro v' w1 hown' hgrow _
           obtain ⟨g', cap', rfl⟩ := ownsRow_succ hown'
           obtain ⟨hv1, hv2, hr2, hk2, hb2⟩ := hv.appended (by decide) hrow (by have := hv.lt; omega) (Nat.le_refl _) hown' hgrow
           have hc1 := hv1.cell
           have hf1 := hv1.frozen))
      obtain ⟨hle2, hmo⟩ := HH.out
      refine ⟨hk2.from _, kt_append hv hrow hgrow, ⟨⟨⟨_, hv2, ?_, trivial⟩, ?_⟩, hle2⟩, hB.trans (hb2.mono (by omega))⟩
      · rw [List.length_append, cellsOf_snoc]; exact hr2
      · exact (hb2.block (w.heap.size + 1) (by omega)).trans hmo
  case done =>
    rintro D ys W hD rfl ⟨⟨⟨⟨v, hv, hrow, _⟩, hmo⟩, hle⟩, hB⟩ hK
    have hr : allR most (pix a b c wd ht) = pix a b c wd ht := by
      unfold allR
      split
      · rfl
      · rw [List.take_of_length_le (by omega)]
    have hc := hv.cell
    gi_wp2
    refine ⟨by simp, .inl ⟨_, _, rfl, run_takeDeferred hK, ?_⟩⟩
    have hrow2 := ownsRow_putObj hrow (.deferred none) hK rfl
    rw [hr]
    obtain ⟨A, cap, rfl, hR, hcap, hfr⟩ := own_hits hrow2
    exact ⟨_, results_tmp rfl _ _ _, A, cap, rfl, hR, hcap, hB.trans (belowK_b (w := w) (Nat.le_refl _) W D _ _ (by omega) hK rfl rfl), fun b off e => by have := hfr b off e; omega⟩
  case stop =>
    rintro D c pre W hD hpre ⟨⟨v, hv, hrow, rfl, he⟩, hB⟩ hK
    have hr : allR most (pix a b c wd ht) = pre.dropLast := by
      have hp2 : pre.dropLast <+: pix a b c wd ht := List.IsPrefix.trans (List.dropLast_prefix pre) hpre
      unfold allR
      rw [if_neg (by omega), ← he, Int.toNat_natCast]
      obtain ⟨r, hr⟩ := hp2
      rw [← hr]; simp
    have hc := hv.cell
    gi_wp2
    refine ⟨by simp, .inl ⟨_, _, rfl, run_takeDeferred hK, ?_⟩⟩
    have hrow2 := ownsRow_putObj hrow (.deferred none) hK rfl
    rw [hr]
    obtain ⟨A, cap, rfl, hR, hcap, hfr⟩ := own_hits hrow2
    exact ⟨_, results_tmp rfl _ _ _, A, cap, rfl, hR, hcap, hB.trans (belowK_b (w := w) (Nat.le_refl _) W D _ _ (by omega) hK rfl rfl), fun b off e => by have := hfr b off e; omega⟩
theorem All_walk (a b c : Spot) (ha : a.ok) (hb : b.ok) (hc : c.ok) (wd ht most : Int) (w : World) :
    Calls Try.prog 18 #[.agg (triA a b c), .int .i64 wd, .int .i64 ht, .int .i64 most] w fun e W' => ∃ A cap, e = .returned (.slice A (allR most (pix a b c wd ht)).length cap) ∧ HRow W' A (allR most (pix a b c wd ht)) ∧ (allR most (pix a b c wd ht)).length ≤ cap ∧ Below w.heap.size w W' ∧ ∀ b off, A = some ⟨b, off, none⟩ → w.heap.size ≤ b :=
  callsIn_wide.1 (all_in a b c ha hb hc wd ht most w)
end Go.Proofs.Ytgkidgpdgcdgnaa
