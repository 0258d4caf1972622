/- The law's awake says yes. -/
import Derived.Test.YtccdciokokcomaaAll
import Derived.Deep.Cut
namespace Go.Proofs.Ytccdciokokcomaa
open Go.RowKit

theorem enter15 (args : Array Value) (w : World) : (callFunc 15 args).run Try.prog w = .ok (.enter 15 args) w := run_callFunc_enter Try.func15 (by kernel_rfl) (by kernel_rfl) args w
theorem enter16 (args : Array Value) (w : World) : (callFunc 16 args).run Try.prog w = .ok (.enter 16 args) w := run_callFunc_enter Try.func16 (by kernel_rfl) (by kernel_rfl) args w
theorem enter12 (args : Array Value) (w : World) : (callFunc 12 args).run Try.prog w = .ok (.enter 12 args) w := run_callFunc_enter Try.func12 (by kernel_rfl) (by kernel_rfl) args w
theorem enter11 (args : Array Value) (w : World) : (callFunc 11 args).run Try.prog w = .ok (.enter 11 args) w := run_callFunc_enter Try.func11 (by kernel_rfl) (by kernel_rfl) args w
theorem enter14 (args : Array Value) (w : World) : (callFunc 14 args).run Try.prog w = .ok (.enter 14 args) w := run_callFunc_enter Try.func14 (by kernel_rfl) (by kernel_rfl) args w
theorem tab_up {w W : World} {g : Nat} (h : w.heap[g]? = some (.cells (tabCells tab) 28 (0, 0))) (hb : Below w.heap.size w W) : W.heap[g]? = some (.cells (tabCells tab) 28 (0, 0)) := (hb.block g (Array.getElem?_eq_some_iff.1 h).1).trans h
theorem wain10 : str [87, 65, 73, 78, 0, 0, 1, 2, 3, 1] = { data := #[87, 65, 73, 78, 0, 0, 1, 2, 3, 1] } := by rfl
theorem make25 (n : Nat) (hn : n ≤ 1099511627776) (w : World) :
    (Instr.makeSlice 25 (.int .i64 (n : Int)) (.int .i64 (n : Int))).run Try.prog w = .ok (.slice (some ⟨w.heap.size, 0, none⟩) n n) (w.alloc (.cells (byteCells (List.replicate n 0)) 5)) := by
  obtain ⟨i, hi, hz, hs, hb⟩ := info_parts info5
  have h := run_make (P := Try.prog) w 25 5 i (.int .u8 0) Try.underlying25 hi hz .i64 .i64 (n : Int) (n : Int) (by omega) (by omega) (by rw [hb]; omega) (by omega)
  have e : madeCells (Value.int IntKind.u8 0).cells ((n : Int).toNat * i.size) = byteCells (List.replicate n 0) := by
    rw [hs]
    apply Array.toList_inj.1
    rw [show (Value.int IntKind.u8 0).cells = #[.int .u8 0] from rfl, toList_madeCells_one]
    simp [byteCells]
  rw [e] at h
  simpa using h
section
variable {P : Program} {ops : Array Oper} {I : Cls} {a0 : Act} {sp : Nat → Spec} {k : Nat} {o : Oper}
theorem step_len (hg : Goes ops sp k o) (x : Operand) (t : TypeId) (ho : o.op = .call { callee := .builtin .len, args := #[x], argTypes := #[t] }) (u v : Value) (hx : OpIs ops I a0 sp k x (is u))
    (hr : ∀ w, (Builtin.len_ #[t] o.type #[u]).run P w = .ok v w) : StepOk P ops I a0 sp k o (is v) :=
  step_one hg x _ _ hx fun ρ w h => by
    simp [execOp, ho, h, resolve, invoke, builtin, Result.andThen, go_sem, hr]
theorem step_not (hg : Goes ops sp k o) (t : TypeId) (x : Operand) (ho : o.op = .unOp .not t x) (b : Bool) (hx : OpIs ops I a0 sp k x (is (.bool b))) : StepOk P ops I a0 sp k o (is (.bool (!b))) :=
  step_one hg x _ _ hx fun ρ w h => by simp only [execOp, ho, h]; rfl
theorem step_extract (hg : Goes ops sp k o) (x : Operand) (i : Nat) (ho : o.op = .extract x i) (vs : Array Value) (v : Value) (hx : OpIs ops I a0 sp k x (is (.tuple vs))) (hv : vs[i]? = some v) : StepOk P ops I a0 sp k o (is v) :=
  step_one hg x _ v hx fun ρ w h => by simp [execOp, ho, h, hv, go_sem]
theorem step_build0 (hg : Goes ops sp k o) (t : TypeId) (ho : o.op = .build t #[]) (hb : P.built t [] = some (blkA blk0)) : StepOk P ops I a0 sp k o (is (.agg (blkA blk0))) :=
  fun a w K => .inl ⟨hg.wanted K, fun K' Q hK => by
    have e : P.built t ((#[] : Array (Nat × Operand)).map fun (i, x) => (i, a.eval x)).toList = some (blkA blk0) := by rw [Array.map_empty]; exact hb
    exact wp_build t _ ho (by rw [e]; rfl) (by rw [e]; exact hK _ _ K.inv (I.refl _) rfl)⟩
theorem step_str (hg : Goes ops sp k o) (x : Operand) (ho : o.op = .convert 25 9 x) (l : List Nat) (hx : OpIs ops I a0 sp k x (isBytes l)) : StepOk Try.prog ops I a0 sp k o (is (.string (str l))) :=
  step_same hg fun a w K => ⟨_, by
    simp only [execOp, ho, Sem.run_bind, conv_str (hx a w K), Result.andThen]; rfl, rfl⟩
theorem run_eqGuard_str (op : BinOp) (t : TypeId) (x y : Operand) (m n : ByteArray) (w : World) : (eqGuard op t x y (.string m) (.string n)).run P w = .ok () w := by
  unfold eqGuard
  cases op <;> rfl
theorem eql_self (s : ByteArray) (w : World) : (binOp .eql 9 (.string s) (.string s)).run Try.prog w = .ok (.bool true) w := by
  rw [binOp_string_eql, beq_self_eq_true]; rfl
theorem step_eqs (hg : Goes ops sp k o) (x y : Operand) (ho : o.op = .binOp .eql 9 x y 9) (l : List Nat) (hx : OpIs ops I a0 sp k x (is (.string (str l)))) (hy : OpIs ops I a0 sp k y (is (.string (str l)))) : StepOk Try.prog ops I a0 sp k o (is (.bool true)) :=
  step_two hg x y _ _ _ hx hy fun ρ w h1 h2 => by simp only [execOp, ho, h1, h2, Sem.run_bind, run_eqGuard_str, eql_self, Result.andThen]; rfl
theorem step_eqw (hg : Goes ops sp k o) (x : Operand) (s : ByteArray) (ho : o.op = .binOp .eql 9 x (.const (.string s)) 9) (l : List Nat) (hl : str l = s) (hx : OpIs ops I a0 sp k x (is (.string (str l)))) : StepOk Try.prog ops I a0 sp k o (is (.bool true)) := by
  subst hl
  exact step_eqs hg x _ ho l hx (opC _)
theorem step_sl10 {l m : List Nat} (hg : Goes ops sp k o) (x : Operand) (ho : o.op = .slice 25 x none (some (.const (.int .i64 10))) none) (hm : l.take 10 = m) (hl : 10 ≤ l.length) (hx : OpIs ops I a0 sp k x (isBytes l)) : StepOk Try.prog ops I a0 sp k o (isBytes m) :=
  step_same hg fun a w K => by
    obtain ⟨A, cap, h1, h2, h3⟩ := hx a w K
    have e1 : ∀ c : Value, a.eval (.const c) = c := fun _ => rfl
    refine ⟨.slice A 10 cap, ?_, A, cap, ?_, ?_, hm ▸ h3.take 10⟩
    · have h4 : (10 : Int) ≤ (cap : Int) := by omega
      have hr : (Instr.sliceAt 25 (.slice A l.length cap) none (some (.int .i64 10)) none).run Try.prog w = .ok (.slice A 10 cap) w := by simp [go_sem, h4]
      simp only [execOp, ho, h1, e1, Option.map_some, Option.map_none, Sem.run_bind, hr, Result.andThen]; rfl
    · rw [← hm, List.length_take, Nat.min_eq_left hl]
    · rw [← hm, List.length_take]; omega
end
section
variable {ops : Array Oper} {a0 : Act} {sp : Nat → Spec} {k : Nat} {o : Oper} {w0 : World}
theorem step_newer (hg : Goes ops sp k o) (x y z u : Operand) (ts : Array TypeId) (ho : o.op = .call { callee := .value (.func 15), args := #[x, y, z, u], argTypes := ts }) (a b : Blk) (p q : Bool) (n : Int) (hn : newer a b p q = n)
    (hx : OpIs ops (UpC w0) a0 sp k x (is (.agg (blkA a)))) (hy : OpIs ops (UpC w0) a0 sp k y (is (.agg (blkA b)))) (hz : OpIs ops (UpC w0) a0 sp k z (is (.bool p))) (hu : OpIs ops (UpC w0) a0 sp k u (is (.bool q))) : StepOk Try.prog ops (UpC w0) a0 sp k o (is (.int .i64 n)) :=
  step_enter hg 15 fun ac w K => ⟨_, run_call o ac.eval 15 _ ts ho rfl enter15 w, by
    have e1 : ac.eval x = _ := hx ac w K
    have e2 : ac.eval y = _ := hy ac w K
    have e3 : ac.eval z = _ := hz ac w K
    have e4 : ac.eval u = _ := hu ac w K
    subst hn
    simp only [List.map_toArray, List.map_cons, List.map_nil, e1, e2, e3, e4]
    exact (newer_walk a b p q w).mono fun _ _ ⟨he, hb⟩ => ⟨_, he, (UpC.step K.inv hb).1, hb, rfl⟩⟩
theorem step_newerR (hg : Goes ops sp k o) (x y z u : Operand) (ts : Array TypeId) (ho : o.op = .call { callee := .value (.func 16), args := #[x, y, z, u], argTypes := ts }) (a b : Blk) (p q : Bool) (n : Int) (hn : newer a b p q = n)
    (hx : OpIs ops (UpC w0) a0 sp k x (is (.agg (blkA a)))) (hy : OpIs ops (UpC w0) a0 sp k y (is (.agg (blkA b)))) (hz : OpIs ops (UpC w0) a0 sp k z (is (.bool p))) (hu : OpIs ops (UpC w0) a0 sp k u (is (.bool q))) : StepOk Try.prog ops (UpC w0) a0 sp k o (is (.int .i64 n)) :=
  step_enter hg 16 fun ac w K => ⟨_, run_call o ac.eval 16 _ ts ho rfl enter16 w, by
    have e1 : ac.eval x = _ := hx ac w K
    have e2 : ac.eval y = _ := hy ac w K
    have e3 : ac.eval z = _ := hz ac w K
    have e4 : ac.eval u = _ := hu ac w K
    subst hn
    simp only [List.map_toArray, List.map_cons, List.map_nil, e1, e2, e3, e4]
    exact (rnewer_walk a b p q w).mono fun _ _ ⟨he, hb⟩ => ⟨_, he, (UpC.step K.inv hb).1, hb, rfl⟩⟩
theorem step_flat (hg : Goes ops sp k o) (x : Operand) (ts : Array TypeId) (ho : o.op = .call { callee := .value (.func 11), args := #[x], argTypes := ts }) (a : Blk) (hx : OpIs ops (UpC w0) a0 sp k x (is (.agg (blkA a)))) : StepOk Try.prog ops (UpC w0) a0 sp k o (is (.agg (blkA a))) :=
  step_call1 hg 11 x ts ho enter11 hx (fun v1 w h h1 => by
    obtain rfl : v1 = _ := h1
    exact (flat_walk a w).mono fun _ _ ⟨he, hb⟩ => ⟨_, he, (UpC.step h hb).1, hb, rfl⟩)
theorem step_same' (hg : Goes ops sp k o) (x y : Operand) (ts : Array TypeId) (ho : o.op = .call { callee := .value (.func 14), args := #[x, y], argTypes := ts }) (a : Blk) (hx : OpIs ops (UpC w0) a0 sp k x (is (.agg (blkA a)))) (hy : OpIs ops (UpC w0) a0 sp k y (is (.agg (blkA a)))) : StepOk Try.prog ops (UpC w0) a0 sp k o (is (.bool true)) :=
  step_call2 hg 14 x y ts ho enter14 hx hy (fun v1 v2 w h h1 h2 => by
    obtain rfl : v1 = _ := h1
    obtain rfl : v2 = _ := h2
    exact (same_walk a w).mono fun _ _ ⟨he, hb⟩ => ⟨_, he, (UpC.step h hb).1, hb, rfl⟩)
theorem step_make {t : TypeId} {x0 : Blk} (hg : Goes ops sp k o) (n : Nat) (hn : n ≤ 1099511627776) (x y : Operand) (ho : o.op = .makeSlice 25 x y)
    (hx : OpIs ops (BC t x0 w0) a0 sp k x (is (.int .i64 (n : Int)))) (hy : OpIs ops (BC t x0 w0) a0 sp k y (is (.int .i64 (n : Int)))) : StepOk Try.prog ops (BC t x0 w0) a0 sp k o (isBytes (List.replicate n 0)) := by
  refine step_run hg fun a w K => ?_
  have h1 : a.eval x = .int .i64 (n : Int) := hx a w K
  have h2 : a.eval y = .int .i64 (n : Int) := hy a w K
  have hb := bytes_new w (List.replicate n 0) (by simp +contextual) 5 (0, 0)
  have hs := BC.step K.inv (below_alloc w (.cells (byteCells (List.replicate n 0)) 5))
  exact ⟨_, _, by simp only [execOp, ho, h1, h2, Sem.run_bind, make25 n hn w, Result.andThen]; rfl, hs.1, hs.2, _, n, by simp, by simp, hb⟩
theorem step_dec0 {t : TypeId} {x0 : Blk} (hg : Goes ops sp k o) (x y : Operand) (ts : Array TypeId) (ho : o.op = .call { callee := .value (.func 12), args := #[x, y], argTypes := ts })
    (hx : OpIs ops (BC t x0 w0) a0 sp k x (is (.agg (tabCells tab)))) (hy : OpIs ops (BC t x0 w0) a0 sp k y (isBytes (List.replicate 32 0))) : StepOk Try.prog ops (BC t x0 w0) a0 sp k o (is (.tuple #[.agg (blkA blk0), .int .i64 3])) :=
  step_call2 hg 12 x y ts ho enter12 hx hy (fun v1 v2 w h h1 h2 => by
    obtain rfl : v1 = _ := h1
    have hd := dec_walk (List.replicate 32 0) v2 w h2
    rw [dec0.1, dec0.2] at hd
    exact hd.mono fun _ _ ⟨he, hb⟩ => ⟨_, he, (BC.step h hb).1, (BC.step h hb).2, rfl⟩)
end
section
variable {ops : Array Oper} {rest : List Oper} {o : Oper} {a : Act} {w : World} {Q : Exit → Act → World → Prop}
theorem evalC (a : Act) (v : Value) : a.eval (.const v) = v := rfl
theorem arm_build6 (hgd : o.guard = none) (t : TypeId) (l : Array (Nat × Operand)) (ho : o.op = .build t l) (x : Blk) (hb : Try.prog.built t (l.map fun (i, x) => (i, a.eval x)).toList = some (blkA x))
    (h : wpList Try.prog ops Q rest (a.put o.dst (.agg (blkA x))) w) : wpList Try.prog ops Q (o :: rest) a w := by
  refine wpList_build hgd t _ ho (by rw [hb]; rfl) ?_
  rw [hb]; exact h
theorem arm_tab (hgd : o.guard = none) (x : Operand) (ho : o.op = .load 28 x) (g : Nat) (hx : a.eval x = .pointer (some ⟨g, 0, none⟩)) (hg : w.heap[g]? = some (.cells (tabCells tab) 28 (0, 0)))
    (h : wpList Try.prog ops Q rest (a.put o.dst (.agg (tabCells tab))) w) : wpList Try.prog ops Q (o :: rest) a w :=
  wpList_load_row hgd 28 x ho g hx 28 (tabCells tab) (0, 0) _ hg Try.underlying28 rfl size28 h
end
theorem builtX : Try.prog.built 24 [(0, .int .i64 258), (1, .int .i64 3), (2, .bool true), (3, .int .i64 5), (4, .int .i64 7), (5, .int .u32 9)] = some (blkA blkX) := by unfold blkA Blk.cells blkX; kernel_rfl
theorem builtD : Try.prog.built 24 [(1, .int .i64 4)] = some (blkA blkD) := by unfold blkA Blk.cells blkD; kernel_rfl
theorem two_tab (w : World) : ((w.alloc (.cells (tabCells tab) 28)).alloc (.cells (tabCells tab) 28)).heap[w.heap.size + 1]? = some (.cells (tabCells tab) 28 (0, 0)) := by
  have := heap_alloc_new (w.alloc (.cells (tabCells tab) 28)) (.cells (tabCells tab) 28)
  simpa using this
/-- a store into a block laid just now -/
theorem set_new (w : World) (b : Nat) (x y : Blk) (t : Nat) (h : BlkAt w t b x) : BlkAt (w.setRow b (blkA y)) t b y := setRow_heap w b _ _ t _ h
theorem set_below (w : World) (b B : Nat) (y : Blk) (hb : B ≤ b) : Below B w (w.setRow b (blkA y)) := ⟨rfl, rfl, rfl, by simp [World.setRow], fun q hq => setRow_other w b q _ (by omega)⟩

set_option maxRecDepth 100000 in
set_option maxHeartbeats 2000000 in
theorem awake_walk (w : World) : Calls Try.prog 6 #[] w fun e w' => e = .returned (.bool true) ∧ Below w.heap.size w w' := by
  go_enter Try.func6, Try.ntmps6
  go_wp2_with fail
  refine (Make_walk _).mono ?_
  rintro e w' ⟨rfl, rfl⟩
  have HT := Lib.hid (two_tab w)
  have HB := Lib.hid (below_trans (below_alloc w (.cells (tabCells tab) 28)) (below_alloc _ (.cells (tabCells tab) 28)))
  go_wp2_with (first
    | (with_reducible refine at_op (.alloc 28) ?_; refine wpList_alloc28 rfl rfl ?_)
    | (with_reducible refine at_op (.store 28 (.tmp 1) (.tmp 11)) ?_; refine wpList_store_row rfl 28 (.tmp 1) (.tmp 11) rfl (tabCells (fun _ => 0)) (tabCells tab) _ (by simp) rfl rfl size28 (tabCells_same _ _) (tabCells_one tab) ?_
       simp only [World.size_alloc]
       generalize (w.alloc (.cells (tabCells tab) 28)).alloc (.cells (tabCells tab) 28) = w1 at *
       obtain ⟨b1, hb1⟩ : ∃ b1, b1 = w.heap.size + 1 := ⟨_, rfl⟩
       rw [← hb1] at HT ⊢
       clear hb1)
    | (with_reducible refine at_op (.build 24 #[(0, .const (.int .i64 258)), (1, .const (.int .i64 3)), (2, .const (.bool true)), (3, .const (.int .i64 5)), (4, .const (.int .i64 7)), (5, .const (.int .u32 9))]) ?_; refine arm_build6 rfl 24 _ rfl blkX (by simp only [List.map_toArray, List.map_cons, List.map_nil, evalC]; exact builtX) ?_)
    | (with_reducible refine at_op (.alloc 24) ?_; refine arm_allocB rfl 24 rfl alloc24 ?_)
    | (with_reducible refine at_op (.store 24 (.tmp 2) (.tmp 12)) ?_; refine arm_storeB rfl 24 size24 (.tmp 2) (.tmp 12) rfl w1.heap.size blk0 blkX rfl rfl (BlkAt.new w1 24 blk0) ?_
       have HX2 := Lib.hid (set_new _ _ _ blkX _ (BlkAt.new w1 24 blk0))
       have hs := (below_alloc w1 (.cells (blkA blk0) 24)).trans (set_below _ w1.heap.size w1.heap.size blkX (Nat.le_refl _))
       have HT2 := Lib.hid (tab_up HT.out hs)
       have HB2 := Lib.hid (below_trans HB.out hs)
       generalize World.setRow (w1.alloc (.cells (blkA blk0) 24)) w1.heap.size (blkA blkX) = w2 at *
       obtain ⟨b2, hb2⟩ : ∃ b2, b2 = w1.heap.size := ⟨_, rfl⟩
       rw [← hb2] at HX2 ⊢
       clear hs hb2 HT HB)
    | (with_reducible refine at_op (.load 28 (.tmp 1)) ?_; first | refine arm_tab rfl (.tmp 1) rfl b1 rfl HT6.out ?_ | refine arm_tab rfl (.tmp 1) rfl b1 rfl HT3.out ?_ | refine arm_tab rfl (.tmp 1) rfl b1 rfl HT2.out ?_)
    | (with_reducible refine at_op (.load 24 (.tmp 2)) ?_; refine arm_loadB rfl 24 (fun _ _ _ h => h.load24) (.tmp 2) rfl b2 blkX rfl HX2.out ?_)
    | (go_at_call 9; with_reducible refine (enc_walk blkX (by decide) _).mono ?_
       rintro e w3 ⟨v3, rfl, hv3, hb3⟩
       rw [encX.1] at hv3
       rw [encX.2.1]
       obtain ⟨A3, cap3, rfl, hc3, hB3⟩ := hv3
       have HV3 := Lib.hid (show isBytes (enc blkX) (.slice A3 32 cap3) w3 from ⟨A3, cap3, by rw [enc_length], hc3, hB3⟩)
       rw [enc_length]
       have HX3 := Lib.hid (HX2.out.below hb3)
       have HT3 := Lib.hid (tab_up HT2.out hb3)
       have HB3 := Lib.hid (below_trans HB2.out hb3)
       clear hb3 hc3 hB3 HB2 HX2)
    | (go_at_call 12; refine (dec_walk (enc blkX) _ _ HV3.out).mono ?_
       rintro e w4 ⟨rfl, hb4⟩
       rw [decX.1, decX.2]
       have HV4 := Lib.hid (HV3.out.up hb4)
       have HX4 := Lib.hid (HX3.out.below hb4)
       have HT4 := Lib.hid (tab_up HT3.out hb4)
       have HB4 := Lib.hid (below_trans HB3.out hb4)
       clear hb4 HT3 HT2)
    | (with_reducible refine at_op (.store 24 (.tmp 5) (.tmp 23)) ?_; refine arm_storeB rfl 24 size24 (.tmp 5) (.tmp 23) rfl w4.heap.size blk0 blkX rfl rfl (BlkAt.new w4 24 blk0) ?_
       have HX5 := Lib.hid (set_new _ _ _ blkX _ (BlkAt.new w4 24 blk0))
       have hs := (below_alloc w4 (.cells (blkA blk0) 24)).trans (set_below _ w4.heap.size w4.heap.size blkX (Nat.le_refl _))
       have HA5 := Lib.hid (And.intro (tab_up HT4.out hs) (And.intro (HX4.out.below hs) (And.intro (HV4.out.up hs) (below_trans HB4.out hs))))
       generalize World.setRow (w4.alloc (.cells (blkA blk0) 24)) w4.heap.size (blkA blkX) = w5 at *
       obtain ⟨b5, hb5⟩ : ∃ b5, b5 = w4.heap.size := ⟨_, rfl⟩
       rw [← hb5] at HX5 ⊢
       clear hs hb5)
    | fail)
  obtain ⟨w4, hw4⟩ : ∃ w4, w4 = w5 := ⟨_, rfl⟩
  rw [← hw4] at HX5 HA5 ⊢
  clear hw4
  have HA := HA5
  refine wp_region_link 85 mixed (by kernel_rfl) (by rfl) (BC 24 blk0 w4) (BC.start _ _ _) ?_
  refine wpL_cons (is (.agg (tabCells tab))) (stable_is _) (step_loadRow (go0 rfl) 28 (.tmp 1) rfl b1 28 (tabCells tab) (0, 0) _ (opO' 1 (.pointer (some ⟨b1, 0, none⟩)) rfl rfl) (fun W h => (tab_up HA.out.1 h)) Try.underlying28 rfl size28) ?_
  refine wpL_cons (isBytes (List.replicate 32 0)) (stable_bytesB _) (step_make (go0 rfl) 32 (by omega) (.const (.int .i64 32)) (.const (.int .i64 32)) rfl (opC _) (opC _)) ?_
  refine wpL_cons (is (.tuple #[.agg (blkA blk0), .int .i64 3])) (stable_is _) (step_dec0 (go0 rfl) (.tmp 26) (.tmp 27) _ rfl (opT' 26 0 rfl rfl) (opT' 27 1 rfl rfl)) ?_
  refine wpL_cons (is (.tuple #[.agg (blkA blk0), .int .i64 3])) (stable_is _) (step_move (go0 rfl) (.tmp 28) rfl (opT' 28 2 rfl rfl)) ?_
  refine wpL_cons (is (.agg (blkA blk0))) (stable_is _) (step_extract (go0 rfl) (.tmp 25) 0 rfl _ _ (opT' 25 3 rfl rfl) rfl) ?_
  refine wpL_cons (is (.int .i64 3)) (stable_is _) (step_extract (go0 rfl) (.tmp 25) 1 rfl _ _ (opT' 25 3 rfl rfl) rfl) ?_
  refine wpL_cons (BlkPtr w4.heap.size 24 blk0) (blkPtr_stable _) (step_allocB (go0 rfl) rfl alloc24) ?_
  refine wpL_store 7 rfl (BlkSet w4.heap.size 24 blk0) (blkSet_stable _) (step_storeB 7 (.tmp 29) rfl size24 (opT' 7 6 rfl rfl) (opT' 29 4 rfl rfl)) ?_
  refine wpL_cons (is (.int .i64 3)) (stable_is _) (step_assign (go0 rfl) (.tmp 30) rfl (opT' 30 5 rfl rfl)) ?_
  refine wpL_nil ?_
  intro v w6 hI hrl hdone hsome
  clear hrl
  obtain ⟨u, ⟨b7, hub, _, _⟩, husA⟩ := hsome 7 (by decide)
  have hus := husA 7 rfl
  clear husA
  have h8 : v 8 = .int .i64 3 := hdone 8 8 rfl
  simp only [putAll, Act.put, List.setIfInBounds_toArray, List.set_cons_zero, List.set_cons_succ, Nat.zero_add, Nat.reduceAdd] at hus ⊢
  have h7 : v 6 = .pointer (some ⟨b7, 0, none⟩) := hus.symm.trans hub
  have hI : Below w4.heap.size w4 w6 := hI
  have HT6 := Lib.hid (tab_up HA.out.1 hI)
  have HA6 := Lib.hid (And.intro (HA.out.2.1.below hI) (And.intro (HX5.out.below hI) (And.intro (HA.out.2.2.1.up hI) (below_trans HA.out.2.2.2 hI))))
  rw [h7, h8]
  clear hdone hsome hI hus hub h7 h8 HA HA5 HX5
  go_upto_region 7 with (first
    | (with_reducible refine at_op (.load 28 (.tmp 1)) ?_; refine arm_tab rfl (.tmp 1) rfl b1 rfl HT6.out ?_)
    | (with_reducible refine at_op (.build 24 #[(1, .const (.int .i64 4))]) ?_; refine arm_build6 rfl 24 _ rfl blkD (by simp only [List.map_toArray, List.map_cons, List.map_nil, evalC]; exact builtD) ?_)
    | (go_at_call 9; with_reducible refine (enc_walk blkD (by decide) _).mono ?_
       rintro e wf ⟨v8, rfl, hv8, hb8⟩
       rw [encX.2.2]
       have HF := Lib.hid (And.intro (below_trans HA6.out.2.2.2 hb8) (And.intro (HA6.out.1.below hb8) (And.intro (HA6.out.2.1.below hb8) (HA6.out.2.2.1.up hb8))))
       clear hb8 hv8 HA6 HT6)
    | fail)
  go_ways
  refine wp_region_text 85 (by kernel_rfl) (by rfl) (UpC wf) (show Below wf.heap.size wf wf from Below.refl _ _) ?_
  refine wpL_cons (is (.int .i64 0)) (stable_is _) (step_move (go0 rfl) (.tmp 4) rfl (opO' 4 (.int .i64 0) rfl rfl)) ?_
  refine wpL_cons (is (.bool true)) (stable_is _) (step_int (go0 rfl) .eql 32 32 (.tmp 37) (.const (.int .i64 0)) rfl .i64 .i64 _ _ _ (opT' 37 0 rfl rfl) (opC _) (fun W => by kernel_rfl)) ?_
  refine wpL_cons (is (.bool true)) (stable_is _) (step_move (go0 rfl) (.tmp 38) rfl (opT' 38 1 rfl rfl)) ?_
  refine wpL_cons (is (.slice A3 32 cap3)) (stable_is _) (step_move (go1 2 true 39 rfl rfl rfl rfl) (.tmp 3) rfl (opO' 3 (.slice A3 32 cap3) rfl rfl)) ?_
  refine wpL_cons (is (.int .i64 32)) (stable_is _) (step_len (go1 2 true 39 rfl rfl rfl rfl) (.tmp 40) _ rfl _ _ (opT' 40 3 rfl rfl) (fun W => by kernel_rfl)) ?_
  refine wpL_cons (is (.bool true)) (stable_is _) (step_int (go1 2 true 39 rfl rfl rfl rfl) .eql 3 3 (.tmp 41) (.const (.int .i64 32)) rfl .i64 .i64 _ _ _ (opT' 41 4 rfl rfl) (opC _) (fun W => by kernel_rfl)) ?_
  refine wpL_cons (is (.bool true)) (stable_is _) (step_pickT (go0 rfl) (.tmp 39) (.tmp 42) (.const (.bool false)) rfl (opT' 39 2 rfl rfl) (opT' 42 5 rfl rfl)) ?_
  refine wpL_cons (is (.bool true)) (stable_is _) (step_move (go0 rfl) (.tmp 43) rfl (opT' 43 6 rfl rfl)) ?_
  refine wpL_cons (is (.slice A3 32 cap3)) (stable_is _) (step_move (go1 7 true 44 rfl rfl rfl rfl) (.tmp 3) rfl (opO' 3 (.slice A3 32 cap3) rfl rfl)) ?_
  refine wpL_cons (isBytes [87, 65, 73, 78, 0, 0, 1, 2, 3, 1]) (stable_isBytes _) (step_sl10 (go1 7 true 44 rfl rfl rfl rfl) (.tmp 45) rfl takeX (by rw [enc_length]; omega) (OpIs.imp (opT' 45 8 rfl rfl) (fun v W h e => by obtain rfl : v = _ := e; exact (HF.out.2.2.2.up h)))) ?_
  refine wpL_cons (is (.string (str ([87, 65, 73, 78, 0, 0, 1, 2, 3, 1])))) (stable_is _) (step_str (go1 7 true 44 rfl rfl rfl rfl) (.tmp 46) rfl ([87, 65, 73, 78, 0, 0, 1, 2, 3, 1]) (opT' 46 9 rfl rfl)) ?_
  refine wpL_cons (is (.bool true)) (stable_is _) (step_eqw (go1 7 true 44 rfl rfl rfl rfl) (.tmp 47) _ rfl _ wain10 (opT' 47 10 rfl rfl)) ?_
  refine wpL_cons (is (.bool true)) (stable_is _) (step_pickT (go0 rfl) (.tmp 44) (.tmp 48) (.const (.bool false)) rfl (opT' 44 7 rfl rfl) (opT' 48 11 rfl rfl)) ?_
  refine wpL_cons (is (.bool true)) (stable_is _) (step_move (go0 rfl) (.tmp 49) rfl (opT' 49 12 rfl rfl)) ?_
  refine wpL_cons (is (.int .i64 0)) (stable_is _) (step_move (go1 13 true 50 rfl rfl rfl rfl) (.tmp 6) rfl (opO' 6 (.int .i64 0) rfl rfl)) ?_
  refine wpL_cons (is (.bool true)) (stable_is _) (step_int (go1 13 true 50 rfl rfl rfl rfl) .eql 32 32 (.tmp 51) (.const (.int .i64 0)) rfl .i64 .i64 _ _ _ (opT' 51 14 rfl rfl) (opC _) (fun W => by kernel_rfl)) ?_
  refine wpL_cons (is (.bool true)) (stable_is _) (step_pickT (go0 rfl) (.tmp 50) (.tmp 52) (.const (.bool false)) rfl (opT' 50 13 rfl rfl) (opT' 52 15 rfl rfl)) ?_
  refine wpL_cons (is (.bool true)) (stable_is _) (step_move (go0 rfl) (.tmp 53) rfl (opT' 53 16 rfl rfl)) ?_
  refine wpL_cons (is (.agg (blkA blkX))) (stable_is _) (step_loadRow (go1 17 true 54 rfl rfl rfl rfl) 24 (.tmp 5) rfl (b5) 24 (blkA blkX) (0, 0) _ (opO' 5 (.pointer (some ⟨b5, 0, none⟩)) rfl rfl) (fun W h => (HF.out.2.2.1.below h)) Try.underlying24 rfl (size24 blkX)) ?_
  refine wpL_cons (is (.agg (blkA blkX))) (stable_is _) (step_loadRow (go1 17 true 54 rfl rfl rfl rfl) 24 (.tmp 2) rfl (b2) 24 (blkA blkX) (0, 0) _ (opO' 2 (.pointer (some ⟨b2, 0, none⟩)) rfl rfl) (fun W h => (HF.out.2.1.below h)) Try.underlying24 rfl (size24 blkX)) ?_
  refine wpL_cons (is (.bool true)) (stable_is _) (step_eql24 (go1 17 true 54 rfl rfl rfl rfl) (.tmp 55) (.tmp 56) rfl blkX (opT' 55 18 rfl rfl) (opT' 56 19 rfl rfl)) ?_
  refine wpL_cons (is (.bool true)) (stable_is _) (step_pickT (go0 rfl) (.tmp 54) (.tmp 57) (.const (.bool false)) rfl (opT' 54 17 rfl rfl) (opT' 57 20 rfl rfl)) ?_
  refine wpL_cons (is (.bool true)) (stable_is _) (step_move (go0 rfl) (.tmp 58) rfl (opT' 58 21 rfl rfl)) ?_
  refine wpL_cons (is (.int .i64 3)) (stable_is _) (step_move (go1 22 true 59 rfl rfl rfl rfl) (.tmp 8) rfl (opO' 8 (.int .i64 3) rfl rfl)) ?_
  refine wpL_cons (is (.bool true)) (stable_is _) (step_int (go1 22 true 59 rfl rfl rfl rfl) .eql 32 32 (.tmp 60) (.const (.int .i64 3)) rfl .i64 .i64 _ _ _ (opT' 60 23 rfl rfl) (opC _) (fun W => by kernel_rfl)) ?_
  refine wpL_cons (is (.bool true)) (stable_is _) (step_pickT (go0 rfl) (.tmp 59) (.tmp 61) (.const (.bool false)) rfl (opT' 59 22 rfl rfl) (opT' 61 24 rfl rfl)) ?_
  refine wpL_cons (is (.bool true)) (stable_is _) (step_move (go0 rfl) (.tmp 62) rfl (opT' 62 25 rfl rfl)) ?_
  refine wpL_cons (is (.int .i64 1)) (stable_is _) (step_move (go1 26 true 63 rfl rfl rfl rfl) (.tmp 10) rfl (opO' 10 (.int .i64 1) rfl rfl)) ?_
  refine wpL_cons (is (.bool true)) (stable_is _) (step_int (go1 26 true 63 rfl rfl rfl rfl) .eql 32 32 (.tmp 64) (.const (.int .i64 1)) rfl .i64 .i64 _ _ _ (opT' 64 27 rfl rfl) (opC _) (fun W => by kernel_rfl)) ?_
  refine wpL_cons (is (.bool true)) (stable_is _) (step_pickT (go0 rfl) (.tmp 63) (.tmp 65) (.const (.bool false)) rfl (opT' 63 26 rfl rfl) (opT' 65 28 rfl rfl)) ?_
  refine wpL_cons (is (.bool true)) (stable_is _) (step_move (go0 rfl) (.tmp 66) rfl (opT' 66 29 rfl rfl)) ?_
  refine wpL_cons (is (.agg (blkA blkX))) (stable_is _) (step_loadRow (go1 30 true 67 rfl rfl rfl rfl) 24 (.tmp 2) rfl (b2) 24 (blkA blkX) (0, 0) _ (opO' 2 (.pointer (some ⟨b2, 0, none⟩)) rfl rfl) (fun W h => (HF.out.2.1.below h)) Try.underlying24 rfl (size24 blkX)) ?_
  refine wpL_cons (is (.agg (blkA blkX))) (stable_is _) (step_loadRow (go1 30 true 67 rfl rfl rfl rfl) 24 (.tmp 2) rfl (b2) 24 (blkA blkX) (0, 0) _ (opO' 2 (.pointer (some ⟨b2, 0, none⟩)) rfl rfl) (fun W h => (HF.out.2.1.below h)) Try.underlying24 rfl (size24 blkX)) ?_
  refine wpL_cons (is (.int .i64 0)) (stable_is _) (step_newer (go1 30 true 67 rfl rfl rfl rfl) (.tmp 68) (.tmp 69) (.const (.bool true)) (.const (.bool true)) _ rfl blkX blkX true true 0 rfl (opT' 68 31 rfl rfl) (opT' 69 32 rfl rfl) (opC _) (opC _)) ?_
  refine wpL_cons (is (.bool true)) (stable_is _) (step_int (go1 30 true 67 rfl rfl rfl rfl) .eql 3 3 (.tmp 70) (.const (.int .i64 0)) rfl .i64 .i64 _ _ _ (opT' 70 33 rfl rfl) (opC _) (fun W => by kernel_rfl)) ?_
  refine wpL_cons (is (.bool true)) (stable_is _) (step_pickT (go0 rfl) (.tmp 67) (.tmp 71) (.const (.bool false)) rfl (opT' 67 30 rfl rfl) (opT' 71 34 rfl rfl)) ?_
  refine wpL_cons (is (.bool true)) (stable_is _) (step_move (go0 rfl) (.tmp 72) rfl (opT' 72 35 rfl rfl)) ?_
  refine wpL_cons (is (.agg (blkA blkX))) (stable_is _) (step_loadRow (go1 36 true 73 rfl rfl rfl rfl) 24 (.tmp 2) rfl (b2) 24 (blkA blkX) (0, 0) _ (opO' 2 (.pointer (some ⟨b2, 0, none⟩)) rfl rfl) (fun W h => (HF.out.2.1.below h)) Try.underlying24 rfl (size24 blkX)) ?_
  refine wpL_cons (is (.agg (blkA blkX))) (stable_is _) (step_loadRow (go1 36 true 73 rfl rfl rfl rfl) 24 (.tmp 2) rfl (b2) 24 (blkA blkX) (0, 0) _ (opO' 2 (.pointer (some ⟨b2, 0, none⟩)) rfl rfl) (fun W h => (HF.out.2.1.below h)) Try.underlying24 rfl (size24 blkX)) ?_
  refine wpL_cons (is (.int .i64 1)) (stable_is _) (step_newer (go1 36 true 73 rfl rfl rfl rfl) (.tmp 74) (.tmp 75) (.const (.bool false)) (.const (.bool true)) _ rfl blkX blkX false true 1 rfl (opT' 74 37 rfl rfl) (opT' 75 38 rfl rfl) (opC _) (opC _)) ?_
  refine wpL_cons (is (.bool true)) (stable_is _) (step_int (go1 36 true 73 rfl rfl rfl rfl) .eql 3 3 (.tmp 76) (.const (.int .i64 1)) rfl .i64 .i64 _ _ _ (opT' 76 39 rfl rfl) (opC _) (fun W => by kernel_rfl)) ?_
  refine wpL_cons (is (.bool true)) (stable_is _) (step_pickT (go0 rfl) (.tmp 73) (.tmp 77) (.const (.bool false)) rfl (opT' 73 36 rfl rfl) (opT' 77 40 rfl rfl)) ?_
  refine wpL_cons (is (.bool true)) (stable_is _) (step_move (go0 rfl) (.tmp 78) rfl (opT' 78 41 rfl rfl)) ?_
  refine wpL_cons (is (.agg (blkA blkX))) (stable_is _) (step_loadRow (go1 42 true 79 rfl rfl rfl rfl) 24 (.tmp 2) rfl (b2) 24 (blkA blkX) (0, 0) _ (opO' 2 (.pointer (some ⟨b2, 0, none⟩)) rfl rfl) (fun W h => (HF.out.2.1.below h)) Try.underlying24 rfl (size24 blkX)) ?_
  refine wpL_cons (is (.agg (blkA blkX))) (stable_is _) (step_loadRow (go1 42 true 79 rfl rfl rfl rfl) 24 (.tmp 2) rfl (b2) 24 (blkA blkX) (0, 0) _ (opO' 2 (.pointer (some ⟨b2, 0, none⟩)) rfl rfl) (fun W h => (HF.out.2.1.below h)) Try.underlying24 rfl (size24 blkX)) ?_
  refine wpL_cons (is (.int .i64 (-1))) (stable_is _) (step_newer (go1 42 true 79 rfl rfl rfl rfl) (.tmp 80) (.tmp 81) (.const (.bool false)) (.const (.bool false)) _ rfl blkX blkX false false (-1) rfl (opT' 80 43 rfl rfl) (opT' 81 44 rfl rfl) (opC _) (opC _)) ?_
  refine wpL_cons (is (.bool true)) (stable_is _) (step_int (go1 42 true 79 rfl rfl rfl rfl) .eql 3 3 (.tmp 82) (.const (.int IntKind.i64 (-1))) rfl .i64 .i64 _ _ _ (opT' 82 45 rfl rfl) (opC _) (fun W => by kernel_rfl)) ?_
  refine wpL_cons (is (.bool true)) (stable_is _) (step_pickT (go0 rfl) (.tmp 79) (.tmp 83) (.const (.bool false)) rfl (opT' 79 42 rfl rfl) (opT' 83 46 rfl rfl)) ?_
  refine wpL_cons (is (.bool true)) (stable_is _) (step_assign (go0 rfl) (.tmp 84) rfl (opT' 84 47 rfl rfl)) ?_
  refine wpL_nil ?_
  intro v9 wg hI _ hdone _
  have e0 : v9 48 = .bool true := hdone 48 0 rfl
  have hI : Below wf.heap.size wf wg := hI
  have HG := Lib.hid (below_trans HF.out.1 hI)
  clear hdone hI
  simp only [putAll, Act.put, List.setIfInBounds_toArray, List.set_cons_zero, List.set_cons_succ, Nat.zero_add, Nat.reduceAdd, e0]
  go_wp2_with fail
  go_ret
  exact ⟨rfl, HG.out⟩
end Go.Proofs.Ytccdciokokcomaa
