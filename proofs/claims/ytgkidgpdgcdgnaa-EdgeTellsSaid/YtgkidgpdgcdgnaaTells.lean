/- EdgeTells: of any triangle on the screen its area, which way round, which pixels it covers and how far each is inside is as the reference has it. At every input the law says true. -/
import Derived.Test.YtgkidgpdgcdgnaaTelB
import Derived.Deep.CutRange
import Derived.Test.YtgkidgpdgcdgnaaShaB
import Derived.Test.YtgkidgpdgcdgnaaArgs
import Derived.BigQuiet
import Derived.ProofKit
import Derived.OpenShut
import Derived.ShutString
import Derived.ChangeOld
import Derived.Below
namespace Go.Proofs.Ytgkidgpdgcdgnaa
open Go.RowKit

theorem step_sideR {ops : Array Oper} {a0 : Act} {sp : Nat → Spec} {k : Nat} {o : Oper} {w0 : World} (hg : Goes ops sp k o) (x y z u : Operand) (ts : Array TypeId) (ho : o.op = .call { callee := .value (.func 17), args := #[x, y, z, u], argTypes := ts })
    (p q : Spot) (m n : Int) (hp : p.ok) (hq : q.ok) (hm : Near m) (hn : Near n) (hx : OpIs ops (UpC w0) a0 sp k x (is (.agg (spotA p)))) (hy : OpIs ops (UpC w0) a0 sp k y (is (.agg (spotA q)))) (hz : OpIs ops (UpC w0) a0 sp k z (is (.int .i64 m))) (hu : OpIs ops (UpC w0) a0 sp k u (is (.int .i64 n))) :
    StepOk Try.prog ops (UpC w0) a0 sp k o (is (.int .i64 (side p q m n))) :=
  step_call4 hg 17 x y z u ts ho enter17 hx hy hz hu (fun v1 v2 v3 v4 w h h1 h2 h3 h4 => by
    obtain rfl : v1 = _ := h1
    obtain rfl : v2 = _ := h2
    obtain rfl : v3 = _ := h3
    obtain rfl : v4 = _ := h4
    have hs := RSide_walk p q m n hp hq hm hn w
    rw [spotV_A, spotV_A] at hs
    exact hs.mono fun _ _ ⟨he, hb⟩ => ⟨_, he, (UpC.step h hb).1, hb, rfl⟩)
theorem step_offU {P : Program} {ops : Array Oper} {I : Cls} {a0 : Act} {sp : Nat → Spec} {k : Nat} {o : Oper} (g : Nat) (b : Bool) (t : Nat) (h : o.guard = some (g, b)) (h2 : (ops[g]?).bind (·.dst) = some t) (h3 : srcOf ops k t = some (some g)) (h4 : sp g = is undef) :
    StepOk P ops I a0 sp k o (is undef) := fun a w K => by
  have hv : sp g (a.tmps.getD t undef) w := K.got t g h3
  rw [h4] at hv
  have hv : a.tmps.getD t undef = undef := hv
  refine .inr ⟨?_, rfl⟩
  rw [Array.getD_eq_getD_getElem?] at hv
  cases ht : a.tmps[t]? with
  | none => simp [Region.wanted, h, yielded, h2, ht]
  | some v =>
    rw [ht] at hv
    obtain rfl : v = undef := hv
    simp [Region.wanted, h, yielded, h2, ht, undef]
section
variable {ops : Array Oper} {rest : List Oper} {o : Oper} {a : Act} {w : World} {Q : Exit → Act → World → Prop}
theorem arm_put (hgd : o.guard = none) (t : TypeId) (x y : Operand) (ho : o.op = .store t x y) (g : Nat) (c c' : Array Value) (hx : a.eval x = .pointer (some ⟨g, 0, none⟩)) (hy : a.eval y = .agg c') (hg : w.heap[g]? = some (.cells c t (0, 0))) (hi : (Try.prog.info? t).map (·.size) = some c'.size) (hs : c.size = c'.size) (h1 : c'.all (·.oneCell') = true)
    (h : wpList Try.prog ops Q rest (a.put o.dst undef) (w.setRow g c')) : wpList Try.prog ops Q (o :: rest) a w :=
  wpList_plain hgd fun _ hK => wp_store_row t x y ho g c' hx hy t c hg hi hs h1 (hK _ _ h)
end
/-- how far the rows have come -/
structure TelR (wd ht : Int) (ib : Bool) (p q r : Spot) (k : Nat) (l : List Hit) : Prop where
  le : k ≤ ht.toNat
  yes : (1 ≤ wd ∧ wd ≤ 32 ∧ ht ≤ 32 ∧ ib = true) → l = pixTo (p, q, r) wd.toNat (k * wd.toNat)
  no : ¬ (1 ≤ wd ∧ wd ≤ 32 ∧ ht ≤ 32 ∧ ib = true) → k = 0 ∧ l = []
theorem TelR.start (wd ht : Int) (ib : Bool) (p q r : Spot) : TelR wd ht ib p q r 0 [] := ⟨by omega, fun _ => by rw [Nat.zero_mul]; rfl, fun _ => ⟨rfl, rfl⟩⟩
theorem TelR.go {W : Nat} {ht : Int} {p q r : Spot} {k : Nat} {l : List Hit} (h : TelR (W : Int) ht true p q r k l) (h1 : 1 ≤ W) (h2 : W ≤ 32) (h3 : ht ≤ 32) : l = pixTo (p, q, r) W (k * W) := by
  have := h.yes ⟨by omega, by omega, h3, rfl⟩
  simpa using this
theorem TelR.next {W : Nat} {ht : Int} {p q r : Spot} {k : Nat} {l : List Hit} (_ : TelR (W : Int) ht true p q r k l) (h1 : 1 ≤ (W : Int)) (h2 : (W : Int) ≤ 32) (h3 : ht ≤ 32) (h4 : (k : Int) < ht) : TelR (W : Int) ht true p q r (k + 1) (pixTo (p, q, r) W (k * W + W)) :=
  ⟨by omega, fun _ => by rw [Int.toNat_natCast, Nat.add_mul, Nat.one_mul], fun h => absurd ⟨h1, h2, h3, rfl⟩ h⟩
theorem TelR.stop {wd ht : Int} {ib : Bool} {p q r a b c : Spot} {k : Nat} {l : List Hit} (h : TelR wd ht ib p q r k l) (hT : turned a b c = ((p, q, r), ib)) (hn : ¬ ((1 ≤ wd ∧ wd ≤ 32 ∧ ht ≤ 32 ∧ ib = true) ∧ (k : Int) < ht)) : l = pix a b c wd ht := by
  unfold pix
  rw [hT]
  by_cases hv : 1 ≤ wd ∧ wd ≤ 32 ∧ ht ≤ 32 ∧ ib = true
  · have hk : ht ≤ (k : Int) := by
      by_cases e : (k : Int) < ht
      · exact absurd ⟨hv, e⟩ hn
      · omega
    have hle := h.le
    rw [h.yes hv]
    by_cases h0 : 1 ≤ ht
    · rw [if_pos ⟨hv.2.2.2, hv.1, hv.2.1, h0, hv.2.2.1⟩, show k = ht.toNat by omega, Nat.mul_comm]
    · rw [if_neg (fun e => h0 e.2.2.2.1), show k = 0 by omega, Nat.zero_mul]
      rfl
  · rw [(h.no hv).2, if_neg (fun e => hv ⟨e.2.1, e.2.2.1, e.2.2.2.2, e.1⟩)]
theorem put_new (w : World) (c c' : Array Value) (t : TypeId) : ((w.alloc (.cells c t)).setRow w.heap.size c').heap[w.heap.size]? = some (.cells c' t (0, 0)) := setRow_heap _ w.heap.size c c' t _ (heap_alloc_new w _)
theorem range_up {w W : World} {g o : Nat} {cs : List Value} (h : Below w.heap.size w W) (hr : w.rangeAt g o cs) : W.rangeAt g o cs := fun j v hv => by
  have hc := hr j v hv
  rw [h.cell (block_lt_of_cell hc)]; exact hc
theorem put_below (w : World) (c c' : Array Value) (t : TypeId) : Below w.heap.size w ((w.alloc (.cells c t)).setRow w.heap.size c') :=
  (below_alloc w _).trans ⟨rfl, rfl, rfl, by simp [World.setRow], fun q hq => setRow_other _ w.heap.size q _ (by omega)⟩
set_option maxRecDepth 100000 in
set_option maxHeartbeats 8000000 in
theorem Tells_walk (a b c : Spot) (wd ht px py most : Int) (w : World) : Calls Try.prog 3 #[.agg (triA a b c), .int .i64 wd, .int .i64 ht, .int .i64 px, .int .i64 py, .int .i64 most] w fun e w' => e = .returned (.bool true) ∧ Below w.heap.size w w' := by
  have HT0 := Lib.hid (TriAt.new w a b c)
  have HB0 := Lib.hid (below_alloc w (.cells (triA a b c) 24))
  by_cases hall : allOk a b c = true
  rotate_left 1
  · have HALL := Lib.hid (Bool.eq_false_iff.2 hall)
    clear hall
    go_enter Try.func3, Try.ntmps3
    go_wp2_with (first
      | ((with_reducible refine tel_op (.load 24 (.tmp 6)) ?_); refine arm_load24 rfl (.tmp 6) rfl w.heap.size a b c rfl HT0.out ?_)
      | (go_at_call 8; (with_reducible refine (small_walk a b c _).mono ?_)
         rintro e w2 ⟨rfl, hb2⟩
         rw [HALL.out]
         have HB2 := Lib.hid (below_trans HB0.out hb2)
         clear hb2)
      | (go_at_call 9; (with_reducible refine (awake_walk _).mono ?_)
         rintro e w3 ⟨rfl, hb3⟩
         have HZ := Lib.hid (below_trans HB2.out hb3)
         clear hb3)
      | fail)
    go_ret
    exact ⟨rfl, HZ.out⟩
  have HALL := Lib.hid hall
  have hok := (allOk_iff a b c).1 hall
  clear hall
  by_cases hx1 : px < -100
  · go_enter Try.func3, Try.ntmps3
    go_wp2_with (first
      | ((with_reducible refine tel_op (.load 24 (.tmp 6)) ?_); refine arm_load24 rfl (.tmp 6) rfl w.heap.size a b c rfl HT0.out ?_)
      | (go_at_call 8; (with_reducible refine (small_walk a b c _).mono ?_)
         rintro e w2 ⟨rfl, hb2⟩
         rw [HALL.out]
         have HB2 := Lib.hid (below_trans HB0.out hb2)
         clear hb2)
      | (go_at_call 9; (with_reducible refine (awake_walk _).mono ?_)
         rintro e w3 ⟨rfl, hb3⟩
         have HZ := Lib.hid (below_trans HB2.out hb3)
         clear hb3)
      | fail)
    go_ret
    exact ⟨rfl, HZ.out⟩
  by_cases hx2 : 100 < px
  · go_enter Try.func3, Try.ntmps3
    go_wp2_with (first
      | ((with_reducible refine tel_op (.load 24 (.tmp 6)) ?_); refine arm_load24 rfl (.tmp 6) rfl w.heap.size a b c rfl HT0.out ?_)
      | (go_at_call 8; (with_reducible refine (small_walk a b c _).mono ?_)
         rintro e w2 ⟨rfl, hb2⟩
         rw [HALL.out]
         have HB2 := Lib.hid (below_trans HB0.out hb2)
         clear hb2)
      | (go_at_call 9; (with_reducible refine (awake_walk _).mono ?_)
         rintro e w3 ⟨rfl, hb3⟩
         have HZ := Lib.hid (below_trans HB2.out hb3)
         clear hb3)
      | fail)
    go_ret
    exact ⟨rfl, HZ.out⟩
  by_cases hy1 : py < -100
  · go_enter Try.func3, Try.ntmps3
    go_wp2_with (first
      | ((with_reducible refine tel_op (.load 24 (.tmp 6)) ?_); refine arm_load24 rfl (.tmp 6) rfl w.heap.size a b c rfl HT0.out ?_)
      | (go_at_call 8; (with_reducible refine (small_walk a b c _).mono ?_)
         rintro e w2 ⟨rfl, hb2⟩
         rw [HALL.out]
         have HB2 := Lib.hid (below_trans HB0.out hb2)
         clear hb2)
      | (go_at_call 9; (with_reducible refine (awake_walk _).mono ?_)
         rintro e w3 ⟨rfl, hb3⟩
         have HZ := Lib.hid (below_trans HB2.out hb3)
         clear hb3)
      | fail)
    go_ret
    exact ⟨rfl, HZ.out⟩
  by_cases hy2 : 100 < py
  · go_enter Try.func3, Try.ntmps3
    go_wp2_with (first
      | ((with_reducible refine tel_op (.load 24 (.tmp 6)) ?_); refine arm_load24 rfl (.tmp 6) rfl w.heap.size a b c rfl HT0.out ?_)
      | (go_at_call 8; (with_reducible refine (small_walk a b c _).mono ?_)
         rintro e w2 ⟨rfl, hb2⟩
         rw [HALL.out]
         have HB2 := Lib.hid (below_trans HB0.out hb2)
         clear hb2)
      | (go_at_call 9; (with_reducible refine (awake_walk _).mono ?_)
         rintro e w3 ⟨rfl, hb3⟩
         have HZ := Lib.hid (below_trans HB2.out hb3)
         clear hb3)
      | fail)
    go_ret
    exact ⟨rfl, HZ.out⟩
  have hpx : -100 ≤ px ∧ px ≤ 100 := by omega
  have hpy : -100 ≤ py ∧ py ≤ 100 := by omega
  obtain ⟨p, q, r, ib, hT⟩ : ∃ p q r ib, turned a b c = ((p, q, r), ib) := ⟨_, _, _, _, rfl⟩
  have hTV : turnV a b c = .tuple #[.agg (triA p q r), .bool ib] := by unfold turnV; rw [hT]
  have HTO := Lib.hid (show p.ok ∧ q.ok ∧ r.ok from by have := turned_ok hok.1 hok.2.1 hok.2.2; rw [hT] at this; exact this)
  have HTV := Lib.hid hTV
  have HTT := Lib.hid hT
  obtain ⟨hh, cv, hcv⟩ := both_cases a b c px py
  have HCV := Lib.hid hcv
  clear hTV hT hcv
  have HP0 := Lib.hid (show Pk w [(w.heap.size, triO a b c)] (w.alloc (.cells (triA a b c) 24)) from ⟨fun e he => by simp only [List.mem_singleton] at he; subst he; exact HT0.out, HB0.out⟩)
  go_enter Try.func3, Try.ntmps3
  go_upto_region 7 with (first
    | ((with_reducible refine tel_op (.load 24 (.tmp 6)) ?_); first | refine arm_load24 rfl (.tmp 6) rfl w.heap.size a b c rfl (show TriAt _ w.heap.size a b c from HP6.out.blks (w.heap.size, triO a b c) (by simp)) ?_ | refine arm_load24 rfl (.tmp 6) rfl w.heap.size a b c rfl (show TriAt _ w.heap.size a b c from HP4.out.blks (w.heap.size, triO a b c) (by simp)) ?_ | refine arm_load24 rfl (.tmp 6) rfl w.heap.size a b c rfl (show TriAt _ w.heap.size a b c from HP2.out.blks (w.heap.size, triO a b c) (by simp)) ?_ | refine arm_load24 rfl (.tmp 6) rfl w.heap.size a b c rfl (show TriAt _ w.heap.size a b c from HP1.out.blks (w.heap.size, triO a b c) (by simp)) ?_ | refine arm_load24 rfl (.tmp 6) rfl w.heap.size a b c rfl HT0.out ?_)
    | (go_at_call 8; (with_reducible refine (small_walk a b c _).mono ?_)
       rintro e w2 ⟨rfl, hb2⟩
       rw [HALL.out]
       have HP1 := Lib.hid (HP0.out.up hb2)
       clear hb2)
    | (go_at_call 10; (with_reducible refine (Turned_walk a b c hok.1 hok.2.1 hok.2.2 _).mono ?_)
       rintro e w3 ⟨rfl, hb3⟩
       rw [HTV.out]
       have HP1b := Lib.hid (HP1.out.up hb3)
       clear hb3)
    | ((with_reducible refine tel_op (.alloc 24) ?_); refine arm_alloc24 rfl rfl ?_)
    | ((with_reducible refine tel_op (.store 24 (.tmp 13) (.tmp 53)) ?_); refine arm_put rfl 24 (.tmp 13) (.tmp 53) rfl w3.heap.size (triA spot0 spot0 spot0) (triA p q r) rfl rfl (heap_alloc_new w3 _) (size24 _ _ _) (by rw [triA_size, triA_size]) (triA_one _ _ _) ?_
       have HP2 := Lib.hid ((HP1b.out.up (put_below w3 (triA spot0 spot0 spot0) (triA p q r) 24)).add (put_new w3 (triA spot0 spot0 spot0) (triA p q r) 24))
       generalize (w3.alloc (.cells (triA spot0 spot0 spot0) 24)).setRow w3.heap.size (triA p q r) = w4 at *
       obtain ⟨g13, hg13⟩ : ∃ g, g = w3.heap.size := ⟨_, rfl⟩
       rw [← hg13] at HP2 ⊢
       clear hg13)
    | (go_at_call 11; (with_reducible refine (RTurned_walk a b c hok.1 hok.2.1 hok.2.2 _).mono ?_)
       rintro e w5 ⟨rfl, hb5⟩
       rw [HTV.out]
       have HP3 := Lib.hid (HP2.out.up hb5)
       clear hb5)
    | ((with_reducible refine tel_op (.store 24 (.tmp 15) (.tmp 58)) ?_); refine arm_put rfl 24 (.tmp 15) (.tmp 58) rfl w5.heap.size (triA spot0 spot0 spot0) (triA p q r) rfl rfl (heap_alloc_new w5 _) (size24 _ _ _) (by rw [triA_size, triA_size]) (triA_one _ _ _) ?_
       have HP4 := Lib.hid ((HP3.out.up (put_below w5 (triA spot0 spot0 spot0) (triA p q r) 24)).add (put_new w5 (triA spot0 spot0 spot0) (triA p q r) 24))
       generalize (w5.alloc (.cells (triA spot0 spot0 spot0) 24)).setRow w5.heap.size (triA p q r) = w6 at *
       obtain ⟨g15, hg15⟩ : ∃ g, g = w5.heap.size := ⟨_, rfl⟩
       rw [← hg15] at HP4 ⊢
       clear hg15)
    | (go_at_call 12; (with_reducible refine (Covers_walk a b c px py hok.1 hok.2.1 hok.2.2 hpx hpy _).mono ?_)
       rintro e w7 ⟨rfl, hb7⟩
       rw [HCV.out.1]
       have HP5 := Lib.hid (HP4.out.up hb7)
       clear hb7)
    | ((with_reducible refine tel_op (.alloc 31) ?_); refine arm_alloc31 rfl rfl ?_)
    | ((with_reducible refine tel_op (.store 31 (.tmp 17) (.tmp 65)) ?_); refine arm_put rfl 31 (.tmp 17) (.tmp 65) rfl w7.heap.size (hitA 0 0 0 0 0) (hh.cells) rfl rfl (heap_alloc_new w7 _) (size31 _ _ _ _ _) (by rw [hitA_size, Hit.cells_size]) (hitA_one _ _ _ _ _) ?_
       have HP6 := Lib.hid ((HP5.out.up (put_below w7 (hitA 0 0 0 0 0) (hh.cells) 31)).add (put_new w7 (hitA 0 0 0 0 0) (hh.cells) 31))
       generalize (w7.alloc (.cells (hitA 0 0 0 0 0) 31)).setRow w7.heap.size (hh.cells) = w8 at *
       obtain ⟨g17, hg17⟩ : ∃ g, g = w7.heap.size := ⟨_, rfl⟩
       rw [← hg17] at HP6 ⊢
       clear hg17)
    | (go_at_call 13; (with_reducible refine (RCovers_walk a b c px py hok.1 hok.2.1 hok.2.2 hpx hpy _).mono ?_)
       rintro e w9 ⟨rfl, hb9⟩
       rw [HCV.out.2.1]
       have HP7 := Lib.hid (HP6.out.up hb9)
       clear hb9)
    | ((with_reducible refine tel_op (.alloc 29) ?_); refine arm_alloc29 rfl rfl ?_)
    | ((with_reducible refine tel_op (.store 29 (.tmp 19) (.tmp 72)) ?_); refine arm_put rfl 29 (.tmp 19) (.tmp 72) rfl w9.heap.size (eA 0 0 0) (eA hh.e0 hh.e1 hh.e2) rfl rfl (heap_alloc_new w9 _) (size29 _ _ _) (by rw [eA_size, eA_size]) (eA_one _ _ _) ?_
       have HP8 := Lib.hid ((HP7.out.up (put_below w9 (eA 0 0 0) (eA hh.e0 hh.e1 hh.e2) 29)).add (put_new w9 (eA 0 0 0) (eA hh.e0 hh.e1 hh.e2) 29))
       generalize (w9.alloc (.cells (eA 0 0 0) 29)).setRow w9.heap.size (eA hh.e0 hh.e1 hh.e2) = w10 at *
       obtain ⟨g19, hg19⟩ : ∃ g, g = w9.heap.size := ⟨_, rfl⟩
       rw [← hg19] at HP8 ⊢
       clear hg19)
    | fail)
  have HP := HP8
  clear HP0 HP1 HP1b HP2 HP3 HP4 HP5 HP6 HP7 HP8 HB0 HT0
  have hnx : Near px := by unfold Near; omega
  have hny : Near py := by unfold Near; omega
  go_cut [140] from 74 to 140 (fun s wx => s = .bool false ∧ Pk w [(w.heap.size, triO a b c), (g15, triO p q r)] wx)
  case first =>
    cases cv
    · obtain rfl := HCV.out.2.2.2 rfl
      clear HCV
      refine wp_region_link 242 mixed (by kernel_rfl) (by rfl) (UpC w10) (UpC.start w10) ?_
      refine wpL_cons (is (.agg (triA p q r))) (stable_is _) (step_loadRow (go0 rfl) 24 (.tmp 13) rfl (g13) 24 (triA p q r) (0, 0) _ (opO' 13 (.pointer (some ⟨g13, 0, none⟩)) rfl rfl) (fun W h => ((show TriAt W g13 p q r from ((HP.out.up h).blks (g13, triO p q r) (by simp [triO]))))) Try.underlying24 rfl (size24 p q r)) ?_
      refine wpL_cons (is (.agg (triA p q r))) (stable_is _) (step_loadRow (go0 rfl) 24 (.tmp 15) rfl (g15) 24 (triA p q r) (0, 0) _ (opO' 15 (.pointer (some ⟨g15, 0, none⟩)) rfl rfl) (fun W h => ((show TriAt W g15 p q r from ((HP.out.up h).blks (g15, triO p q r) (by simp [triO]))))) Try.underlying24 rfl (size24 p q r)) ?_
      refine wpL_cons (is (.bool false)) (stable_is _) (step_neq24 (go0 rfl) (.tmp 74) (.tmp 75) rfl p q r (opT' 74 0 rfl rfl) (opT' 75 1 rfl rfl)) ?_
      refine wpL_cons (is (.bool false)) (stable_is _) (step_move (go0 rfl) (.tmp 76) rfl (opT' 76 2 rfl rfl)) ?_
      refine wpL_cons (is (.bool ib)) (stable_is _) (step_move (go1 3 false 77 rfl rfl rfl rfl) (.tmp 14) rfl (opO' 14 (.bool ib) rfl rfl)) ?_
      refine wpL_cons (is (.bool ib)) (stable_is _) (step_move (go1 3 false 77 rfl rfl rfl rfl) (.tmp 16) rfl (opO' 16 (.bool ib) rfl rfl)) ?_
      refine wpL_cons (is (.bool false)) (stable_is _) (step_neqb (go1 3 false 77 rfl rfl rfl rfl) (.tmp 78) (.tmp 79) rfl ib (opT' 78 4 rfl rfl) (opT' 79 5 rfl rfl)) ?_
      refine wpL_cons (is (.bool false)) (stable_is _) (step_pickF (go0 rfl) (.tmp 77) (.const (.bool true)) (.tmp 80) rfl (opT' 77 3 rfl rfl) (opT' 80 6 rfl rfl)) ?_
      refine wpL_cons (is (.bool false)) (stable_is _) (step_move (go0 rfl) (.tmp 81) rfl (opT' 81 7 rfl rfl)) ?_
      refine wpL_cons (is (.bool false)) (stable_is _) (step_move (go1 8 false 82 rfl rfl rfl rfl) (.tmp 18) rfl (opO' 18 (.bool false) rfl rfl)) ?_
      refine wpL_cons (is (.bool false)) (stable_is _) (step_move (go1 8 false 82 rfl rfl rfl rfl) (.tmp 20) rfl (opO' 20 (.bool false) rfl rfl)) ?_
      refine wpL_cons (is (.bool false)) (stable_is _) (step_neqb (go1 8 false 82 rfl rfl rfl rfl) (.tmp 83) (.tmp 84) rfl false (opT' 83 9 rfl rfl) (opT' 84 10 rfl rfl)) ?_
      refine wpL_cons (is (.bool false)) (stable_is _) (step_pickF (go0 rfl) (.tmp 82) (.const (.bool true)) (.tmp 85) rfl (opT' 82 8 rfl rfl) (opT' 85 11 rfl rfl)) ?_
      refine wpL_cons (is (.bool false)) (stable_is _) (step_move (go0 rfl) (.tmp 86) rfl (opT' 86 12 rfl rfl)) ?_
      refine wpL_cons (is (.bool false)) (stable_is _) (step_move (go1 13 false 87 rfl rfl rfl rfl) (.tmp 18) rfl (opO' 18 (.bool false) rfl rfl)) ?_
      refine wpL_cons (is (.bool false)) (stable_is _) (step_move (go1 13 false 87 rfl rfl rfl rfl) (.tmp 88) rfl (opT' 88 14 rfl rfl)) ?_
      refine wpL_cons (is (undef)) (stable_is _) (step_off 15 true 89 rfl rfl rfl rfl) ?_
      refine wpL_cons (is (undef)) (stable_is _) (step_off 15 true 89 rfl rfl rfl rfl) ?_
      refine wpL_cons (is (undef)) (stable_is _) (step_off 15 true 89 rfl rfl rfl rfl) ?_
      refine wpL_cons (is (undef)) (stable_is _) (step_off 15 true 89 rfl rfl rfl rfl) ?_
      refine wpL_cons (is (undef)) (stable_is _) (step_off 15 true 89 rfl rfl rfl rfl) ?_
      refine wpL_cons (is (undef)) (stable_is _) (step_offU 20 false 94 rfl rfl rfl rfl) ?_
      refine wpL_cons (is (undef)) (stable_is _) (step_offU 20 false 94 rfl rfl rfl rfl) ?_
      refine wpL_cons (is (undef)) (stable_is _) (step_offU 20 false 94 rfl rfl rfl rfl) ?_
      refine wpL_cons (is (undef)) (stable_is _) (step_offU 20 false 94 rfl rfl rfl rfl) ?_
      refine wpL_cons (is (undef)) (stable_is _) (step_off 15 true 89 rfl rfl rfl rfl) ?_
      refine wpL_cons (is (undef)) (stable_is _) (step_off 15 true 89 rfl rfl rfl rfl) ?_
      refine wpL_cons (is (undef)) (stable_is _) (step_offU 26 false 100 rfl rfl rfl rfl) ?_
      refine wpL_cons (is (undef)) (stable_is _) (step_offU 26 false 100 rfl rfl rfl rfl) ?_
      refine wpL_cons (is (undef)) (stable_is _) (step_offU 26 false 100 rfl rfl rfl rfl) ?_
      refine wpL_cons (is (undef)) (stable_is _) (step_offU 26 false 100 rfl rfl rfl rfl) ?_
      refine wpL_cons (is (undef)) (stable_is _) (step_off 15 true 89 rfl rfl rfl rfl) ?_
      refine wpL_cons (is (.bool false)) (stable_is _) (step_pickF (go1 13 false 87 rfl rfl rfl rfl) (.tmp 89) (.tmp 105) (.const (.bool false)) rfl (opT' 89 15 rfl rfl) (opC _)) ?_
      refine wpL_cons (is (.bool false)) (stable_is _) (step_pickF (go0 rfl) (.tmp 87) (.const (.bool true)) (.tmp 106) rfl (opT' 87 13 rfl rfl) (opT' 106 32 rfl rfl)) ?_
      refine wpL_cons (is (.bool false)) (stable_is _) (step_move (go0 rfl) (.tmp 107) rfl (opT' 107 33 rfl rfl)) ?_
      refine wpL_cons (is (.bool false)) (stable_is _) (step_move (go1 34 false 108 rfl rfl rfl rfl) (.tmp 18) rfl (opO' 18 (.bool false) rfl rfl)) ?_
      refine wpL_cons (is (.bool true)) (stable_is _) (step_not (go1 34 false 108 rfl rfl rfl rfl) 4 (.tmp 109) rfl false (opT' 109 35 rfl rfl)) ?_
      refine wpL_cons (is (.bool true)) (stable_is _) (step_move (go1 34 false 108 rfl rfl rfl rfl) (.tmp 110) rfl (opT' 110 36 rfl rfl)) ?_
      refine wpL_cons (is (.agg (Hit.cells ⟨0, 0, 0, 0, 0⟩))) (stable_is _) (step_load31m (go1 37 true 111 rfl rfl rfl rfl) (.tmp 17) rfl g17 0 ⟨0, 0, 0, 0, 0⟩ (opO' 17 (.pointer (some ⟨g17, 0, none⟩)) rfl rfl) (fun W h => hit_range ((HP.out.up h).blks (g17, hitO ⟨0, 0, 0, 0, 0⟩) (by simp [hitO])))) ?_
      refine wpL_cons (is (.agg (Hit.cells ⟨0, 0, 0, 0, 0⟩))) (stable_is _) (step_build31z (go1 37 true 111 rfl rfl rfl rfl) rfl) ?_
      refine wpL_cons (is (.bool false)) (stable_is _) (step_neq31 (go1 37 true 111 rfl rfl rfl rfl) (.tmp 112) (.tmp 113) rfl ⟨0, 0, 0, 0, 0⟩ (opT' 112 38 rfl rfl) (opT' 113 39 rfl rfl)) ?_
      refine wpL_cons (is (.bool false)) (stable_is _) (step_pickT (go1 34 false 108 rfl rfl rfl rfl) (.tmp 111) (.tmp 114) (.const (.bool false)) rfl (opT' 111 37 rfl rfl) (opT' 114 40 rfl rfl)) ?_
      refine wpL_cons (is (.bool false)) (stable_is _) (step_pickF (go0 rfl) (.tmp 108) (.const (.bool true)) (.tmp 115) rfl (opT' 108 34 rfl rfl) (opT' 115 41 rfl rfl)) ?_
      refine wpL_cons (is (.bool false)) (stable_is _) (step_move (go0 rfl) (.tmp 116) rfl (opT' 116 42 rfl rfl)) ?_
      refine wpL_cons (is (.agg (triA a b c))) (stable_is _) (step_loadRow (go1 43 false 117 rfl rfl rfl rfl) 24 (.tmp 6) rfl (w.heap.size) 24 (triA a b c) (0, 0) _ (opO' 6 (.pointer (some ⟨w.heap.size, 0, none⟩)) rfl rfl) (fun W h => ((show TriAt W (w.heap.size) a b c from ((HP.out.up h).blks (w.heap.size, triO a b c) (by simp [triO]))))) Try.underlying24 rfl (size24 a b c)) ?_
      refine wpL_cons (is (.int .i64 (area a b c))) (stable_is _) (step_area (go1 43 false 117 rfl rfl rfl rfl) (.tmp 118) _ rfl a b c hok.1 hok.2.1 hok.2.2 (opT' 118 44 rfl rfl)) ?_
      refine wpL_cons (is (.agg (triA a b c))) (stable_is _) (step_loadRow (go1 43 false 117 rfl rfl rfl rfl) 24 (.tmp 6) rfl (w.heap.size) 24 (triA a b c) (0, 0) _ (opO' 6 (.pointer (some ⟨w.heap.size, 0, none⟩)) rfl rfl) (fun W h => ((show TriAt W (w.heap.size) a b c from ((HP.out.up h).blks (w.heap.size, triO a b c) (by simp [triO]))))) Try.underlying24 rfl (size24 a b c)) ?_
      refine wpL_cons (is (.int .i64 (area a b c))) (stable_is _) (step_rarea (go1 43 false 117 rfl rfl rfl rfl) (.tmp 120) _ rfl a b c hok.1 hok.2.1 hok.2.2 (opT' 120 46 rfl rfl)) ?_
      refine wpL_cons (is (.bool false)) (stable_is _) (step_int (go1 43 false 117 rfl rfl rfl rfl) .neq 3 3 (.tmp 119) (.tmp 121) rfl .i64 .i64 _ _ _ (opT' 119 45 rfl rfl) (opT' 121 47 rfl rfl) (fun W => run_neq3 _ _ false (bne_eq_false_iff_eq.2 (by omega)) W)) ?_
      refine wpL_cons (is (.bool false)) (stable_is _) (step_pickF (go0 rfl) (.tmp 117) (.const (.bool true)) (.tmp 122) rfl (opT' 117 43 rfl rfl) (opT' 122 48 rfl rfl)) ?_
      refine wpL_cons (is (.bool false)) (stable_is _) (step_move (go0 rfl) (.tmp 123) rfl (opT' 123 49 rfl rfl)) ?_
      refine wpL_cons (is (.pointer (some ⟨w.heap.size, 0, none⟩))) (stable_is _) (step_idx (go1 50 false 124 rfl rfl rfl rfl) 24 (.tmp 6) (.const (.int .i64 0)) rfl _ _ _ (opO' 6 (.pointer (some ⟨w.heap.size, 0, none⟩)) rfl rfl) (opC _) (fun W => run_it0 _ W)) ?_
      refine wpL_cons (is (.agg (spotA a))) (stable_is _) (step_load23 (go1 50 false 124 rfl rfl rfl rfl) (.tmp 125) rfl (w.heap.size) 0 a (opT' 125 51 rfl rfl) (fun W h => ((show TriAt W (w.heap.size) a b c from ((HP.out.up h).blks (w.heap.size, triO a b c) (by simp [triO])))).r0)) ?_
      refine wpL_cons (is (.pointer (some ⟨w.heap.size, 6, none⟩))) (stable_is _) (step_idx (go1 50 false 124 rfl rfl rfl rfl) 24 (.tmp 6) (.const (.int .i64 1)) rfl _ _ _ (opO' 6 (.pointer (some ⟨w.heap.size, 0, none⟩)) rfl rfl) (opC _) (fun W => run_it1 _ W)) ?_
      refine wpL_cons (is (.agg (spotA b))) (stable_is _) (step_load23 (go1 50 false 124 rfl rfl rfl rfl) (.tmp 127) rfl (w.heap.size) 6 b (opT' 127 53 rfl rfl) (fun W h => ((show TriAt W (w.heap.size) a b c from ((HP.out.up h).blks (w.heap.size, triO a b c) (by simp [triO])))).r1)) ?_
      refine wpL_cons (is (.int .i64 px)) (stable_is _) (step_move (go1 50 false 124 rfl rfl rfl rfl) (.tmp 3) rfl (opO' 3 (.int .i64 px) rfl rfl)) ?_
      refine wpL_cons (is (.int .i64 py)) (stable_is _) (step_move (go1 50 false 124 rfl rfl rfl rfl) (.tmp 4) rfl (opO' 4 (.int .i64 py) rfl rfl)) ?_
      refine wpL_cons (is (.int .i64 (side a b px py))) (stable_is _) (step_side (go1 50 false 124 rfl rfl rfl rfl) (.tmp 126) (.tmp 128) (.tmp 129) (.tmp 130) _ rfl a b px py hok.1 hok.2.1 hnx hny (opT' 126 52 rfl rfl) (opT' 128 54 rfl rfl) (opT' 129 55 rfl rfl) (opT' 130 56 rfl rfl)) ?_
      refine wpL_cons (is (.pointer (some ⟨w.heap.size, 0, none⟩))) (stable_is _) (step_idx (go1 50 false 124 rfl rfl rfl rfl) 24 (.tmp 6) (.const (.int .i64 0)) rfl _ _ _ (opO' 6 (.pointer (some ⟨w.heap.size, 0, none⟩)) rfl rfl) (opC _) (fun W => run_it0 _ W)) ?_
      refine wpL_cons (is (.agg (spotA a))) (stable_is _) (step_load23 (go1 50 false 124 rfl rfl rfl rfl) (.tmp 132) rfl (w.heap.size) 0 a (opT' 132 58 rfl rfl) (fun W h => ((show TriAt W (w.heap.size) a b c from ((HP.out.up h).blks (w.heap.size, triO a b c) (by simp [triO])))).r0)) ?_
      refine wpL_cons (is (.pointer (some ⟨w.heap.size, 6, none⟩))) (stable_is _) (step_idx (go1 50 false 124 rfl rfl rfl rfl) 24 (.tmp 6) (.const (.int .i64 1)) rfl _ _ _ (opO' 6 (.pointer (some ⟨w.heap.size, 0, none⟩)) rfl rfl) (opC _) (fun W => run_it1 _ W)) ?_
      refine wpL_cons (is (.agg (spotA b))) (stable_is _) (step_load23 (go1 50 false 124 rfl rfl rfl rfl) (.tmp 134) rfl (w.heap.size) 6 b (opT' 134 60 rfl rfl) (fun W h => ((show TriAt W (w.heap.size) a b c from ((HP.out.up h).blks (w.heap.size, triO a b c) (by simp [triO])))).r1)) ?_
      refine wpL_cons (is (.int .i64 px)) (stable_is _) (step_move (go1 50 false 124 rfl rfl rfl rfl) (.tmp 3) rfl (opO' 3 (.int .i64 px) rfl rfl)) ?_
      refine wpL_cons (is (.int .i64 py)) (stable_is _) (step_move (go1 50 false 124 rfl rfl rfl rfl) (.tmp 4) rfl (opO' 4 (.int .i64 py) rfl rfl)) ?_
      refine wpL_cons (is (.int .i64 (side a b px py))) (stable_is _) (step_sideR (go1 50 false 124 rfl rfl rfl rfl) (.tmp 133) (.tmp 135) (.tmp 136) (.tmp 137) _ rfl a b px py hok.1 hok.2.1 hnx hny (opT' 133 59 rfl rfl) (opT' 135 61 rfl rfl) (opT' 136 62 rfl rfl) (opT' 137 63 rfl rfl)) ?_
      refine wpL_cons (is (.bool false)) (stable_is _) (step_int (go1 50 false 124 rfl rfl rfl rfl) .neq 3 3 (.tmp 131) (.tmp 138) rfl .i64 .i64 _ _ _ (opT' 131 57 rfl rfl) (opT' 138 64 rfl rfl) (fun W => run_neq3 _ _ false (bne_eq_false_iff_eq.2 (by omega)) W)) ?_
      refine wpL_cons (is (.bool false)) (stable_is _) (step_pickF (go0 rfl) (.tmp 124) (.const (.bool true)) (.tmp 139) rfl (opT' 124 50 rfl rfl) (opT' 139 65 rfl rfl)) ?_
      refine wpL_nil ?_
      intro v w11 hI _ hdone _
      have e0 : v 66 = .bool false := hdone 66 140 rfl
      have hI : Below w10.heap.size w10 w11 := hI
      have HQ := Lib.hid (show Pk w [(w.heap.size, triO a b c), (g15, triO p q r)] w11 from ⟨fun e he => (HP.out.up hI).blks e (by simp only [List.mem_cons, List.not_mem_nil, or_false] at he; rcases he with rfl | rfl <;> simp [triO]), (HP.out.up hI).below⟩)
      clear hdone hI HP
      simp only [List.append]
      simp only [putAll, Act.put, List.setIfInBounds_toArray, List.set_cons_zero, List.set_cons_succ, Nat.zero_add, Nat.reduceAdd, e0]
      go_wp2_with fail
      go_meet
      exact ⟨rfl, HQ.out⟩
    · obtain ⟨rfl, rfl⟩ := HCV.out.2.2.1 rfl
      clear HCV
      refine wp_region_link 242 mixed (by kernel_rfl) (by rfl) (UpC w10) (UpC.start w10) ?_
      refine wpL_cons (is (.agg (triA p q r))) (stable_is _) (step_loadRow (go0 rfl) 24 (.tmp 13) rfl (g13) 24 (triA p q r) (0, 0) _ (opO' 13 (.pointer (some ⟨g13, 0, none⟩)) rfl rfl) (fun W h => ((show TriAt W g13 p q r from ((HP.out.up h).blks (g13, triO p q r) (by simp [triO]))))) Try.underlying24 rfl (size24 p q r)) ?_
      refine wpL_cons (is (.agg (triA p q r))) (stable_is _) (step_loadRow (go0 rfl) 24 (.tmp 15) rfl (g15) 24 (triA p q r) (0, 0) _ (opO' 15 (.pointer (some ⟨g15, 0, none⟩)) rfl rfl) (fun W h => ((show TriAt W g15 p q r from ((HP.out.up h).blks (g15, triO p q r) (by simp [triO]))))) Try.underlying24 rfl (size24 p q r)) ?_
      refine wpL_cons (is (.bool false)) (stable_is _) (step_neq24 (go0 rfl) (.tmp 74) (.tmp 75) rfl p q r (opT' 74 0 rfl rfl) (opT' 75 1 rfl rfl)) ?_
      refine wpL_cons (is (.bool false)) (stable_is _) (step_move (go0 rfl) (.tmp 76) rfl (opT' 76 2 rfl rfl)) ?_
      refine wpL_cons (is (.bool ib)) (stable_is _) (step_move (go1 3 false 77 rfl rfl rfl rfl) (.tmp 14) rfl (opO' 14 (.bool ib) rfl rfl)) ?_
      refine wpL_cons (is (.bool ib)) (stable_is _) (step_move (go1 3 false 77 rfl rfl rfl rfl) (.tmp 16) rfl (opO' 16 (.bool ib) rfl rfl)) ?_
      refine wpL_cons (is (.bool false)) (stable_is _) (step_neqb (go1 3 false 77 rfl rfl rfl rfl) (.tmp 78) (.tmp 79) rfl ib (opT' 78 4 rfl rfl) (opT' 79 5 rfl rfl)) ?_
      refine wpL_cons (is (.bool false)) (stable_is _) (step_pickF (go0 rfl) (.tmp 77) (.const (.bool true)) (.tmp 80) rfl (opT' 77 3 rfl rfl) (opT' 80 6 rfl rfl)) ?_
      refine wpL_cons (is (.bool false)) (stable_is _) (step_move (go0 rfl) (.tmp 81) rfl (opT' 81 7 rfl rfl)) ?_
      refine wpL_cons (is (.bool true)) (stable_is _) (step_move (go1 8 false 82 rfl rfl rfl rfl) (.tmp 18) rfl (opO' 18 (.bool true) rfl rfl)) ?_
      refine wpL_cons (is (.bool true)) (stable_is _) (step_move (go1 8 false 82 rfl rfl rfl rfl) (.tmp 20) rfl (opO' 20 (.bool true) rfl rfl)) ?_
      refine wpL_cons (is (.bool false)) (stable_is _) (step_neqb (go1 8 false 82 rfl rfl rfl rfl) (.tmp 83) (.tmp 84) rfl true (opT' 83 9 rfl rfl) (opT' 84 10 rfl rfl)) ?_
      refine wpL_cons (is (.bool false)) (stable_is _) (step_pickF (go0 rfl) (.tmp 82) (.const (.bool true)) (.tmp 85) rfl (opT' 82 8 rfl rfl) (opT' 85 11 rfl rfl)) ?_
      refine wpL_cons (is (.bool false)) (stable_is _) (step_move (go0 rfl) (.tmp 86) rfl (opT' 86 12 rfl rfl)) ?_
      refine wpL_cons (is (.bool true)) (stable_is _) (step_move (go1 13 false 87 rfl rfl rfl rfl) (.tmp 18) rfl (opO' 18 (.bool true) rfl rfl)) ?_
      refine wpL_cons (is (.bool true)) (stable_is _) (step_move (go1 13 false 87 rfl rfl rfl rfl) (.tmp 88) rfl (opT' 88 14 rfl rfl)) ?_
      refine wpL_cons (is (.pointer (some ⟨g17, 0 + 2, none⟩))) (stable_is _) (step_field (go1 15 true 89 rfl rfl rfl rfl) 31 2 (.tmp 17) rfl _ _ (opO' 17 (.pointer (some ⟨g17, 0, none⟩)) rfl rfl) (fun W => run_f31_2 _ _ W)) ?_
      refine wpL_cons (is (.agg (eA hh.e0 hh.e1 hh.e2))) (stable_is _) (step_load29 (go1 15 true 89 rfl rfl rfl rfl) (.tmp 90) rfl g17 (0 + 2) hh.e0 hh.e1 hh.e2 (opT' 90 16 rfl rfl) (fun W h => hit_e ((HP.out.up h).blks (g17, hitO hh) (by simp [hitO])))) ?_
      refine wpL_cons (is (.agg (eA hh.e0 hh.e1 hh.e2))) (stable_is _) (step_load29 (go1 15 true 89 rfl rfl rfl rfl) (.tmp 19) rfl g19 0 hh.e0 hh.e1 hh.e2 (opO' 19 (.pointer (some ⟨g19, 0, none⟩)) rfl rfl) (fun W h => e_row ((HP.out.up h).blks (g19, eO hh.e0 hh.e1 hh.e2) (by simp [eO])))) ?_
      refine wpL_cons (is (.bool false)) (stable_is _) (step_neq29 (go1 15 true 89 rfl rfl rfl rfl) (.tmp 91) (.tmp 92) rfl _ _ _ (opT' 91 17 rfl rfl) (opT' 92 18 rfl rfl)) ?_
      refine wpL_cons (is (.bool false)) (stable_is _) (step_move (go1 15 true 89 rfl rfl rfl rfl) (.tmp 93) rfl (opT' 93 19 rfl rfl)) ?_
      refine wpL_cons (is (.pointer (some ⟨g17, 0, none⟩))) (stable_is _) (step_field (go1 20 false 94 rfl rfl rfl rfl) 31 0 (.tmp 17) rfl _ _ (opO' 17 (.pointer (some ⟨g17, 0, none⟩)) rfl rfl) (fun W => run_f31_0 _ _ W)) ?_
      refine wpL_cons (is (.int .i64 hh.x)) (stable_is _) (step_cell (go1 20 false 94 rfl rfl rfl rfl) 3 (.tmp 95) rfl ⟨g17, 0, none⟩ _ (opT' 95 21 rfl rfl) (fun W h => (hit_xy ((HP.out.up h).blks (g17, hitO hh) (by simp [hitO]))).1) (fun W => by kernel_rfl)) ?_
      refine wpL_cons (is (.int .i64 hh.x)) (stable_is _) (step_move (go1 20 false 94 rfl rfl rfl rfl) (.tmp 3) rfl (opO' 3 (.int .i64 hh.x) rfl rfl)) ?_
      refine wpL_cons (is (.bool false)) (stable_is _) (step_int (go1 20 false 94 rfl rfl rfl rfl) .neq 3 3 (.tmp 96) (.tmp 97) rfl .i64 .i64 _ _ _ (opT' 96 22 rfl rfl) (opT' 97 23 rfl rfl) (fun W => run_neq3 _ _ false (bne_eq_false_iff_eq.2 (by omega)) W)) ?_
      refine wpL_cons (is (.bool false)) (stable_is _) (step_pickF (go1 15 true 89 rfl rfl rfl rfl) (.tmp 94) (.const (.bool true)) (.tmp 98) rfl (opT' 94 20 rfl rfl) (opT' 98 24 rfl rfl)) ?_
      refine wpL_cons (is (.bool false)) (stable_is _) (step_move (go1 15 true 89 rfl rfl rfl rfl) (.tmp 99) rfl (opT' 99 25 rfl rfl)) ?_
      refine wpL_cons (is (.pointer (some ⟨g17, 0 + 1, none⟩))) (stable_is _) (step_field (go1 26 false 100 rfl rfl rfl rfl) 31 1 (.tmp 17) rfl _ _ (opO' 17 (.pointer (some ⟨g17, 0, none⟩)) rfl rfl) (fun W => run_f31_1 _ _ W)) ?_
      refine wpL_cons (is (.int .i64 hh.y)) (stable_is _) (step_cell (go1 26 false 100 rfl rfl rfl rfl) 3 (.tmp 101) rfl ⟨g17, 0 + 1, none⟩ _ (opT' 101 27 rfl rfl) (fun W h => (hit_xy ((HP.out.up h).blks (g17, hitO hh) (by simp [hitO]))).2) (fun W => by kernel_rfl)) ?_
      refine wpL_cons (is (.int .i64 hh.y)) (stable_is _) (step_move (go1 26 false 100 rfl rfl rfl rfl) (.tmp 4) rfl (opO' 4 (.int .i64 hh.y) rfl rfl)) ?_
      refine wpL_cons (is (.bool false)) (stable_is _) (step_int (go1 26 false 100 rfl rfl rfl rfl) .neq 3 3 (.tmp 102) (.tmp 103) rfl .i64 .i64 _ _ _ (opT' 102 28 rfl rfl) (opT' 103 29 rfl rfl) (fun W => run_neq3 _ _ false (bne_eq_false_iff_eq.2 (by omega)) W)) ?_
      refine wpL_cons (is (.bool false)) (stable_is _) (step_pickF (go1 15 true 89 rfl rfl rfl rfl) (.tmp 100) (.const (.bool true)) (.tmp 104) rfl (opT' 100 26 rfl rfl) (opT' 104 30 rfl rfl)) ?_
      refine wpL_cons (is (.bool false)) (stable_is _) (step_pickT (go1 13 false 87 rfl rfl rfl rfl) (.tmp 89) (.tmp 105) (.const (.bool false)) rfl (opT' 89 15 rfl rfl) (opT' 105 31 rfl rfl)) ?_
      refine wpL_cons (is (.bool false)) (stable_is _) (step_pickF (go0 rfl) (.tmp 87) (.const (.bool true)) (.tmp 106) rfl (opT' 87 13 rfl rfl) (opT' 106 32 rfl rfl)) ?_
      refine wpL_cons (is (.bool false)) (stable_is _) (step_move (go0 rfl) (.tmp 107) rfl (opT' 107 33 rfl rfl)) ?_
      refine wpL_cons (is (.bool true)) (stable_is _) (step_move (go1 34 false 108 rfl rfl rfl rfl) (.tmp 18) rfl (opO' 18 (.bool true) rfl rfl)) ?_
      refine wpL_cons (is (.bool false)) (stable_is _) (step_not (go1 34 false 108 rfl rfl rfl rfl) 4 (.tmp 109) rfl true (opT' 109 35 rfl rfl)) ?_
      refine wpL_cons (is (.bool false)) (stable_is _) (step_move (go1 34 false 108 rfl rfl rfl rfl) (.tmp 110) rfl (opT' 110 36 rfl rfl)) ?_
      refine wpL_cons (is (undef)) (stable_is _) (step_off 37 true 111 rfl rfl rfl rfl) ?_
      refine wpL_cons (is (undef)) (stable_is _) (step_off 37 true 111 rfl rfl rfl rfl) ?_
      refine wpL_cons (is (undef)) (stable_is _) (step_off 37 true 111 rfl rfl rfl rfl) ?_
      refine wpL_cons (is (.bool false)) (stable_is _) (step_pickF (go1 34 false 108 rfl rfl rfl rfl) (.tmp 111) (.tmp 114) (.const (.bool false)) rfl (opT' 111 37 rfl rfl) (opC _)) ?_
      refine wpL_cons (is (.bool false)) (stable_is _) (step_pickF (go0 rfl) (.tmp 108) (.const (.bool true)) (.tmp 115) rfl (opT' 108 34 rfl rfl) (opT' 115 41 rfl rfl)) ?_
      refine wpL_cons (is (.bool false)) (stable_is _) (step_move (go0 rfl) (.tmp 116) rfl (opT' 116 42 rfl rfl)) ?_
      refine wpL_cons (is (.agg (triA a b c))) (stable_is _) (step_loadRow (go1 43 false 117 rfl rfl rfl rfl) 24 (.tmp 6) rfl (w.heap.size) 24 (triA a b c) (0, 0) _ (opO' 6 (.pointer (some ⟨w.heap.size, 0, none⟩)) rfl rfl) (fun W h => ((show TriAt W (w.heap.size) a b c from ((HP.out.up h).blks (w.heap.size, triO a b c) (by simp [triO]))))) Try.underlying24 rfl (size24 a b c)) ?_
      refine wpL_cons (is (.int .i64 (area a b c))) (stable_is _) (step_area (go1 43 false 117 rfl rfl rfl rfl) (.tmp 118) _ rfl a b c hok.1 hok.2.1 hok.2.2 (opT' 118 44 rfl rfl)) ?_
      refine wpL_cons (is (.agg (triA a b c))) (stable_is _) (step_loadRow (go1 43 false 117 rfl rfl rfl rfl) 24 (.tmp 6) rfl (w.heap.size) 24 (triA a b c) (0, 0) _ (opO' 6 (.pointer (some ⟨w.heap.size, 0, none⟩)) rfl rfl) (fun W h => ((show TriAt W (w.heap.size) a b c from ((HP.out.up h).blks (w.heap.size, triO a b c) (by simp [triO]))))) Try.underlying24 rfl (size24 a b c)) ?_
      refine wpL_cons (is (.int .i64 (area a b c))) (stable_is _) (step_rarea (go1 43 false 117 rfl rfl rfl rfl) (.tmp 120) _ rfl a b c hok.1 hok.2.1 hok.2.2 (opT' 120 46 rfl rfl)) ?_
      refine wpL_cons (is (.bool false)) (stable_is _) (step_int (go1 43 false 117 rfl rfl rfl rfl) .neq 3 3 (.tmp 119) (.tmp 121) rfl .i64 .i64 _ _ _ (opT' 119 45 rfl rfl) (opT' 121 47 rfl rfl) (fun W => run_neq3 _ _ false (bne_eq_false_iff_eq.2 (by omega)) W)) ?_
      refine wpL_cons (is (.bool false)) (stable_is _) (step_pickF (go0 rfl) (.tmp 117) (.const (.bool true)) (.tmp 122) rfl (opT' 117 43 rfl rfl) (opT' 122 48 rfl rfl)) ?_
      refine wpL_cons (is (.bool false)) (stable_is _) (step_move (go0 rfl) (.tmp 123) rfl (opT' 123 49 rfl rfl)) ?_
      refine wpL_cons (is (.pointer (some ⟨w.heap.size, 0, none⟩))) (stable_is _) (step_idx (go1 50 false 124 rfl rfl rfl rfl) 24 (.tmp 6) (.const (.int .i64 0)) rfl _ _ _ (opO' 6 (.pointer (some ⟨w.heap.size, 0, none⟩)) rfl rfl) (opC _) (fun W => run_it0 _ W)) ?_
      refine wpL_cons (is (.agg (spotA a))) (stable_is _) (step_load23 (go1 50 false 124 rfl rfl rfl rfl) (.tmp 125) rfl (w.heap.size) 0 a (opT' 125 51 rfl rfl) (fun W h => ((show TriAt W (w.heap.size) a b c from ((HP.out.up h).blks (w.heap.size, triO a b c) (by simp [triO])))).r0)) ?_
      refine wpL_cons (is (.pointer (some ⟨w.heap.size, 6, none⟩))) (stable_is _) (step_idx (go1 50 false 124 rfl rfl rfl rfl) 24 (.tmp 6) (.const (.int .i64 1)) rfl _ _ _ (opO' 6 (.pointer (some ⟨w.heap.size, 0, none⟩)) rfl rfl) (opC _) (fun W => run_it1 _ W)) ?_
      refine wpL_cons (is (.agg (spotA b))) (stable_is _) (step_load23 (go1 50 false 124 rfl rfl rfl rfl) (.tmp 127) rfl (w.heap.size) 6 b (opT' 127 53 rfl rfl) (fun W h => ((show TriAt W (w.heap.size) a b c from ((HP.out.up h).blks (w.heap.size, triO a b c) (by simp [triO])))).r1)) ?_
      refine wpL_cons (is (.int .i64 hh.x)) (stable_is _) (step_move (go1 50 false 124 rfl rfl rfl rfl) (.tmp 3) rfl (opO' 3 (.int .i64 hh.x) rfl rfl)) ?_
      refine wpL_cons (is (.int .i64 hh.y)) (stable_is _) (step_move (go1 50 false 124 rfl rfl rfl rfl) (.tmp 4) rfl (opO' 4 (.int .i64 hh.y) rfl rfl)) ?_
      refine wpL_cons (is (.int .i64 (side a b hh.x hh.y))) (stable_is _) (step_side (go1 50 false 124 rfl rfl rfl rfl) (.tmp 126) (.tmp 128) (.tmp 129) (.tmp 130) _ rfl a b hh.x hh.y hok.1 hok.2.1 hnx hny (opT' 126 52 rfl rfl) (opT' 128 54 rfl rfl) (opT' 129 55 rfl rfl) (opT' 130 56 rfl rfl)) ?_
      refine wpL_cons (is (.pointer (some ⟨w.heap.size, 0, none⟩))) (stable_is _) (step_idx (go1 50 false 124 rfl rfl rfl rfl) 24 (.tmp 6) (.const (.int .i64 0)) rfl _ _ _ (opO' 6 (.pointer (some ⟨w.heap.size, 0, none⟩)) rfl rfl) (opC _) (fun W => run_it0 _ W)) ?_
      refine wpL_cons (is (.agg (spotA a))) (stable_is _) (step_load23 (go1 50 false 124 rfl rfl rfl rfl) (.tmp 132) rfl (w.heap.size) 0 a (opT' 132 58 rfl rfl) (fun W h => ((show TriAt W (w.heap.size) a b c from ((HP.out.up h).blks (w.heap.size, triO a b c) (by simp [triO])))).r0)) ?_
      refine wpL_cons (is (.pointer (some ⟨w.heap.size, 6, none⟩))) (stable_is _) (step_idx (go1 50 false 124 rfl rfl rfl rfl) 24 (.tmp 6) (.const (.int .i64 1)) rfl _ _ _ (opO' 6 (.pointer (some ⟨w.heap.size, 0, none⟩)) rfl rfl) (opC _) (fun W => run_it1 _ W)) ?_
      refine wpL_cons (is (.agg (spotA b))) (stable_is _) (step_load23 (go1 50 false 124 rfl rfl rfl rfl) (.tmp 134) rfl (w.heap.size) 6 b (opT' 134 60 rfl rfl) (fun W h => ((show TriAt W (w.heap.size) a b c from ((HP.out.up h).blks (w.heap.size, triO a b c) (by simp [triO])))).r1)) ?_
      refine wpL_cons (is (.int .i64 hh.x)) (stable_is _) (step_move (go1 50 false 124 rfl rfl rfl rfl) (.tmp 3) rfl (opO' 3 (.int .i64 hh.x) rfl rfl)) ?_
      refine wpL_cons (is (.int .i64 hh.y)) (stable_is _) (step_move (go1 50 false 124 rfl rfl rfl rfl) (.tmp 4) rfl (opO' 4 (.int .i64 hh.y) rfl rfl)) ?_
      refine wpL_cons (is (.int .i64 (side a b hh.x hh.y))) (stable_is _) (step_sideR (go1 50 false 124 rfl rfl rfl rfl) (.tmp 133) (.tmp 135) (.tmp 136) (.tmp 137) _ rfl a b hh.x hh.y hok.1 hok.2.1 hnx hny (opT' 133 59 rfl rfl) (opT' 135 61 rfl rfl) (opT' 136 62 rfl rfl) (opT' 137 63 rfl rfl)) ?_
      refine wpL_cons (is (.bool false)) (stable_is _) (step_int (go1 50 false 124 rfl rfl rfl rfl) .neq 3 3 (.tmp 131) (.tmp 138) rfl .i64 .i64 _ _ _ (opT' 131 57 rfl rfl) (opT' 138 64 rfl rfl) (fun W => run_neq3 _ _ false (bne_eq_false_iff_eq.2 (by omega)) W)) ?_
      refine wpL_cons (is (.bool false)) (stable_is _) (step_pickF (go0 rfl) (.tmp 124) (.const (.bool true)) (.tmp 139) rfl (opT' 124 50 rfl rfl) (opT' 139 65 rfl rfl)) ?_
      refine wpL_nil ?_
      intro v w11 hI _ hdone _
      have e0 : v 66 = .bool false := hdone 66 140 rfl
      have hI : Below w10.heap.size w10 w11 := hI
      have HQ := Lib.hid (show Pk w [(w.heap.size, triO a b c), (g15, triO p q r)] w11 from ⟨fun e he => (HP.out.up hI).blks e (by simp only [List.mem_cons, List.not_mem_nil, or_false] at he; rcases he with rfl | rfl <;> simp [triO]), (HP.out.up hI).below⟩)
      clear hdone hI HP
      simp only [List.append]
      simp only [putAll, Act.put, List.setIfInBounds_toArray, List.set_cons_zero, List.set_cons_succ, Nat.zero_add, Nat.reduceAdd, e0]
      go_wp2_with fail
      go_meet
      exact ⟨rfl, HQ.out⟩
  case rest =>
    obtain ⟨rfl, hQ⟩ := hcut
    have HQ := Lib.hid hQ
    clear hQ
    obtain ⟨wL, hwL⟩ : ∃ wL, wL = wc := ⟨_, rfl⟩
    rw [← hwL] at HQ ⊢
    clear hwL
    go_wp2_with fail
    go_loopw [21, 22] (fun v y wr => ∃ (k : Nat) (u : Value) (l : List Hit), u = v ∧ y = .int .i64 k ∧ HOwn wr wL.heap.size u l ∧ Below wL.heap.size wL wr ∧ TelR wd ht ib p q r k l) (fun _ y _ => ht.toNat - (intOf y).toNat)
    case atStart => exact ⟨0, _, [], rfl, rfl, HOwn.nil _ _, Below.refl _ _, TelR.start wd ht ib p q r⟩
    case round =>
      obtain ⟨k, u, l, rfl, rfl, hO, hB, hR⟩ := hrel
      obtain ⟨wo, rfl⟩ : ∃ wo, wo = wr := ⟨_, rfl⟩
      have HO := Lib.hid (And.intro hO (And.intro hB hR))
      clear hO hB hR
      by_cases hgo : (1 ≤ wd ∧ wd ≤ 32 ∧ ht ≤ 32 ∧ ib = true) ∧ (k : Int) < ht
      · obtain ⟨⟨gw1, gw2, gh, rfl⟩, gk⟩ := hgo
        have gk2 : (k : Int) < 32 := by omega
        obtain ⟨W, hW⟩ : ∃ W : Nat, wd = (W : Int) := ⟨wd.toNat, by omega⟩
        subst hW
        have HL := Lib.hid (HO.out.2.2.go (by omega) (by omega) gh)
        go_wp2_with fail
        go_loopw [21, 23] (fun v x wr => ∃ (j : Nat) (u' : Value), u' = v ∧ j ≤ W ∧ x = .int .i64 j ∧ HOwn wr wL.heap.size u' (pixTo (p, q, r) W (k * W + j)) ∧ Below wL.heap.size wL wr) (fun _ x _ => W - (intOf x).toNat)
        case atStart => exact ⟨0, _, rfl, by omega, rfl, by rw [Nat.add_zero, ← HL.out]; exact HO.out.1, HO.out.2.1⟩
        case round =>
          obtain ⟨j, u', rfl, hj, rfl, hO2, hB2⟩ := hrel
          have HI := Lib.hid (And.intro hO2 hB2)
          clear hO2 hB2
          by_cases hjW : j = W
          · subst hjW
            have hjj : ¬ ((j : Nat) : Int) < ((j : Nat) : Int) := by omega
            go_wp2_with fail
            go_roundw
            case rel => exact ⟨k + 1, _, _, rfl, by simp, HI.out.1, HI.out.2, HO.out.2.2.next gw1 gw2 gh gk⟩
            case measure =>
              simp [intOf]
              omega
          have hjl : j < W := by omega
          have hjl2 : ((j : Nat) : Int) < ((W : Nat) : Int) := by omega
          have e1 : (k * W + j) % W = j := by rw [Nat.mul_comm, Nat.mul_add_mod]; exact Nat.mod_eq_of_lt hjl
          have e2 : (k * W + j) / W = k := by rw [Nat.mul_comm, Nat.mul_add_div (by omega), Nat.div_eq_of_lt hjl, Nat.add_zero]
          obtain ⟨x, bb, hx1, hx2, hx3⟩ := rcover_cases p q r W (k * W + j)
          rw [e1, e2] at hx1 hx3
          have HX := Lib.hid (And.intro hx1 (And.intro hx2 hx3))
          have hs2 := pixTo_succ (p, q, r) W (k * W + j)
          rw [hx2] at hs2
          have HS2 := Lib.hid hs2
          have hlen : (pixTo (p, q, r) W (k * W + j)).length ≤ 2000 := Nat.le_trans (pixTo_len _ _ _) (by have := Nat.mul_le_mul (show k ≤ 31 by omega) (show W ≤ 32 by omega); omega)
          have hszI := HI.out.2.size
          have hjr : -100 ≤ ((j : Nat) : Int) ∧ ((j : Nat) : Int) ≤ 100 := by omega
          have hkr : -100 ≤ ((k : Nat) : Int) ∧ ((k : Nat) : Int) ≤ 100 := by omega
          clear e1 e2 hx1 hx2 hx3 hs2
          cases bb
          · go_wp2_with (first
              | ((with_reducible refine tel_op (.load 24 (.tmp 15)) ?_); refine arm_load24 rfl (.tmp 15) rfl g15 p q r rfl ((HQ.out.up HI.out.2).blks (g15, triO p q r) (by simp)) ?_)
              | (go_at_call 13; (with_reducible refine (RCovers_walk p q r j k HTO.out.1 HTO.out.2.1 HTO.out.2.2 hjr hkr _).mono ?_)
                 rintro e w3 ⟨rfl, hb3⟩
                 rw [HX.out.1]
                 have HI3 := Lib.hid (And.intro (HI.out.1.below hb3) (HI.out.2.trans (hb3.mono hszI)))
                 clear hb3)
              | ((with_reducible refine tel_op (.alloc 29) ?_); refine arm_alloc29 rfl rfl ?_)
              | ((with_reducible refine tel_op (.store 29 (.tmp 24) (.tmp 175)) ?_); refine arm_put rfl 29 (.tmp 24) (.tmp 175) rfl w3.heap.size (eA 0 0 0) (eA x.e0 x.e1 x.e2) rfl rfl (heap_alloc_new w3 _) (size29 _ _ _) (by rw [eA_size, eA_size]) (eA_one _ _ _) ?_
                 have hb := put_below w3 (eA 0 0 0) (eA x.e0 x.e1 x.e2) 29
                 have HI4 := Lib.hid (And.intro (HI3.out.1.below hb) (HI3.out.2.trans (hb.mono HI3.out.2.size)))
                 generalize (w3.alloc (.cells (eA 0 0 0) 29)).setRow w3.heap.size (eA x.e0 x.e1 x.e2) = w4 at *
                 clear hb)
              | fail)
            go_roundw
            case rel => exact ⟨j + 1, _, rfl, by omega, by simp, by rw [← Nat.add_assoc, HS2.out]; simpa using HI4.out.1, HI4.out.2⟩
            case measure =>
              simp [intOf]
              omega
          · obtain ⟨hxx, hxy⟩ := HX.out.2.2 rfl
            have HXY := Lib.hid (And.intro hxx.symm hxy.symm)
            clear hxx hxy
            go_wp2_with (first
              | ((with_reducible refine tel_op (.load 24 (.tmp 15)) ?_); refine arm_load24 rfl (.tmp 15) rfl g15 p q r rfl ((HQ.out.up HI.out.2).blks (g15, triO p q r) (by simp)) ?_)
              | (go_at_call 13; (with_reducible refine (RCovers_walk p q r j k HTO.out.1 HTO.out.2.1 HTO.out.2.2 hjr hkr _).mono ?_)
                 rintro e w3 ⟨rfl, hb3⟩
                 rw [HX.out.1]
                 have HI3 := Lib.hid (And.intro (HI.out.1.below hb3) (HI.out.2.trans (hb3.mono hszI)))
                 clear hb3)
              | ((with_reducible refine tel_op (.alloc 29) ?_); refine arm_alloc29 rfl rfl ?_)
              | ((with_reducible refine tel_op (.store 29 (.tmp 24) (.tmp 175)) ?_); refine arm_put rfl 29 (.tmp 24) (.tmp 175) rfl w3.heap.size (eA 0 0 0) (eA x.e0 x.e1 x.e2) rfl rfl (heap_alloc_new w3 _) (size29 _ _ _) (by rw [eA_size, eA_size]) (eA_one _ _ _) ?_
                 have hb := put_below w3 (eA 0 0 0) (eA x.e0 x.e1 x.e2) 29
                 have HE4 := Lib.hid (put_new w3 (eA 0 0 0) (eA x.e0 x.e1 x.e2) 29)
                 have HI4 := Lib.hid (And.intro (HI3.out.1.below hb) (HI3.out.2.trans (hb.mono HI3.out.2.size)))
                 generalize (w3.alloc (.cells (eA 0 0 0) 29)).setRow w3.heap.size (eA x.e0 x.e1 x.e2) = w4 at *
                 have hsz4 := HI4.out.2.size
                 clear hb)
              | ((with_reducible refine tel_op (.load 29 (.tmp 24)) ?_); refine arm_load29 rfl (.tmp 24) rfl w3.heap.size x.e0 x.e1 x.e2 rfl HE4.out ?_)
              | ((with_reducible refine tel_op (.build 31 #[(0, .tmp 179), (1, .tmp 180), (2, .tmp 181)]) ?_); refine arm_build31e rfl (.tmp 179) (.tmp 180) (.tmp 181) rfl x (congrArg (Value.int .i64) HXY.out.1) (congrArg (Value.int .i64) HXY.out.2) rfl ?_)
              | ((with_reducible refine tel_op (.buildSlice 38 1 #[(0, .tmp 182)]) ?_); refine arm_slice38 rfl (.tmp 182) rfl x rfl ?_)
              | (at_builtin; refine arm_hit rfl (.tmp 178) (.tmp 183) rfl wL.heap.size _ (pixTo (p, q, r) W (k * W + j)) x rfl rfl HI4.out.1 hlen hsz4 ?_
                 intro v5 w5 hv5 hb5
                 have HI5 := Lib.hid (And.intro hv5 (HI4.out.2.trans hb5))
                 clear hv5 hb5)
              | fail)
            go_roundw
            case rel => exact ⟨j + 1, _, rfl, by omega, by simp, by rw [← Nat.add_assoc, HS2.out]; exact HI5.out.1, HI5.out.2⟩
            case measure =>
              simp [intOf]
              omega
      · have HNG := Lib.hid hgo
        clear hgo
        go_upto_region 11 with fail
        go_cut [162] from 141 to 184 (fun s wx => s = .bool false ∧ wx = wo)
        case first =>
          have hng := HNG.out
          by_cases c1 : (k : Int) < ht
          · by_cases c0 : (k : Int) < 32
            · by_cases c2 : 1 ≤ wd
              · by_cases c3 : wd ≤ 32
                · by_cases c4 : ht ≤ 32
                  · have c5 : ib = false := by
                      cases ib with
                      | false => rfl
                      | true => exact absurd ⟨⟨c2, c3, c4, rfl⟩, c1⟩ hng
                    subst c5
                    clear hng
                    go_wp2_with fail
                    go_meet
                    exact ⟨rfl, rfl⟩
                  · clear hng
                    go_wp2_with fail
                    go_meet
                    exact ⟨rfl, rfl⟩
                · clear hng
                  go_wp2_with fail
                  go_meet
                  exact ⟨rfl, rfl⟩
              · clear hng
                go_wp2_with fail
                go_meet
                exact ⟨rfl, rfl⟩
            · clear hng
              go_wp2_with fail
              go_meet
              exact ⟨rfl, rfl⟩
          · clear hng
            go_wp2_with fail
            go_meet
            exact ⟨rfl, rfl⟩
        case rest =>
          obtain ⟨rfl, rfl⟩ := hcut
          have hLp : l = pix a b c wd ht := HO.out.2.2.stop HTT.out HNG.out
          obtain ⟨A0, cap0, hu, hrow0, hcap0⟩ := HO.out.1.row
          subst hu
          have HB0 := Lib.hid (And.intro (HQ.out.up HO.out.2.1) hrow0)
          have hL10 : l.length ≤ 1024 := by rw [hLp]; exact pix_len a b c wd ht
          have HLP := Lib.hid hLp
          clear hLp hrow0 HO HQ HNG
          have hm1 := Int.emod_nonneg most (show ((l.length : Int) + 1) ≠ 0 by omega)
          have hm2 := Int.emod_lt_of_pos most (show (0 : Int) < (l.length : Int) + 1 by omega)
          obtain ⟨n, hn⟩ := Int.eq_ofNat_of_zero_le hm1
          rw [hn] at hm2
          have HN := Lib.hid hn
          have hnl : n ≤ l.length := by omega
          have hnt : (l.take n).length = n := by rw [List.length_take]; omega
          have HNT := Lib.hid hnt
          clear hm1 hn hnt
          go_wp2_with (first
            | ((with_reducible refine tel_op (.load 24 (.tmp 6)) ?_); first | refine arm_load24 rfl (.tmp 6) rfl w.heap.size a b c rfl (HB1.out.1.blks (w.heap.size, triO a b c) (by simp)) ?_ | refine arm_load24 rfl (.tmp 6) rfl w.heap.size a b c rfl (HB0.out.1.blks (w.heap.size, triO a b c) (by simp)) ?_)
            | (go_at_call 18; first
                | ((with_reducible refine (All_walk a b c hok.1 hok.2.1 hok.2.2 wd ht (-1) _).mono ?_)
                   rintro e w3 ⟨A1, cap1, rfl, hrow1, hcap1, hb3, _⟩
                   rw [show allR (-1) (pix a b c wd ht) = l from HLP.out.symm] at hrow1 hcap1 ⊢
                   have HB1 := Lib.hid (And.intro (HB0.out.1.up hb3) (And.intro (HB0.out.2.below hb3) hrow1))
                   clear hrow1 hb3)
                | ((with_reducible refine (All_walk a b c hok.1 hok.2.1 hok.2.2 wd ht (n : Int) _).mono ?_)
                   rintro e w4 ⟨A2, cap2, rfl, hrow2, hcap2, hb4, _⟩
                   rw [allR_take, ← HLP.out] at hrow2 hcap2 ⊢
                   rw [HNT.out] at hcap2 ⊢
                   have HB2 := Lib.hid (And.intro (HB1.out.1.up hb4).below (And.intro (HB1.out.2.1.below hb4) (And.intro (HB1.out.2.2.below hb4) hrow2)))
                   clear hrow2 hb4))
            | (go_at_call 19; (with_reducible refine (Round_walk most ((l.length : Int) + 1) (by omega) (by omega) _).mono ?_)
               rintro e w' ⟨rfl, rfl⟩
               rw [HN.out])
            | fail)
          go_loopw [29] (fun v wr => ∃ i : Nat, i ≤ l.length ∧ v = .int .i64 i ∧ Below w.heap.size w wr ∧ HRow wr A0 l ∧ HRow wr A1 l ∧ HRow wr A2 (l.take n)) (fun v _ => l.length - (intOf v).toNat)
          case atStart => exact ⟨0, by omega, rfl, HB2.out.1, HB2.out.2.1, HB2.out.2.2.1, HB2.out.2.2.2⟩
          case round =>
            obtain ⟨i, hi, rfl, hb, r0, r1, r2⟩ := hrel
            have HF := Lib.hid (And.intro hb (And.intro r0 (And.intro r1 r2)))
            clear hb r0 r1 r2 HB2
            by_cases hil : i = l.length
            · subst hil
              have hii : ¬ ((l.length : Nat) : Int) < ((l.length : Nat) : Int) := by omega
              go_wp2_with (first
                | (go_at_call 9; (with_reducible refine (awake_walk _).mono ?_)
                   rintro e w9 ⟨rfl, hb9⟩
                   have HZ := Lib.hid (below_trans HF.out.1 hb9)
                   clear hb9)
                | fail)
              go_ret
              exact ⟨rfl, HZ.out⟩
            have hi2 : i < l.length := by omega
            have hi3 : ((i : Nat) : Int) < ((l.length : Nat) : Int) := by omega
            obtain ⟨x, hx⟩ : ∃ x, l[i]? = some x := ⟨_, List.getElem?_eq_getElem hi2⟩
            obtain ⟨b0, hA0, hr0⟩ := HF.out.2.1.range hx
            obtain ⟨b1, hA1, hr1⟩ := HF.out.2.2.1.range hx
            subst hA0 hA1
            by_cases hin : i < n
            · obtain ⟨b2, hA2, hr2⟩ := HF.out.2.2.2.range (show (l.take n)[i]? = some x by rw [List.getElem?_take_of_lt hin]; exact hx)
              subst hA2
              go_upto_region 27 with fail
              refine wp_region_link 242 mixed (by kernel_rfl) (by rfl) (UpC wr) (UpC.start wr) ?_
              refine wpL_cons (is (.slice (some ⟨b1, 0, none⟩) l.length cap1)) (stable_is _) (step_move (go0 rfl) (.tmp 26) rfl (opO' 26 (.slice (some ⟨b1, 0, none⟩) l.length cap1) rfl rfl)) ?_
              refine wpL_cons (is (.int .i64 ((i : Nat) : Int))) (stable_is _) (step_move (go0 rfl) (.tmp 29) rfl (opO' 29 (.int .i64 ((i : Nat) : Int)) rfl rfl)) ?_
              refine wpL_cons (is (.pointer (some ⟨b1, i * 5, none⟩))) (stable_is _) (step_idx (go0 rfl) 38 (.tmp 216) (.tmp 217) rfl _ _ _ (opT' 216 0 rfl rfl) (opT' 217 1 rfl rfl) (fun W => run_idx38 b1 (l.length) cap1 i hi2 W)) ?_
              refine wpL_cons (is (.agg (Hit.cells x))) (stable_is _) (step_load31m (go0 rfl) (.tmp 218) rfl b1 (i * 5) x (opT' 218 2 rfl rfl) (fun W h => range_up h hr1)) ?_
              refine wpL_cons (is (.slice (some ⟨b0, 0, none⟩) l.length cap0)) (stable_is _) (step_move (go0 rfl) (.tmp 21) rfl (opO' 21 (.slice (some ⟨b0, 0, none⟩) l.length cap0) rfl rfl)) ?_
              refine wpL_cons (is (.int .i64 ((i : Nat) : Int))) (stable_is _) (step_move (go0 rfl) (.tmp 29) rfl (opO' 29 (.int .i64 ((i : Nat) : Int)) rfl rfl)) ?_
              refine wpL_cons (is (.pointer (some ⟨b0, i * 5, none⟩))) (stable_is _) (step_idx (go0 rfl) 38 (.tmp 220) (.tmp 221) rfl _ _ _ (opT' 220 4 rfl rfl) (opT' 221 5 rfl rfl) (fun W => run_idx38 b0 (l.length) cap0 i hi2 W)) ?_
              refine wpL_cons (is (.agg (Hit.cells x))) (stable_is _) (step_load31m (go0 rfl) (.tmp 222) rfl b0 (i * 5) x (opT' 222 6 rfl rfl) (fun W h => range_up h hr0)) ?_
              refine wpL_cons (is (.bool false)) (stable_is _) (step_neq31 (go0 rfl) (.tmp 219) (.tmp 223) rfl x (opT' 219 3 rfl rfl) (opT' 223 7 rfl rfl)) ?_
              refine wpL_cons (is (.bool false)) (stable_is _) (step_move (go0 rfl) (.tmp 224) rfl (opT' 224 8 rfl rfl)) ?_
              refine wpL_cons (is (.int .i64 ((i : Nat) : Int))) (stable_is _) (step_move (go1 9 false 225 rfl rfl rfl rfl) (.tmp 29) rfl (opO' 29 (.int .i64 ((i : Nat) : Int)) rfl rfl)) ?_
              refine wpL_cons (is (.int .i64 ((n : Nat) : Int))) (stable_is _) (step_move (go1 9 false 225 rfl rfl rfl rfl) (.tmp 27) rfl (opO' 27 (.int .i64 ((n : Nat) : Int)) rfl rfl)) ?_
              refine wpL_cons (is (.bool true)) (stable_is _) (step_int (go1 9 false 225 rfl rfl rfl rfl) .lss 3 3 (.tmp 226) (.tmp 227) rfl .i64 .i64 _ _ _ (opT' 226 10 rfl rfl) (opT' 227 11 rfl rfl) (fun W => run_lss3 _ _ true (decide_eq_true (by omega)) W)) ?_
              refine wpL_cons (is (.bool true)) (stable_is _) (step_move (go1 9 false 225 rfl rfl rfl rfl) (.tmp 228) rfl (opT' 228 12 rfl rfl)) ?_
              refine wpL_cons (is (.slice (some ⟨b2, 0, none⟩) n cap2)) (stable_is _) (step_move (go1 13 true 229 rfl rfl rfl rfl) (.tmp 28) rfl (opO' 28 (.slice (some ⟨b2, 0, none⟩) n cap2) rfl rfl)) ?_
              refine wpL_cons (is (.int .i64 ((i : Nat) : Int))) (stable_is _) (step_move (go1 13 true 229 rfl rfl rfl rfl) (.tmp 29) rfl (opO' 29 (.int .i64 ((i : Nat) : Int)) rfl rfl)) ?_
              refine wpL_cons (is (.pointer (some ⟨b2, i * 5, none⟩))) (stable_is _) (step_idx (go1 13 true 229 rfl rfl rfl rfl) 38 (.tmp 230) (.tmp 231) rfl _ _ _ (opT' 230 14 rfl rfl) (opT' 231 15 rfl rfl) (fun W => run_idx38 b2 (n) cap2 i hin W)) ?_
              refine wpL_cons (is (.agg (Hit.cells x))) (stable_is _) (step_load31m (go1 13 true 229 rfl rfl rfl rfl) (.tmp 232) rfl b2 (i * 5) x (opT' 232 16 rfl rfl) (fun W h => range_up h hr2)) ?_
              refine wpL_cons (is (.slice (some ⟨b0, 0, none⟩) l.length cap0)) (stable_is _) (step_move (go1 13 true 229 rfl rfl rfl rfl) (.tmp 21) rfl (opO' 21 (.slice (some ⟨b0, 0, none⟩) l.length cap0) rfl rfl)) ?_
              refine wpL_cons (is (.int .i64 ((i : Nat) : Int))) (stable_is _) (step_move (go1 13 true 229 rfl rfl rfl rfl) (.tmp 29) rfl (opO' 29 (.int .i64 ((i : Nat) : Int)) rfl rfl)) ?_
              refine wpL_cons (is (.pointer (some ⟨b0, i * 5, none⟩))) (stable_is _) (step_idx (go1 13 true 229 rfl rfl rfl rfl) 38 (.tmp 234) (.tmp 235) rfl _ _ _ (opT' 234 18 rfl rfl) (opT' 235 19 rfl rfl) (fun W => run_idx38 b0 (l.length) cap0 i hi2 W)) ?_
              refine wpL_cons (is (.agg (Hit.cells x))) (stable_is _) (step_load31m (go1 13 true 229 rfl rfl rfl rfl) (.tmp 236) rfl b0 (i * 5) x (opT' 236 20 rfl rfl) (fun W h => range_up h hr0)) ?_
              refine wpL_cons (is (.bool false)) (stable_is _) (step_neq31 (go1 13 true 229 rfl rfl rfl rfl) (.tmp 233) (.tmp 237) rfl x (opT' 233 17 rfl rfl) (opT' 237 21 rfl rfl)) ?_
              refine wpL_cons (is (.bool false)) (stable_is _) (step_pickT (go1 9 false 225 rfl rfl rfl rfl) (.tmp 229) (.tmp 238) (.const (.bool false)) rfl (opT' 229 13 rfl rfl) (opT' 238 22 rfl rfl)) ?_
              refine wpL_cons (is (.bool false)) (stable_is _) (step_pickF (go0 rfl) (.tmp 225) (.const (.bool true)) (.tmp 239) rfl (opT' 225 9 rfl rfl) (opT' 239 23 rfl rfl)) ?_
              refine wpL_nil ?_
              intro v w7 hI _ hdone _
              have e240 : v 24 = .bool false := hdone 24 240 rfl
              have hI : Below wr.heap.size wr w7 := hI
              have HG := Lib.hid (And.intro (below_trans HF.out.1 hI) (And.intro (HF.out.2.1.below hI) (And.intro (HF.out.2.2.1.below hI) (HF.out.2.2.2.below hI))))
              clear hdone hI
              simp only [putAll, Act.put, List.setIfInBounds_toArray, List.set_cons_zero, List.set_cons_succ, Nat.zero_add, Nat.reduceAdd, e240]
              go_wp2_with fail
              go_roundw
              case rel => exact ⟨i + 1, by omega, by simp, HG.out.1, HG.out.2.1, HG.out.2.2.1, HG.out.2.2.2⟩
              case measure =>
                simp [intOf]
                omega
            · go_upto_region 27 with fail
              refine wp_region_link 242 mixed (by kernel_rfl) (by rfl) (UpC wr) (UpC.start wr) ?_
              refine wpL_cons (is (.slice (some ⟨b1, 0, none⟩) l.length cap1)) (stable_is _) (step_move (go0 rfl) (.tmp 26) rfl (opO' 26 (.slice (some ⟨b1, 0, none⟩) l.length cap1) rfl rfl)) ?_
              refine wpL_cons (is (.int .i64 ((i : Nat) : Int))) (stable_is _) (step_move (go0 rfl) (.tmp 29) rfl (opO' 29 (.int .i64 ((i : Nat) : Int)) rfl rfl)) ?_
              refine wpL_cons (is (.pointer (some ⟨b1, i * 5, none⟩))) (stable_is _) (step_idx (go0 rfl) 38 (.tmp 216) (.tmp 217) rfl _ _ _ (opT' 216 0 rfl rfl) (opT' 217 1 rfl rfl) (fun W => run_idx38 b1 (l.length) cap1 i hi2 W)) ?_
              refine wpL_cons (is (.agg (Hit.cells x))) (stable_is _) (step_load31m (go0 rfl) (.tmp 218) rfl b1 (i * 5) x (opT' 218 2 rfl rfl) (fun W h => range_up h hr1)) ?_
              refine wpL_cons (is (.slice (some ⟨b0, 0, none⟩) l.length cap0)) (stable_is _) (step_move (go0 rfl) (.tmp 21) rfl (opO' 21 (.slice (some ⟨b0, 0, none⟩) l.length cap0) rfl rfl)) ?_
              refine wpL_cons (is (.int .i64 ((i : Nat) : Int))) (stable_is _) (step_move (go0 rfl) (.tmp 29) rfl (opO' 29 (.int .i64 ((i : Nat) : Int)) rfl rfl)) ?_
              refine wpL_cons (is (.pointer (some ⟨b0, i * 5, none⟩))) (stable_is _) (step_idx (go0 rfl) 38 (.tmp 220) (.tmp 221) rfl _ _ _ (opT' 220 4 rfl rfl) (opT' 221 5 rfl rfl) (fun W => run_idx38 b0 (l.length) cap0 i hi2 W)) ?_
              refine wpL_cons (is (.agg (Hit.cells x))) (stable_is _) (step_load31m (go0 rfl) (.tmp 222) rfl b0 (i * 5) x (opT' 222 6 rfl rfl) (fun W h => range_up h hr0)) ?_
              refine wpL_cons (is (.bool false)) (stable_is _) (step_neq31 (go0 rfl) (.tmp 219) (.tmp 223) rfl x (opT' 219 3 rfl rfl) (opT' 223 7 rfl rfl)) ?_
              refine wpL_cons (is (.bool false)) (stable_is _) (step_move (go0 rfl) (.tmp 224) rfl (opT' 224 8 rfl rfl)) ?_
              refine wpL_cons (is (.int .i64 ((i : Nat) : Int))) (stable_is _) (step_move (go1 9 false 225 rfl rfl rfl rfl) (.tmp 29) rfl (opO' 29 (.int .i64 ((i : Nat) : Int)) rfl rfl)) ?_
              refine wpL_cons (is (.int .i64 ((n : Nat) : Int))) (stable_is _) (step_move (go1 9 false 225 rfl rfl rfl rfl) (.tmp 27) rfl (opO' 27 (.int .i64 ((n : Nat) : Int)) rfl rfl)) ?_
              refine wpL_cons (is (.bool false)) (stable_is _) (step_int (go1 9 false 225 rfl rfl rfl rfl) .lss 3 3 (.tmp 226) (.tmp 227) rfl .i64 .i64 _ _ _ (opT' 226 10 rfl rfl) (opT' 227 11 rfl rfl) (fun W => run_lss3 _ _ false (decide_eq_false (by omega)) W)) ?_
              refine wpL_cons (is (.bool false)) (stable_is _) (step_move (go1 9 false 225 rfl rfl rfl rfl) (.tmp 228) rfl (opT' 228 12 rfl rfl)) ?_
              refine wpL_cons (is (undef)) (stable_is _) (step_off 13 true 229 rfl rfl rfl rfl) ?_
              refine wpL_cons (is (undef)) (stable_is _) (step_off 13 true 229 rfl rfl rfl rfl) ?_
              refine wpL_cons (is (undef)) (stable_is _) (step_off 13 true 229 rfl rfl rfl rfl) ?_
              refine wpL_cons (is (undef)) (stable_is _) (step_off 13 true 229 rfl rfl rfl rfl) ?_
              refine wpL_cons (is (undef)) (stable_is _) (step_off 13 true 229 rfl rfl rfl rfl) ?_
              refine wpL_cons (is (undef)) (stable_is _) (step_off 13 true 229 rfl rfl rfl rfl) ?_
              refine wpL_cons (is (undef)) (stable_is _) (step_off 13 true 229 rfl rfl rfl rfl) ?_
              refine wpL_cons (is (undef)) (stable_is _) (step_off 13 true 229 rfl rfl rfl rfl) ?_
              refine wpL_cons (is (undef)) (stable_is _) (step_off 13 true 229 rfl rfl rfl rfl) ?_
              refine wpL_cons (is (.bool false)) (stable_is _) (step_pickF (go1 9 false 225 rfl rfl rfl rfl) (.tmp 229) (.tmp 238) (.const (.bool false)) rfl (opT' 229 13 rfl rfl) (opC _)) ?_
              refine wpL_cons (is (.bool false)) (stable_is _) (step_pickF (go0 rfl) (.tmp 225) (.const (.bool true)) (.tmp 239) rfl (opT' 225 9 rfl rfl) (opT' 239 23 rfl rfl)) ?_
              refine wpL_nil ?_
              intro v w7 hI _ hdone _
              have e240 : v 24 = .bool false := hdone 24 240 rfl
              have hI : Below wr.heap.size wr w7 := hI
              have HG := Lib.hid (And.intro (below_trans HF.out.1 hI) (And.intro (HF.out.2.1.below hI) (And.intro (HF.out.2.2.1.below hI) (HF.out.2.2.2.below hI))))
              clear hdone hI
              simp only [putAll, Act.put, List.setIfInBounds_toArray, List.set_cons_zero, List.set_cons_succ, Nat.zero_add, Nat.reduceAdd, e240]
              go_wp2_with fail
              go_roundw
              case rel => exact ⟨i + 1, by omega, by simp, HG.out.1, HG.out.2.1, HG.out.2.2.1, HG.out.2.2.2⟩
              case measure =>
                simp [intOf]
                omega

namespace edgeTells
open Go.ChangeShapes Go.WideShapes Go.ChangeAt Go.RowKit
set_option linter.unusedVariables false

theorem own : ownKnob Try.prog.godebug = none := by kernel_rfl
theorem laidOut : laidOutB Try.prog = true := by kernel_rfl
/-! ### THE ROW's STEP -/
set_option maxRecDepth 100000 in
theorem lifted (os : Os) (started : os.Started) (H : Type) (enc : TypeId × Value → H) :
    ReturnsInHanded {} Try.checked os 3 .any (Rows.edgeTellsSpec.pre6 enc Try.prog Try.f3 Rows.edgeTellsRow.domain false) (Rows.edgeTellsSpec.post enc Try.prog Try.f3 false true false false) := by
  refine returnsInHanded_of_change (C := Try.checked) own started (by kernel_rfl) Try.func3
    (ChangeSpec.witness6 (enc := enc) (C := Try.checked) false ⟨#[], #[.agg #[.int .i64 0, .int .i64 0, .int .i64 0, .int .i64 0, .int .i64 0, .int .i64 0, .int .i64 0, .int .i64 0, .int .i64 0, .int .i64 0, .int .i64 0, .int .i64 0, .int .i64 0, .int .i64 0, .int .i64 0, .int .i64 0, .int .i64 0, .int .i64 0], .int .i64 0, .int .i64 0, .int .i64 0, .int .i64 0, .int .i64 0], []⟩ 8 (by kernel_rfl) (by kernel_rfl) (by kernel_rfl) (by kernel_rfl)) ?_
  intro W base args ds gs before hval0 hW hcnd _
  have hval : ∀ (j : Nat) t v, Try.f3.params[j]? = some t → args[j]? = some v → Value.okWide Try.prog W .any base t v := hval0
  have hW' := hW
  obtain ⟨p, q, hA0, hV, rfl, hfz, hnd⟩ := hW
  have hA : DataW.TrodAll enc Try.prog W 0 (fun _ => true) true Try.f3.params.toList args.toList ds p := hA0
  rw [Try.params3] at hA hval
  obtain ⟨v0, vs0, d0, ds0, p0, q0, hargs, rfl, rfl, h0, r0⟩ := trodAll_cons hA
  obtain ⟨v1, vs1, d1, ds1, p1, q1, rfl, rfl, rfl, h1, r1⟩ := trodAll_cons r0
  obtain ⟨v2, vs2, d2, ds2, p2, q2, rfl, rfl, rfl, h2, r2⟩ := trodAll_cons r1
  obtain ⟨v3, vs3, d3, ds3, p3, q3, rfl, rfl, rfl, h3, r3⟩ := trodAll_cons r2
  obtain ⟨v4, vs4, d4, ds4, p4, q4, rfl, rfl, rfl, h4, r4⟩ := trodAll_cons r3
  obtain ⟨v5, vs5, d5, ds5, p5, q5, rfl, rfl, rfl, h5, r5⟩ := trodAll_cons r4
  obtain ⟨rfl, rfl, rfl⟩ := trodAll_nil r5
  obtain rfl : args = #[v0, v1, v2, v3, v4, v5] := by cases args; simp_all
  obtain ⟨rfl, rfl⟩ := trodVars_none hV
  obtain ⟨x0, y0, z0, rfl⟩ := arg_tri (hval 0 24 v0 rfl rfl) h0
  have lt0 : ∀ x ∈ p0, x.block < W.heap.size := by obtain ⟨m, hm⟩ := h0; exact DataW.trod_lt m _ _ _ hm
  obtain ⟨a1, rfl, rfl, rfl, w1⟩ := open_int Try.underlying3 (hval 1 3 v1 rfl rfl) h1
  obtain ⟨a2, rfl, rfl, rfl, w2⟩ := open_int Try.underlying3 (hval 2 3 v2 rfl rfl) h2
  obtain ⟨a3, rfl, rfl, rfl, w3⟩ := open_int Try.underlying3 (hval 3 3 v3 rfl rfl) h3
  obtain ⟨a4, rfl, rfl, rfl, w4⟩ := open_int Try.underlying3 (hval 4 3 v4 rfl rfl) h4
  obtain ⟨a5, rfl, rfl, rfl, w5⟩ := open_int Try.underlying3 (hval 5 3 v5 rfl rfl) h5
  clear hA0 hval0
  refine (Tells_walk x0 y0 z0 a1 a2 a3 a4 a5 W).mono fun e W' ⟨he, bel⟩ => ?_
  subst he
  exact ⟨_, rfl, _, _, _, [], _, [], hW', trodAll_mk1 (shut_bool Try.underlying4 _), (trodAll_cons_mk (Below.trod laidOut (by kernel_rfl) (of_decide_eq_true (by kernel_rfl)) h0 bel lt0) (trodAll_cons_mk (shut_int Try.underlying3 w1) (trodAll_cons_mk (shut_int Try.underlying3 w2) (trodAll_cons_mk (shut_int Try.underlying3 w3) (trodAll_cons_mk (shut_int Try.underlying3 w4) (trodAll_cons_mk (shut_int Try.underlying3 w5) trodAll_mk0)))))), rfl, bel.frame _, fun h => by cases h⟩

theorem over : Rows.edgeTellsRow.holds Try.pinned (OpenSpec.ofChange Rows.edgeTellsSpec) :=
  OpenClaim.holds_of_wide 3 Try.f3 rfl rfl rfl rfl rfl rfl rfl ⟨rfl, rfl, rfl, rfl, rfl⟩ rfl rfl rfl rfl rfl (by kernel_rfl) Try.func3 (by kernel_rfl)
    (of_decide_eq_true (by kernel_rfl)) (by unfold Func.isWrapper; first | (rw [if_pos (by decide +kernel)]; kernel_rfl) | (rw [if_neg (by decide +kernel)]; exact ⟨rfl, rfl⟩))
    (fun os started H enc _ => lifted os started H enc)

/-- THE STATEMENT -/
theorem proved : Rows.EdgeTellsSaid := over
end edgeTells
end Go.Proofs.Ytgkidgpdgcdgnaa
