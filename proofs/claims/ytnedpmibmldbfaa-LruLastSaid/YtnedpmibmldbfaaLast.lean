/- 'LruLast' returns true for every input: who was used last is last; of two that were used the one that was used later is behind; who was not used stands ahead, in the first order. -/
import Derived.Test.YtnedpmibmldbfaaRow
import Derived.BigQuiet
import Derived.ProofKit
import Derived.OpenShut
import Derived.ShutString
import Derived.ChangeOld
import Derived.Below
namespace Go.Proofs.Ytnedpmibmldbfaa.lruLast
open Go.ChangeShapes Go.WideShapes Go.ChangeAt Go.RowKit
open Go.ChangeMaps (open_string shut_string)
set_option linter.unusedVariables false

theorem own : ownKnob Try.prog.godebug = none := by kernel_rfl
theorem laidOut : laidOutB Try.prog = true := by kernel_rfl

theorem only_drewN {L : List Nat} {a b : World} (h : Only L a b) (n : Nat) : Only L a (b.drewN n) := ⟨h.os, h.tape, h.output, h.size, h.block⟩
theorem nums_new (w : World) (n : Nat) (fr : Nat × Nat) (hfr : fr = (0, 0)) : Nums (w.alloc (.cells (zInts n) 3 fr)) w.heap.size n (fun _ => 0) := by
  subst hfr
  have h := heap_alloc_new w (.cells (zInts n) 3)
  exact ⟨fun i hi => by rw [cell_of_row _ _ _ _ _ _ h]; exact zInts_get _ _ hi, fun i => frozen_of_row _ _ _ _ _ h⟩
theorem bools_new (w : World) (n : Nat) : Bools (w.alloc (.cells (zBools n) 4)) w.heap.size n (fun _ => false) := by
  have h := heap_alloc_new w (.cells (zBools n) 4)
  exact ⟨fun i hi => by rw [cell_of_row _ _ _ _ _ _ h]; exact zBools_get _ _ hi, fun i => frozen_of_row _ _ _ _ _ h⟩

set_option maxRecDepth 100000 in
set_option maxHeartbeats 1000000 in
theorem walk (a0 : Int) (a1 : Option Addr) (len1 cap1 : Nat) (z1 : List Int) (w : World) (w0 : (Lit.int .i64 a0).wf = true) (w1 : IsRow .i64 w a1 len1 cap1 z1) :
    Calls Try.prog 4 #[.int .i64 a0, .slice a1 len1 cap1] w fun e w' => e = .returned (.bool true) ∧ Below w.heap.size w w' := by
  have hrow := irow_of w1
  clear w0 w1
  have haw := awake_walk w
  have HAW := Lib.hid haw; clear haw
  by_cases h1 : a0 < 1
  · clear hrow
    go_enter Try.func4, Try.ntmps4
    go_wp2_with fail
    refine HAW.out.mono ?_
    rintro e w' ⟨rfl, hbw⟩
    go_wp2_with fail
    go_ret
    exact ⟨rfl, hbw⟩
  by_cases h2 : 60 < a0
  · clear hrow
    go_enter Try.func4, Try.ntmps4
    go_wp2_with fail
    refine HAW.out.mono ?_
    rintro e w' ⟨rfl, hbw⟩
    go_wp2_with fail
    go_ret
    exact ⟨rfl, hbw⟩
  by_cases h3 : 80 < len1
  · clear hrow
    go_enter Try.func4, Try.ntmps4
    go_wp2_with fail
    refine HAW.out.mono ?_
    rintro e w' ⟨rfl, hbw⟩
    go_wp2_with fail
    go_ret
    exact ⟨rfl, hbw⟩
  clear HAW
  obtain ⟨n, rfl⟩ : ∃ n : Nat, a0 = (n : Int) := ⟨a0.toNat, by omega⟩
  obtain ⟨z, hz⟩ : ∃ z : Nat → Int, z = fun i => z1.getD i 0 := ⟨_, rfl⟩
  rw [← hz] at hrow
  clear hz
  obtain ⟨ks, hks⟩ : ∃ ks, ks = rounds z len1 n := ⟨_, rfl⟩
  have hkl := rounds_len z len1 n
  have hkn := rounds_lt z len1 n (by omega)
  have hrd := Round_row z len1 n (by omega) (by omega)
  rw [← hks] at hkl hkn hrd
  have HRD := Lib.hid hrd
  have HR := Lib.hid (And.intro hrow (And.intro hkl hkn))
  clear hrow hkl hkn hrd hks
  have hm := make38 n (by omega)
  have hm4 := make40 n (by omega)
  go_enter Try.func4, Try.ntmps4
  go_wp2_with fail
  refine (New_walk n (by omega) (by omega) w).mono ?_
  rintro e wa ⟨k, bE, bY, bP, rfl, hX, hB, hk, hE, hY, hP⟩
  have HX := Lib.hid (And.intro hX (And.intro hB (And.intro hk (And.intro hE (And.intro hY hP)))))
  clear hX hB hk hE hY hP
  go_wp2_with fail
  have hnm := nums_new wa n (0, 0) rfl
  have hxa := HX.out.1.only ((Only.refl [] wa).alloc (.cells (zInts n) 3)) (by simp)
  have hba := HX.out.2.1.alloc HX.out.2.1.size (.cells (zInts n) 3)
  have hbl := HX.out.1.lt
  generalize hbw : wa.heap.size = bw at *
  generalize wa.alloc (.cells (zInts n) 3) = wb at *
  have HN := Lib.hid (And.intro hnm (And.intro hxa (And.intro hba (And.intro hbl (by have := HX.out.2.1.size; omega : w.heap.size ≤ bw)))))
  have HW := Lib.hid (when_zero n)
  clear hnm hxa hba hbl hbw hm
  go_loopw [8] (fun i wr => ∃ (t : Nat) (wh : Nat → Nat), t ≤ len1 ∧ i = .int .i64 t ∧ IsX wr k bE bY bP n (tchs (List.range n) (ks.take t)) (fun _ => false) ∧ Nums wr bw n wh ∧ When (tchs (List.range n) (ks.take t)) wh t ∧ Below w.heap.size w wr) (fun i _ => len1 - (intOf i).toNat)
  case atStart => exact ⟨0, _, by omega, rfl, HN.out.2.1, HN.out.1, HW.out, HN.out.2.2.1⟩
  case round =>
    obtain ⟨t, wh, ht, rfl, hX, hN, hW, hB⟩ := hrel
    clear HW
    by_cases hlt : t < len1
    · obtain ⟨b, off, rfl, hbw, hc⟩ := HR.out.1.below hB t hlt
      have HT := Lib.hid (And.intro hX (And.intro hN (And.intro hW hB)))
      clear hX hN hW hB
      go_wp2_with fail
      refine (HRD.out t hlt _).mono ?_
      rintro e w' ⟨rfl, rfl⟩
      have hkn : ks.getD t 0 < n := HR.out.2.2 _ (by rw [List.getD_eq_getElem?_getD, List.getElem?_eq_getElem (by have := HR.out.2.1; omega)]; simp)
      have htk := take_snoc ks t (by have := HR.out.2.1; omega)
      obtain ⟨kk, hkk⟩ : ∃ kk, kk = ks.getD t 0 := ⟨_, rfl⟩
      rw [← hkk] at hkn htk ⊢
      have HK := Lib.hid htk
      clear hkk htk
      go_wp2_with fail
      refine (Touch_is kk HT.out.1 hkn).mono ?_
      rintro e wc ⟨rfl, hx1, ho1⟩
      have hn1 : Nums wc bw n wh := HT.out.2.1.other (ho1.block bw (HT.out.2.1.lt (by omega)) (by have := HN.out.2.2.2.1; simp; omega))
      have hb1 : Below w.heap.size w wc := HT.out.2.2.2.trans (ho1.below HT.out.2.2.2.size (by have := HX.out.2.2; simp; omega))
      have hcw := hn1.cell kk hkn
      have hfw := hn1.free kk
      have H1 := Lib.hid (And.intro hx1 (And.intro hn1 hb1))
      clear hx1 ho1 hn1 hb1
      go_wp2_with fail
      go_roundw
      case rel =>
        refine ⟨t + 1, put wh kk (t + 1), by omega, by go_num, ?_, ?_, ?_, ?_⟩
        · rw [HK.out, tchs_snoc]
          exact H1.out.1.only ((Only.refl [bw] wc).setCell _ (by simp) _) (by have := HN.out.2.2.2.1; simp; omega)
        · exact H1.out.2.1.set kk (t + 1) hkn
        · rw [HK.out, tchs_snoc]; exact when_tch HT.out.2.2.1 kk
        · exact H1.out.2.2.setCell (p := ⟨bw, kk, none⟩) HN.out.2.2.2.2 _
      case measure => simp [intOf]; omega
    · have e : t = len1 := by omega
      subst e
      clear HRD HR
      generalize tchs (List.range n) (ks.take t) = oo at *
      have HT := Lib.hid (And.intro hX (And.intro hN (And.intro hW hB)))
      clear hX hN hW hB
      obtain ⟨wo, rfl⟩ : ∃ wo : World, wo = wr := ⟨_, rfl⟩
      go_wp2_with fail
      refine (order_all HT.out.1).mono ?_
      rintro e wc ⟨A, cap, rfl, hR, hcap, hBc⟩
      have H1 := Lib.hid (And.intro hR (And.intro (HT.out.2.1.other (hBc.block bw (HT.out.2.1.lt (by omega)))) (HT.out.2.2.2.trans (hBc.mono HT.out.2.2.2.size))))
      clear hR hBc
      have hnn : ((n : Int) != (n : Int)) = false := by simp
      go_wp2_with fail
      have hbs := bools_new wc n
      have hex : Ext wc (wc.alloc (.cells (zBools n) 4)) := ext_of_below (belowAlloc _ _)
      have hR1 := H1.out.1.ext hex
      have hN1 : Nums (wc.alloc (.cells (zBools n) 4)) bw n wh := H1.out.2.1.other (Below.heap_alloc _ _ _ (H1.out.2.1.lt (by omega)))
      have hB1 := H1.out.2.2.alloc H1.out.2.2.size (.cells (zBools n) 4)
      have hlw := H1.out.2.1.lt (by omega)
      have hls := H1.out.2.2.size
      generalize hbse : wc.heap.size = bs at *
      have hAne : ∀ b off, A = some ⟨b, off, none⟩ → b ≠ bs := fun b off e => by
        subst e
        obtain ⟨b', off', e', hc⟩ := H1.out.1.cell 0 (by rw [HT.out.1.ok.len]; omega)
        have hlt := block_lt_of_cell hc
        simp only [Option.some.injEq, Addr.mk.injEq, and_true] at e'
        simp only at hlt
        omega
      generalize wc.alloc (.cells (zBools n) 4) = wd at *
      have H2 := Lib.hid (And.intro hR1 (And.intro hN1 (And.intro hB1 (And.intro (by omega : bw ≠ bs) (And.intro hls hAne)))))
      have HBS := Lib.hid hbs
      clear hR1 hN1 hB1 hlw hls hbs hbse hAne hex H1 hm4
      have hb0 := Only.refl [bs] wd
      go_loopw [12] (fun i wr => ∃ (s : Nat) (sf : Nat → Bool), s ≤ n ∧ i = .int .i64 s ∧ Bools wr bs n sf ∧ (∀ x, sf x = true ↔ x ∈ oo.take s) ∧ Only [bs] wd wr) (fun i _ => n - (intOf i).toNat)
      case atStart => exact ⟨0, _, by omega, rfl, HBS.out, by simp, hb0⟩
      case round =>
        obtain ⟨s, sf, hs, rfl, hbs, hsf, hO⟩ := hrel
        clear hb0
        have hol := HT.out.1.ok.len
        by_cases hls : s < n
        · have hR' : Row wr A oo := ⟨fun i hi => by
            obtain ⟨b, off, e, hc⟩ := H2.out.1.cell i hi
            exact ⟨b, off, e, hO.cell hc (by simp; exact H2.out.2.2.2.2.2 b off e)⟩⟩
          have hN' : Nums wr bw n wh := H2.out.2.1.other (hO.block bw (H2.out.2.1.lt (by omega)) (by simp; exact H2.out.2.2.2.1))
          have hB' : Below w.heap.size w wr := H2.out.2.2.1.trans (hO.below H2.out.2.2.1.size (by simp; exact H2.out.2.2.2.2.1))
          obtain ⟨b, off, rfl, hc⟩ := hR'.cell s (by omega)
          have hmem : oo.getD s 0 ∈ oo := by rw [List.getD_eq_getElem?_getD, List.getElem?_eq_getElem (by omega)]; simp
          have hx := HT.out.1.ok.lt _ hmem
          have hnot : sf (oo.getD s 0) = false := by
            cases h : sf (oo.getD s 0) with
            | false => rfl
            | true =>
              exfalso
              have hm := (hsf _).1 h
              obtain ⟨r, hr, e⟩ := List.getElem_of_mem hm
              rw [List.length_take] at hr
              rw [List.getElem_take] at e
              have hnd := HT.out.1.ok.nodup
              rw [List.getD_eq_getElem?_getD, List.getElem?_eq_getElem (by omega)] at e
              exact List.pairwise_iff_getElem.1 hnd r s (by omega) (by omega) (by omega) e
          have hcs := hbs.cell _ hx
          rw [hnot] at hcs
          have hfs := hbs.free (oo.getD s 0)
          have hwx := hN'.cell _ hx
          have hset := hbs.set _ hx
          have hsf2 : ∀ x, putB sf (oo.getD s 0) x = true ↔ x ∈ oo.take (s + 1) := fun x => by
            rw [take_snoc oo s (by omega), List.mem_append, ← hsf x]
            unfold putB
            by_cases e : x = oo.getD s 0
            · rw [if_pos e]; simp [e]
            · rw [if_neg e]
              simp only [List.mem_singleton, e, or_false]
          have hO2 := hO.setCell ⟨bs, oo.getD s 0, none⟩ (by simp) (.bool true)
          have hne1 := H2.out.2.2.2.2.2 _ _ rfl
          have hne2 := H2.out.2.2.2.1
          have hB2 := hB'.setCell (p := ⟨bs, oo.getD s 0, none⟩) H2.out.2.2.2.2.1 (.bool true)
          cases s with
          | zero =>
            have HH := Lib.hid (And.intro hset (And.intro hsf2 (And.intro hO2 hB2)))
            clear hset hsf2 hO2 hB2 hR' hN' hB' hbs hsf hO hmem hnot
            rw [Nat.add_zero] at hc
            generalize oo.getD 0 0 = x at *
            go_wp2_with fail
            go_quiet (fail)
            go_wp2_with fail
            go_roundw
            case rel => exact ⟨1, _, by omega, by go_num, HH.out.1.other rfl, HH.out.2.1, only_drewN HH.out.2.2.1 _⟩
            case measure => simp [intOf]; omega
          | succ s =>
            obtain ⟨b', off', e', hc'⟩ := hR'.cell s (by omega)
            simp only [Option.some.injEq, Addr.mk.injEq, and_true] at e'
            obtain ⟨rfl, rfl⟩ := e'
            have hy : oo.getD s 0 < n := HT.out.1.ok.lt _ (by rw [List.getD_eq_getElem?_getD, List.getElem?_eq_getElem (by omega)]; simp)
            have hwy := hN'.cell _ hy
            obtain ⟨hw1, hw2⟩ := when_at HT.out.2.2.1 s (by omega)
            have HH := Lib.hid (And.intro hset (And.intro hsf2 (And.intro hO2 hB2)))
            clear hset hsf2 hO2 hB2 hR' hN' hB' hbs hsf hO hmem hnot
            generalize oo.getD (s + 1) 0 = x at *
            generalize oo.getD s 0 = y at *
            generalize wh x = wx at *
            generalize wh y = wy at *
            by_cases hz : wx = 0
            · have hyx := hw2 hz
              have hwy0 : wy = 0 := by omega
              subst hz; subst hwy0
              clear hw1 hw2
              go_wp2_with fail
              go_quiet (fail)
              go_wp2_with fail
              go_roundw
              case rel => exact ⟨s + 1 + 1, _, by omega, by go_num, HH.out.1.other rfl, HH.out.2.1, only_drewN HH.out.2.2.1 _⟩
              case measure => simp [intOf]; omega
            · have hz2 : ((wx : Int) == 0) = false := by rw [beq_eq_false_iff_ne]; omega
              have hz3 : decide ((wx : Int) < (wy : Int)) = false := by rw [decide_eq_false_iff_not]; omega
              have hz4 : ¬ (wx : Int) < (wy : Int) := by omega
              have hz5 : ¬ wx < wy := by omega
              have hz6 : ((wx : Int) = 0) = False := eq_false (by omega)
              clear hw2
              go_wp2_with fail
              go_quiet (fail)
              go_wp2_with fail
              go_roundw
              case rel => exact ⟨s + 1 + 1, _, by omega, by go_num, HH.out.1.other rfl, HH.out.2.1, only_drewN HH.out.2.2.1 _⟩
              case measure => simp [intOf]; omega
        · have hB' : Below w.heap.size w wr := H2.out.2.2.1.trans (hO.below H2.out.2.2.1.size (by simp; exact H2.out.2.2.2.2.1))
          have H3 := Lib.hid hB'
          clear hB' hO hsf hbs hol
          go_wp2_with fail
          refine (awake_walk _).mono ?_
          rintro e wg ⟨rfl, hBc⟩
          have H5 := Lib.hid (H3.out.trans (hBc.mono H3.out.size))
          clear hBc H3
          go_wp2_with fail
          go_ret
          exact ⟨rfl, H5.out⟩

/-! ### THE ROW's STEP: WRITTEN OUT: LEAVE IT -/
set_option maxRecDepth 100000 in
theorem lifted (os : Os) (started : os.Started) (H : Type) (enc : TypeId × Value → H) :
    ReturnsInHanded {} Try.checked os 4 .any (Rows.lruLastSpec.pre6 enc Try.prog Try.f4 Rows.lruLastRow.domain false) (Rows.lruLastSpec.post enc Try.prog Try.f4 false true false false) := by
  refine returnsInHanded_of_change (C := Try.checked) own started (by kernel_rfl) Try.func4
    (ChangeSpec.witness6 (enc := enc) (C := Try.checked) false ⟨#[], #[.int .i64 0, .slice none 0 0], []⟩ 8 (by kernel_rfl) (by kernel_rfl) (by kernel_rfl) (by kernel_rfl)) ?_
  intro W base args ds gs before hval0 hW hcnd _
  have hval : ∀ (j : Nat) t v, Try.f4.params[j]? = some t → args[j]? = some v → Value.okWide Try.prog W .any base t v := hval0
  have hW' := hW
  obtain ⟨p, q, hA0, hV, rfl, hfz, hnd⟩ := hW
  have hA : DataW.TrodAll enc Try.prog W 0 (fun _ => true) true Try.f4.params.toList args.toList ds p := hA0
  rw [Try.params4] at hA hval
  obtain ⟨v0, vs0, d0, ds0, p0, q0, hargs, rfl, rfl, h0, r0⟩ := trodAll_cons hA
  obtain ⟨v1, vs1, d1, ds1, p1, q1, rfl, rfl, rfl, h1, r1⟩ := trodAll_cons r0
  obtain ⟨rfl, rfl, rfl⟩ := trodAll_nil r1
  obtain rfl : args = #[v0, v1] := by cases args; simp_all
  obtain ⟨rfl, rfl⟩ := trodVars_none hV
  obtain ⟨a0, rfl, rfl, rfl, w0⟩ := open_int Try.underlying3 (hval 0 3 v0 rfl rfl) h0
  obtain ⟨a1, len1, cap1, rfl⟩ := okWide_slice Try.underlying38 (hval 1 38 v1 rfl rfl)
  have k1 := h1
  have lt1 : ∀ x ∈ p1, x.block < W.heap.size := by obtain ⟨m, hm⟩ := k1; exact DataW.trod_lt m _ _ _ hm
  obtain ⟨z1, w1⟩ : ∃ zs, IsRow .i64 W a1 len1 cap1 zs := by
    obtain ⟨fuel, hf⟩ := h1
    rcases open_ints Try.underlying38 Try.underlying3 (by kernel_rfl) hf with ⟨hcs, _⟩ | ⟨x, l, c, zs, hcs, _, hl, hm, hz, _, hcell, hwz⟩
    · simp [Value.cells] at hcs
      obtain ⟨rfl, rfl, rfl⟩ := hcs
      exact ⟨[], .inl ⟨rfl, rfl, rfl, rfl⟩⟩
    · simp [Value.cells] at hcs
      obtain ⟨rfl, rfl, rfl⟩ := hcs
      exact ⟨zs, .inr ⟨_, rfl, hl, hm, by simpa using hz, hcell, hwz⟩⟩
  clear hA0 hval0
  refine (walk a0 a1 len1 cap1 z1 W w0 w1).mono fun e W' ⟨he, bel⟩ => ?_
  subst he
  exact ⟨_, rfl, _, _, _, [], _, [], hW', trodAll_mk1 (shut_bool Try.underlying4 _), (trodAll_cons_mk (shut_int Try.underlying3 w0) (trodAll_cons_mk (Below.trod laidOut (by kernel_rfl) (of_decide_eq_true (by kernel_rfl)) k1 bel lt1) trodAll_mk0)), rfl, bel.frame _, fun h => by cases h⟩

theorem over : Rows.lruLastRow.holds Try.pinned (OpenSpec.ofChange Rows.lruLastSpec) :=
  OpenClaim.holds_of_wide 4 Try.f4 rfl rfl rfl rfl rfl rfl rfl ⟨rfl, rfl, rfl, rfl, rfl⟩ rfl rfl rfl rfl rfl (by kernel_rfl) Try.func4 (by kernel_rfl)
    (of_decide_eq_true (by kernel_rfl)) (by unfold Func.isWrapper; first | (rw [if_pos (by decide +kernel)]; kernel_rfl) | (rw [if_neg (by decide +kernel)]; exact ⟨rfl, rfl⟩))
    (fun os started H enc _ => lifted os started H enc)

/-- ████ THE STATEMENT ████ -/
theorem proved : Rows.LruLastSaid := over
end Go.Proofs.Ytnedpmibmldbfaa.lruLast
