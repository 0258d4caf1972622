/- 'LruTwice' returns true for every input: used twice in a row is as used once; a row of uses is as its last ones of each alone. -/
import Derived.Test.YtnedpmibmldbfaaRow
import Derived.ProofKit
import Derived.OpenShut
import Derived.ShutString
import Derived.ChangeOld
import Derived.Below
namespace Go.Proofs.Ytnedpmibmldbfaa.lruTwice
open Go.ChangeShapes Go.WideShapes Go.ChangeAt Go.RowKit
open Go.ChangeMaps (open_string shut_string)
set_option linter.unusedVariables false

theorem own : ownKnob Try.prog.godebug = none := by kernel_rfl
theorem laidOut : laidOutB Try.prog = true := by kernel_rfl

set_option maxRecDepth 100000 in
set_option maxHeartbeats 1000000 in
theorem walk (a0 : Int) (a1 : Option Addr) (len1 cap1 : Nat) (z1 : List Int) (w : World) (w0 : (Lit.int .i64 a0).wf = true) (w1 : IsRow .i64 w a1 len1 cap1 z1) :
    Calls Try.prog 6 #[.int .i64 a0, .slice a1 len1 cap1] w fun e w' => e = .returned (.bool true) ∧ Below w.heap.size w w' := by
  have hrow := irow_of w1
  clear w0 w1
  have haw := awake_walk w
  have HAW := Lib.hid haw; clear haw
  by_cases h1 : a0 < 1
  · clear hrow
    go_enter Try.func6, Try.ntmps6
    go_wp2_with fail
    refine HAW.out.mono ?_
    rintro e w' ⟨rfl, hbw⟩
    go_wp2_with fail
    go_ret
    exact ⟨rfl, hbw⟩
  by_cases h2 : 40 < a0
  · clear hrow
    go_enter Try.func6, Try.ntmps6
    go_wp2_with fail
    refine HAW.out.mono ?_
    rintro e w' ⟨rfl, hbw⟩
    go_wp2_with fail
    go_ret
    exact ⟨rfl, hbw⟩
  by_cases h3 : 60 < len1
  · clear hrow
    go_enter Try.func6, Try.ntmps6
    go_wp2_with fail
    refine HAW.out.mono ?_
    rintro e w' ⟨rfl, hbw⟩
    go_wp2_with fail
    go_ret
    exact ⟨rfl, hbw⟩
  clear HAW
  obtain ⟨n, rfl⟩ : ∃ n : Nat, a0 = (n : Int) := ⟨a0.toNat, by omega⟩
  obtain ⟨z, hz⟩ : ∃ z : Nat → Int, z = fun i => z1.getD i 0 := ⟨_, rfl⟩
  rw [← hz] at hrow
  clear hz
  obtain ⟨ks, hks⟩ : ∃ ks, ks = rounds z len1 n := ⟨_, rfl⟩
  have hkl := rounds_len z len1 n
  have hkn := rounds_lt z len1 n (by omega)
  have hrd := Round_row z len1 n (by omega) (by omega)
  rw [← hks] at hkl hkn hrd
  have HRD := Lib.hid hrd
  have HR := Lib.hid (And.intro hrow (And.intro hkl hkn))
  clear hrow hkl hkn hrd hks
  go_enter Try.func6, Try.ntmps6
  go_wp2_with fail
  refine (New_walk n (by omega) (by omega) w).mono ?_
  rintro e wa ⟨k, bE, bY, bP, rfl, hX, hB, hk, hE, hY, hP⟩
  have HX := Lib.hid (And.intro hX (And.intro hB (And.intro hk (And.intro hE (And.intro hY hP)))))
  clear hX hB hk hE hY hP
  go_wp2_with fail
  refine (New_walk n (by omega) (by omega) wa).mono ?_
  rintro e wb ⟨k', bE', bY', bP', rfl, hX, hB, hk, hE, hY, hP⟩
  have HT := Lib.hid (show Two wb k bE bY bP k' bE' bY' bP' n (tchs (List.range n) (ks.take 0)) (tchs (List.range n) (selTo ks 0)) (fun _ => false) (fun _ => false) w.heap.size wa.heap.size from by
    obtain ⟨h1, h2, h3⟩ := HX.out
    rw [selTo_zero]
    exact ⟨h1.below hB h1.lt, hX, h3, h1.lt, hk, hE, hY, hP⟩)
  have HB := Lib.hid (HX.out.2.1.trans (hB.mono HX.out.2.1.size))
  clear hX hB hk hE hY hP HX
  go_wp2_with fail
  go_loopw [9] (fun i wr => ∃ t : Nat, t ≤ len1 ∧ i = .int .i64 t ∧ Two wr k bE bY bP k' bE' bY' bP' n (tchs (List.range n) (ks.take t)) (tchs (List.range n) (selTo ks t)) (fun _ => false) (fun _ => false) w.heap.size wa.heap.size ∧ Below w.heap.size w wr) (fun i _ => len1 - (intOf i).toNat)
  case atStart => exact ⟨0, by omega, rfl, HT.out, HB.out⟩
  case round =>
    obtain ⟨t, ht, rfl, hT, hB⟩ := hrel
    clear HT HB
    by_cases hlt : t < len1
    · obtain ⟨b, off, rfl, hbw, hc⟩ := HR.out.1.below hB t hlt
      have HT := Lib.hid (And.intro hT hB)
      clear hT hB
      obtain ⟨wo, rfl⟩ : ∃ wo : World, wo = wr := ⟨_, rfl⟩
      go_wp2_with fail
      refine (HRD.out t hlt _).mono ?_
      rintro e w' ⟨rfl, rfl⟩
      have hkn : ks.getD t 0 < n := HR.out.2.2 _ (by rw [List.getD_eq_getElem?_getD, List.getElem?_eq_getElem (by have := HR.out.2.1; omega)]; simp)
      have hsel := selTo_succ ks t (by have := HR.out.2.1; omega)
      have htk := take_snoc ks t (by have := HR.out.2.1; omega)
      obtain ⟨kk, hkk⟩ : ∃ kk, kk = ks.getD t 0 := ⟨_, rfl⟩
      rw [← hkk] at hkn hsel htk ⊢
      have HK := Lib.hid (And.intro hkk (And.intro hsel htk))
      clear hkk hsel htk
      go_wp2_with fail
      go_loopw [11, 12] (fun la j wr => ∃ (s : Nat) (lb : Bool), t + 1 ≤ s ∧ s ≤ len1 ∧ j = .int .i64 s ∧ la = .bool lb ∧ (lb = true ↔ ∀ r, t < r → r < s → ks.getD r 0 ≠ kk) ∧ wr = wo) (fun _ j _ => len1 - (intOf j).toNat)
      case atStart => exact ⟨t + 1, true, by omega, by omega, by go_num, rfl, ⟨fun _ r h1 h2 => by omega, fun _ => rfl⟩, rfl⟩
      case round =>
        obtain ⟨s, lb, hs1, hs2, rfl, rfl, hlb, rfl⟩ := hrel
        by_cases hls : s < len1
        · obtain ⟨b', off', e', hbw', hc'⟩ := HR.out.1.below HT.out.2 s hls
          simp only [Option.some.injEq, Addr.mk.injEq, and_true] at e'
          obtain ⟨rfl, rfl⟩ := e'
          cases lb with
          | false =>
            have HL := Lib.hid hlb
            clear hlb
            go_wp2_with fail
            go_roundw
            case rel =>
              refine ⟨s + 1, false, by omega, by omega, by go_num, rfl, ⟨fun h => (by cases h), fun h => HL.out.2 (fun r h1 h2 => h r h1 (by omega))⟩, (by first | rfl | trivial)⟩
            case measure => simp [intOf]; omega
          | true =>
            have HL := Lib.hid hlb
            clear hlb
            go_wp2_with fail
            refine (HRD.out s hls _).mono ?_
            rintro e w' ⟨rfl, rfl⟩
            by_cases he : ks.getD s 0 = kk
            · have he2 : (((ks.getD s 0 : Nat) : Int) != (kk : Int)) = false := by rw [he]; simp
              have HE := Lib.hid he
              clear he
              obtain ⟨ksx, hksx⟩ : ∃ x, x = ks.getD s 0 := ⟨_, rfl⟩
              rw [← hksx] at he2 ⊢
              clear hksx
              go_wp2_with fail
              go_roundw
              case rel =>
                refine ⟨s + 1, false, by omega, by omega, by go_num, rfl, ⟨fun h => (by cases h), fun h => absurd HE.out (h s (by omega) (by omega))⟩, (by first | rfl | trivial)⟩
              case measure => simp [intOf]; omega
            · have he2 : (((ks.getD s 0 : Nat) : Int) != (kk : Int)) = true := by rw [bne_iff_ne]; omega
              have HE := Lib.hid he
              clear he
              obtain ⟨ksx, hksx⟩ : ∃ x, x = ks.getD s 0 := ⟨_, rfl⟩
              rw [← hksx] at he2 ⊢
              clear hksx
              go_wp2_with fail
              go_roundw
              case rel =>
                refine ⟨s + 1, true, by omega, by omega, by go_num, rfl, ⟨fun _ r h1 h2 => ?_, fun _ => rfl⟩, (by first | rfl | trivial)⟩
                by_cases e : r = s
                · subst e; exact HE.out
                · exact HL.out.1 (by first | rfl | trivial) r h1 (by omega)
              case measure => simp [intOf]; omega
        · have e : s = len1 := by omega
          subst e
          have hmem : lb = true ↔ kk ∉ ks.drop (t + 1) := by
            rw [hlb]
            have hkl := HR.out.2.1
            constructor
            · intro h hm
              obtain ⟨r, hr, e⟩ := List.getElem_of_mem hm
              rw [List.length_drop] at hr
              rw [List.getElem_drop] at e
              refine h (t + 1 + r) (by omega) (by omega) ?_
              rw [List.getD_eq_getElem?_getD, List.getElem?_eq_getElem (by omega), ← e]; rfl
            · intro h r h1 h2 e
              refine h ?_
              rw [List.mem_iff_getElem]
              refine ⟨r - (t + 1), by rw [List.length_drop]; omega, ?_⟩
              rw [List.getElem_drop]
              rw [List.getD_eq_getElem?_getD, List.getElem?_eq_getElem (by omega)] at e
              simp only [Option.getD_some] at e
              rw [← e]; congr 1; omega
          have HM := Lib.hid hmem
          clear hlb hmem
          obtain ⟨wz, rfl⟩ : ∃ wz : World, wz = wr := ⟨_, rfl⟩
          go_wp2_with fail
          refine (Touch_is kk HT.out.1.x hkn).mono ?_
          rintro e wc ⟨rfl, hx1, ho1⟩
          have H1 := Lib.hid (And.intro (HT.out.1.touchX hx1 ho1) (HT.out.2.trans (ho1.below HT.out.2.size (by have := HT.out.1.lo; simp; omega))))
          clear hx1 ho1
          go_wp2_with fail
          refine (Touch_is kk H1.out.1.x hkn).mono ?_
          rintro e wd ⟨rfl, hx1, ho1⟩
          rw [tch_tch] at hx1
          have H2 := Lib.hid (And.intro (H1.out.1.touchX hx1 ho1) (H1.out.2.trans (ho1.below H1.out.2.size (by have := HT.out.1.lo; simp; omega))))
          clear hx1 ho1 H1
          cases lb with
          | false =>
            go_wp2_with fail
            go_roundw
            case rel =>
              refine ⟨t + 1, by omega, by go_num, ?_, H2.out.2⟩
              have hm : kk ∈ ks.drop (t + 1) := by
                by_cases h : kk ∈ ks.drop (t + 1)
                · exact h
                · have := HM.out.2 h; cases this
              rw [HK.out.2.2, tchs_snoc, HK.out.2.1, if_pos hm]
              exact H2.out.1
            case measure => simp [intOf]; omega
          | true =>
            go_wp2_with fail
            refine (Touch_is kk H2.out.1.y hkn).mono ?_
            rintro e we ⟨rfl, hx1, ho1⟩
            have H3 := Lib.hid (And.intro (H2.out.1.touchY hx1 ho1) (H2.out.2.trans (ho1.below H2.out.2.size (by have := HT.out.1.lo; have := HT.out.1.mi; have := HT.out.1.hi; simp; omega))))
            clear hx1 ho1 H2
            go_wp2_with fail
            go_roundw
            case rel =>
              refine ⟨t + 1, by omega, by go_num, ?_, H3.out.2⟩
              rw [HK.out.2.2, tchs_snoc, HK.out.2.1, if_neg (HM.out.1 (by first | rfl | trivial)), tchs_snoc]
              exact H3.out.1
            case measure => simp [intOf]; omega
    · have e : t = len1 := by omega
      subst e
      obtain ⟨wo, rfl⟩ : ∃ wo : World, wo = wr := ⟨_, rfl⟩
      have hkl := HR.out.2.1
      have hsame : tchs (List.range n) (ks.take t) = tchs (List.range n) (selTo ks t) := by
        rw [← hkl, List.take_length, selTo_all, tchs_lasts]
      rw [hsame] at hT
      have hol := hT.y.ok.len
      generalize tchs (List.range n) (selTo ks t) = oo at *
      have HT := Lib.hid (And.intro hT (And.intro hB hol))
      clear hT hB hsame hkl hol HRD HR
      go_wp2_with fail
      refine (order_all HT.out.1.x).mono ?_
      rintro e wc ⟨A, cap, rfl, hR, hcap, hBc⟩
      have H1 := Lib.hid (And.intro (HT.out.1.below hBc) (And.intro hR (HT.out.2.1.trans (hBc.mono HT.out.2.1.size))))
      clear hR hBc
      go_wp2_with fail
      refine (order_all H1.out.1.y).mono ?_
      rintro e wd ⟨A', cap', rfl, hR, hcap', hBc⟩
      have H2 := Lib.hid (And.intro (H1.out.1.below hBc) (And.intro (H1.out.2.1.ext (ext_of_below hBc)) (And.intro hR (H1.out.2.2.trans (hBc.mono H1.out.2.2.size)))))
      clear hR hBc H1
      go_wp2_with fail
      refine (Ints_walk A A' n n cap cap' oo oo HT.out.2.2 HT.out.2.2 _ H2.out.2.1 H2.out.2.2.1 (by omega)).mono ?_
      rintro e we ⟨rfl, hBc⟩
      rw [decide_eq_true (show oo = oo from rfl)]
      have H3 := Lib.hid (And.intro (H2.out.1.below hBc) (H2.out.2.2.2.trans (hBc.mono H2.out.2.2.2.size)))
      clear hBc H2
      go_wp2_with fail
      refine (order_all H3.out.1.x).mono ?_
      rintro e wf ⟨A2, cap2, rfl, hR, hcap2, hBc⟩
      have H4 := Lib.hid (H3.out.2.trans (hBc.mono H3.out.2.size))
      clear hR hBc H3
      have hnn : ((n : Int) == (n : Int)) = true := by simp
      go_wp2_with fail
      refine (awake_walk _).mono ?_
      rintro e wg ⟨rfl, hBc⟩
      have H5 := Lib.hid (H4.out.trans (hBc.mono H4.out.size))
      clear hBc H4
      go_wp2_with fail
      go_ret
      exact ⟨rfl, H5.out⟩

/-! ### THE ROW's STEP: WRITTEN OUT: LEAVE IT -/
set_option maxRecDepth 100000 in
theorem lifted (os : Os) (started : os.Started) (H : Type) (enc : TypeId × Value → H) :
    ReturnsInHanded {} Try.checked os 6 .any (Rows.lruTwiceSpec.pre6 enc Try.prog Try.f6 Rows.lruTwiceRow.domain false) (Rows.lruTwiceSpec.post enc Try.prog Try.f6 false true false false) := by
  refine returnsInHanded_of_change (C := Try.checked) own started (by kernel_rfl) Try.func6
    (ChangeSpec.witness6 (enc := enc) (C := Try.checked) false ⟨#[], #[.int .i64 0, .slice none 0 0], []⟩ 8 (by kernel_rfl) (by kernel_rfl) (by kernel_rfl) (by kernel_rfl)) ?_
  intro W base args ds gs before hval0 hW hcnd _
  have hval : ∀ (j : Nat) t v, Try.f6.params[j]? = some t → args[j]? = some v → Value.okWide Try.prog W .any base t v := hval0
  have hW' := hW
  obtain ⟨p, q, hA0, hV, rfl, hfz, hnd⟩ := hW
  have hA : DataW.TrodAll enc Try.prog W 0 (fun _ => true) true Try.f6.params.toList args.toList ds p := hA0
  rw [Try.params6] at hA hval
  obtain ⟨v0, vs0, d0, ds0, p0, q0, hargs, rfl, rfl, h0, r0⟩ := trodAll_cons hA
  obtain ⟨v1, vs1, d1, ds1, p1, q1, rfl, rfl, rfl, h1, r1⟩ := trodAll_cons r0
  obtain ⟨rfl, rfl, rfl⟩ := trodAll_nil r1
  obtain rfl : args = #[v0, v1] := by cases args; simp_all
  obtain ⟨rfl, rfl⟩ := trodVars_none hV
  obtain ⟨a0, rfl, rfl, rfl, w0⟩ := open_int Try.underlying3 (hval 0 3 v0 rfl rfl) h0
  obtain ⟨a1, len1, cap1, rfl⟩ := okWide_slice Try.underlying38 (hval 1 38 v1 rfl rfl)
  have k1 := h1
  have lt1 : ∀ x ∈ p1, x.block < W.heap.size := by obtain ⟨m, hm⟩ := k1; exact DataW.trod_lt m _ _ _ hm
  obtain ⟨z1, w1⟩ : ∃ zs, IsRow .i64 W a1 len1 cap1 zs := by
    obtain ⟨fuel, hf⟩ := h1
    rcases open_ints Try.underlying38 Try.underlying3 (by kernel_rfl) hf with ⟨hcs, _⟩ | ⟨x, l, c, zs, hcs, _, hl, hm, hz, _, hcell, hwz⟩
    · simp [Value.cells] at hcs
      obtain ⟨rfl, rfl, rfl⟩ := hcs
      exact ⟨[], .inl ⟨rfl, rfl, rfl, rfl⟩⟩
    · simp [Value.cells] at hcs
      obtain ⟨rfl, rfl, rfl⟩ := hcs
      exact ⟨zs, .inr ⟨_, rfl, hl, hm, by simpa using hz, hcell, hwz⟩⟩
  clear hA0 hval0
  refine (walk a0 a1 len1 cap1 z1 W w0 w1).mono fun e W' ⟨he, bel⟩ => ?_
  subst he
  exact ⟨_, rfl, _, _, _, [], _, [], hW', trodAll_mk1 (shut_bool Try.underlying4 _), (trodAll_cons_mk (shut_int Try.underlying3 w0) (trodAll_cons_mk (Below.trod laidOut (by kernel_rfl) (of_decide_eq_true (by kernel_rfl)) k1 bel lt1) trodAll_mk0)), rfl, bel.frame _, fun h => by cases h⟩

theorem over : Rows.lruTwiceRow.holds Try.pinned (OpenSpec.ofChange Rows.lruTwiceSpec) :=
  OpenClaim.holds_of_wide 6 Try.f6 rfl rfl rfl rfl rfl rfl rfl ⟨rfl, rfl, rfl, rfl, rfl⟩ rfl rfl rfl rfl rfl (by kernel_rfl) Try.func6 (by kernel_rfl)
    (of_decide_eq_true (by kernel_rfl)) (by unfold Func.isWrapper; first | (rw [if_pos (by decide +kernel)]; kernel_rfl) | (rw [if_neg (by decide +kernel)]; exact ⟨rfl, rfl⟩))
    (fun os started H enc _ => lifted os started H enc)

/-- ████ THE STATEMENT ████ -/
theorem proved : Rows.LruTwiceSaid := over
end Go.Proofs.Ytnedpmibmldbfaa.lruTwice
