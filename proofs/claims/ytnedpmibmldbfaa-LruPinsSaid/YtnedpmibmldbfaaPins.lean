/- 'LruPins' returns true for every input: who is pinned is never the oldest, wherever it stands; when all are pinned there is none; to pin changes no order. -/
import Derived.Test.YtnedpmibmldbfaaRow
import Derived.BigQuiet
import Derived.ProofKit
import Derived.OpenShut
import Derived.ShutString
import Derived.ChangeOld
import Derived.Below
namespace Go.Proofs.Ytnedpmibmldbfaa.lruPins
open Go.ChangeShapes Go.WideShapes Go.ChangeAt Go.RowKit
open Go.ChangeMaps (open_string shut_string)
set_option linter.unusedVariables false

theorem own : ownKnob Try.prog.godebug = none := by kernel_rfl
theorem laidOut : laidOutB Try.prog = true := by kernel_rfl

theorem bools_new (w : World) (n : Nat) : Bools (w.alloc (.cells (zBools n) 4)) w.heap.size n (fun _ => false) := by
  have h := heap_alloc_new w (.cells (zBools n) 4)
  exact ⟨fun i hi => by rw [cell_of_row _ _ _ _ _ _ h]; exact zBools_get _ _ hi, fun i => frozen_of_row _ _ _ _ _ h⟩
set_option maxRecDepth 100000 in
set_option maxHeartbeats 2000000 in
theorem walk (a0 : Int) (a1 : Option Addr) (len1 cap1 : Nat) (z1 : List Int) (a2 : Option Addr) (len2 cap2 : Nat) (z2 : List Int) (w : World) (w0 : (Lit.int .i64 a0).wf = true) (w1 : IsRow .i64 w a1 len1 cap1 z1) (w2 : IsRow .i64 w a2 len2 cap2 z2) :
    Calls Try.prog 5 #[.int .i64 a0, .slice a1 len1 cap1, .slice a2 len2 cap2] w fun e w' => e = .returned (.bool true) ∧ Below w.heap.size w w' := by
  have hrow := irow_of w1
  have hrow2 := irow_of w2
  clear w0 w1 w2
  have haw := awake_walk w
  have HAW := Lib.hid haw; clear haw
  by_cases h1 : a0 < 1
  · clear hrow hrow2
    go_enter Try.func5, Try.ntmps5
    go_wp2_with fail
    refine HAW.out.mono ?_
    rintro e w' ⟨rfl, hbw⟩
    go_wp2_with fail
    go_ret
    exact ⟨rfl, hbw⟩
  by_cases h2 : 40 < a0
  · clear hrow hrow2
    go_enter Try.func5, Try.ntmps5
    go_wp2_with fail
    refine HAW.out.mono ?_
    rintro e w' ⟨rfl, hbw⟩
    go_wp2_with fail
    go_ret
    exact ⟨rfl, hbw⟩
  by_cases h3 : 60 < len1
  · clear hrow hrow2
    go_enter Try.func5, Try.ntmps5
    go_wp2_with fail
    refine HAW.out.mono ?_
    rintro e w' ⟨rfl, hbw⟩
    go_wp2_with fail
    go_ret
    exact ⟨rfl, hbw⟩
  by_cases h4 : 60 < len2
  · clear hrow hrow2
    go_enter Try.func5, Try.ntmps5
    go_wp2_with fail
    refine HAW.out.mono ?_
    rintro e w' ⟨rfl, hbw⟩
    go_wp2_with fail
    go_ret
    exact ⟨rfl, hbw⟩
  clear HAW
  obtain ⟨n, rfl⟩ : ∃ n : Nat, a0 = (n : Int) := ⟨a0.toNat, by omega⟩
  obtain ⟨z, hz⟩ : ∃ z : Nat → Int, z = fun i => z1.getD i 0 := ⟨_, rfl⟩
  rw [← hz] at hrow
  clear hz
  obtain ⟨zz, hz⟩ : ∃ z : Nat → Int, z = fun i => z2.getD i 0 := ⟨_, rfl⟩
  rw [← hz] at hrow2
  clear hz
  obtain ⟨ks, hks⟩ : ∃ ks, ks = rounds z len1 n := ⟨_, rfl⟩
  have hkl := rounds_len z len1 n
  have hkn := rounds_lt z len1 n (by omega)
  have hrd := Round_row z len1 n (by omega) (by omega)
  rw [← hks] at hkl hkn hrd
  obtain ⟨ls, hls⟩ : ∃ ls, ls = rounds zz len2 n := ⟨_, rfl⟩
  have hkl2 := rounds_len zz len2 n
  have hkn2 := rounds_lt zz len2 n (by omega)
  have hrd2 := Round_row zz len2 n (by omega) (by omega)
  rw [← hls] at hkl2 hkn2 hrd2
  have HR := Lib.hid (And.intro (And.intro hrow (And.intro hkn hrd)) (And.intro (And.intro hrow2 (And.intro hkn2 hrd2)) (And.intro hkl hkl2)))
  clear hrow hkl hkn hrd hks hrow2 hkl2 hkn2 hrd2 hls
  have hm4 := make40 n (by omega)
  go_enter Try.func5, Try.ntmps5
  go_wp2_with fail
  refine (New_walk n (by omega) (by omega) w).mono ?_
  rintro e wa ⟨k, bE, bY, bP, rfl, hX, hB, hk, hE, hY, hP⟩
  have HX := Lib.hid (And.intro hX (And.intro hB (And.intro hk (And.intro hE (And.intro hY hP)))))
  clear hX hB hk hE hY hP
  go_wp2_with fail
  have hnm := bools_new wa n
  have hxa := HX.out.1.only ((Only.refl [] wa).alloc (.cells (zBools n) 4)) (by simp)
  have hba := HX.out.2.1.alloc HX.out.2.1.size (.cells (zBools n) 4)
  have hbl := HX.out.1.lt
  have hsz := HX.out.2.1.size
  generalize hbw : wa.heap.size = bp at *
  generalize wa.alloc (.cells (zBools n) 4) = wb at *
  have HN := Lib.hid (And.intro hbl (And.intro HX.out.2.2.1 (And.intro HX.out.2.2.2.1 (And.intro HX.out.2.2.2.2 hsz))))
  have H0 := Lib.hid (And.intro hxa (And.intro hnm hba))
  clear hnm hxa hba hbl hbw hm4 hsz HX
  go_loopw [10] (fun i wr => ∃ (t : Nat) (oo : List Nat) (p0 : Nat → Bool), i = .int .i64 t ∧ IsX wr k bE bY bP n oo p0 ∧ Bools wr bp n p0 ∧ Below w.heap.size w wr) (fun i _ => len1 + len2 - (intOf i).toNat)
  case atStart => exact ⟨0, _, _, rfl, H0.out.1, H0.out.2.1, H0.out.2.2⟩
  case round =>
    obtain ⟨t, oo, p0, rfl, hX, hN, hB⟩ := hrel
    clear H0
    have HT := Lib.hid (And.intro hX (And.intro hN hB))
    clear hX hN hB
    obtain ⟨wo, rfl⟩ : ∃ wo : World, wo = wr := ⟨_, rfl⟩
    obtain ⟨mx, hmx, hmx2⟩ : ∃ mx : Nat, (if len1 < len2 then (len2 : Int) else (len1 : Int)) = (mx : Int) ∧ mx = max len1 len2 := by
      refine ⟨max len1 len2, ?_, rfl⟩
      split <;> omega
    by_cases hlt : t < len1 ∨ t < len2
    · by_cases ht2 : t < len2
      · have hlm : t < mx := by omega
        clear hmx2
        obtain ⟨b, off, rfl, hbw, hc⟩ := HR.out.2.1.1.below HT.out.2.2 t ht2
        go_wp2_with fail
        refine (HR.out.2.1.2.2 t ht2 _).mono ?_
        rintro e w' ⟨rfl, rfl⟩
        have hkn : ls.getD t 0 < n := HR.out.2.1.2.1 _ (by rw [List.getD_eq_getElem?_getD, List.getElem?_eq_getElem (by have := HR.out.2.2.2; omega)]; simp)
        generalize ls.getD t 0 = kk at *
        go_wp2_with fail
        refine (Touch_is kk HT.out.1 hkn).mono ?_
        rintro e wt ⟨rfl, hx1, ho1⟩
        have hn1 : Bools wt bp n p0 := HT.out.2.1.other (ho1.block bp (HT.out.2.1.lt (by omega)) (by have := HN.out.1; simp; omega))
        have hb1 : Below w.heap.size w wt := HT.out.2.2.trans (ho1.below HT.out.2.2.size (by have := HN.out; simp; omega))
        obtain ⟨o2, ho2⟩ : ∃ o2, o2 = tch kk oo := ⟨_, rfl⟩
        rw [← ho2] at hx1
        clear ho2
        have HT1 := Lib.hid (And.intro hx1 (And.intro hn1 hb1))
        clear hx1 ho1 hn1 hb1 HT hkn

        go_wp2_with fail
        refine (order_allF HT1.out.1).mono ?_
        rintro e wc ⟨A1, cap1', rfl, hR1, hcap1, hBc, hfr⟩
        have hbPlt := HT1.out.1.lt.2.2.2
        have hbplt := HT1.out.2.1.lt (by omega)
        have HC := Lib.hid (And.intro (HT1.out.1.below hBc HT1.out.1.lt) (And.intro (HT1.out.2.1.other (hBc.block bp (HT1.out.2.1.lt (by omega)))) (And.intro hR1 (HT1.out.2.2.trans (hBc.mono HT1.out.2.2.size)))))
        clear HT1 hR1 hBc
        by_cases hlp : t < len1
        · obtain ⟨b', off', rfl, hbw', hc'⟩ := HR.out.1.1.below HC.out.2.2.2 t hlp
          go_wp2_with fail
          refine (HR.out.1.2.2 t hlp _).mono ?_
          rintro e w' ⟨rfl, rfl⟩
          have hkn : ks.getD t 0 < n := HR.out.1.2.1 _ (by rw [List.getD_eq_getElem?_getD, List.getElem?_eq_getElem (by have := HR.out.2.2.1; omega)]; simp)
          generalize ks.getD t 0 = kk at *
          go_wp2_with fail
          refine (Pin_is kk HC.out.1 hkn).mono ?_
          rintro e wd ⟨rfl, hx1, ho1⟩
          have hn1 : Bools wd bp n p0 := HC.out.2.1.other (ho1.block bp (HC.out.2.1.lt (by omega)) (by have := HN.out.1; simp; omega))
          have hb1 : Below w.heap.size w wd := HC.out.2.2.2.trans (ho1.below HC.out.2.2.2.size (by have := HN.out.2; simp; omega))
          have hR1 : Row wd A1 o2 := ⟨fun i hi => by
            obtain ⟨b, off, e, hc⟩ := HC.out.2.2.1.cell i hi
            exact ⟨b, off, e, ho1.cell hc (by have := hfr b off e; simp; omega)⟩⟩
          have hcw := hn1.cell kk hkn
          have hfw := hn1.free kk
          have hset := hn1.set kk hkn
          have HD := Lib.hid (And.intro hx1 (And.intro hset (And.intro hR1 hb1)))
          clear hx1 ho1 hn1 hb1 hR1 hset HC
          go_wp2_with fail
          have HQ := Lib.hid (show IsX (wd.setCell ⟨bp, kk, none⟩ (.bool true)) k bE bY bP n o2 (putB p0 kk) ∧ Bools (wd.setCell ⟨bp, kk, none⟩ (.bool true)) bp n (putB p0 kk) ∧ Row (wd.setCell ⟨bp, kk, none⟩ (.bool true)) A1 o2 ∧ Below w.heap.size w (wd.setCell ⟨bp, kk, none⟩ (.bool true)) from by
            have hset := (Only.refl [bp] wd).setCell ⟨bp, kk, none⟩ (by simp) (.bool true)
            refine ⟨HD.out.1.only hset (by have := HN.out.1; simp; omega), HD.out.2.1, ⟨fun i hi => ?_⟩, HD.out.2.2.2.setCell (p := ⟨bp, kk, none⟩) HN.out.2.2.2.2 _⟩
            obtain ⟨b, off, e, hc⟩ := HD.out.2.2.1.cell i hi
            exact ⟨b, off, e, hset.cell hc (by have := hfr b off e; simp; omega)⟩)
          clear HD hcw hfw hfr
          generalize wd.setCell ⟨bp, kk, none⟩ (.bool true) = wq at *
          obtain ⟨pp, hpp⟩ : ∃ pp, pp = putB p0 kk := ⟨_, rfl⟩
          rw [← hpp] at HQ
          clear hpp
          refine (order_all HQ.out.1).mono ?_
          rintro e wu ⟨A2, cap2', rfl, hR2, hcap2, hBu⟩
          have HU := Lib.hid (And.intro (HQ.out.1.below hBu HQ.out.1.lt) (And.intro (HQ.out.2.1.other (hBu.block bp (HQ.out.2.1.lt (by omega)))) (And.intro (HQ.out.2.2.1.ext (ext_of_below hBu)) (And.intro hR2 (HQ.out.2.2.2.trans (hBu.mono HQ.out.2.2.2.size))))))
          clear HQ hR2 hBu
          have hol := HU.out.1.ok.len
          go_wp2_with fail
          go_loopw [14, 15] (fun f kx wr => ∃ (j : Nat), j ≤ n ∧ kx = .int .i64 ((j : Int) - 1) ∧ f = .int .i64 (oldI pp (o2.drop j)) ∧ wr = wu) (fun _ kx _ => (intOf kx + 1).toNat)
          case atStart => exact ⟨n, by omega, by go_num, by rw [List.drop_of_length_le (by omega)]; rfl, rfl⟩
          case round =>
            obtain ⟨j, hj, rfl, rfl, rfl⟩ := hrel
            by_cases hj0 : 0 < j
            · obtain ⟨j, rfl⟩ : ∃ i, j = i + 1 := ⟨j - 1, by omega⟩
              obtain ⟨b, off, rfl, hc⟩ := HU.out.2.2.2.1.cell j (by omega)
              have hmem : o2.getD j 0 ∈ o2 := by rw [List.getD_eq_getElem?_getD, List.getElem?_eq_getElem (by omega)]; simp
              have hx := HU.out.1.ok.lt _ hmem
              have hcp := HU.out.2.1.cell _ hx
              have hdrop : o2.drop j = o2.getD j 0 :: o2.drop (j + 1) := by
                rw [List.drop_eq_getElem_cons (by omega), List.getD_eq_getElem?_getD, List.getElem?_eq_getElem (by omega)]; rfl
              have hold : oldI pp (o2.drop j) = if pp (o2.getD j 0) = true then oldI pp (o2.drop (j + 1)) else (o2.getD j 0 : Nat) := by
                rw [hdrop]; unfold oldI oldest; rw [List.find?_cons]
                cases pp (o2.getD j 0) <;> simp
              obtain ⟨x, hxe⟩ : ∃ x, x = o2.getD j 0 := ⟨_, rfl⟩
              rw [← hxe] at hc hx hcp hold
              obtain ⟨fv, hfv⟩ : ∃ fv, fv = oldI pp (o2.drop (j + 1)) := ⟨_, rfl⟩
              rw [← hfv] at hold ⊢
              have HO := Lib.hid hold
              clear hold hxe hfv hmem hdrop
              by_cases hp : pp x = true
              · rw [hp] at hcp
                have HP := Lib.hid hp
                clear hp
                go_wp2_with fail
                go_roundw
                case rel => exact ⟨j, by omega, by go_num, by rw [HO.out, if_pos HP.out], (by first | rfl | trivial)⟩
                case measure => simp [intOf]
              · have hpf : pp x = false := by simpa using hp
                rw [hpf] at hcp
                have HP := Lib.hid hp
                clear hp hpf
                go_wp2_with fail
                go_roundw
                case rel => exact ⟨j, by omega, by go_num, by rw [HO.out, if_neg HP.out], (by first | rfl | trivial)⟩
                case measure => simp [intOf]
            · obtain rfl : j = 0 := by omega
              rw [List.drop_zero]
              obtain ⟨wv, rfl⟩ : ∃ wv : World, wv = wr := ⟨_, rfl⟩
              go_wp2_with fail
              refine (Oldest_calls HU.out.1.isO).mono ?_
              rintro e wy ⟨rfl, hBy⟩
              have HY := Lib.hid (And.intro (HU.out.1.below hBy HU.out.1.lt) (And.intro (HU.out.2.1.other (hBy.block bp (HU.out.2.1.lt (by omega)))) (And.intro (HU.out.2.2.1.ext (ext_of_below hBy)) (And.intro (HU.out.2.2.2.1.ext (ext_of_below hBy)) (HU.out.2.2.2.2.trans (hBy.mono HU.out.2.2.2.2.size))))))
              clear HU hBy
              cases hop : oldest pp o2 with
              | none =>
                have hr1 : oldI pp o2 = -1 := by unfold oldI; rw [hop]
                have hr2 : oldR pp o2 = .tuple #[.int .i64 0, .bool false] := by unfold oldR; rw [hop]
                rw [hr1, hr2]
                clear hr1 hr2 hop
                go_wp2_with fail
                refine (Ints_walk A2 A1 n n cap2' cap1' o2 o2 hol hol _ HY.out.2.2.2.1 HY.out.2.2.1 (by omega)).mono ?_
                rintro e wz ⟨rfl, hBz⟩
                rw [decide_eq_true (show o2 = o2 from rfl)]
                have HZ := Lib.hid (And.intro (HY.out.1.below hBz HY.out.1.lt) (And.intro (HY.out.2.1.other (hBz.block bp (HY.out.2.1.lt (by omega)))) (HY.out.2.2.2.2.trans (hBz.mono HY.out.2.2.2.2.size))))
                clear HY hBz
                go_wp2_with fail
                go_roundw
                case rel => exact ⟨t + 1, o2, pp, by go_num, HZ.out.1, HZ.out.2.1, HZ.out.2.2⟩
                case measure => simp [intOf]; omega
              | some x =>
                have hr1 : oldI pp o2 = (x : Nat) := by unfold oldI; rw [hop]
                have hr2 : oldR pp o2 = .tuple #[.int .i64 (x : Nat), .bool true] := by unfold oldR; rw [hop]
                rw [hr1, hr2]
                have hxn : x < n := HY.out.1.ok.lt x (List.mem_of_find?_eq_some hop)
                clear hr1 hr2 hop
                have hxx : ((x : Int) != (x : Int)) = false := by simp
                go_wp2_with fail
                refine (Ints_walk A2 A1 n n cap2' cap1' o2 o2 hol hol _ HY.out.2.2.2.1 HY.out.2.2.1 (by omega)).mono ?_
                rintro e wz ⟨rfl, hBz⟩
                rw [decide_eq_true (show o2 = o2 from rfl)]
                have HZ := Lib.hid (And.intro (HY.out.1.below hBz HY.out.1.lt) (And.intro (HY.out.2.1.other (hBz.block bp (HY.out.2.1.lt (by omega)))) (HY.out.2.2.2.2.trans (hBz.mono HY.out.2.2.2.2.size))))
                clear HY hBz
                go_wp2_with fail
                go_roundw
                case rel => exact ⟨t + 1, o2, pp, by go_num, HZ.out.1, HZ.out.2.1, HZ.out.2.2⟩
                case measure => simp [intOf]; omega
        · obtain ⟨wq, rfl⟩ : ∃ wq : World, wq = wc := ⟨_, rfl⟩
          obtain ⟨pp, rfl⟩ : ∃ pp : Nat → Bool, pp = p0 := ⟨_, rfl⟩
          have HQ := Lib.hid HC.out
          clear HC hfr
          go_wp2_with fail
          refine (order_all HQ.out.1).mono ?_
          rintro e wu ⟨A2, cap2', rfl, hR2, hcap2, hBu⟩
          have HU := Lib.hid (And.intro (HQ.out.1.below hBu HQ.out.1.lt) (And.intro (HQ.out.2.1.other (hBu.block bp (HQ.out.2.1.lt (by omega)))) (And.intro (HQ.out.2.2.1.ext (ext_of_below hBu)) (And.intro hR2 (HQ.out.2.2.2.trans (hBu.mono HQ.out.2.2.2.size))))))
          clear HQ hR2 hBu
          have hol := HU.out.1.ok.len
          go_wp2_with fail
          go_loopw [14, 15] (fun f kx wr => ∃ (j : Nat), j ≤ n ∧ kx = .int .i64 ((j : Int) - 1) ∧ f = .int .i64 (oldI pp (o2.drop j)) ∧ wr = wu) (fun _ kx _ => (intOf kx + 1).toNat)
          case atStart => exact ⟨n, by omega, by go_num, by rw [List.drop_of_length_le (by omega)]; rfl, rfl⟩
          case round =>
            obtain ⟨j, hj, rfl, rfl, rfl⟩ := hrel
            by_cases hj0 : 0 < j
            · obtain ⟨j, rfl⟩ : ∃ i, j = i + 1 := ⟨j - 1, by omega⟩
              obtain ⟨b, off, rfl, hc⟩ := HU.out.2.2.2.1.cell j (by omega)
              have hmem : o2.getD j 0 ∈ o2 := by rw [List.getD_eq_getElem?_getD, List.getElem?_eq_getElem (by omega)]; simp
              have hx := HU.out.1.ok.lt _ hmem
              have hcp := HU.out.2.1.cell _ hx
              have hdrop : o2.drop j = o2.getD j 0 :: o2.drop (j + 1) := by
                rw [List.drop_eq_getElem_cons (by omega), List.getD_eq_getElem?_getD, List.getElem?_eq_getElem (by omega)]; rfl
              have hold : oldI pp (o2.drop j) = if pp (o2.getD j 0) = true then oldI pp (o2.drop (j + 1)) else (o2.getD j 0 : Nat) := by
                rw [hdrop]; unfold oldI oldest; rw [List.find?_cons]
                cases pp (o2.getD j 0) <;> simp
              obtain ⟨x, hxe⟩ : ∃ x, x = o2.getD j 0 := ⟨_, rfl⟩
              rw [← hxe] at hc hx hcp hold
              obtain ⟨fv, hfv⟩ : ∃ fv, fv = oldI pp (o2.drop (j + 1)) := ⟨_, rfl⟩
              rw [← hfv] at hold ⊢
              have HO := Lib.hid hold
              clear hold hxe hfv hmem hdrop
              by_cases hp : pp x = true
              · rw [hp] at hcp
                have HP := Lib.hid hp
                clear hp
                go_wp2_with fail
                go_roundw
                case rel => exact ⟨j, by omega, by go_num, by rw [HO.out, if_pos HP.out], (by first | rfl | trivial)⟩
                case measure => simp [intOf]
              · have hpf : pp x = false := by simpa using hp
                rw [hpf] at hcp
                have HP := Lib.hid hp
                clear hp hpf
                go_wp2_with fail
                go_roundw
                case rel => exact ⟨j, by omega, by go_num, by rw [HO.out, if_neg HP.out], (by first | rfl | trivial)⟩
                case measure => simp [intOf]
            · obtain rfl : j = 0 := by omega
              rw [List.drop_zero]
              obtain ⟨wv, rfl⟩ : ∃ wv : World, wv = wr := ⟨_, rfl⟩
              go_wp2_with fail
              refine (Oldest_calls HU.out.1.isO).mono ?_
              rintro e wy ⟨rfl, hBy⟩
              have HY := Lib.hid (And.intro (HU.out.1.below hBy HU.out.1.lt) (And.intro (HU.out.2.1.other (hBy.block bp (HU.out.2.1.lt (by omega)))) (And.intro (HU.out.2.2.1.ext (ext_of_below hBy)) (And.intro (HU.out.2.2.2.1.ext (ext_of_below hBy)) (HU.out.2.2.2.2.trans (hBy.mono HU.out.2.2.2.2.size))))))
              clear HU hBy
              cases hop : oldest pp o2 with
              | none =>
                have hr1 : oldI pp o2 = -1 := by unfold oldI; rw [hop]
                have hr2 : oldR pp o2 = .tuple #[.int .i64 0, .bool false] := by unfold oldR; rw [hop]
                rw [hr1, hr2]
                clear hr1 hr2 hop
                go_wp2_with fail
                refine (Ints_walk A2 A1 n n cap2' cap1' o2 o2 hol hol _ HY.out.2.2.2.1 HY.out.2.2.1 (by omega)).mono ?_
                rintro e wz ⟨rfl, hBz⟩
                rw [decide_eq_true (show o2 = o2 from rfl)]
                have HZ := Lib.hid (And.intro (HY.out.1.below hBz HY.out.1.lt) (And.intro (HY.out.2.1.other (hBz.block bp (HY.out.2.1.lt (by omega)))) (HY.out.2.2.2.2.trans (hBz.mono HY.out.2.2.2.2.size))))
                clear HY hBz
                go_wp2_with fail
                go_roundw
                case rel => exact ⟨t + 1, o2, pp, by go_num, HZ.out.1, HZ.out.2.1, HZ.out.2.2⟩
                case measure => simp [intOf]; omega
              | some x =>
                have hr1 : oldI pp o2 = (x : Nat) := by unfold oldI; rw [hop]
                have hr2 : oldR pp o2 = .tuple #[.int .i64 (x : Nat), .bool true] := by unfold oldR; rw [hop]
                rw [hr1, hr2]
                have hxn : x < n := HY.out.1.ok.lt x (List.mem_of_find?_eq_some hop)
                clear hr1 hr2 hop
                have hxx : ((x : Int) != (x : Int)) = false := by simp
                go_wp2_with fail
                refine (Ints_walk A2 A1 n n cap2' cap1' o2 o2 hol hol _ HY.out.2.2.2.1 HY.out.2.2.1 (by omega)).mono ?_
                rintro e wz ⟨rfl, hBz⟩
                rw [decide_eq_true (show o2 = o2 from rfl)]
                have HZ := Lib.hid (And.intro (HY.out.1.below hBz HY.out.1.lt) (And.intro (HY.out.2.1.other (hBz.block bp (HY.out.2.1.lt (by omega)))) (HY.out.2.2.2.2.trans (hBz.mono HY.out.2.2.2.2.size))))
                clear HY hBz
                go_wp2_with fail
                go_roundw
                case rel => exact ⟨t + 1, o2, pp, by go_num, HZ.out.1, HZ.out.2.1, HZ.out.2.2⟩
                case measure => simp [intOf]; omega
      · have hlm : t < mx := by omega
        clear hmx2
        obtain ⟨wt, rfl⟩ : ∃ wt : World, wt = wo := ⟨_, rfl⟩
        have HT1 := Lib.hid HT.out
        clear HT
        go_wp2_with fail
        refine (order_allF HT1.out.1).mono ?_
        rintro e wc ⟨A1, cap1', rfl, hR1, hcap1, hBc, hfr⟩
        have hbPlt := HT1.out.1.lt.2.2.2
        have hbplt := HT1.out.2.1.lt (by omega)
        have HC := Lib.hid (And.intro (HT1.out.1.below hBc HT1.out.1.lt) (And.intro (HT1.out.2.1.other (hBc.block bp (HT1.out.2.1.lt (by omega)))) (And.intro hR1 (HT1.out.2.2.trans (hBc.mono HT1.out.2.2.size)))))
        clear HT1 hR1 hBc
        by_cases hlp : t < len1
        · obtain ⟨b', off', rfl, hbw', hc'⟩ := HR.out.1.1.below HC.out.2.2.2 t hlp
          go_wp2_with fail
          refine (HR.out.1.2.2 t hlp _).mono ?_
          rintro e w' ⟨rfl, rfl⟩
          have hkn : ks.getD t 0 < n := HR.out.1.2.1 _ (by rw [List.getD_eq_getElem?_getD, List.getElem?_eq_getElem (by have := HR.out.2.2.1; omega)]; simp)
          generalize ks.getD t 0 = kk at *
          go_wp2_with fail
          refine (Pin_is kk HC.out.1 hkn).mono ?_
          rintro e wd ⟨rfl, hx1, ho1⟩
          have hn1 : Bools wd bp n p0 := HC.out.2.1.other (ho1.block bp (HC.out.2.1.lt (by omega)) (by have := HN.out.1; simp; omega))
          have hb1 : Below w.heap.size w wd := HC.out.2.2.2.trans (ho1.below HC.out.2.2.2.size (by have := HN.out.2; simp; omega))
          have hR1 : Row wd A1 oo := ⟨fun i hi => by
            obtain ⟨b, off, e, hc⟩ := HC.out.2.2.1.cell i hi
            exact ⟨b, off, e, ho1.cell hc (by have := hfr b off e; simp; omega)⟩⟩
          have hcw := hn1.cell kk hkn
          have hfw := hn1.free kk
          have hset := hn1.set kk hkn
          have HD := Lib.hid (And.intro hx1 (And.intro hset (And.intro hR1 hb1)))
          clear hx1 ho1 hn1 hb1 hR1 hset HC
          go_wp2_with fail
          have HQ := Lib.hid (show IsX (wd.setCell ⟨bp, kk, none⟩ (.bool true)) k bE bY bP n oo (putB p0 kk) ∧ Bools (wd.setCell ⟨bp, kk, none⟩ (.bool true)) bp n (putB p0 kk) ∧ Row (wd.setCell ⟨bp, kk, none⟩ (.bool true)) A1 oo ∧ Below w.heap.size w (wd.setCell ⟨bp, kk, none⟩ (.bool true)) from by
            have hset := (Only.refl [bp] wd).setCell ⟨bp, kk, none⟩ (by simp) (.bool true)
            refine ⟨HD.out.1.only hset (by have := HN.out.1; simp; omega), HD.out.2.1, ⟨fun i hi => ?_⟩, HD.out.2.2.2.setCell (p := ⟨bp, kk, none⟩) HN.out.2.2.2.2 _⟩
            obtain ⟨b, off, e, hc⟩ := HD.out.2.2.1.cell i hi
            exact ⟨b, off, e, hset.cell hc (by have := hfr b off e; simp; omega)⟩)
          clear HD hcw hfw hfr
          generalize wd.setCell ⟨bp, kk, none⟩ (.bool true) = wq at *
          obtain ⟨pp, hpp⟩ : ∃ pp, pp = putB p0 kk := ⟨_, rfl⟩
          rw [← hpp] at HQ
          clear hpp
          refine (order_all HQ.out.1).mono ?_
          rintro e wu ⟨A2, cap2', rfl, hR2, hcap2, hBu⟩
          have HU := Lib.hid (And.intro (HQ.out.1.below hBu HQ.out.1.lt) (And.intro (HQ.out.2.1.other (hBu.block bp (HQ.out.2.1.lt (by omega)))) (And.intro (HQ.out.2.2.1.ext (ext_of_below hBu)) (And.intro hR2 (HQ.out.2.2.2.trans (hBu.mono HQ.out.2.2.2.size))))))
          clear HQ hR2 hBu
          have hol := HU.out.1.ok.len
          go_wp2_with fail
          go_loopw [14, 15] (fun f kx wr => ∃ (j : Nat), j ≤ n ∧ kx = .int .i64 ((j : Int) - 1) ∧ f = .int .i64 (oldI pp (oo.drop j)) ∧ wr = wu) (fun _ kx _ => (intOf kx + 1).toNat)
          case atStart => exact ⟨n, by omega, by go_num, by rw [List.drop_of_length_le (by omega)]; rfl, rfl⟩
          case round =>
            obtain ⟨j, hj, rfl, rfl, rfl⟩ := hrel
            by_cases hj0 : 0 < j
            · obtain ⟨j, rfl⟩ : ∃ i, j = i + 1 := ⟨j - 1, by omega⟩
              obtain ⟨b, off, rfl, hc⟩ := HU.out.2.2.2.1.cell j (by omega)
              have hmem : oo.getD j 0 ∈ oo := by rw [List.getD_eq_getElem?_getD, List.getElem?_eq_getElem (by omega)]; simp
              have hx := HU.out.1.ok.lt _ hmem
              have hcp := HU.out.2.1.cell _ hx
              have hdrop : oo.drop j = oo.getD j 0 :: oo.drop (j + 1) := by
                rw [List.drop_eq_getElem_cons (by omega), List.getD_eq_getElem?_getD, List.getElem?_eq_getElem (by omega)]; rfl
              have hold : oldI pp (oo.drop j) = if pp (oo.getD j 0) = true then oldI pp (oo.drop (j + 1)) else (oo.getD j 0 : Nat) := by
                rw [hdrop]; unfold oldI oldest; rw [List.find?_cons]
                cases pp (oo.getD j 0) <;> simp
              obtain ⟨x, hxe⟩ : ∃ x, x = oo.getD j 0 := ⟨_, rfl⟩
              rw [← hxe] at hc hx hcp hold
              obtain ⟨fv, hfv⟩ : ∃ fv, fv = oldI pp (oo.drop (j + 1)) := ⟨_, rfl⟩
              rw [← hfv] at hold ⊢
              have HO := Lib.hid hold
              clear hold hxe hfv hmem hdrop
              by_cases hp : pp x = true
              · rw [hp] at hcp
                have HP := Lib.hid hp
                clear hp
                go_wp2_with fail
                go_roundw
                case rel => exact ⟨j, by omega, by go_num, by rw [HO.out, if_pos HP.out], (by first | rfl | trivial)⟩
                case measure => simp [intOf]
              · have hpf : pp x = false := by simpa using hp
                rw [hpf] at hcp
                have HP := Lib.hid hp
                clear hp hpf
                go_wp2_with fail
                go_roundw
                case rel => exact ⟨j, by omega, by go_num, by rw [HO.out, if_neg HP.out], (by first | rfl | trivial)⟩
                case measure => simp [intOf]
            · obtain rfl : j = 0 := by omega
              rw [List.drop_zero]
              obtain ⟨wv, rfl⟩ : ∃ wv : World, wv = wr := ⟨_, rfl⟩
              go_wp2_with fail
              refine (Oldest_calls HU.out.1.isO).mono ?_
              rintro e wy ⟨rfl, hBy⟩
              have HY := Lib.hid (And.intro (HU.out.1.below hBy HU.out.1.lt) (And.intro (HU.out.2.1.other (hBy.block bp (HU.out.2.1.lt (by omega)))) (And.intro (HU.out.2.2.1.ext (ext_of_below hBy)) (And.intro (HU.out.2.2.2.1.ext (ext_of_below hBy)) (HU.out.2.2.2.2.trans (hBy.mono HU.out.2.2.2.2.size))))))
              clear HU hBy
              cases hop : oldest pp oo with
              | none =>
                have hr1 : oldI pp oo = -1 := by unfold oldI; rw [hop]
                have hr2 : oldR pp oo = .tuple #[.int .i64 0, .bool false] := by unfold oldR; rw [hop]
                rw [hr1, hr2]
                clear hr1 hr2 hop
                go_wp2_with fail
                refine (Ints_walk A2 A1 n n cap2' cap1' oo oo hol hol _ HY.out.2.2.2.1 HY.out.2.2.1 (by omega)).mono ?_
                rintro e wz ⟨rfl, hBz⟩
                rw [decide_eq_true (show oo = oo from rfl)]
                have HZ := Lib.hid (And.intro (HY.out.1.below hBz HY.out.1.lt) (And.intro (HY.out.2.1.other (hBz.block bp (HY.out.2.1.lt (by omega)))) (HY.out.2.2.2.2.trans (hBz.mono HY.out.2.2.2.2.size))))
                clear HY hBz
                go_wp2_with fail
                go_roundw
                case rel => exact ⟨t + 1, oo, pp, by go_num, HZ.out.1, HZ.out.2.1, HZ.out.2.2⟩
                case measure => simp [intOf]; omega
              | some x =>
                have hr1 : oldI pp oo = (x : Nat) := by unfold oldI; rw [hop]
                have hr2 : oldR pp oo = .tuple #[.int .i64 (x : Nat), .bool true] := by unfold oldR; rw [hop]
                rw [hr1, hr2]
                have hxn : x < n := HY.out.1.ok.lt x (List.mem_of_find?_eq_some hop)
                clear hr1 hr2 hop
                have hxx : ((x : Int) != (x : Int)) = false := by simp
                go_wp2_with fail
                refine (Ints_walk A2 A1 n n cap2' cap1' oo oo hol hol _ HY.out.2.2.2.1 HY.out.2.2.1 (by omega)).mono ?_
                rintro e wz ⟨rfl, hBz⟩
                rw [decide_eq_true (show oo = oo from rfl)]
                have HZ := Lib.hid (And.intro (HY.out.1.below hBz HY.out.1.lt) (And.intro (HY.out.2.1.other (hBz.block bp (HY.out.2.1.lt (by omega)))) (HY.out.2.2.2.2.trans (hBz.mono HY.out.2.2.2.2.size))))
                clear HY hBz
                go_wp2_with fail
                go_roundw
                case rel => exact ⟨t + 1, oo, pp, by go_num, HZ.out.1, HZ.out.2.1, HZ.out.2.2⟩
                case measure => simp [intOf]; omega
        · omega
    · have hlm : ¬ t < mx := by omega
      clear hmx2
      clear HR
      go_wp2_with fail
      refine (awake_walk _).mono ?_
      rintro e wg ⟨rfl, hBc⟩
      have H5 := Lib.hid (HT.out.2.2.trans (hBc.mono HT.out.2.2.size))
      clear hBc HT
      go_wp2_with fail
      go_ret
      exact ⟨rfl, H5.out⟩

/-! ### THE ROW's STEP: WRITTEN OUT: LEAVE IT -/
set_option maxRecDepth 100000 in
theorem lifted (os : Os) (started : os.Started) (H : Type) (enc : TypeId × Value → H) :
    ReturnsInHanded {} Try.checked os 5 .any (Rows.lruPinsSpec.pre6 enc Try.prog Try.f5 Rows.lruPinsRow.domain false) (Rows.lruPinsSpec.post enc Try.prog Try.f5 false true false false) := by
  refine returnsInHanded_of_change (C := Try.checked) own started (by kernel_rfl) Try.func5
    (ChangeSpec.witness6 (enc := enc) (C := Try.checked) false ⟨#[], #[.int .i64 0, .slice none 0 0, .slice none 0 0], []⟩ 8 (by kernel_rfl) (by kernel_rfl) (by kernel_rfl) (by kernel_rfl)) ?_
  intro W base args ds gs before hval0 hW hcnd _
  have hval : ∀ (j : Nat) t v, Try.f5.params[j]? = some t → args[j]? = some v → Value.okWide Try.prog W .any base t v := hval0
  have hW' := hW
  obtain ⟨p, q, hA0, hV, rfl, hfz, hnd⟩ := hW
  have hA : DataW.TrodAll enc Try.prog W 0 (fun _ => true) true Try.f5.params.toList args.toList ds p := hA0
  rw [Try.params5] at hA hval
  obtain ⟨v0, vs0, d0, ds0, p0, q0, hargs, rfl, rfl, h0, r0⟩ := trodAll_cons hA
  obtain ⟨v1, vs1, d1, ds1, p1, q1, rfl, rfl, rfl, h1, r1⟩ := trodAll_cons r0
  obtain ⟨v2, vs2, d2, ds2, p2, q2, rfl, rfl, rfl, h2, r2⟩ := trodAll_cons r1
  obtain ⟨rfl, rfl, rfl⟩ := trodAll_nil r2
  obtain rfl : args = #[v0, v1, v2] := by cases args; simp_all
  obtain ⟨rfl, rfl⟩ := trodVars_none hV
  obtain ⟨a0, rfl, rfl, rfl, w0⟩ := open_int Try.underlying3 (hval 0 3 v0 rfl rfl) h0
  obtain ⟨a1, len1, cap1, rfl⟩ := okWide_slice Try.underlying38 (hval 1 38 v1 rfl rfl)
  have k1 := h1
  have lt1 : ∀ x ∈ p1, x.block < W.heap.size := by obtain ⟨m, hm⟩ := k1; exact DataW.trod_lt m _ _ _ hm
  obtain ⟨z1, w1⟩ : ∃ zs, IsRow .i64 W a1 len1 cap1 zs := by
    obtain ⟨fuel, hf⟩ := h1
    rcases open_ints Try.underlying38 Try.underlying3 (by kernel_rfl) hf with ⟨hcs, _⟩ | ⟨x, l, c, zs, hcs, _, hl, hm, hz, _, hcell, hwz⟩
    · simp [Value.cells] at hcs
      obtain ⟨rfl, rfl, rfl⟩ := hcs
      exact ⟨[], .inl ⟨rfl, rfl, rfl, rfl⟩⟩
    · simp [Value.cells] at hcs
      obtain ⟨rfl, rfl, rfl⟩ := hcs
      exact ⟨zs, .inr ⟨_, rfl, hl, hm, by simpa using hz, hcell, hwz⟩⟩
  obtain ⟨a2, len2, cap2, rfl⟩ := okWide_slice Try.underlying38 (hval 2 38 v2 rfl rfl)
  have k2 := h2
  have lt2 : ∀ x ∈ p2, x.block < W.heap.size := by obtain ⟨m, hm⟩ := k2; exact DataW.trod_lt m _ _ _ hm
  obtain ⟨z2, w2⟩ : ∃ zs, IsRow .i64 W a2 len2 cap2 zs := by
    obtain ⟨fuel, hf⟩ := h2
    rcases open_ints Try.underlying38 Try.underlying3 (by kernel_rfl) hf with ⟨hcs, _⟩ | ⟨x, l, c, zs, hcs, _, hl, hm, hz, _, hcell, hwz⟩
    · simp [Value.cells] at hcs
      obtain ⟨rfl, rfl, rfl⟩ := hcs
      exact ⟨[], .inl ⟨rfl, rfl, rfl, rfl⟩⟩
    · simp [Value.cells] at hcs
      obtain ⟨rfl, rfl, rfl⟩ := hcs
      exact ⟨zs, .inr ⟨_, rfl, hl, hm, by simpa using hz, hcell, hwz⟩⟩
  clear hA0 hval0
  refine (walk a0 a1 len1 cap1 z1 a2 len2 cap2 z2 W w0 w1 w2).mono fun e W' ⟨he, bel⟩ => ?_
  subst he
  exact ⟨_, rfl, _, _, _, [], _, [], hW', trodAll_mk1 (shut_bool Try.underlying4 _), (trodAll_cons_mk (shut_int Try.underlying3 w0) (trodAll_cons_mk (Below.trod laidOut (by kernel_rfl) (of_decide_eq_true (by kernel_rfl)) k1 bel lt1) (trodAll_cons_mk (Below.trod laidOut (by kernel_rfl) (of_decide_eq_true (by kernel_rfl)) k2 bel lt2) trodAll_mk0))), rfl, bel.frame _, fun h => by cases h⟩

theorem over : Rows.lruPinsRow.holds Try.pinned (OpenSpec.ofChange Rows.lruPinsSpec) :=
  OpenClaim.holds_of_wide 5 Try.f5 rfl rfl rfl rfl rfl rfl rfl ⟨rfl, rfl, rfl, rfl, rfl⟩ rfl rfl rfl rfl rfl (by kernel_rfl) Try.func5 (by kernel_rfl)
    (of_decide_eq_true (by kernel_rfl)) (by unfold Func.isWrapper; first | (rw [if_pos (by decide +kernel)]; kernel_rfl) | (rw [if_neg (by decide +kernel)]; exact ⟨rfl, rfl⟩))
    (fun os started H enc _ => lifted os started H enc)

/-- ████ THE STATEMENT ████ -/
theorem proved : Rows.LruPinsSaid := over
end Go.Proofs.Ytnedpmibmldbfaa.lruPins
