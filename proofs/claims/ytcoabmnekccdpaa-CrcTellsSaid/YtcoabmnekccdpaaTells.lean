/- 'CrcTells' returns true for every input: of any bytes the sum is bit by bit as the reference has it, and in two parts it goes on. -/
import Derived.Test.YtcoabmnekccdpaaSl
import Derived.Test.YtcoabmnekccdpaaPlain
import Derived.Test.YtcoabmnekccdpaaRow
import Derived.ProofKit
import Derived.OpenShut
import Derived.ShutString
import Derived.ChangeOld
namespace Go.Proofs.Ytcoabmnekccdpaa.crcTells
open Go.ChangeShapes Go.WideShapes Go.ChangeAt Go.RowKit
open Go.ChangeMaps (open_string shut_string)
set_option linter.unusedVariables false

theorem own : ownKnob Try.prog.godebug = none := by kernel_rfl
theorem laidOut : laidOutB Try.prog = true := by kernel_rfl

set_option maxRecDepth 100000 in
theorem walk (a0 : Option Addr) (len0 cap0 : Nat) (z0 : List Int) (a1 : Int) (a2 : Int) (w : World) (w0 : IsRow .u8 w a0 len0 cap0 z0) (w1 : (Lit.int .i64 a1).wf = true) (w2 : (Lit.int .u32 a2).wf = true) :
    Calls Try.prog 3 #[.slice a0 len0 cap0, .int .i64 a1, .int .u32 a2] w fun e w' => e = .returned (.bool true) ∧ Below w.heap.size w w' := by
  obtain ⟨l, hl, hcap, hb⟩ := bytes_of_row w0
  clear w0
  by_cases hbig : 2000 < len0
  · have haw := awake_walk w
    have HAW := Lib.hid haw; clear haw hb
    have hll := Lib.hid hl; clear hl
    go_enter Try.func3, Try.ntmps3
    go_wp2_with fail
    refine HAW.out.mono ?_
    rintro e w' ⟨rfl, hbw⟩
    go_wp2_with fail
    go_ret
    exact ⟨rfl, hbw⟩
  · have hs2 : 0 ≤ a2 ∧ a2 < 4294967296 := by
      simp [Lit.wf, IntKind.min, IntKind.max, IntKind.signed, IntKind.bits] at w2; omega
    obtain ⟨s, rfl⟩ := Int.eq_ofNat_of_zero_le hs2.1
    have hs : s < 4294967296 := by omega
    clear w1 w2 hs2
    have hjl := Int.emod_lt_of_pos a1 (show (0 : Int) < (len0 : Int) + 1 by omega)
    have hjg := Int.emod_nonneg a1 (show (len0 : Int) + 1 ≠ 0 by omega)
    have hround := Round_walk a1 ((len0 : Int) + 1) (by omega) (by omega)
    obtain ⟨j, hj⟩ := Int.eq_ofNat_of_zero_le hjg
    rw [hj] at hround hjl
    have HR := Lib.hid hround
    have HL := Lib.hid hl
    clear hround hj hjg hl
    go_enter Try.func3, Try.ntmps3
    go_wp2_with fail
    refine (Make_walk _).mono ?_
    rintro e w' ⟨rfl, rfl⟩
    go_wp2_with (first
      | (refine wpList_alloc26 rfl rfl ?_)
      | refine wpList_store_row rfl 26 (.tmp 7) (.tmp 13) rfl (tabCells (fun _ => 0)) (tabCells tab) _ (by simp) rfl rfl size26 (tabCells_same _ _) (tabCells_one tab) ?_)
    refine (HR.out _).mono ?_
    rintro e w' ⟨rfl, rfl⟩
    go_wp2_with fail
    generalize hWW : (w.alloc (.cells (tabCells tab) 26)).alloc (.cells (tabCells tab) 26) = W
    have hW : Below w.heap.size w W := by subst hWW; exact ((Below.refl _ _).alloc (Nat.le_refl _) _).alloc (by simp) _
    have hB1 : W.heap[w.heap.size + 1]? = some (.cells (tabCells tab) 26 (0, 0)) := by
      subst hWW
      have := heap_alloc_new (w.alloc (.cells (tabCells tab) 26)) (.cells (tabCells tab) 26)
      simpa using this
    have hlt : w.heap.size + 1 < W.heap.size := by subst hWW; simp
    clear hWW
    have hrow : ∀ w', Up W w' → w'.heap[w.heap.size + 1]? = some (.cells (tabCells tab) 26 (0, 0)) := fun w' h => by rw [h.block (w.heap.size + 1) hlt]; exact hB1
    have hl := HL.out
    subst hl
    have hsl : ∀ w', Up W w' → isBytes l (.slice a0 l.length cap0) w' := fun w' h => ⟨a0, cap0, rfl, by omega, ((hb.below hW).below (h.mono hW.size)).mono (Nat.le_trans hW.size h.size)⟩
    refine wp_region_inv 54 mixed (by kernel_rfl) (by rfl) (Up W) (Below.refl _ _).drew ?_
    refine wpI_cons (is (.agg (tabCells tab))) (stable_is _) (step_loadRow (go0 rfl) 26 (.tmp 7) rfl (w.heap.size + 1) 26 (tabCells tab) (0, 0) _ (opO' 7 (.pointer (some ⟨(w.heap.size + 1), 0, none⟩)) rfl rfl) hrow Try.underlying26 rfl size26) ?_
    refine wpI_cons (is (.slice a0 l.length cap0)) (stable_is _) (step_move (go0 rfl) (.tmp 0) rfl (opO' 0 (.slice a0 l.length cap0) rfl rfl)) ?_
    refine wpI_cons (is (.int .u32 (crcOn 0 l : Nat))) (stable_is _) (step_call2 (go0 rfl) 10 (.tmp 19) (.tmp 20) _ rfl enter10 (opT' 19 0 rfl rfl) (OpIs.imp (opT' 20 1 rfl rfl) (fun v w h e => by obtain rfl : v = _ := e; exact hsl w h)) (fun u v w h1 h2 h3 => Of_ok l (by omega) u v w h1 h2 h3)) ?_
    refine wpI_cons (is (.slice a0 l.length cap0)) (stable_is _) (step_move (go0 rfl) (.tmp 0) rfl (opO' 0 (.slice a0 l.length cap0) rfl rfl)) ?_
    refine wpI_cons (is (.int .u32 (refOn 0 l : Nat))) (stable_is _) (step_call1 (go0 rfl) 11 (.tmp 22) _ rfl enter11 (OpIs.imp (opT' 22 3 rfl rfl) (fun v w h e => by obtain rfl : v = _ := e; exact hsl w h)) (fun v w h1 h2 => Crc_ok l (by omega) v w h1 h2)) ?_
    refine wpI_cons (is (.bool true)) (stable_is _) (step_eq (go0 rfl) 23 23 (.tmp 21) (.tmp 23) rfl _ _ _ true (opT' 21 2 rfl rfl) (opT' 23 4 rfl rfl) (by rw [on_same_ref]; simp)) ?_
    refine wpI_cons (is (.bool true)) (stable_is _) (step_move (go0 rfl) (.tmp 24) rfl (opT' 24 5 rfl rfl)) ?_
    refine wpI_cons (is (.agg (tabCells tab))) (stable_is _) (step_loadRow (go1 6 true 25 rfl rfl rfl rfl) 26 (.tmp 7) rfl (w.heap.size + 1) 26 (tabCells tab) (0, 0) _ (opO' 7 (.pointer (some ⟨(w.heap.size + 1), 0, none⟩)) rfl rfl) hrow Try.underlying26 rfl size26) ?_
    refine wpI_cons (is (.agg (tabCells tab))) (stable_is _) (step_loadRow (go1 6 true 25 rfl rfl rfl rfl) 26 (.tmp 7) rfl (w.heap.size + 1) 26 (tabCells tab) (0, 0) _ (opO' 7 (.pointer (some ⟨(w.heap.size + 1), 0, none⟩)) rfl rfl) hrow Try.underlying26 rfl size26) ?_
    refine wpI_cons (is (.slice a0 l.length cap0)) (stable_is _) (step_move (go1 6 true 25 rfl rfl rfl rfl) (.tmp 0) rfl (opO' 0 (.slice a0 l.length cap0) rfl rfl)) ?_
    refine wpI_cons (is (.int .i64 (j : Int))) (stable_is _) (step_move (go1 6 true 25 rfl rfl rfl rfl) (.tmp 8) rfl (opO' 8 (.int .i64 (j : Int)) rfl rfl)) ?_
    refine wpI_cons (isBytes (l.take j)) (stable_isBytes _) (step_sliceH (go1 6 true 25 rfl rfl rfl rfl) l j (by omega) (.tmp 28) (.tmp 29) rfl (OpIs.imp (opT' 28 9 rfl rfl) (fun v w h e => by obtain rfl : v = _ := e; exact hsl w h)) (opT' 29 10 rfl rfl)) ?_
    refine wpI_cons (is (.int .u32 (crcOn 0 (l.take j) : Nat))) (stable_is _) (step_call2 (go1 6 true 25 rfl rfl rfl rfl) 10 (.tmp 27) (.tmp 30) _ rfl enter10 (opT' 27 8 rfl rfl) (opT' 30 11 rfl rfl) (fun u v w h1 h2 h3 => Of_ok (l.take j) (by simp; omega) u v w h1 h2 h3)) ?_
    refine wpI_cons (is (.slice a0 l.length cap0)) (stable_is _) (step_move (go1 6 true 25 rfl rfl rfl rfl) (.tmp 0) rfl (opO' 0 (.slice a0 l.length cap0) rfl rfl)) ?_
    refine wpI_cons (is (.int .i64 (j : Int))) (stable_is _) (step_move (go1 6 true 25 rfl rfl rfl rfl) (.tmp 8) rfl (opO' 8 (.int .i64 (j : Int)) rfl rfl)) ?_
    refine wpI_cons (isBytes (l.drop j)) (stable_isBytes _) (step_sliceL (go1 6 true 25 rfl rfl rfl rfl) l j (by omega) (.tmp 32) (.tmp 33) rfl (OpIs.imp (opT' 32 13 rfl rfl) (fun v w h e => by obtain rfl : v = _ := e; exact hsl w h)) (opT' 33 14 rfl rfl)) ?_
    refine wpI_cons (is (.int .u32 (crcOn (crcOn 0 (l.take j)) (l.drop j) : Nat))) (stable_is _) (step_call3 (go1 6 true 25 rfl rfl rfl rfl) 12 (.tmp 26) (.tmp 31) (.tmp 34) _ rfl enter12 (opT' 26 7 rfl rfl) ((opT' 31 12 rfl rfl)) ((opT' 34 15 rfl rfl)) (fun u c v w h1 h2 h3 h4 => On_ok _ (crcOn_lt _ _ (by omega) (hb.take j).byte) (l.drop j) (by simp; omega) u c v w h1 h2 h3 h4)) ?_
    refine wpI_cons (is (.agg (tabCells tab))) (stable_is _) (step_loadRow (go1 6 true 25 rfl rfl rfl rfl) 26 (.tmp 7) rfl (w.heap.size + 1) 26 (tabCells tab) (0, 0) _ (opO' 7 (.pointer (some ⟨(w.heap.size + 1), 0, none⟩)) rfl rfl) hrow Try.underlying26 rfl size26) ?_
    refine wpI_cons (is (.slice a0 l.length cap0)) (stable_is _) (step_move (go1 6 true 25 rfl rfl rfl rfl) (.tmp 0) rfl (opO' 0 (.slice a0 l.length cap0) rfl rfl)) ?_
    refine wpI_cons (is (.int .u32 (crcOn 0 l : Nat))) (stable_is _) (step_call2 (go1 6 true 25 rfl rfl rfl rfl) 10 (.tmp 36) (.tmp 37) _ rfl enter10 (opT' 36 17 rfl rfl) (OpIs.imp (opT' 37 18 rfl rfl) (fun v w h e => by obtain rfl : v = _ := e; exact hsl w h)) (fun u v w h1 h2 h3 => Of_ok l (by omega) u v w h1 h2 h3)) ?_
    refine wpI_cons (is (.bool true)) (stable_is _) (step_eq (go1 6 true 25 rfl rfl rfl rfl) 23 23 (.tmp 35) (.tmp 38) rfl _ _ _ true (opT' 35 16 rfl rfl) (opT' 38 19 rfl rfl) (by rw [on_parts, List.take_append_drop]; simp)) ?_
    refine wpI_cons (is (.bool true)) (stable_is _) (step_pickT (go0 rfl) (.tmp 25) (.tmp 39) (.const (.bool false)) rfl (opT' 25 6 rfl rfl) (opT' 39 20 rfl rfl)) ?_
    refine wpI_cons (is (.bool true)) (stable_is _) (step_move (go0 rfl) (.tmp 40) rfl (opT' 40 21 rfl rfl)) ?_
    refine wpI_cons (is (.agg (tabCells tab))) (stable_is _) (step_loadRow (go1 22 true 41 rfl rfl rfl rfl) 26 (.tmp 7) rfl (w.heap.size + 1) 26 (tabCells tab) (0, 0) _ (opO' 7 (.pointer (some ⟨(w.heap.size + 1), 0, none⟩)) rfl rfl) hrow Try.underlying26 rfl size26) ?_
    refine wpI_cons (is (.int .u32 (s : Int))) (stable_is _) (step_move (go1 22 true 41 rfl rfl rfl rfl) (.tmp 2) rfl (opO' 2 (.int .u32 (s : Int)) rfl rfl)) ?_
    refine wpI_cons (is (.slice a0 l.length cap0)) (stable_is _) (step_move (go1 22 true 41 rfl rfl rfl rfl) (.tmp 0) rfl (opO' 0 (.slice a0 l.length cap0) rfl rfl)) ?_
    refine wpI_cons (is (.int .u32 (crcOn s l : Nat))) (stable_is _) (step_call3 (go1 22 true 41 rfl rfl rfl rfl) 12 (.tmp 42) (.tmp 43) (.tmp 44) _ rfl enter12 (opT' 42 23 rfl rfl) ((opT' 43 24 rfl rfl)) (OpIs.imp (opT' 44 25 rfl rfl) (fun v w h e => by obtain rfl : v = _ := e; exact hsl w h)) (fun u c v w h1 h2 h3 h4 => On_ok s hs l (by omega) u c v w h1 h2 h3 h4)) ?_
    refine wpI_cons (is (.int .u32 (s : Int))) (stable_is _) (step_move (go1 22 true 41 rfl rfl rfl rfl) (.tmp 2) rfl (opO' 2 (.int .u32 (s : Int)) rfl rfl)) ?_
    refine wpI_cons (is (.slice a0 l.length cap0)) (stable_is _) (step_move (go1 22 true 41 rfl rfl rfl rfl) (.tmp 0) rfl (opO' 0 (.slice a0 l.length cap0) rfl rfl)) ?_
    refine wpI_cons (is (.int .u32 (refOn s l : Nat))) (stable_is _) (step_call2 (go1 22 true 41 rfl rfl rfl rfl) 13 (.tmp 46) (.tmp 47) _ rfl enter13 (opT' 46 27 rfl rfl) (OpIs.imp (opT' 47 28 rfl rfl) (fun v w h e => by obtain rfl : v = _ := e; exact hsl w h)) (fun c v w h1 h2 h3 => CrcOn_ok s hs l (by omega) c v w h1 h2 h3)) ?_
    refine wpI_cons (is (.bool true)) (stable_is _) (step_eq (go1 22 true 41 rfl rfl rfl rfl) 23 23 (.tmp 45) (.tmp 48) rfl _ _ _ true (opT' 45 26 rfl rfl) (opT' 48 29 rfl rfl) (by rw [on_same_ref]; simp)) ?_
    refine wpI_cons (is (.bool true)) (stable_is _) (step_pickT (go0 rfl) (.tmp 41) (.tmp 49) (.const (.bool false)) rfl (opT' 41 22 rfl rfl) (opT' 49 30 rfl rfl)) ?_
    refine wpI_cons (is (.bool true)) (stable_is _) (step_move (go0 rfl) (.tmp 50) rfl (opT' 50 31 rfl rfl)) ?_
    refine wpI_cons (is (.bool true)) (stable_is _) (step_call0 (go1 32 true 51 rfl rfl rfl rfl) 7 _ rfl enter7 (fun w h => awake_ok w h)) ?_
    refine wpI_cons (is (.bool true)) (stable_is _) (step_pickT (go0 rfl) (.tmp 51) (.tmp 52) (.const (.bool false)) rfl (opT' 51 32 rfl rfl) (opT' 52 33 rfl rfl)) ?_
    refine wpI_cons (is (.bool true)) (stable_is _) (step_assign (go0 rfl) (.tmp 53) rfl (opT' 53 34 rfl rfl)) ?_
    refine wpI_nil ?_
    rintro ⟨tmps, dfr⟩ w' hI _ rfl _ hdone _
    have hr : tmps.getD 6 undef = .bool true := hdone 35 6 rfl
    clear hdone hrow hsl hB1
    go_wp2
    go_ret
    exact ⟨by rw [hr], hW.trans (hI.mono hW.size)⟩

/-! ### THE ROW's STEP: WRITTEN OUT: LEAVE IT -/
set_option maxRecDepth 100000 in
theorem lifted (os : Os) (started : os.Started) (H : Type) (enc : TypeId × Value → H) :
    ReturnsInHanded {} Try.checked os 3 .any (Rows.crcTellsSpec.pre6 enc Try.prog Try.f3 Rows.crcTellsRow.domain false) (Rows.crcTellsSpec.post enc Try.prog Try.f3 false true false false) := by
  refine returnsInHanded_of_change (C := Try.checked) own started (by kernel_rfl) Try.func3
    (ChangeSpec.witness6 (enc := enc) (C := Try.checked) false ⟨#[], #[.slice none 0 0, .int .i64 0, .int .u32 0], []⟩ 8 (by kernel_rfl) (by kernel_rfl) (by kernel_rfl) (by kernel_rfl)) ?_
  intro W base args ds gs before hval0 hW hcnd _
  have hval : ∀ (j : Nat) t v, Try.f3.params[j]? = some t → args[j]? = some v → Value.okWide Try.prog W .any base t v := hval0
  have hW' := hW
  obtain ⟨p, q, hA0, hV, rfl, hfz, hnd⟩ := hW
  have hA : DataW.TrodAll enc Try.prog W 0 (fun _ => true) true Try.f3.params.toList args.toList ds p := hA0
  rw [Try.params3] at hA hval
  obtain ⟨v0, vs0, d0, ds0, p0, q0, hargs, rfl, rfl, h0, r0⟩ := trodAll_cons hA
  obtain ⟨v1, vs1, d1, ds1, p1, q1, rfl, rfl, rfl, h1, r1⟩ := trodAll_cons r0
  obtain ⟨v2, vs2, d2, ds2, p2, q2, rfl, rfl, rfl, h2, r2⟩ := trodAll_cons r1
  obtain ⟨rfl, rfl, rfl⟩ := trodAll_nil r2
  obtain rfl : args = #[v0, v1, v2] := by cases args; simp_all
  obtain ⟨rfl, rfl⟩ := trodVars_none hV
  obtain ⟨a0, len0, cap0, rfl⟩ := okWide_slice Try.underlying22 (hval 0 22 v0 rfl rfl)
  have k0 := h0
  have lt0 : ∀ x ∈ p0, x.block < W.heap.size := by obtain ⟨m, hm⟩ := k0; exact DataW.trod_lt m _ _ _ hm
  obtain ⟨z0, w0⟩ : ∃ zs, IsRow .u8 W a0 len0 cap0 zs := by
    obtain ⟨fuel, hf⟩ := h0
    rcases open_ints Try.underlying22 Try.underlying5 (by kernel_rfl) hf with ⟨hcs, _⟩ | ⟨x, l, c, zs, hcs, _, hl, hm, hz, _, hcell, hwz⟩
    · simp [Value.cells] at hcs
      obtain ⟨rfl, rfl, rfl⟩ := hcs
      exact ⟨[], .inl ⟨rfl, rfl, rfl, rfl⟩⟩
    · simp [Value.cells] at hcs
      obtain ⟨rfl, rfl, rfl⟩ := hcs
      exact ⟨zs, .inr ⟨_, rfl, hl, hm, by simpa using hz, hcell, hwz⟩⟩
  obtain ⟨a1, rfl, rfl, rfl, w1⟩ := open_int Try.underlying3 (hval 1 3 v1 rfl rfl) h1
  obtain ⟨a2, rfl, rfl, rfl, w2⟩ := open_int Try.underlying23 (hval 2 23 v2 rfl rfl) h2
  clear hA0 hval0
  refine (walk a0 len0 cap0 z0 a1 a2 W w0 w1 w2).mono fun e W' ⟨he, bel⟩ => ?_
  subst he
  exact ⟨_, rfl, _, _, _, [], _, [], hW', trodAll_mk1 (shut_bool Try.underlying4 _), (trodAll_cons_mk (Below.trod laidOut (by kernel_rfl) (of_decide_eq_true (by kernel_rfl)) k0 bel lt0) (trodAll_cons_mk (shut_int Try.underlying3 w1) (trodAll_cons_mk (shut_int Try.underlying23 w2) trodAll_mk0))), rfl, bel.frame _, fun h => by cases h⟩

theorem over : Rows.crcTellsRow.holds Try.pinned (OpenSpec.ofChange Rows.crcTellsSpec) :=
  OpenClaim.holds_of_wide 3 Try.f3 rfl rfl rfl rfl rfl rfl rfl ⟨rfl, rfl, rfl, rfl, rfl⟩ rfl rfl rfl rfl rfl (by kernel_rfl) Try.func3 (by kernel_rfl)
    (of_decide_eq_true (by kernel_rfl)) (by unfold Func.isWrapper; first | (rw [if_pos (by decide +kernel)]; kernel_rfl) | (rw [if_neg (by decide +kernel)]; exact ⟨rfl, rfl⟩))
    (fun os started H enc _ => lifted os started H enc)

/-- ████ THE STATEMENT ████ -/
theorem proved : Rows.CrcTellsSaid := over
end Go.Proofs.Ytcoabmnekccdpaa.crcTells
