/- awake comes to true. -/
import Derived.Test.YtcoabmnekccdpaaStep
import Derived.Test.YtcoabmnekccdpaaWOn
import Derived.Test.YtcoabmnekccdpaaWMake
namespace Go.Proofs.Ytcoabmnekccdpaa
open Go.RowKit

theorem mixed : Try.prog.follows .mixedOrders = true := by kernel_rfl
theorem enter10 (args : Array Value) (w : World) : (callFunc 10 args).run Try.prog w = .ok (.enter 10 args) w := run_callFunc_enter Try.func10 (by kernel_rfl) (by kernel_rfl) args w
theorem enter12 (args : Array Value) (w : World) : (callFunc 12 args).run Try.prog w = .ok (.enter 12 args) w := run_callFunc_enter Try.func12 (by kernel_rfl) (by kernel_rfl) args w
theorem size26 : (Try.prog.info? 26).map (·.size) = some (tabCells tab).size := by rw [tabCells_size]; kernel_rfl

/-- worlds above w0 -/
def Up (w0 : World) : World → Prop := fun w => Below w0.heap.size w0 w

theorem callOk_of {w0 w : World} {f : FuncId} {args : Array Value} {v : Value} {Φ : Spec} (hI : Up w0 w) (h : Calls Try.prog f args w fun e w' => e = .returned v ∧ Below w.heap.size w w') (hv : ∀ w', Φ v w') :
    CallOk Try.prog (Up w0) f args w Φ :=
  h.mono fun _ w' ⟨he, hb⟩ => ⟨v, he, Below.trans hI (hb.mono hI.size), ext_of_below hb, hv w'⟩

theorem Of_ok {w0 : World} (l : List Nat) (hl : l.length ≤ 140737488351232) (u v : Value) (w : World) (hI : Up w0 w) (hu : is (.agg (tabCells tab)) u w) (hv : isBytes l v w) :
    CallOk Try.prog (Up w0) 10 #[u, v] w (is (.int .u32 (crcOn 0 l : Nat))) := by
  obtain ⟨A, cap, rfl, _, hb⟩ := hv
  obtain rfl : u = _ := hu
  exact callOk_of hI ((Of_walk A l.length cap w.heap.size l rfl w hb (Nat.le_refl _) hl).mono fun e w' ⟨he, hw⟩ => ⟨he, hw ▸ ((Below.refl _ _).alloc (Nat.le_refl _) _).alloc (by simp) _⟩) (fun _ => rfl)
theorem On_ok {w0 : World} (s : Nat) (hs : s < 4294967296) (l : List Nat) (hl : l.length ≤ 140737488351232) (u c v : Value) (w : World) (hI : Up w0 w) (hu : is (.agg (tabCells tab)) u w) (hc : is (.int .u32 (s : Int)) c w) (hv : isBytes l v w) :
    CallOk Try.prog (Up w0) 12 #[u, c, v] w (is (.int .u32 (crcOn s l : Nat))) := by
  obtain ⟨A, cap, rfl, _, hb⟩ := hv
  obtain rfl : u = _ := hu
  obtain rfl : c = _ := hc
  exact callOk_of hI ((On_walk s hs A l.length cap w.heap.size l rfl w hb hl).mono fun e w' ⟨he, hw⟩ => ⟨he, hw ▸ (Below.refl _ _).alloc (Nat.le_refl _) _⟩) (fun _ => rfl)

set_option maxRecDepth 100000 in
theorem awake_walk (w : World) :
    Calls Try.prog 7 #[] w fun e w' => e = .returned (.bool true) ∧ Below w.heap.size w w' := by
  go_enter Try.func7, Try.ntmps7
  go_wp2_with fail
  refine (Make_walk _).mono ?_
  rintro e w' ⟨rfl, rfl⟩
  go_wp2_with (first
    | (refine wpList_alloc26 rfl rfl ?_)
    | refine wpList_store_row rfl 26 (.tmp 1) (.tmp 2) rfl (tabCells (fun _ => 0)) (tabCells tab) _ (by simp) rfl rfl size26 (tabCells_same _ _) (tabCells_one tab) ?_)
  generalize hWW : (w.alloc (.cells (tabCells tab) 26)).alloc (.cells (tabCells tab) 26) = W
  have hW : Below w.heap.size w W := by subst hWW; exact ((Below.refl _ _).alloc (Nat.le_refl _) _).alloc (by simp) _
  have hB1 : W.heap[w.heap.size + 1]? = some (.cells (tabCells tab) 26 (0, 0)) := by
    subst hWW
    have := heap_alloc_new (w.alloc (.cells (tabCells tab) 26)) (.cells (tabCells tab) 26)
    simpa using this
  have hlt : w.heap.size + 1 < W.heap.size := by subst hWW; simp
  clear hWW
  have hrow : ∀ w', Up W w' → w'.heap[(w.heap.size + 1)]? = some (.cells (tabCells tab) 26 (0, 0)) := fun w' h => by rw [h.block (w.heap.size + 1) hlt]; exact hB1
  have hcell : ∀ w', Up W w' → w'.cell? ⟨(w.heap.size + 1), 1, none⟩ = some (.int .u32 (tab 1 : Nat)) := fun w' h => by
    rw [cell_of_row w' (w.heap.size + 1) 1 _ _ _ (hrow w' h), tabCells_get _ 1 (by omega)]
  refine wp_region_inv 29 mixed (by kernel_rfl) (by rfl) (Up W) (Below.refl _ _).drew ?_
  refine wpI_cons (is (.agg (tabCells tab))) (stable_is _) (step_loadRow (go0 rfl) 26 (.tmp 1) rfl (w.heap.size + 1) 26 (tabCells tab) (0, 0) _ (opO' 1 (.pointer (some ⟨(w.heap.size + 1), 0, none⟩)) rfl (by simp [Act.put])) hrow Try.underlying26 rfl size26) ?_
  refine wpI_cons (isNew W.heap.size [49, 50, 51, 52, 53, 54, 55, 56, 57]) (stable_isNew _ _) (step_buildSlice rfl (go0 rfl) [49, 50, 51, 52, 53, 54, 55, 56, 57] (by simp) 5 (fun _ _ => by kernel_rfl)) ?_
  refine wpI_cons (isNew W.heap.size [49, 50, 51, 52, 53, 54, 55, 56, 57]) (stable_isNew _ _) (step_convert rfl (go0 rfl) _ 22 5 (.tmp 4) rfl (opT' 4 1 rfl rfl) Try.underlying22 Try.underlying5) ?_
  refine wpI_cons (is (.int .u32 (crcOn 0 [49, 50, 51, 52, 53, 54, 55, 56, 57] : Nat))) (stable_is _) (step_call2 (go0 rfl) 10 (.tmp 3) (.tmp 5) _ rfl enter10 (opT' 3 0 rfl rfl) ((opT' 5 2 rfl rfl)) (fun u v w h1 h2 h3 => Of_ok [49, 50, 51, 52, 53, 54, 55, 56, 57] (by simp) u v w h1 h2 (isNew_isBytes h3))) ?_
  refine wpI_cons (is (.bool true)) (stable_is _) (step_eq (go0 rfl) 23 23 (.tmp 6) (.const (.int .u32 3421780262)) rfl _ _ _ true (opT' 6 3 rfl rfl) (opC _) (by decide)) ?_
  refine wpI_cons (is (.bool true)) (stable_is _) (step_move (go0 rfl) (.tmp 7) rfl (opT' 7 4 rfl rfl)) ?_
  refine wpI_cons (is (.agg (tabCells tab))) (stable_is _) (step_loadRow (go1 5 true 8 rfl rfl rfl rfl) 26 (.tmp 1) rfl (w.heap.size + 1) 26 (tabCells tab) (0, 0) _ (opO' 1 (.pointer (some ⟨(w.heap.size + 1), 0, none⟩)) rfl (by simp [Act.put])) hrow Try.underlying26 rfl size26) ?_
  refine wpI_cons (is (.int .u32 (crcOn 0 [] : Nat))) (stable_is _) (step_call2 (go1 5 true 8 rfl rfl rfl rfl) 10 (.tmp 9) (.const (.slice none 0 0)) _ rfl enter10 (opT' 9 6 rfl rfl) (opC _) (fun u v w h1 h2 h3 => Of_ok [] (by simp) u v w h1 h2 (by obtain rfl : v = _ := h3; exact isBytes_nil w))) ?_
  refine wpI_cons (is (.bool true)) (stable_is _) (step_eq (go1 5 true 8 rfl rfl rfl rfl) 23 23 (.tmp 10) (.const (.int .u32 0)) rfl _ _ _ true (opT' 10 7 rfl rfl) (opC _) (by decide)) ?_
  refine wpI_cons (is (.bool true)) (stable_is _) (step_pickT (go0 rfl) (.tmp 8) (.tmp 11) (.const (.bool false)) rfl (opT' 8 5 rfl rfl) (opT' 11 8 rfl rfl)) ?_
  refine wpI_cons (is (.bool true)) (stable_is _) (step_move (go0 rfl) (.tmp 12) rfl (opT' 12 9 rfl rfl)) ?_
  refine wpI_cons (is (.agg (tabCells tab))) (stable_is _) (step_loadRow (go1 10 true 13 rfl rfl rfl rfl) 26 (.tmp 1) rfl (w.heap.size + 1) 26 (tabCells tab) (0, 0) _ (opO' 1 (.pointer (some ⟨(w.heap.size + 1), 0, none⟩)) rfl (by simp [Act.put])) hrow Try.underlying26 rfl size26) ?_
  refine wpI_cons (is (.agg (tabCells tab))) (stable_is _) (step_loadRow (go1 10 true 13 rfl rfl rfl rfl) 26 (.tmp 1) rfl (w.heap.size + 1) 26 (tabCells tab) (0, 0) _ (opO' 1 (.pointer (some ⟨(w.heap.size + 1), 0, none⟩)) rfl (by simp [Act.put])) hrow Try.underlying26 rfl size26) ?_
  refine wpI_cons (isNew W.heap.size [49, 50, 51, 52]) (stable_isNew _ _) (step_buildSlice rfl (go1 10 true 13 rfl rfl rfl rfl) [49, 50, 51, 52] (by simp) 5 (fun _ _ => by kernel_rfl)) ?_
  refine wpI_cons (isNew W.heap.size [49, 50, 51, 52]) (stable_isNew _ _) (step_convert rfl (go1 10 true 13 rfl rfl rfl rfl) _ 22 5 (.tmp 16) rfl (opT' 16 13 rfl rfl) Try.underlying22 Try.underlying5) ?_
  refine wpI_cons (is (.int .u32 (crcOn 0 [49, 50, 51, 52] : Nat))) (stable_is _) (step_call2 (go1 10 true 13 rfl rfl rfl rfl) 10 (.tmp 15) (.tmp 17) _ rfl enter10 (opT' 15 12 rfl rfl) ((opT' 17 14 rfl rfl)) (fun u v w h1 h2 h3 => Of_ok [49, 50, 51, 52] (by simp) u v w h1 h2 (isNew_isBytes h3))) ?_
  refine wpI_cons (isNew W.heap.size [53, 54, 55, 56, 57]) (stable_isNew _ _) (step_buildSlice rfl (go1 10 true 13 rfl rfl rfl rfl) [53, 54, 55, 56, 57] (by simp) 5 (fun _ _ => by kernel_rfl)) ?_
  refine wpI_cons (isNew W.heap.size [53, 54, 55, 56, 57]) (stable_isNew _ _) (step_convert rfl (go1 10 true 13 rfl rfl rfl rfl) _ 22 5 (.tmp 19) rfl (opT' 19 16 rfl rfl) Try.underlying22 Try.underlying5) ?_
  refine wpI_cons (is (.int .u32 (crcOn (crcOn 0 [49, 50, 51, 52]) [53, 54, 55, 56, 57] : Nat))) (stable_is _) (step_call3 (go1 10 true 13 rfl rfl rfl rfl) 12 (.tmp 14) (.tmp 18) (.tmp 20) _ rfl enter12 (opT' 14 11 rfl rfl) ((opT' 18 15 rfl rfl)) ((opT' 20 17 rfl rfl)) (fun u c v w h1 h2 h3 h4 => On_ok _ (by decide) [53, 54, 55, 56, 57] (by simp) u c v w h1 h2 h3 (isNew_isBytes h4))) ?_
  refine wpI_cons (is (.bool true)) (stable_is _) (step_eq (go1 10 true 13 rfl rfl rfl rfl) 23 23 (.tmp 21) (.const (.int .u32 3421780262)) rfl _ _ _ true (opT' 21 18 rfl rfl) (opC _) (by decide)) ?_
  refine wpI_cons (is (.bool true)) (stable_is _) (step_pickT (go0 rfl) (.tmp 13) (.tmp 22) (.const (.bool false)) rfl (opT' 13 10 rfl rfl) (opT' 22 19 rfl rfl)) ?_
  refine wpI_cons (is (.bool true)) (stable_is _) (step_move (go0 rfl) (.tmp 23) rfl (opT' 23 20 rfl rfl)) ?_
  refine wpI_cons (is (.pointer (some ⟨(w.heap.size + 1), 1, none⟩))) (stable_is _) (step_idx (go1 21 true 24 rfl rfl rfl rfl) 26 (.tmp 1) (.const (.int .i64 1)) rfl _ _ _ (opO' 1 (.pointer (some ⟨(w.heap.size + 1), 0, none⟩)) rfl (by simp [Act.put])) (opC _) (fun w => by kernel_rfl)) ?_
  refine wpI_cons (is (.int .u32 (tab 1 : Nat))) (stable_is _) (step_cell (go1 21 true 24 rfl rfl rfl rfl) 23 (.tmp 25) rfl ⟨(w.heap.size + 1), 1, none⟩ _ (opT' 25 22 rfl rfl) hcell (fun w => by kernel_rfl)) ?_
  refine wpI_cons (is (.bool true)) (stable_is _) (step_eq (go1 21 true 24 rfl rfl rfl rfl) 23 23 (.tmp 26) (.const (.int .u32 1996959894)) rfl _ _ _ true (opT' 26 23 rfl rfl) (opC _) (by decide)) ?_
  refine wpI_cons (is (.bool true)) (stable_is _) (step_pickT (go0 rfl) (.tmp 24) (.tmp 27) (.const (.bool false)) rfl (opT' 24 21 rfl rfl) (opT' 27 24 rfl rfl)) ?_
  refine wpI_cons (is (.bool true)) (stable_is _) (step_assign (go0 rfl) (.tmp 28) rfl (opT' 28 25 rfl rfl)) ?_
  refine wpI_nil ?_
  rintro ⟨tmps, dfr⟩ w' hI _ rfl _ hdone _
  have hr : tmps.getD 0 undef = .bool true := hdone 26 0 rfl
  clear hdone hrow hcell hB1
  go_wp2
  go_ret
  exact ⟨by rw [hr], hW.trans (hI.mono hW.size)⟩
end Go.Proofs.Ytcoabmnekccdpaa
