/- EdgeShares: two triangles with an edge in common cover no pixel both; a convex piece is covered as often whichever way it is cut. At every input the law says true. -/
import Derived.Test.YtgkidgpdgcdgnaaShaB
namespace Go.Proofs.Ytgkidgpdgcdgnaa
open Go.RowKit

theorem at_op {P : Program} {ops : Array Oper} {Q : Exit → Act → World → Prop} {a : Act} {w : World} {d : Option Tmp} {ty : TypeId} {ps : String} {af : Array Edge} {rest : List Oper} (op : Op)
    (h : wpList P ops Q ({ dst := d, op := op, type := ty, pos := ps, after := af, guard := none } :: rest) a w) : wpList P ops Q ({ dst := d, op := op, type := ty, pos := ps, after := af, guard := none } :: rest) a w := h
set_option maxRecDepth 100000 in
set_option maxHeartbeats 8000000 in
theorem Shares_walk (a b c d : Spot) (w : World) : Calls Try.prog 4 #[.agg (spotA a), .agg (spotA b), .agg (spotA c), .agg (spotA d)] w fun e w' => e = .returned (.bool true) ∧ Below w.heap.size w w' := by
  have HN := Lib.hid (four_new w a b c d)
  go_enter Try.func4, Try.ntmps4
  have hsz0 : ((((w.alloc (.cells (spotA a) 23)).alloc (.cells (spotA b) 23)).alloc (.cells (spotA c) 23)).alloc (.cells (spotA d) 23)).heap.size = w.heap.size + 1 + 1 + 1 + 1 := by simp
  have hq0 := QuadAt.new ((((w.alloc (.cells (spotA a) 23)).alloc (.cells (spotA b) 23)).alloc (.cells (spotA c) 23)).alloc (.cells (spotA d) 23)) spot0 spot0 spot0 spot0
  have HQ0 := Lib.hid (And.intro hq0 (And.intro hsz0 (below_alloc ((((w.alloc (.cells (spotA a) 23)).alloc (.cells (spotA b) 23)).alloc (.cells (spotA c) 23)).alloc (.cells (spotA d) 23)) (.cells (quadA spot0 spot0 spot0 spot0) 42))))
  clear hq0 hsz0
  go_wp2_with (first
    | refine arm_load23 rfl (.tmp 4) rfl w.heap.size 0 a rfl HN.out.2.1.r ?_
    | refine arm_load23 rfl (.tmp 5) rfl (w.heap.size + 1) 0 b rfl HN.out.2.2.1.r ?_
    | refine arm_load23 rfl (.tmp 6) rfl (w.heap.size + 1 + 1) 0 c rfl HN.out.2.2.2.1.r ?_
    | (refine arm_load23 rfl (.tmp 7) rfl (w.heap.size + 1 + 1 + 1) 0 d rfl HN.out.2.2.2.2.r ?_
       refine arm_build42 rfl (.tmp 18) (.tmp 19) (.tmp 20) (.tmp 21) rfl a b c d rfl rfl rfl rfl ?_
       refine arm_alloc42 rfl rfl ?_
       refine arm_store42 rfl (.tmp 9) (.tmp 22) rfl ((((w.alloc (.cells (spotA a) 23)).alloc (.cells (spotA b) 23)).alloc (.cells (spotA c) 23)).alloc (.cells (spotA d) 23)).heap.size spot0 spot0 spot0 spot0 a b c d rfl rfl HQ0.out.1 ?_
       intro w2 hq hsz hbn
       rw [HQ0.out.2.1] at hq hbn ⊢
       have hb2 := hbn (w.heap.size + 1 + 1 + 1 + 1) (Nat.le_refl _)
       have hbe : Below ((((w.alloc (.cells (spotA a) 23)).alloc (.cells (spotA b) 23)).alloc (.cells (spotA c) 23)).alloc (.cells (spotA d) 23)).heap.size ((((w.alloc (.cells (spotA a) 23)).alloc (.cells (spotA b) 23)).alloc (.cells (spotA c) 23)).alloc (.cells (spotA d) 23)) w2 := HQ0.out.2.2.trans (by rw [HQ0.out.2.1]; exact hb2)
       have HS := Lib.hid (show SharesA w w2 a b c d from ⟨below_trans HN.out.1 hbe, ⟨HN.out.2.1.below hbe, HN.out.2.2.1.below hbe, HN.out.2.2.2.1.below hbe, HN.out.2.2.2.2.below hbe⟩, hq⟩)
       clear hb2 hbe hq hsz hbn))
  clear HN HQ0
  go_loopw [10] (fun v wr => ∃ i : Nat, i ≤ 4 ∧ v = .int .i64 i ∧ SharesA w wr a b c d ∧ ∀ j, j < i → Good a b c d j) (fun v _ => 4 - (intOf v).toNat)
  case atStart => exact ⟨0, by omega, rfl, HS.out, fun j hj => by omega⟩
  case round =>
    obtain ⟨i, hi, rfl, hSA, hgood⟩ := hrel
    clear HS
    have HG := Lib.hid hgood
    have HO0 := Lib.hid hSA
    clear hgood hSA
    by_cases hi4 : i = 4
    · subst hi4
      obtain ⟨wo, rfl⟩ : ∃ wo, wo = wr := ⟨_, rfl⟩
      have hga := good_all HG.out
      have HOK := Lib.hid hga
      clear hga HG
      have HA := Lib.hid (HO0.out.below (below_two wo (.cells (numA 1024 (fun _ => 0)) 43) (.cells (numA 1024 (fun _ => 0)) 43)))
      have hn1 := heap_alloc_new wo (.cells (numA 1024 (fun _ => 0)) 43)
      have hn2 := heap_alloc_new (wo.alloc (.cells (numA 1024 (fun _ => 0)) 43)) (.cells (numA 1024 (fun _ => 0)) 43)
      have ht0 := heap_alloc_new ((wo.alloc (.cells (numA 1024 (fun _ => 0)) 43)).alloc (.cells (numA 1024 (fun _ => 0)) 43)) (.cells (tri4A spot0 spot0 spot0 spot0) 44)
      have HT0 := Lib.hid (show Tri4At _ _ spot0 spot0 spot0 spot0 from ht0)
      have HC0 := Lib.hid (And.intro hn1 hn2)
      clear hn1 hn2 ht0
      go_wp2_with (first
        | ((with_reducible refine at_op (.alloc 43) ?_); refine arm_alloc43 rfl rfl ?_; simp only [Act.put, List.setIfInBounds_toArray, List.set_cons_zero, List.set_cons_succ])
        | ((with_reducible refine at_op (.load 23 (.tmp 4)) ?_); refine arm_load23 rfl (.tmp 4) rfl w.heap.size 0 a rfl HA.out.2.1.1.r ?_; simp only [Act.put, List.setIfInBounds_toArray, List.set_cons_zero, List.set_cons_succ])
        | ((with_reducible refine at_op (.load 23 (.tmp 5)) ?_); refine arm_load23 rfl (.tmp 5) rfl (w.heap.size + 1) 0 b rfl HA.out.2.1.2.1.r ?_; simp only [Act.put, List.setIfInBounds_toArray, List.set_cons_zero, List.set_cons_succ])
        | ((with_reducible refine at_op (.load 23 (.tmp 6)) ?_); refine arm_load23 rfl (.tmp 6) rfl (w.heap.size + 1 + 1) 0 c rfl HA.out.2.1.2.2.1.r ?_; simp only [Act.put, List.setIfInBounds_toArray, List.set_cons_zero, List.set_cons_succ])
        | ((with_reducible refine at_op (.load 23 (.tmp 7)) ?_); refine arm_load23 rfl (.tmp 7) rfl (w.heap.size + 1 + 1 + 1) 0 d rfl HA.out.2.1.2.2.2.r ?_; simp only [Act.put, List.setIfInBounds_toArray, List.set_cons_zero, List.set_cons_succ])
        | ((with_reducible refine at_op (.build 24 #[(0, .tmp 62), (1, .tmp 63), (2, .tmp 64)]) ?_); refine arm_build24 rfl (.tmp 62) (.tmp 63) (.tmp 64) rfl a b c rfl rfl rfl ?_; simp only [Act.put, List.setIfInBounds_toArray, List.set_cons_zero, List.set_cons_succ])
        | ((with_reducible refine at_op (.build 24 #[(0, .tmp 66), (1, .tmp 67), (2, .tmp 68)]) ?_); refine arm_build24 rfl (.tmp 66) (.tmp 67) (.tmp 68) rfl a c d rfl rfl rfl ?_; simp only [Act.put, List.setIfInBounds_toArray, List.set_cons_zero, List.set_cons_succ])
        | ((with_reducible refine at_op (.build 24 #[(0, .tmp 70), (1, .tmp 71), (2, .tmp 72)]) ?_); refine arm_build24 rfl (.tmp 70) (.tmp 71) (.tmp 72) rfl b c d rfl rfl rfl ?_; simp only [Act.put, List.setIfInBounds_toArray, List.set_cons_zero, List.set_cons_succ])
        | ((with_reducible refine at_op (.build 24 #[(0, .tmp 74), (1, .tmp 75), (2, .tmp 76)]) ?_); refine arm_build24 rfl (.tmp 74) (.tmp 75) (.tmp 76) rfl b d a rfl rfl rfl ?_; simp only [Act.put, List.setIfInBounds_toArray, List.set_cons_zero, List.set_cons_succ])
        | ((with_reducible refine at_op (.build 44 _) ?_); refine arm_build44 rfl (.tmp 65) (.tmp 69) (.tmp 73) (.tmp 77) rfl a b c d rfl rfl rfl rfl ?_
           refine arm_alloc44 rfl rfl ?_
           refine arm_store44 rfl (.tmp 13) (.tmp 78) rfl ((wo.alloc (.cells (numA 1024 (fun _ => 0)) 43)).alloc (.cells (numA 1024 (fun _ => 0)) 43)).heap.size spot0 spot0 spot0 spot0 a b c d rfl rfl HT0.out ?_
           intro w5 ht hbn
           have hbe := (below_alloc ((wo.alloc (.cells (numA 1024 (fun _ => 0)) 43)).alloc (.cells (numA 1024 (fun _ => 0)) 43)) (.cells (tri4A spot0 spot0 spot0 spot0) 44)).trans (hbn _ (Nat.le_refl _))
           have HS := Lib.hid (share_start HO0.out HC0.out.1 HC0.out.2 ht hbe)
           clear hbe ht hbn))
      clear HA HT0 HC0
      try simp only [World.size_alloc]
      go_loopw [14] (fun v wr => ∃ i : Nat, i ≤ 4 ∧ v = .int .i64 i ∧ ShAt w wo wr a b c d (shN a b c d i) (shM a b c d i)) (fun v _ => 4 - (intOf v).toNat)
      case atStart => exact ⟨0, by omega, rfl, HS.out⟩
      case round =>
        obtain ⟨i, hi, rfl, hFF⟩ := hrel
        obtain ⟨w6, rfl⟩ : ∃ w6, w6 = wr := ⟨_, rfl⟩
        clear HS
        have HO := Lib.hid hFF
        clear hFF
        by_cases hi4 : i = 4
        · subst hi4
          go_wp2_with fail
          go_loopw [17] (fun v wr => ∃ j : Nat, j ≤ 1024 ∧ v = .int .i64 j ∧ ShAt w wo wr a b c d (shN a b c d 4) (shM a b c d 4)) (fun v _ => 1024 - (intOf v).toNat)
          case atStart => exact ⟨0, by omega, rfl, HO.out⟩
          case round =>
            obtain ⟨j, hj, rfl, hFF⟩ := hrel
            clear HO
            have HO := Lib.hid hFF
            clear hFF
            by_cases hlt : j = 1024
            · subst hlt
              go_wp2_with fail
              refine (awake_walk _).mono ?_
              rintro e wb ⟨rfl, hb⟩
              have HX := Lib.hid (below_trans HO.out.below_ hb)
              clear hb
              go_wp2_with fail
              go_ret
              exact ⟨rfl, HX.out⟩
            have hjn : j < 1024 := by omega
            have hjn2 : ((j : Nat) : Int) < 1024 := by omega
            have pn := HO.out.cn.cell j hjn
            have pm := HO.out.cm.cell j hjn
            obtain ⟨hk1, hk2⟩ := share_at HOK.out.2 j
            obtain ⟨N, hN⟩ : ∃ N, N = shN a b c d 4 := ⟨_, rfl⟩
            obtain ⟨M, hM⟩ : ∃ M, M = shM a b c d 4 := ⟨_, rfl⟩
            rw [← hN] at pn hk1 hk2
            rw [← hM] at pm hk2
            have HNM := Lib.hid (And.intro hN hM)
            clear hN hM
            go_wp2_with fail
            refine wp_region_link 175 mixed (by kernel_rfl) (by rfl) (UpC wr) (UpC.start wr) ?_
            refine wpL_cons (is (.int .i64 ((j : Nat) : Int))) (stable_is _) (step_move (go0 rfl) (.tmp 17) rfl (opO' 17 (.int .i64 ((j : Nat) : Int)) rfl rfl)) ?_
            refine wpL_cons (is (.pointer (some ⟨wo.heap.size, j, none⟩))) (stable_is _) (step_idx (go0 rfl) 43 (.tmp 11) (.tmp 161) rfl _ _ _ (opO' 11 (.pointer (some ⟨wo.heap.size, 0, none⟩)) rfl rfl) (opT' 161 0 rfl rfl) (fun W => run_idx43 _ j hjn W)) ?_
            refine wpL_cons (is (.int .i64 ((N j : Nat) : Int))) (stable_is _) (step_cell (go0 rfl) 3 (.tmp 162) rfl ⟨wo.heap.size, j, none⟩ _ (opT' 162 1 rfl rfl) (fun W h => cellUp h pn) (fun W => by kernel_rfl)) ?_
            refine wpL_cons (is (.bool false)) (stable_is _) (step_int (go0 rfl) .gtr 3 3 (.tmp 163) (.const (.int .i64 1)) rfl .i64 .i64 _ _ _ (opT' 163 2 rfl rfl) (opC _) (fun W => run_gtr3 _ _ false (decide_eq_false (by omega)) W)) ?_
            refine wpL_cons (is (.bool false)) (stable_is _) (step_move (go0 rfl) (.tmp 164) rfl (opT' 164 3 rfl rfl)) ?_
            refine wpL_cons (is (.int .i64 ((j : Nat) : Int))) (stable_is _) (step_move (go1 4 false 165 rfl rfl rfl rfl) (.tmp 17) rfl (opO' 17 (.int .i64 ((j : Nat) : Int)) rfl rfl)) ?_
            refine wpL_cons (is (.pointer (some ⟨wo.heap.size, j, none⟩))) (stable_is _) (step_idx (go1 4 false 165 rfl rfl rfl rfl) 43 (.tmp 11) (.tmp 166) rfl _ _ _ (opO' 11 (.pointer (some ⟨wo.heap.size, 0, none⟩)) rfl rfl) (opT' 166 5 rfl rfl) (fun W => run_idx43 _ j hjn W)) ?_
            refine wpL_cons (is (.int .i64 ((N j : Nat) : Int))) (stable_is _) (step_cell (go1 4 false 165 rfl rfl rfl rfl) 3 (.tmp 167) rfl ⟨wo.heap.size, j, none⟩ _ (opT' 167 6 rfl rfl) (fun W h => cellUp h pn) (fun W => by kernel_rfl)) ?_
            refine wpL_cons (is (.int .i64 ((j : Nat) : Int))) (stable_is _) (step_move (go1 4 false 165 rfl rfl rfl rfl) (.tmp 17) rfl (opO' 17 (.int .i64 ((j : Nat) : Int)) rfl rfl)) ?_
            refine wpL_cons (is (.pointer (some ⟨wo.heap.size + 1, j, none⟩))) (stable_is _) (step_idx (go1 4 false 165 rfl rfl rfl rfl) 43 (.tmp 12) (.tmp 169) rfl _ _ _ (opO' 12 (.pointer (some ⟨wo.heap.size + 1, 0, none⟩)) rfl rfl) (opT' 169 8 rfl rfl) (fun W => run_idx43 _ j hjn W)) ?_
            refine wpL_cons (is (.int .i64 ((M j : Nat) : Int))) (stable_is _) (step_cell (go1 4 false 165 rfl rfl rfl rfl) 3 (.tmp 170) rfl ⟨wo.heap.size + 1, j, none⟩ _ (opT' 170 9 rfl rfl) (fun W h => cellUp h pm) (fun W => by kernel_rfl)) ?_
            refine wpL_cons (is (.bool false)) (stable_is _) (step_int (go1 4 false 165 rfl rfl rfl rfl) .neq 3 3 (.tmp 168) (.tmp 171) rfl .i64 .i64 _ _ _ (opT' 168 7 rfl rfl) (opT' 171 10 rfl rfl) (fun W => run_neq3 _ _ false (bne_eq_false_iff_eq.2 (by omega)) W)) ?_
            refine wpL_cons (is (.bool false)) (stable_is _) (step_pickF (go0 rfl) (.tmp 165) (.const (.bool true)) (.tmp 172) rfl (opT' 165 4 rfl rfl) (opT' 172 11 rfl rfl)) ?_
            refine wpL_nil ?_
            intro v w7 hI7 _ hdone _
            have e173 : v 12 = .bool false := hdone 12 173 rfl
            have hI7 : Below wr.heap.size wr w7 := hI7
            have HZ := Lib.hid (HO.out.below hI7)
            clear hdone hI7
            simp only [putAll, Act.put, List.setIfInBounds_toArray, List.set_cons_zero, List.set_cons_succ, Nat.zero_add, Nat.reduceAdd, e173]
            go_wp2_with fail
            go_roundw
            case rel => exact ⟨j + 1, by omega, by simp, HZ.out⟩
            case measure =>
              simp [intOf]
              omega
        have hi4 : i < 4 := by omega
        have hi4i : ((i : Nat) : Int) < 4 := by omega
        obtain ⟨p, q, r, hpqr, hpok, hparea⟩ := tri_of HOK.out.1 HOK.out.2 i hi4
        have hrange := HO.out.tri.r i hi4
        rw [hpqr] at hrange
        obtain ⟨L, hL⟩ : ∃ L, L = pixTo (p, q, r) 32 1024 := ⟨_, rfl⟩
        have hpl : pix p q r 32 32 = L := by rw [hL]; exact pix_right p q r 32 32 (by omega) (by omega) hparea
        have hLl : L.length ≤ 1024 := by rw [hL]; exact pixTo_len _ _ _
        have HRG := Lib.hid hrange
        have HLL := Lib.hid (And.intro hL (And.intro hpl (And.intro hpqr hpok)))
        clear hrange hL hpl hpqr hpok hparea
        go_wp2_with (first
          | ((with_reducible refine at_op (.load 24 (.tmp 84)) ?_); refine arm_load24m rfl (.tmp 84) rfl (wo.heap.size + 1 + 1) (i * 18) p q r rfl HRG.out ?_))
        refine (All_walk p q r HLL.out.2.2.2.1 HLL.out.2.2.2.2.1 HLL.out.2.2.2.2.2 32 32 (-1) _).mono ?_
        rintro e w7 ⟨A1, cap, rfl, hrow, hcap, hb7, hfr⟩
        rw [show allR (-1) (pix p q r 32 32) = L from HLL.out.2.1] at hrow hcap ⊢
        have hAg : ∀ b off, A1 = some ⟨b, off, none⟩ → wo.heap.size + 1 < b := fun b off e => by
          have h1 := hfr b off e
          have h2 := (Array.getElem?_eq_some_iff.1 HO.out.tri).1
          omega
        have HP := Lib.hid (And.intro (HO.out.below hb7) hrow)
        have HAG := Lib.hid hAg
        clear hb7 hrow hAg hfr HO HRG
        go_wp2_with fail
        go_loopw [16] (fun v wr => ∃ k : Nat, k ≤ L.length ∧ v = .int .i64 k ∧ ShAt w wo wr a b c d (fun t => shN a b c d i t + if i < 2 then ((keysOf 32 L).take k).count t else 0) (fun t => shM a b c d i t + if i < 2 then 0 else ((keysOf 32 L).take k).count t) ∧ HRow wr A1 L) (fun v _ => L.length - (intOf v).toNat)
        case atStart => exact ⟨0, by omega, rfl, HP.out.1.congr (fun _ _ => by simp) (fun _ _ => by simp), HP.out.2⟩
        case round =>
          obtain ⟨k, hk, rfl, hFk, hRk⟩ := hrel
          clear HP
          by_cases hlt : k = L.length
          · subst hlt
            have hl1 : ¬ ((L.length : Nat) : Int) < ((L.length : Nat) : Int) := by omega
            have HK := Lib.hid hFk
            clear hFk hRk
            go_wp2_with fail
            go_roundw
            case rel =>
              have ht : (keysOf 32 L).take L.length = keysOf 32 L := List.take_of_length_le (by unfold keysOf; simp)
              refine ⟨i + 1, by omega, by simp, HK.out.congr (fun t ht4 => ?_) (fun t ht4 => ?_)⟩
              · rw [ht, HLL.out.1, count_keys _ _ _ _ ht4, shN, HLL.out.2.2.1]
              · rw [ht, HLL.out.1, count_keys _ _ _ _ ht4, shM, HLL.out.2.2.1]
            case measure =>
              simp [intOf]
              omega
          have hlt : k < L.length := by omega
          obtain ⟨x, gx⟩ : ∃ x, L[k]? = some x := ⟨_, List.getElem?_eq_getElem hlt⟩
          obtain ⟨b1, rfl, p0, p1, _⟩ := hRk.get gx
          obtain ⟨c', hcn, hkw, hkey0, hx0, hx1, hy0, hy1⟩ := fan_hit (wd := 32) (ht := 32) (wN := 32) (hN := 32) rfl rfl rfl (by omega) HLL.out.1 gx
          have hkey : 32 * x.y + x.x = (c' : Int) := by omega
          have HGX := Lib.hid (And.intro gx hkw)
          have hlt2 : ((k : Nat) : Int) < ((L.length : Nat) : Int) := by omega
          have HK := Lib.hid (And.intro hFk hRk)
          clear gx hkw hkey0 hFk hRk
          by_cases hi2 : i < 2
          · have hi2i : ((i : Nat) : Int) < 2 := by omega
            obtain ⟨N, hN0⟩ : ∃ N : Nat → Nat, N = fun t => shN a b c d i t + ((keysOf 32 L).take k).count t := ⟨_, rfl⟩
            have hcat : CntAt wr 43 (wo.heap.size) 1024 N := HK.out.1.cn.congr (fun t _ => by rw [hN0]; simp [hi2])
            have hNc : N c' ≤ 2000 := by
              rw [hN0]
              have h1 := shN_le a b c d i c'
              have h2 : ((keysOf 32 L).take k).count c' ≤ ((keysOf 32 L).take k).length := List.count_le_length
              have h3 : ((keysOf 32 L).take k).length ≤ k := by simp; omega
              simp only
              omega
            have hNn : ∀ t, (if t = c' then N c' + 1 else N t) = shN a b c d i t + ((keysOf 32 L).take (k + 1)).count t := fun t => by
              have e : (keysOf 32 L).take (k + 1) = (keysOf 32 L).take k ++ [c'] := by
                rw [List.take_add_one]
                unfold keysOf
                rw [List.getElem?_map, HGX.out.1, ← HGX.out.2]; rfl
              rw [e, List.count_append, hN0]
              by_cases h : t = c'
              · subst h; simp; omega
              · rw [if_neg h]
                simp [Ne.symm h]
            have HNN := Lib.hid (And.intro hNn hcat)
            have pc := hcat.cell c' hcn
            have HI2 := Lib.hid hi2
            clear hN0 hNn hcat hi2
            go_wp2_with fail
            refine wp_region_store 175 rfl mixed (by kernel_rfl) (by rfl) (UpC wr) (UpC.start wr) (fun W' => ∃ W, Below wr.heap.size wr W ∧ W' = W.setCell ⟨wo.heap.size, c', none⟩ (.int .i64 ((N c' + 1 : Nat) : Int))) rfl rfl (by kernel_rfl) ?_
            refine wpI_cons (is (.slice (some ⟨b1, 0, none⟩) L.length cap)) (stable_is _) (step_move (go0 rfl) (.tmp 15) rfl (opO' 15 (.slice (some ⟨b1, 0, none⟩) L.length cap) rfl rfl)) ?_
            refine wpI_cons (is (.int .i64 ((k : Nat) : Int))) (stable_is _) (step_move (go0 rfl) (.tmp 16) rfl (opO' 16 (.int .i64 ((k : Nat) : Int)) rfl rfl)) ?_
            refine wpI_cons (is (.pointer (some ⟨b1, k * 5, none⟩))) (stable_is _) (step_idx (go0 rfl) 38 (.tmp 125) (.tmp 126) rfl _ _ _ (opT' 125 0 rfl rfl) (opT' 126 1 rfl rfl) (fun W => run_idx38 b1 (L.length) cap k hlt W)) ?_
            refine wpI_cons (is (.pointer (some ⟨b1, k * 5 + 1, none⟩))) (stable_is _) (step_field (go0 rfl) 31 1 (.tmp 127) rfl _ _ (opT' 127 2 rfl rfl) (fun W => run_f31_1 _ _ W)) ?_
            refine wpI_cons (is (.int .i64 x.y)) (stable_is _) (step_cell (go0 rfl) 3 (.tmp 128) rfl ⟨b1, k * 5 + 1, none⟩ _ (opT' 128 3 rfl rfl) (fun W h => cellUp h p1) (fun W => by kernel_rfl)) ?_
            refine wpI_cons (is (.int .i64 (32 * x.y))) (stable_is _) (step_int (go0 rfl) .mul 3 3 (.const (.int .i64 32)) (.tmp 129) rfl .i64 .i64 _ _ _ (opC _) (opT' 129 4 rfl rfl) (fun W => run_mul3 _ _ (by omega) W)) ?_
            refine wpI_cons (is (.slice (some ⟨b1, 0, none⟩) L.length cap)) (stable_is _) (step_move (go0 rfl) (.tmp 15) rfl (opO' 15 (.slice (some ⟨b1, 0, none⟩) L.length cap) rfl rfl)) ?_
            refine wpI_cons (is (.int .i64 ((k : Nat) : Int))) (stable_is _) (step_move (go0 rfl) (.tmp 16) rfl (opO' 16 (.int .i64 ((k : Nat) : Int)) rfl rfl)) ?_
            refine wpI_cons (is (.pointer (some ⟨b1, k * 5, none⟩))) (stable_is _) (step_idx (go0 rfl) 38 (.tmp 131) (.tmp 132) rfl _ _ _ (opT' 131 6 rfl rfl) (opT' 132 7 rfl rfl) (fun W => run_idx38 b1 (L.length) cap k hlt W)) ?_
            refine wpI_cons (is (.pointer (some ⟨b1, k * 5, none⟩))) (stable_is _) (step_field (go0 rfl) 31 0 (.tmp 133) rfl _ _ (opT' 133 8 rfl rfl) (fun W => run_f31_0 _ _ W)) ?_
            refine wpI_cons (is (.int .i64 x.x)) (stable_is _) (step_cell (go0 rfl) 3 (.tmp 134) rfl ⟨b1, k * 5, none⟩ _ (opT' 134 9 rfl rfl) (fun W h => cellUp h p0) (fun W => by kernel_rfl)) ?_
            refine wpI_cons (is (.int .i64 ((c' : Nat) : Int))) (stable_is _) (step_int (go0 rfl) .add 3 3 (.tmp 130) (.tmp 135) rfl .i64 .i64 _ _ _ (opT' 130 5 rfl rfl) (opT' 135 10 rfl rfl) (fun W => (run_add3 _ _ (by omega) W).trans (by rw [hkey]))) ?_
            refine wpI_cons (is (.pointer (some ⟨wo.heap.size, c', none⟩))) (stable_is _) (step_idx (go0 rfl) 43 (.tmp 11) (.tmp 136) rfl _ _ _ (opO' 11 (.pointer (some ⟨wo.heap.size, 0, none⟩)) rfl rfl) (opT' 136 11 rfl rfl) (fun W => run_idx43 _ c' hcn W)) ?_
            refine wpI_cons (is (.int .i64 ((N c' : Nat) : Int))) (stable_is _) (step_cell (go0 rfl) 3 (.tmp 137) rfl ⟨wo.heap.size, c', none⟩ _ (opT' 137 12 rfl rfl) (fun W h => cellUp h pc) (fun W => by kernel_rfl)) ?_
            refine wpI_cons (is (.int .i64 ((N c' + 1 : Nat) : Int))) (stable_is _) (step_int (go0 rfl) .add 3 3 (.tmp 138) (.const (.int .i64 1)) rfl .i64 .i64 _ _ _ (opT' 138 13 rfl rfl) (opC _) (fun W => (run_add3 _ _ (by omega) W).trans (by simp))) ?_
            refine wpI_cons (is (.pointer (some ⟨wo.heap.size, c', none⟩))) (stable_is _) (step_idx (go0 rfl) 43 (.tmp 11) (.tmp 136) rfl _ _ _ (opO' 11 (.pointer (some ⟨wo.heap.size, 0, none⟩)) rfl rfl) (opT' 136 11 rfl rfl) (fun W => run_idx43 _ c' hcn W)) ?_
            refine wpI_nil ?_
            refine ⟨?_, ?_, ?_⟩
            · repeat (first | exact pure_base | refine pure_upd _ _ ?_)
            · intro a W K
              have k1 : a.tmps.getD 140 undef = .pointer (some ⟨wo.heap.size, c', none⟩) := K.got 140 15 rfl
              have k2 : a.tmps.getD 139 undef = .int .i64 ((N c' + 1 : Nat) : Int) := K.got 139 14 rfl
              have hW : Below wr.heap.size wr W := K.inv
              exact ⟨_, exec_store3 _ _ rfl ⟨wo.heap.size, c', none⟩ _ _ k1 k2 W (cellUp hW pc) ((HNN.out.2.below hW).free c'), W, hW, rfl⟩
            · rintro v4 w8 ⟨W, hW, rfl⟩ _
              have HZ := Lib.hid (And.intro ((HK.out.1.below hW).setN (HNN.out.2.below hW) c' (N c' + 1)) (HK.out.2.other (W' := W.setCell ⟨wo.heap.size, c', none⟩ (.int .i64 ((N c' + 1 : Nat) : Int))) (fun b off e => by have := HAG.out b off e; simp only; omega) (fun j hj hne => (setCell_other W ⟨wo.heap.size, c', none⟩ _ j hne).trans (hW.block j hj))))
              clear hW
              simp only [putAll, Act.put, List.setIfInBounds_toArray, List.set_cons_zero, List.set_cons_succ, Nat.zero_add, Nat.reduceAdd]
              generalize W.setCell ⟨wo.heap.size, c', none⟩ (.int .i64 ((N c' + 1 : Nat) : Int)) = w9 at *
              go_wp2_with fail
              go_roundw
              case rel => exact ⟨k + 1, by omega, by simp, HZ.out.1.congr (fun t _ => by rw [HNN.out.1 t]; simp [HI2.out]) (fun t _ => by simp [HI2.out]), HZ.out.2⟩
              case measure =>
                simp [intOf]
                omega
          · have hi2i : ¬ ((i : Nat) : Int) < 2 := by omega
            obtain ⟨N, hN0⟩ : ∃ N : Nat → Nat, N = fun t => shM a b c d i t + ((keysOf 32 L).take k).count t := ⟨_, rfl⟩
            have hcat : CntAt wr 43 (wo.heap.size + 1) 1024 N := HK.out.1.cm.congr (fun t _ => by rw [hN0]; simp [hi2])
            have hNc : N c' ≤ 2000 := by
              rw [hN0]
              have h1 := shM_le a b c d i c'
              have h2 : ((keysOf 32 L).take k).count c' ≤ ((keysOf 32 L).take k).length := List.count_le_length
              have h3 : ((keysOf 32 L).take k).length ≤ k := by simp; omega
              simp only
              omega
            have hNn : ∀ t, (if t = c' then N c' + 1 else N t) = shM a b c d i t + ((keysOf 32 L).take (k + 1)).count t := fun t => by
              have e : (keysOf 32 L).take (k + 1) = (keysOf 32 L).take k ++ [c'] := by
                rw [List.take_add_one]
                unfold keysOf
                rw [List.getElem?_map, HGX.out.1, ← HGX.out.2]; rfl
              rw [e, List.count_append, hN0]
              by_cases h : t = c'
              · subst h; simp; omega
              · rw [if_neg h]
                simp [Ne.symm h]
            have HNN := Lib.hid (And.intro hNn hcat)
            have pc := hcat.cell c' hcn
            have HI2 := Lib.hid hi2
            clear hN0 hNn hcat hi2
            go_wp2_with fail
            refine wp_region_store 175 rfl mixed (by kernel_rfl) (by rfl) (UpC wr) (UpC.start wr) (fun W' => ∃ W, Below wr.heap.size wr W ∧ W' = W.setCell ⟨wo.heap.size + 1, c', none⟩ (.int .i64 ((N c' + 1 : Nat) : Int))) rfl rfl (by kernel_rfl) ?_
            refine wpI_cons (is (.slice (some ⟨b1, 0, none⟩) L.length cap)) (stable_is _) (step_move (go0 rfl) (.tmp 15) rfl (opO' 15 (.slice (some ⟨b1, 0, none⟩) L.length cap) rfl rfl)) ?_
            refine wpI_cons (is (.int .i64 ((k : Nat) : Int))) (stable_is _) (step_move (go0 rfl) (.tmp 16) rfl (opO' 16 (.int .i64 ((k : Nat) : Int)) rfl rfl)) ?_
            refine wpI_cons (is (.pointer (some ⟨b1, k * 5, none⟩))) (stable_is _) (step_idx (go0 rfl) 38 (.tmp 141) (.tmp 142) rfl _ _ _ (opT' 141 0 rfl rfl) (opT' 142 1 rfl rfl) (fun W => run_idx38 b1 (L.length) cap k hlt W)) ?_
            refine wpI_cons (is (.pointer (some ⟨b1, k * 5 + 1, none⟩))) (stable_is _) (step_field (go0 rfl) 31 1 (.tmp 143) rfl _ _ (opT' 143 2 rfl rfl) (fun W => run_f31_1 _ _ W)) ?_
            refine wpI_cons (is (.int .i64 x.y)) (stable_is _) (step_cell (go0 rfl) 3 (.tmp 144) rfl ⟨b1, k * 5 + 1, none⟩ _ (opT' 144 3 rfl rfl) (fun W h => cellUp h p1) (fun W => by kernel_rfl)) ?_
            refine wpI_cons (is (.int .i64 (32 * x.y))) (stable_is _) (step_int (go0 rfl) .mul 3 3 (.const (.int .i64 32)) (.tmp 145) rfl .i64 .i64 _ _ _ (opC _) (opT' 145 4 rfl rfl) (fun W => run_mul3 _ _ (by omega) W)) ?_
            refine wpI_cons (is (.slice (some ⟨b1, 0, none⟩) L.length cap)) (stable_is _) (step_move (go0 rfl) (.tmp 15) rfl (opO' 15 (.slice (some ⟨b1, 0, none⟩) L.length cap) rfl rfl)) ?_
            refine wpI_cons (is (.int .i64 ((k : Nat) : Int))) (stable_is _) (step_move (go0 rfl) (.tmp 16) rfl (opO' 16 (.int .i64 ((k : Nat) : Int)) rfl rfl)) ?_
            refine wpI_cons (is (.pointer (some ⟨b1, k * 5, none⟩))) (stable_is _) (step_idx (go0 rfl) 38 (.tmp 147) (.tmp 148) rfl _ _ _ (opT' 147 6 rfl rfl) (opT' 148 7 rfl rfl) (fun W => run_idx38 b1 (L.length) cap k hlt W)) ?_
            refine wpI_cons (is (.pointer (some ⟨b1, k * 5, none⟩))) (stable_is _) (step_field (go0 rfl) 31 0 (.tmp 149) rfl _ _ (opT' 149 8 rfl rfl) (fun W => run_f31_0 _ _ W)) ?_
            refine wpI_cons (is (.int .i64 x.x)) (stable_is _) (step_cell (go0 rfl) 3 (.tmp 150) rfl ⟨b1, k * 5, none⟩ _ (opT' 150 9 rfl rfl) (fun W h => cellUp h p0) (fun W => by kernel_rfl)) ?_
            refine wpI_cons (is (.int .i64 ((c' : Nat) : Int))) (stable_is _) (step_int (go0 rfl) .add 3 3 (.tmp 146) (.tmp 151) rfl .i64 .i64 _ _ _ (opT' 146 5 rfl rfl) (opT' 151 10 rfl rfl) (fun W => (run_add3 _ _ (by omega) W).trans (by rw [hkey]))) ?_
            refine wpI_cons (is (.pointer (some ⟨wo.heap.size + 1, c', none⟩))) (stable_is _) (step_idx (go0 rfl) 43 (.tmp 12) (.tmp 152) rfl _ _ _ (opO' 12 (.pointer (some ⟨wo.heap.size + 1, 0, none⟩)) rfl rfl) (opT' 152 11 rfl rfl) (fun W => run_idx43 _ c' hcn W)) ?_
            refine wpI_cons (is (.int .i64 ((N c' : Nat) : Int))) (stable_is _) (step_cell (go0 rfl) 3 (.tmp 153) rfl ⟨wo.heap.size + 1, c', none⟩ _ (opT' 153 12 rfl rfl) (fun W h => cellUp h pc) (fun W => by kernel_rfl)) ?_
            refine wpI_cons (is (.int .i64 ((N c' + 1 : Nat) : Int))) (stable_is _) (step_int (go0 rfl) .add 3 3 (.tmp 154) (.const (.int .i64 1)) rfl .i64 .i64 _ _ _ (opT' 154 13 rfl rfl) (opC _) (fun W => (run_add3 _ _ (by omega) W).trans (by simp))) ?_
            refine wpI_cons (is (.pointer (some ⟨wo.heap.size + 1, c', none⟩))) (stable_is _) (step_idx (go0 rfl) 43 (.tmp 12) (.tmp 152) rfl _ _ _ (opO' 12 (.pointer (some ⟨wo.heap.size + 1, 0, none⟩)) rfl rfl) (opT' 152 11 rfl rfl) (fun W => run_idx43 _ c' hcn W)) ?_
            refine wpI_nil ?_
            refine ⟨?_, ?_, ?_⟩
            · repeat (first | exact pure_base | refine pure_upd _ _ ?_)
            · intro a W K
              have k1 : a.tmps.getD 156 undef = .pointer (some ⟨wo.heap.size + 1, c', none⟩) := K.got 156 15 rfl
              have k2 : a.tmps.getD 155 undef = .int .i64 ((N c' + 1 : Nat) : Int) := K.got 155 14 rfl
              have hW : Below wr.heap.size wr W := K.inv
              exact ⟨_, exec_store3 _ _ rfl ⟨wo.heap.size + 1, c', none⟩ _ _ k1 k2 W (cellUp hW pc) ((HNN.out.2.below hW).free c'), W, hW, rfl⟩
            · rintro v4 w8 ⟨W, hW, rfl⟩ _
              have HZ := Lib.hid (And.intro ((HK.out.1.below hW).setM (HNN.out.2.below hW) c' (N c' + 1)) (HK.out.2.other (W' := W.setCell ⟨wo.heap.size + 1, c', none⟩ (.int .i64 ((N c' + 1 : Nat) : Int))) (fun b off e => by have := HAG.out b off e; simp only; omega) (fun j hj hne => (setCell_other W ⟨wo.heap.size + 1, c', none⟩ _ j hne).trans (hW.block j hj))))
              clear hW
              simp only [putAll, Act.put, List.setIfInBounds_toArray, List.set_cons_zero, List.set_cons_succ, Nat.zero_add, Nat.reduceAdd]
              generalize W.setCell ⟨wo.heap.size + 1, c', none⟩ (.int .i64 ((N c' + 1 : Nat) : Int)) = w9 at *
              go_wp2_with fail
              go_roundw
              case rel => exact ⟨k + 1, by omega, by simp, HZ.out.1.congr (fun t _ => by simp [HI2.out]) (fun t _ => by rw [HNN.out.1 t]; simp [HI2.out]), HZ.out.2⟩
              case measure =>
                simp [intOf]
                omega
    have hi4 : i < 4 := by omega
    have hi4i : ((i : Nat) : Int) < 4 := by omega
    have hj4 : (i + 1) % 4 < 4 := Nat.mod_lt _ (by omega)
    have hk4 : (i + 2) % 4 < 4 := Nat.mod_lt _ (by omega)
    have HO := Lib.hid (show (Below w.heap.size w wr ∧ SpotAt wr w.heap.size a) ∧ QuadAt wr (w.heap.size + 1 + 1 + 1 + 1) a b c d from ⟨⟨HO0.out.1, HO0.out.2.1.1⟩, HO0.out.2.2⟩)
    obtain ⟨q0, hq0⟩ : ∃ q, q = nth4 a b c d i := ⟨_, rfl⟩
    obtain ⟨q1, hq1⟩ : ∃ q, q = nth4 a b c d ((i + 1) % 4) := ⟨_, rfl⟩
    obtain ⟨q2, hq2⟩ : ∃ q, q = nth4 a b c d ((i + 2) % 4) := ⟨_, rfl⟩
    have hqr : ∀ W, QuadAt W (w.heap.size + 1 + 1 + 1 + 1) a b c d → W.rangeAt (w.heap.size + 1 + 1 + 1 + 1) (i * 6) (spotA q0).toList ∧ W.rangeAt (w.heap.size + 1 + 1 + 1 + 1) ((i + 1) % 4 * 6) (spotA q1).toList ∧ W.rangeAt (w.heap.size + 1 + 1 + 1 + 1) ((i + 2) % 4 * 6) (spotA q2).toList := fun W h => by rw [hq0, hq1, hq2]; exact ⟨h.r i hi4, h.r _ hj4, h.r _ hk4⟩
    have HQR := Lib.hid hqr
    have HQQ := Lib.hid (And.intro hq0 (And.intro hq1 hq2))
    clear hqr hq0 hq1 hq2
    by_cases hall : allOk q0 q1 q2 = true
    rotate_left 1
    · have hall := Bool.eq_false_iff.2 hall
      go_wp2_with fail
      refine wp_region_link 175 mixed (by kernel_rfl) (by rfl) (UpC wr) (UpC.start wr) ?_
      refine wpL_cons (is (.int .i64 ((i : Nat) : Int))) (stable_is _) (step_move (go0 rfl) (.tmp 10) rfl (opO' 10 (.int .i64 ((i : Nat) : Int)) rfl rfl)) ?_
      refine wpL_cons (is (.pointer (some ⟨w.heap.size + 1 + 1 + 1 + 1, i * 6, none⟩))) (stable_is _) (step_idx (go0 rfl) 42 (.tmp 9) (.tmp 27) rfl _ _ _ (opO' 9 (.pointer (some ⟨w.heap.size + 1 + 1 + 1 + 1, 0, none⟩)) rfl rfl) (opT' 27 0 rfl rfl) (fun W => run_idx42 _ _ hi4 W)) ?_
      refine wpL_cons (is (.agg (spotA q0))) (stable_is _) (step_load23 (go0 rfl) (.tmp 28) rfl (w.heap.size + 1 + 1 + 1 + 1) (i * 6) q0 (opT' 28 1 rfl rfl) (fun W h => (HQR.out W (QuadAt.below HO.out.2 h)).1)) ?_
      refine wpL_cons (is (.int .i64 ((i : Nat) : Int))) (stable_is _) (step_move (go0 rfl) (.tmp 10) rfl (opO' 10 (.int .i64 ((i : Nat) : Int)) rfl rfl)) ?_
      refine wpL_cons (is (.int .i64 ((i + 1 : Nat) : Int))) (stable_is _) (step_int (go0 rfl) .add 3 3 (.tmp 30) (.const (.int .i64 1)) rfl .i64 .i64 _ _ _ (opT' 30 3 rfl rfl) (opC _) (fun W => (run_add3 _ _ (by omega) W).trans (by simp))) ?_
      refine wpL_cons (is (.int .i64 (((i + 1) % 4 : Nat) : Int))) (stable_is _) (step_int (go0 rfl) .rem 3 3 (.tmp 31) (.const (.int .i64 4)) rfl .i64 .i64 _ _ _ (opT' 31 4 rfl rfl) (opC _) (fun W => run_rem4 _ W)) ?_
      refine wpL_cons (is (.pointer (some ⟨w.heap.size + 1 + 1 + 1 + 1, ((i + 1) % 4) * 6, none⟩))) (stable_is _) (step_idx (go0 rfl) 42 (.tmp 9) (.tmp 32) rfl _ _ _ (opO' 9 (.pointer (some ⟨w.heap.size + 1 + 1 + 1 + 1, 0, none⟩)) rfl rfl) (opT' 32 5 rfl rfl) (fun W => run_idx42 _ _ hj4 W)) ?_
      refine wpL_cons (is (.agg (spotA q1))) (stable_is _) (step_load23 (go0 rfl) (.tmp 33) rfl (w.heap.size + 1 + 1 + 1 + 1) (((i + 1) % 4) * 6) q1 (opT' 33 6 rfl rfl) (fun W h => (HQR.out W (QuadAt.below HO.out.2 h)).2.1)) ?_
      refine wpL_cons (is (.int .i64 ((i : Nat) : Int))) (stable_is _) (step_move (go0 rfl) (.tmp 10) rfl (opO' 10 (.int .i64 ((i : Nat) : Int)) rfl rfl)) ?_
      refine wpL_cons (is (.int .i64 ((i + 2 : Nat) : Int))) (stable_is _) (step_int (go0 rfl) .add 3 3 (.tmp 35) (.const (.int .i64 2)) rfl .i64 .i64 _ _ _ (opT' 35 8 rfl rfl) (opC _) (fun W => (run_add3 _ _ (by omega) W).trans (by simp))) ?_
      refine wpL_cons (is (.int .i64 (((i + 2) % 4 : Nat) : Int))) (stable_is _) (step_int (go0 rfl) .rem 3 3 (.tmp 36) (.const (.int .i64 4)) rfl .i64 .i64 _ _ _ (opT' 36 9 rfl rfl) (opC _) (fun W => run_rem4 _ W)) ?_
      refine wpL_cons (is (.pointer (some ⟨w.heap.size + 1 + 1 + 1 + 1, ((i + 2) % 4) * 6, none⟩))) (stable_is _) (step_idx (go0 rfl) 42 (.tmp 9) (.tmp 37) rfl _ _ _ (opO' 9 (.pointer (some ⟨w.heap.size + 1 + 1 + 1 + 1, 0, none⟩)) rfl rfl) (opT' 37 10 rfl rfl) (fun W => run_idx42 _ _ hk4 W)) ?_
      refine wpL_cons (is (.agg (spotA q2))) (stable_is _) (step_load23 (go0 rfl) (.tmp 38) rfl (w.heap.size + 1 + 1 + 1 + 1) (((i + 2) % 4) * 6) q2 (opT' 38 11 rfl rfl) (fun W h => (HQR.out W (QuadAt.below HO.out.2 h)).2.2)) ?_
      refine wpL_cons (is (.agg (triA q0 q1 q2))) (stable_is _) (step_build24 (go0 rfl) (.tmp 29) (.tmp 34) (.tmp 39) rfl q0 q1 q2 (opT' 29 2 rfl rfl) (opT' 34 7 rfl rfl) (opT' 39 12 rfl rfl)) ?_
      refine wpL_cons (is (.bool false)) (stable_is _) (step_small (go0 rfl) (.tmp 40) _ rfl q0 q1 q2 _ hall (opT' 40 13 rfl rfl)) ?_
      refine wpL_cons (is (.bool true)) (stable_is _) (step_not (go0 rfl) 4 (.tmp 41) rfl false (opT' 41 14 rfl rfl)) ?_
      refine wpL_cons (is (.bool true)) (stable_is _) (step_move (go0 rfl) (.tmp 42) rfl (opT' 42 15 rfl rfl)) ?_
      refine wpL_cons (is (undef)) (stable_is _) (step_off 16 false 43 rfl rfl rfl rfl) ?_
      refine wpL_cons (is (undef)) (stable_is _) (step_off 16 false 43 rfl rfl rfl rfl) ?_
      refine wpL_cons (is (undef)) (stable_is _) (step_off 16 false 43 rfl rfl rfl rfl) ?_
      refine wpL_cons (is (undef)) (stable_is _) (step_off 16 false 43 rfl rfl rfl rfl) ?_
      refine wpL_cons (is (undef)) (stable_is _) (step_off 16 false 43 rfl rfl rfl rfl) ?_
      refine wpL_cons (is (undef)) (stable_is _) (step_off 16 false 43 rfl rfl rfl rfl) ?_
      refine wpL_cons (is (undef)) (stable_is _) (step_off 16 false 43 rfl rfl rfl rfl) ?_
      refine wpL_cons (is (undef)) (stable_is _) (step_off 16 false 43 rfl rfl rfl rfl) ?_
      refine wpL_cons (is (undef)) (stable_is _) (step_off 16 false 43 rfl rfl rfl rfl) ?_
      refine wpL_cons (is (undef)) (stable_is _) (step_off 16 false 43 rfl rfl rfl rfl) ?_
      refine wpL_cons (is (undef)) (stable_is _) (step_off 16 false 43 rfl rfl rfl rfl) ?_
      refine wpL_cons (is (undef)) (stable_is _) (step_off 16 false 43 rfl rfl rfl rfl) ?_
      refine wpL_cons (is (undef)) (stable_is _) (step_off 16 false 43 rfl rfl rfl rfl) ?_
      refine wpL_cons (is (undef)) (stable_is _) (step_off 16 false 43 rfl rfl rfl rfl) ?_
      refine wpL_cons (is (undef)) (stable_is _) (step_off 16 false 43 rfl rfl rfl rfl) ?_
      refine wpL_cons (is (undef)) (stable_is _) (step_off 16 false 43 rfl rfl rfl rfl) ?_
      refine wpL_cons (is (.bool true)) (stable_is _) (step_pickT (go0 rfl) (.tmp 43) (.const (.bool true)) (.tmp 59) rfl (opT' 43 16 rfl rfl) (opC _)) ?_
      refine wpL_nil ?_
      intro v w3 hI3 _ hdone _
      have e60 : v 33 = .bool true := hdone 33 60 rfl
      have hI3 : Below wr.heap.size wr w3 := hI3
      have HP := Lib.hid (HO0.out.below hI3)
      clear hdone hI3
      simp only [putAll, Act.put, List.setIfInBounds_toArray, List.set_cons_zero, List.set_cons_succ, Nat.zero_add, Nat.reduceAdd, e60]
      go_wp2_with fail
      refine (awake_walk _).mono ?_
      rintro e wb ⟨rfl, hb⟩
      have HX := Lib.hid (below_trans HP.out.1 hb)
      clear hb
      go_wp2_with fail
      go_ret
      exact ⟨rfl, HX.out⟩
    have hok := (allOk_iff q0 q1 q2).1 hall
    by_cases har : area q0 q1 q2 ≤ 0
    · go_wp2_with fail
      refine wp_region_link 175 mixed (by kernel_rfl) (by rfl) (UpC wr) (UpC.start wr) ?_
      refine wpL_cons (is (.int .i64 ((i : Nat) : Int))) (stable_is _) (step_move (go0 rfl) (.tmp 10) rfl (opO' 10 (.int .i64 ((i : Nat) : Int)) rfl rfl)) ?_
      refine wpL_cons (is (.pointer (some ⟨w.heap.size + 1 + 1 + 1 + 1, i * 6, none⟩))) (stable_is _) (step_idx (go0 rfl) 42 (.tmp 9) (.tmp 27) rfl _ _ _ (opO' 9 (.pointer (some ⟨w.heap.size + 1 + 1 + 1 + 1, 0, none⟩)) rfl rfl) (opT' 27 0 rfl rfl) (fun W => run_idx42 _ _ hi4 W)) ?_
      refine wpL_cons (is (.agg (spotA q0))) (stable_is _) (step_load23 (go0 rfl) (.tmp 28) rfl (w.heap.size + 1 + 1 + 1 + 1) (i * 6) q0 (opT' 28 1 rfl rfl) (fun W h => (HQR.out W (QuadAt.below HO.out.2 h)).1)) ?_
      refine wpL_cons (is (.int .i64 ((i : Nat) : Int))) (stable_is _) (step_move (go0 rfl) (.tmp 10) rfl (opO' 10 (.int .i64 ((i : Nat) : Int)) rfl rfl)) ?_
      refine wpL_cons (is (.int .i64 ((i + 1 : Nat) : Int))) (stable_is _) (step_int (go0 rfl) .add 3 3 (.tmp 30) (.const (.int .i64 1)) rfl .i64 .i64 _ _ _ (opT' 30 3 rfl rfl) (opC _) (fun W => (run_add3 _ _ (by omega) W).trans (by simp))) ?_
      refine wpL_cons (is (.int .i64 (((i + 1) % 4 : Nat) : Int))) (stable_is _) (step_int (go0 rfl) .rem 3 3 (.tmp 31) (.const (.int .i64 4)) rfl .i64 .i64 _ _ _ (opT' 31 4 rfl rfl) (opC _) (fun W => run_rem4 _ W)) ?_
      refine wpL_cons (is (.pointer (some ⟨w.heap.size + 1 + 1 + 1 + 1, ((i + 1) % 4) * 6, none⟩))) (stable_is _) (step_idx (go0 rfl) 42 (.tmp 9) (.tmp 32) rfl _ _ _ (opO' 9 (.pointer (some ⟨w.heap.size + 1 + 1 + 1 + 1, 0, none⟩)) rfl rfl) (opT' 32 5 rfl rfl) (fun W => run_idx42 _ _ hj4 W)) ?_
      refine wpL_cons (is (.agg (spotA q1))) (stable_is _) (step_load23 (go0 rfl) (.tmp 33) rfl (w.heap.size + 1 + 1 + 1 + 1) (((i + 1) % 4) * 6) q1 (opT' 33 6 rfl rfl) (fun W h => (HQR.out W (QuadAt.below HO.out.2 h)).2.1)) ?_
      refine wpL_cons (is (.int .i64 ((i : Nat) : Int))) (stable_is _) (step_move (go0 rfl) (.tmp 10) rfl (opO' 10 (.int .i64 ((i : Nat) : Int)) rfl rfl)) ?_
      refine wpL_cons (is (.int .i64 ((i + 2 : Nat) : Int))) (stable_is _) (step_int (go0 rfl) .add 3 3 (.tmp 35) (.const (.int .i64 2)) rfl .i64 .i64 _ _ _ (opT' 35 8 rfl rfl) (opC _) (fun W => (run_add3 _ _ (by omega) W).trans (by simp))) ?_
      refine wpL_cons (is (.int .i64 (((i + 2) % 4 : Nat) : Int))) (stable_is _) (step_int (go0 rfl) .rem 3 3 (.tmp 36) (.const (.int .i64 4)) rfl .i64 .i64 _ _ _ (opT' 36 9 rfl rfl) (opC _) (fun W => run_rem4 _ W)) ?_
      refine wpL_cons (is (.pointer (some ⟨w.heap.size + 1 + 1 + 1 + 1, ((i + 2) % 4) * 6, none⟩))) (stable_is _) (step_idx (go0 rfl) 42 (.tmp 9) (.tmp 37) rfl _ _ _ (opO' 9 (.pointer (some ⟨w.heap.size + 1 + 1 + 1 + 1, 0, none⟩)) rfl rfl) (opT' 37 10 rfl rfl) (fun W => run_idx42 _ _ hk4 W)) ?_
      refine wpL_cons (is (.agg (spotA q2))) (stable_is _) (step_load23 (go0 rfl) (.tmp 38) rfl (w.heap.size + 1 + 1 + 1 + 1) (((i + 2) % 4) * 6) q2 (opT' 38 11 rfl rfl) (fun W h => (HQR.out W (QuadAt.below HO.out.2 h)).2.2)) ?_
      refine wpL_cons (is (.agg (triA q0 q1 q2))) (stable_is _) (step_build24 (go0 rfl) (.tmp 29) (.tmp 34) (.tmp 39) rfl q0 q1 q2 (opT' 29 2 rfl rfl) (opT' 34 7 rfl rfl) (opT' 39 12 rfl rfl)) ?_
      refine wpL_cons (is (.bool true)) (stable_is _) (step_small (go0 rfl) (.tmp 40) _ rfl q0 q1 q2 _ hall (opT' 40 13 rfl rfl)) ?_
      refine wpL_cons (is (.bool false)) (stable_is _) (step_not (go0 rfl) 4 (.tmp 41) rfl true (opT' 41 14 rfl rfl)) ?_
      refine wpL_cons (is (.bool false)) (stable_is _) (step_move (go0 rfl) (.tmp 42) rfl (opT' 42 15 rfl rfl)) ?_
      refine wpL_cons (is (.int .i64 ((i : Nat) : Int))) (stable_is _) (step_move (go1 16 false 43 rfl rfl rfl rfl) (.tmp 10) rfl (opO' 10 (.int .i64 ((i : Nat) : Int)) rfl rfl)) ?_
      refine wpL_cons (is (.pointer (some ⟨w.heap.size + 1 + 1 + 1 + 1, i * 6, none⟩))) (stable_is _) (step_idx (go1 16 false 43 rfl rfl rfl rfl) 42 (.tmp 9) (.tmp 44) rfl _ _ _ (opO' 9 (.pointer (some ⟨w.heap.size + 1 + 1 + 1 + 1, 0, none⟩)) rfl rfl) (opT' 44 17 rfl rfl) (fun W => run_idx42 _ _ hi4 W)) ?_
      refine wpL_cons (is (.agg (spotA q0))) (stable_is _) (step_load23 (go1 16 false 43 rfl rfl rfl rfl) (.tmp 45) rfl (w.heap.size + 1 + 1 + 1 + 1) (i * 6) q0 (opT' 45 18 rfl rfl) (fun W h => (HQR.out W (QuadAt.below HO.out.2 h)).1)) ?_
      refine wpL_cons (is (.int .i64 ((i : Nat) : Int))) (stable_is _) (step_move (go1 16 false 43 rfl rfl rfl rfl) (.tmp 10) rfl (opO' 10 (.int .i64 ((i : Nat) : Int)) rfl rfl)) ?_
      refine wpL_cons (is (.int .i64 ((i + 1 : Nat) : Int))) (stable_is _) (step_int (go1 16 false 43 rfl rfl rfl rfl) .add 3 3 (.tmp 47) (.const (.int .i64 1)) rfl .i64 .i64 _ _ _ (opT' 47 20 rfl rfl) (opC _) (fun W => (run_add3 _ _ (by omega) W).trans (by simp))) ?_
      refine wpL_cons (is (.int .i64 (((i + 1) % 4 : Nat) : Int))) (stable_is _) (step_int (go1 16 false 43 rfl rfl rfl rfl) .rem 3 3 (.tmp 48) (.const (.int .i64 4)) rfl .i64 .i64 _ _ _ (opT' 48 21 rfl rfl) (opC _) (fun W => run_rem4 _ W)) ?_
      refine wpL_cons (is (.pointer (some ⟨w.heap.size + 1 + 1 + 1 + 1, ((i + 1) % 4) * 6, none⟩))) (stable_is _) (step_idx (go1 16 false 43 rfl rfl rfl rfl) 42 (.tmp 9) (.tmp 49) rfl _ _ _ (opO' 9 (.pointer (some ⟨w.heap.size + 1 + 1 + 1 + 1, 0, none⟩)) rfl rfl) (opT' 49 22 rfl rfl) (fun W => run_idx42 _ _ hj4 W)) ?_
      refine wpL_cons (is (.agg (spotA q1))) (stable_is _) (step_load23 (go1 16 false 43 rfl rfl rfl rfl) (.tmp 50) rfl (w.heap.size + 1 + 1 + 1 + 1) (((i + 1) % 4) * 6) q1 (opT' 50 23 rfl rfl) (fun W h => (HQR.out W (QuadAt.below HO.out.2 h)).2.1)) ?_
      refine wpL_cons (is (.int .i64 ((i : Nat) : Int))) (stable_is _) (step_move (go1 16 false 43 rfl rfl rfl rfl) (.tmp 10) rfl (opO' 10 (.int .i64 ((i : Nat) : Int)) rfl rfl)) ?_
      refine wpL_cons (is (.int .i64 ((i + 2 : Nat) : Int))) (stable_is _) (step_int (go1 16 false 43 rfl rfl rfl rfl) .add 3 3 (.tmp 52) (.const (.int .i64 2)) rfl .i64 .i64 _ _ _ (opT' 52 25 rfl rfl) (opC _) (fun W => (run_add3 _ _ (by omega) W).trans (by simp))) ?_
      refine wpL_cons (is (.int .i64 (((i + 2) % 4 : Nat) : Int))) (stable_is _) (step_int (go1 16 false 43 rfl rfl rfl rfl) .rem 3 3 (.tmp 53) (.const (.int .i64 4)) rfl .i64 .i64 _ _ _ (opT' 53 26 rfl rfl) (opC _) (fun W => run_rem4 _ W)) ?_
      refine wpL_cons (is (.pointer (some ⟨w.heap.size + 1 + 1 + 1 + 1, ((i + 2) % 4) * 6, none⟩))) (stable_is _) (step_idx (go1 16 false 43 rfl rfl rfl rfl) 42 (.tmp 9) (.tmp 54) rfl _ _ _ (opO' 9 (.pointer (some ⟨w.heap.size + 1 + 1 + 1 + 1, 0, none⟩)) rfl rfl) (opT' 54 27 rfl rfl) (fun W => run_idx42 _ _ hk4 W)) ?_
      refine wpL_cons (is (.agg (spotA q2))) (stable_is _) (step_load23 (go1 16 false 43 rfl rfl rfl rfl) (.tmp 55) rfl (w.heap.size + 1 + 1 + 1 + 1) (((i + 2) % 4) * 6) q2 (opT' 55 28 rfl rfl) (fun W h => (HQR.out W (QuadAt.below HO.out.2 h)).2.2)) ?_
      refine wpL_cons (is (.agg (triA q0 q1 q2))) (stable_is _) (step_build24 (go1 16 false 43 rfl rfl rfl rfl) (.tmp 46) (.tmp 51) (.tmp 56) rfl q0 q1 q2 (opT' 46 19 rfl rfl) (opT' 51 24 rfl rfl) (opT' 56 29 rfl rfl)) ?_
      refine wpL_cons (is (.int .i64 (area q0 q1 q2))) (stable_is _) (step_rarea (go1 16 false 43 rfl rfl rfl rfl) (.tmp 57) _ rfl q0 q1 q2 hok.1 hok.2.1 hok.2.2 (opT' 57 30 rfl rfl)) ?_
      refine wpL_cons (is (.bool true)) (stable_is _) (step_int (go1 16 false 43 rfl rfl rfl rfl) .leq 3 3 (.tmp 58) (.const (.int .i64 0)) rfl .i64 .i64 _ _ _ (opT' 58 31 rfl rfl) (opC _) (fun W => run_leq3 _ _ true (decide_eq_true (by omega)) W)) ?_
      refine wpL_cons (is (.bool true)) (stable_is _) (step_pickF (go0 rfl) (.tmp 43) (.const (.bool true)) (.tmp 59) rfl (opT' 43 16 rfl rfl) (opT' 59 32 rfl rfl)) ?_
      refine wpL_nil ?_
      intro v w3 hI3 _ hdone _
      have e60 : v 33 = .bool true := hdone 33 60 rfl
      have hI3 : Below wr.heap.size wr w3 := hI3
      have HP := Lib.hid (HO0.out.below hI3)
      clear hdone hI3
      simp only [putAll, Act.put, List.setIfInBounds_toArray, List.set_cons_zero, List.set_cons_succ, Nat.zero_add, Nat.reduceAdd, e60]
      go_wp2_with fail
      refine (awake_walk _).mono ?_
      rintro e wb ⟨rfl, hb⟩
      have HX := Lib.hid (below_trans HP.out.1 hb)
      clear hb
      go_wp2_with fail
      go_ret
      exact ⟨rfl, HX.out⟩
    · go_wp2_with fail
      refine wp_region_link 175 mixed (by kernel_rfl) (by rfl) (UpC wr) (UpC.start wr) ?_
      refine wpL_cons (is (.int .i64 ((i : Nat) : Int))) (stable_is _) (step_move (go0 rfl) (.tmp 10) rfl (opO' 10 (.int .i64 ((i : Nat) : Int)) rfl rfl)) ?_
      refine wpL_cons (is (.pointer (some ⟨w.heap.size + 1 + 1 + 1 + 1, i * 6, none⟩))) (stable_is _) (step_idx (go0 rfl) 42 (.tmp 9) (.tmp 27) rfl _ _ _ (opO' 9 (.pointer (some ⟨w.heap.size + 1 + 1 + 1 + 1, 0, none⟩)) rfl rfl) (opT' 27 0 rfl rfl) (fun W => run_idx42 _ _ hi4 W)) ?_
      refine wpL_cons (is (.agg (spotA q0))) (stable_is _) (step_load23 (go0 rfl) (.tmp 28) rfl (w.heap.size + 1 + 1 + 1 + 1) (i * 6) q0 (opT' 28 1 rfl rfl) (fun W h => (HQR.out W (QuadAt.below HO.out.2 h)).1)) ?_
      refine wpL_cons (is (.int .i64 ((i : Nat) : Int))) (stable_is _) (step_move (go0 rfl) (.tmp 10) rfl (opO' 10 (.int .i64 ((i : Nat) : Int)) rfl rfl)) ?_
      refine wpL_cons (is (.int .i64 ((i + 1 : Nat) : Int))) (stable_is _) (step_int (go0 rfl) .add 3 3 (.tmp 30) (.const (.int .i64 1)) rfl .i64 .i64 _ _ _ (opT' 30 3 rfl rfl) (opC _) (fun W => (run_add3 _ _ (by omega) W).trans (by simp))) ?_
      refine wpL_cons (is (.int .i64 (((i + 1) % 4 : Nat) : Int))) (stable_is _) (step_int (go0 rfl) .rem 3 3 (.tmp 31) (.const (.int .i64 4)) rfl .i64 .i64 _ _ _ (opT' 31 4 rfl rfl) (opC _) (fun W => run_rem4 _ W)) ?_
      refine wpL_cons (is (.pointer (some ⟨w.heap.size + 1 + 1 + 1 + 1, ((i + 1) % 4) * 6, none⟩))) (stable_is _) (step_idx (go0 rfl) 42 (.tmp 9) (.tmp 32) rfl _ _ _ (opO' 9 (.pointer (some ⟨w.heap.size + 1 + 1 + 1 + 1, 0, none⟩)) rfl rfl) (opT' 32 5 rfl rfl) (fun W => run_idx42 _ _ hj4 W)) ?_
      refine wpL_cons (is (.agg (spotA q1))) (stable_is _) (step_load23 (go0 rfl) (.tmp 33) rfl (w.heap.size + 1 + 1 + 1 + 1) (((i + 1) % 4) * 6) q1 (opT' 33 6 rfl rfl) (fun W h => (HQR.out W (QuadAt.below HO.out.2 h)).2.1)) ?_
      refine wpL_cons (is (.int .i64 ((i : Nat) : Int))) (stable_is _) (step_move (go0 rfl) (.tmp 10) rfl (opO' 10 (.int .i64 ((i : Nat) : Int)) rfl rfl)) ?_
      refine wpL_cons (is (.int .i64 ((i + 2 : Nat) : Int))) (stable_is _) (step_int (go0 rfl) .add 3 3 (.tmp 35) (.const (.int .i64 2)) rfl .i64 .i64 _ _ _ (opT' 35 8 rfl rfl) (opC _) (fun W => (run_add3 _ _ (by omega) W).trans (by simp))) ?_
      refine wpL_cons (is (.int .i64 (((i + 2) % 4 : Nat) : Int))) (stable_is _) (step_int (go0 rfl) .rem 3 3 (.tmp 36) (.const (.int .i64 4)) rfl .i64 .i64 _ _ _ (opT' 36 9 rfl rfl) (opC _) (fun W => run_rem4 _ W)) ?_
      refine wpL_cons (is (.pointer (some ⟨w.heap.size + 1 + 1 + 1 + 1, ((i + 2) % 4) * 6, none⟩))) (stable_is _) (step_idx (go0 rfl) 42 (.tmp 9) (.tmp 37) rfl _ _ _ (opO' 9 (.pointer (some ⟨w.heap.size + 1 + 1 + 1 + 1, 0, none⟩)) rfl rfl) (opT' 37 10 rfl rfl) (fun W => run_idx42 _ _ hk4 W)) ?_
      refine wpL_cons (is (.agg (spotA q2))) (stable_is _) (step_load23 (go0 rfl) (.tmp 38) rfl (w.heap.size + 1 + 1 + 1 + 1) (((i + 2) % 4) * 6) q2 (opT' 38 11 rfl rfl) (fun W h => (HQR.out W (QuadAt.below HO.out.2 h)).2.2)) ?_
      refine wpL_cons (is (.agg (triA q0 q1 q2))) (stable_is _) (step_build24 (go0 rfl) (.tmp 29) (.tmp 34) (.tmp 39) rfl q0 q1 q2 (opT' 29 2 rfl rfl) (opT' 34 7 rfl rfl) (opT' 39 12 rfl rfl)) ?_
      refine wpL_cons (is (.bool true)) (stable_is _) (step_small (go0 rfl) (.tmp 40) _ rfl q0 q1 q2 _ hall (opT' 40 13 rfl rfl)) ?_
      refine wpL_cons (is (.bool false)) (stable_is _) (step_not (go0 rfl) 4 (.tmp 41) rfl true (opT' 41 14 rfl rfl)) ?_
      refine wpL_cons (is (.bool false)) (stable_is _) (step_move (go0 rfl) (.tmp 42) rfl (opT' 42 15 rfl rfl)) ?_
      refine wpL_cons (is (.int .i64 ((i : Nat) : Int))) (stable_is _) (step_move (go1 16 false 43 rfl rfl rfl rfl) (.tmp 10) rfl (opO' 10 (.int .i64 ((i : Nat) : Int)) rfl rfl)) ?_
      refine wpL_cons (is (.pointer (some ⟨w.heap.size + 1 + 1 + 1 + 1, i * 6, none⟩))) (stable_is _) (step_idx (go1 16 false 43 rfl rfl rfl rfl) 42 (.tmp 9) (.tmp 44) rfl _ _ _ (opO' 9 (.pointer (some ⟨w.heap.size + 1 + 1 + 1 + 1, 0, none⟩)) rfl rfl) (opT' 44 17 rfl rfl) (fun W => run_idx42 _ _ hi4 W)) ?_
      refine wpL_cons (is (.agg (spotA q0))) (stable_is _) (step_load23 (go1 16 false 43 rfl rfl rfl rfl) (.tmp 45) rfl (w.heap.size + 1 + 1 + 1 + 1) (i * 6) q0 (opT' 45 18 rfl rfl) (fun W h => (HQR.out W (QuadAt.below HO.out.2 h)).1)) ?_
      refine wpL_cons (is (.int .i64 ((i : Nat) : Int))) (stable_is _) (step_move (go1 16 false 43 rfl rfl rfl rfl) (.tmp 10) rfl (opO' 10 (.int .i64 ((i : Nat) : Int)) rfl rfl)) ?_
      refine wpL_cons (is (.int .i64 ((i + 1 : Nat) : Int))) (stable_is _) (step_int (go1 16 false 43 rfl rfl rfl rfl) .add 3 3 (.tmp 47) (.const (.int .i64 1)) rfl .i64 .i64 _ _ _ (opT' 47 20 rfl rfl) (opC _) (fun W => (run_add3 _ _ (by omega) W).trans (by simp))) ?_
      refine wpL_cons (is (.int .i64 (((i + 1) % 4 : Nat) : Int))) (stable_is _) (step_int (go1 16 false 43 rfl rfl rfl rfl) .rem 3 3 (.tmp 48) (.const (.int .i64 4)) rfl .i64 .i64 _ _ _ (opT' 48 21 rfl rfl) (opC _) (fun W => run_rem4 _ W)) ?_
      refine wpL_cons (is (.pointer (some ⟨w.heap.size + 1 + 1 + 1 + 1, ((i + 1) % 4) * 6, none⟩))) (stable_is _) (step_idx (go1 16 false 43 rfl rfl rfl rfl) 42 (.tmp 9) (.tmp 49) rfl _ _ _ (opO' 9 (.pointer (some ⟨w.heap.size + 1 + 1 + 1 + 1, 0, none⟩)) rfl rfl) (opT' 49 22 rfl rfl) (fun W => run_idx42 _ _ hj4 W)) ?_
      refine wpL_cons (is (.agg (spotA q1))) (stable_is _) (step_load23 (go1 16 false 43 rfl rfl rfl rfl) (.tmp 50) rfl (w.heap.size + 1 + 1 + 1 + 1) (((i + 1) % 4) * 6) q1 (opT' 50 23 rfl rfl) (fun W h => (HQR.out W (QuadAt.below HO.out.2 h)).2.1)) ?_
      refine wpL_cons (is (.int .i64 ((i : Nat) : Int))) (stable_is _) (step_move (go1 16 false 43 rfl rfl rfl rfl) (.tmp 10) rfl (opO' 10 (.int .i64 ((i : Nat) : Int)) rfl rfl)) ?_
      refine wpL_cons (is (.int .i64 ((i + 2 : Nat) : Int))) (stable_is _) (step_int (go1 16 false 43 rfl rfl rfl rfl) .add 3 3 (.tmp 52) (.const (.int .i64 2)) rfl .i64 .i64 _ _ _ (opT' 52 25 rfl rfl) (opC _) (fun W => (run_add3 _ _ (by omega) W).trans (by simp))) ?_
      refine wpL_cons (is (.int .i64 (((i + 2) % 4 : Nat) : Int))) (stable_is _) (step_int (go1 16 false 43 rfl rfl rfl rfl) .rem 3 3 (.tmp 53) (.const (.int .i64 4)) rfl .i64 .i64 _ _ _ (opT' 53 26 rfl rfl) (opC _) (fun W => run_rem4 _ W)) ?_
      refine wpL_cons (is (.pointer (some ⟨w.heap.size + 1 + 1 + 1 + 1, ((i + 2) % 4) * 6, none⟩))) (stable_is _) (step_idx (go1 16 false 43 rfl rfl rfl rfl) 42 (.tmp 9) (.tmp 54) rfl _ _ _ (opO' 9 (.pointer (some ⟨w.heap.size + 1 + 1 + 1 + 1, 0, none⟩)) rfl rfl) (opT' 54 27 rfl rfl) (fun W => run_idx42 _ _ hk4 W)) ?_
      refine wpL_cons (is (.agg (spotA q2))) (stable_is _) (step_load23 (go1 16 false 43 rfl rfl rfl rfl) (.tmp 55) rfl (w.heap.size + 1 + 1 + 1 + 1) (((i + 2) % 4) * 6) q2 (opT' 55 28 rfl rfl) (fun W h => (HQR.out W (QuadAt.below HO.out.2 h)).2.2)) ?_
      refine wpL_cons (is (.agg (triA q0 q1 q2))) (stable_is _) (step_build24 (go1 16 false 43 rfl rfl rfl rfl) (.tmp 46) (.tmp 51) (.tmp 56) rfl q0 q1 q2 (opT' 46 19 rfl rfl) (opT' 51 24 rfl rfl) (opT' 56 29 rfl rfl)) ?_
      refine wpL_cons (is (.int .i64 (area q0 q1 q2))) (stable_is _) (step_rarea (go1 16 false 43 rfl rfl rfl rfl) (.tmp 57) _ rfl q0 q1 q2 hok.1 hok.2.1 hok.2.2 (opT' 57 30 rfl rfl)) ?_
      refine wpL_cons (is (.bool false)) (stable_is _) (step_int (go1 16 false 43 rfl rfl rfl rfl) .leq 3 3 (.tmp 58) (.const (.int .i64 0)) rfl .i64 .i64 _ _ _ (opT' 58 31 rfl rfl) (opC _) (fun W => run_leq3 _ _ false (decide_eq_false (by omega)) W)) ?_
      refine wpL_cons (is (.bool false)) (stable_is _) (step_pickF (go0 rfl) (.tmp 43) (.const (.bool true)) (.tmp 59) rfl (opT' 43 16 rfl rfl) (opT' 59 32 rfl rfl)) ?_
      refine wpL_nil ?_
      intro v w3 hI3 _ hdone _
      have e60 : v 33 = .bool false := hdone 33 60 rfl
      have hI3 : Below wr.heap.size wr w3 := hI3
      have HP := Lib.hid (HO0.out.below hI3)
      clear hdone hI3
      simp only [putAll, Act.put, List.setIfInBounds_toArray, List.set_cons_zero, List.set_cons_succ, Nat.zero_add, Nat.reduceAdd, e60]
      go_wp2_with fail
      go_roundw
      case rel =>
        refine ⟨i + 1, by omega, by simp, HP.out, fun j hj => ?_⟩
        by_cases e : j = i
        · subst e
          have h1 : 0 < area q0 q1 q2 := by omega
          unfold Good
          rw [← HQQ.out.1, ← HQQ.out.2.1, ← HQQ.out.2.2]
          exact ⟨hok, h1⟩
        · exact HG.out j (by omega)
      case measure =>
        simp [intOf]
        omega

namespace edgeShares
open Go.ChangeShapes Go.WideShapes Go.ChangeAt Go.RowKit
set_option linter.unusedVariables false

theorem own : ownKnob Try.prog.godebug = none := by kernel_rfl
theorem laidOut : laidOutB Try.prog = true := by kernel_rfl
/-! ### THE ROW's STEP -/
set_option maxRecDepth 100000 in
theorem lifted (os : Os) (started : os.Started) (H : Type) (enc : TypeId × Value → H) :
    ReturnsInHanded {} Try.checked os 4 .any (Rows.edgeSharesSpec.pre6 enc Try.prog Try.f4 Rows.edgeSharesRow.domain false) (Rows.edgeSharesSpec.post enc Try.prog Try.f4 false true false false) := by
  refine returnsInHanded_of_change (C := Try.checked) own started (by kernel_rfl) Try.func4
    (ChangeSpec.witness6 (enc := enc) (C := Try.checked) false ⟨#[], #[.agg #[.int .i64 0, .int .i64 0, .int .i64 0, .int .i64 0, .int .i64 0, .int .i64 0], .agg #[.int .i64 0, .int .i64 0, .int .i64 0, .int .i64 0, .int .i64 0, .int .i64 0], .agg #[.int .i64 0, .int .i64 0, .int .i64 0, .int .i64 0, .int .i64 0, .int .i64 0], .agg #[.int .i64 0, .int .i64 0, .int .i64 0, .int .i64 0, .int .i64 0, .int .i64 0]], []⟩ 8 (by kernel_rfl) (by kernel_rfl) (by kernel_rfl) (by kernel_rfl)) ?_
  intro W base args ds gs before hval0 hW hcnd _
  have hval : ∀ (j : Nat) t v, Try.f4.params[j]? = some t → args[j]? = some v → Value.okWide Try.prog W .any base t v := hval0
  have hW' := hW
  obtain ⟨p, q, hA0, hV, rfl, hfz, hnd⟩ := hW
  have hA : DataW.TrodAll enc Try.prog W 0 (fun _ => true) true Try.f4.params.toList args.toList ds p := hA0
  rw [Try.params4] at hA hval
  obtain ⟨v0, vs0, d0, ds0, p0, q0, hargs, rfl, rfl, h0, r0⟩ := trodAll_cons hA
  obtain ⟨v1, vs1, d1, ds1, p1, q1, rfl, rfl, rfl, h1, r1⟩ := trodAll_cons r0
  obtain ⟨v2, vs2, d2, ds2, p2, q2, rfl, rfl, rfl, h2, r2⟩ := trodAll_cons r1
  obtain ⟨v3, vs3, d3, ds3, p3, q3, rfl, rfl, rfl, h3, r3⟩ := trodAll_cons r2
  obtain ⟨rfl, rfl, rfl⟩ := trodAll_nil r3
  obtain rfl : args = #[v0, v1, v2, v3] := by cases args; simp_all
  obtain ⟨rfl, rfl⟩ := trodVars_none hV
  obtain ⟨x0, rfl⟩ := arg_spot (hval 0 23 v0 rfl rfl) h0
  have lt0 : ∀ x ∈ p0, x.block < W.heap.size := by obtain ⟨m, hm⟩ := h0; exact DataW.trod_lt m _ _ _ hm
  obtain ⟨x1, rfl⟩ := arg_spot (hval 1 23 v1 rfl rfl) h1
  have lt1 : ∀ x ∈ p1, x.block < W.heap.size := by obtain ⟨m, hm⟩ := h1; exact DataW.trod_lt m _ _ _ hm
  obtain ⟨x2, rfl⟩ := arg_spot (hval 2 23 v2 rfl rfl) h2
  have lt2 : ∀ x ∈ p2, x.block < W.heap.size := by obtain ⟨m, hm⟩ := h2; exact DataW.trod_lt m _ _ _ hm
  obtain ⟨x3, rfl⟩ := arg_spot (hval 3 23 v3 rfl rfl) h3
  have lt3 : ∀ x ∈ p3, x.block < W.heap.size := by obtain ⟨m, hm⟩ := h3; exact DataW.trod_lt m _ _ _ hm
  clear hA0 hval0
  refine (Shares_walk x0 x1 x2 x3 W).mono fun e W' ⟨he, bel⟩ => ?_
  subst he
  exact ⟨_, rfl, _, _, _, [], _, [], hW', trodAll_mk1 (shut_bool Try.underlying4 _), (trodAll_cons_mk (Below.trod laidOut (by kernel_rfl) (of_decide_eq_true (by kernel_rfl)) h0 bel lt0) (trodAll_cons_mk (Below.trod laidOut (by kernel_rfl) (of_decide_eq_true (by kernel_rfl)) h1 bel lt1) (trodAll_cons_mk (Below.trod laidOut (by kernel_rfl) (of_decide_eq_true (by kernel_rfl)) h2 bel lt2) (trodAll_cons_mk (Below.trod laidOut (by kernel_rfl) (of_decide_eq_true (by kernel_rfl)) h3 bel lt3) trodAll_mk0)))), rfl, bel.frame _, fun h => by cases h⟩

theorem over : Rows.edgeSharesRow.holds Try.pinned (OpenSpec.ofChange Rows.edgeSharesSpec) :=
  OpenClaim.holds_of_wide 4 Try.f4 rfl rfl rfl rfl rfl rfl rfl ⟨rfl, rfl, rfl, rfl, rfl⟩ rfl rfl rfl rfl rfl (by kernel_rfl) Try.func4 (by kernel_rfl)
    (of_decide_eq_true (by kernel_rfl)) (by unfold Func.isWrapper; first | (rw [if_pos (by decide +kernel)]; kernel_rfl) | (rw [if_neg (by decide +kernel)]; exact ⟨rfl, rfl⟩))
    (fun os started H enc _ => lifted os started H enc)

/-- THE STATEMENT -/
theorem proved : Rows.EdgeSharesSaid := over
end edgeShares
end Go.Proofs.Ytgkidgpdgcdgnaa
