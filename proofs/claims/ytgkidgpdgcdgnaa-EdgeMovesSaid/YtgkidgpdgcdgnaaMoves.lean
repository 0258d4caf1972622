/- EdgeMoves: moved by whole pixels a triangle covers the pixels that are as much moved, and is as far inside. At every input the law says true. -/
import Derived.Test.YtgkidgpdgcdgnaaOps2
import Derived.Test.YtgkidgpdgcdgnaaSmall
import Derived.Test.YtgkidgpdgcdgnaaMoveP
import Derived.Test.YtgkidgpdgcdgnaaArgs
import Derived.BigRegion
import Derived.BigQuiet
import Derived.ProofKit
import Derived.OpenShut
import Derived.ShutString
import Derived.ChangeOld
import Derived.Below
namespace Go.Proofs.Ytgkidgpdgcdgnaa
open Go.RowKit

structure MovesOk (I J : Int) (X Y : List Hit) : Prop where
  ly : Y.length = X.length
  le : X.length ≤ 1024
  at_ : ∀ i, i < X.length → ∃ x y, X[i]? = some x ∧ Y[i]? = some y ∧ y.x = x.x + I ∧ y.y = x.y + J ∧ y.e0 = x.e0 ∧ y.e1 = x.e1 ∧ y.e2 = x.e2 ∧ (0 ≤ x.x ∧ x.x ≤ 31 ∧ 0 ≤ x.y ∧ x.y ≤ 31)
theorem moves_ok (a b c : Spot) (I J : Int) (hI : 0 ≤ I ∧ I < 8) (hJ : 0 ≤ J ∧ J < 8) (ha : a.near) (hb : b.near) (hc : c.near) : MovesOk I J (pix a b c 32 32) (pix (a.mv I J) (b.mv I J) (c.mv I J) 32 32) := by
  obtain ⟨i, rfl⟩ : ∃ i : Nat, I = i := ⟨I.toNat, by omega⟩
  obtain ⟨k, rfl⟩ : ∃ k : Nat, J = k := ⟨J.toNat, by omega⟩
  rw [pix_mv a b c i k (by omega) (by omega) ha hb hc]
  refine ⟨by simp, pix_len _ _ _ _ _, fun n hn => ?_⟩
  obtain ⟨x, hx⟩ : ∃ x, (pix a b c 32 32)[n]? = some x := ⟨_, List.getElem?_eq_getElem hn⟩
  obtain ⟨ht, k', hk', hp⟩ := pix_mem (List.mem_of_getElem? hx)
  refine ⟨x, x.mv i k, hx, by rw [List.getElem?_map, hx]; rfl, rfl, rfl, rfl, rfl, rfl, ?_⟩
  obtain ⟨_, rfl⟩ := pixel_some hp
  simp only
  omega
set_option maxRecDepth 100000 in
set_option maxHeartbeats 8000000 in
theorem Moves_walk (a b c : Spot) (x y : Int) (w : World) : Calls Try.prog 7 #[.agg (triA a b c), .int .i64 x, .int .i64 y] w fun e w' => e = .returned (.bool true) ∧ Below w.heap.size w w' := by
  have hI : 0 ≤ x % 8 ∧ x % 8 < 8 := ⟨Int.emod_nonneg _ (by omega), Int.emod_lt_of_pos _ (by omega)⟩
  have hJ : 0 ≤ y % 8 ∧ y % 8 < 8 := ⟨Int.emod_nonneg _ (by omega), Int.emod_lt_of_pos _ (by omega)⟩
  obtain ⟨I, hI0⟩ : ∃ I, I = x % 8 := ⟨_, rfl⟩
  obtain ⟨J, hJ0⟩ : ∃ J, J = y % 8 := ⟨_, rfl⟩
  have hr1 := fun W => Round_walk x 8 (by omega) (by omega) W
  have hr2 := fun W => Round_walk y 8 (by omega) (by omega) W
  rw [← hI0] at hI hr1
  rw [← hJ0] at hJ hr2
  clear hI0 hJ0
  have HR := Lib.hid (And.intro hr1 hr2)
  clear hr1 hr2
  have h0 := TriAt.new w a b c
  have h1 := TriAt.new (w.alloc (.cells (triA a b c) 24)) spot0 spot0 spot0
  rw [World.size_alloc] at h1
  have HS := Lib.hid (And.intro (h0.below (below_alloc _ (.cells (triA spot0 spot0 spot0) 24))) (And.intro h1 (below_two w (.cells (triA a b c) 24) (.cells (triA spot0 spot0 spot0) 24))))
  clear h0 h1
  go_enter Try.func7, Try.ntmps7
  go_wp2_with fail
  refine (HR.out.1 _).mono ?_
  rintro e w1 ⟨rfl, rfl⟩
  go_wp2_with fail
  refine (HR.out.2 _).mono ?_
  rintro e w1 ⟨rfl, rfl⟩
  clear HR
  have hz : (#[.int .i64 0, .int .i64 0, .int .i64 0, .int .i64 0, .int .i64 0, .int .i64 0, .int .i64 0, .int .i64 0, .int .i64 0, .int .i64 0, .int .i64 0, .int .i64 0, .int .i64 0, .int .i64 0, .int .i64 0, .int .i64 0, .int .i64 0, .int .i64 0] : Array Value) = triA spot0 spot0 spot0 := by unfold triA triCells spot0; rfl
  go_wp2_with fail
  try rw [hz]
  generalize ((w.alloc (.cells (triA a b c) 24)).alloc (.cells (triA spot0 spot0 spot0) 24)) = w2 at *
  clear hz
  go_loopw [10] (fun v wr => ∃ k : Nat, k ≤ 3 ∧ v = .int .i64 k ∧ TriAt wr w.heap.size a b c ∧ TriAt wr (w.heap.size + 1) (if 0 < k then a.mv I J else spot0) (if 1 < k then b.mv I J else spot0) (if 2 < k then c.mv I J else spot0) ∧ Below w.heap.size w wr ∧ (0 < k → a.near) ∧ (1 < k → b.near) ∧ (2 < k → c.near)) (fun v _ => 3 - (intOf v).toNat)
  case atStart => exact ⟨0, by omega, rfl, HS.out.1, HS.out.2.1, HS.out.2.2, fun h => by omega, fun h => by omega, fun h => by omega⟩
  case round =>
    obtain ⟨k, hk, rfl, hT, hO, hB, hE⟩ := hrel
    clear HS
    have HE := Lib.hid hE
    clear hE
    have hk3 : k = 0 ∨ k = 1 ∨ k = 2 ∨ k = 3 := by omega
    clear hk
    rcases hk3 with rfl | rfl | rfl | rfl
    · replace hO : TriAt wr (w.heap.size + 1) spot0 spot0 spot0 := hO
      have q0 : wr.cell? ⟨w.heap.size, 0, none⟩ = some (.int .i64 a.x) := hT.x.1
      have q1 : wr.cell? ⟨w.heap.size, 1, none⟩ = some (.int .i64 a.y) := hT.x.2.1
      have HB := Lib.hid hB
      have HT := Lib.hid hT
      have HO := Lib.hid hO
      clear hB hT hO
      by_cases c0 : a.x < 0
      · have hr : ¬ a.near := fun h => by unfold Spot.near at h; omega
        go_wp2_with fail
        refine (awake_walk _).mono ?_
        rintro e wb ⟨rfl, hb⟩
        have HX := Lib.hid (below_trans HB.out hb)
        clear hb
        go_wp2_with fail
        go_ret
        exact ⟨rfl, HX.out⟩
      by_cases c1 : 5120 < a.x
      · have hr : ¬ a.near := fun h => by unfold Spot.near at h; omega
        go_wp2_with fail
        refine (awake_walk _).mono ?_
        rintro e wb ⟨rfl, hb⟩
        have HX := Lib.hid (below_trans HB.out hb)
        clear hb
        go_wp2_with fail
        go_ret
        exact ⟨rfl, HX.out⟩
      by_cases c2 : a.y < 0
      · have hr : ¬ a.near := fun h => by unfold Spot.near at h; omega
        go_wp2_with fail
        refine (awake_walk _).mono ?_
        rintro e wb ⟨rfl, hb⟩
        have HX := Lib.hid (below_trans HB.out hb)
        clear hb
        go_wp2_with fail
        go_ret
        exact ⟨rfl, HX.out⟩
      by_cases c3 : 5120 < a.y
      · have hr : ¬ a.near := fun h => by unfold Spot.near at h; omega
        go_wp2_with fail
        refine (awake_walk _).mono ?_
        rintro e wb ⟨rfl, hb⟩
        have HX := Lib.hid (below_trans HB.out hb)
        clear hb
        go_wp2_with fail
        go_ret
        exact ⟨rfl, HX.out⟩
      have hpn : a.near := by unfold Spot.near; omega
      have HPN := Lib.hid hpn
      clear hpn
      go_wp2_with (first
        | refine arm_load23 rfl (.tmp 51) rfl w.heap.size 0 a rfl HT.out.r0 ?_
        | (refine arm_store23m rfl (.tmp 53) (.tmp 52) rfl (w.heap.size + 1) 0 a spot0 spot0 spot0 rfl rfl HO.out (by omega) ?_
           intro w8 hw8
           have hT8 : TriAt w8 w.heap.size a b c := by rw [hw8]; exact (setCells_other _ _ _ _ _ (by omega)).trans HT.out
           have hO8 : TriAt w8 (w.heap.size + 1) a spot0 spot0 := by rw [hw8]; exact (HO.out.put a).1
           have hB8 : Below w.heap.size w w8 := by rw [hw8]; exact HB.out.trans (below_setCells _ _ _ _ _ (by omega))
           clear hw8 q0 q1))
      have q0 : w8.cell? ⟨w.heap.size, 0, none⟩ = some (.int .i64 a.x) := hT8.x.1
      have q1 : w8.cell? ⟨w.heap.size, 1, none⟩ = some (.int .i64 a.y) := hT8.x.2.1
      have r0 : w8.cell? ⟨w.heap.size + 1, 0, none⟩ = some (.int .i64 a.x) := hO8.x.1
      have r1 : w8.cell? ⟨w.heap.size + 1, 1, none⟩ = some (.int .i64 a.y) := hO8.x.2.1
      have f0 : w8.frozen? ⟨w.heap.size + 1, 0, none⟩ = false := hO8.free _
      have f1 : w8.frozen? ⟨w.heap.size + 1, 1, none⟩ = false := hO8.free _
      have H8 := Lib.hid (And.intro hT8 (And.intro hO8 hB8))
      clear hT8 hO8 hB8 HB HT HO
      go_region
      have hT9 : TriAt ((w8.setCell ⟨w.heap.size + 1, 0, none⟩ (.int .i64 (a.x + 256 * I))).setCell ⟨w.heap.size + 1, 1, none⟩ (.int .i64 (a.y + 256 * J))).drew w.heap.size a b c := (setCell_other _ _ _ _ (by simp)).trans ((setCell_other _ _ _ _ (by simp)).trans H8.out.1)
      have hO9 : TriAt ((w8.setCell ⟨w.heap.size + 1, 0, none⟩ (.int .i64 (a.x + 256 * I))).setCell ⟨w.heap.size + 1, 1, none⟩ (.int .i64 (a.y + 256 * J))).drew (w.heap.size + 1) (a.mv I J) spot0 spot0 := (H8.out.2.1.setx _ _).1
      have hB9 : Below w.heap.size w ((w8.setCell ⟨w.heap.size + 1, 0, none⟩ (.int .i64 (a.x + 256 * I))).setCell ⟨w.heap.size + 1, 1, none⟩ (.int .i64 (a.y + 256 * J))).drew := below_drew ((H8.out.2.2.setCell (p := ⟨w.heap.size + 1, 0, none⟩) (by simp) _).setCell (p := ⟨w.heap.size + 1, 1, none⟩) (by simp) _)
      have H9 := Lib.hid (And.intro hT9 (And.intro hO9 hB9))
      clear hT9 hO9 hB9 H8 q0 q1 r0 r1 f0 f1
      generalize ((w8.setCell ⟨w.heap.size + 1, 0, none⟩ (.int .i64 (a.x + 256 * I))).setCell ⟨w.heap.size + 1, 1, none⟩ (.int .i64 (a.y + 256 * J))).drew = w9 at *
      go_wp2_with fail
      go_roundw
      case rel => exact ⟨1, by omega, rfl, H9.out.1, H9.out.2.1, H9.out.2.2, fun _ => HPN.out, fun h => by omega, fun h => by omega⟩
      case measure => simp [intOf]
    · replace hO : TriAt wr (w.heap.size + 1) (a.mv I J) spot0 spot0 := hO
      have q0 : wr.cell? ⟨w.heap.size, 6, none⟩ = some (.int .i64 b.x) := hT.x.2.2.1
      have q1 : wr.cell? ⟨w.heap.size, 7, none⟩ = some (.int .i64 b.y) := hT.x.2.2.2.1
      have HB := Lib.hid hB
      have HT := Lib.hid hT
      have HO := Lib.hid hO
      clear hB hT hO
      by_cases c0 : b.x < 0
      · have hr : ¬ b.near := fun h => by unfold Spot.near at h; omega
        go_wp2_with fail
        refine (awake_walk _).mono ?_
        rintro e wb ⟨rfl, hb⟩
        have HX := Lib.hid (below_trans HB.out hb)
        clear hb
        go_wp2_with fail
        go_ret
        exact ⟨rfl, HX.out⟩
      by_cases c1 : 5120 < b.x
      · have hr : ¬ b.near := fun h => by unfold Spot.near at h; omega
        go_wp2_with fail
        refine (awake_walk _).mono ?_
        rintro e wb ⟨rfl, hb⟩
        have HX := Lib.hid (below_trans HB.out hb)
        clear hb
        go_wp2_with fail
        go_ret
        exact ⟨rfl, HX.out⟩
      by_cases c2 : b.y < 0
      · have hr : ¬ b.near := fun h => by unfold Spot.near at h; omega
        go_wp2_with fail
        refine (awake_walk _).mono ?_
        rintro e wb ⟨rfl, hb⟩
        have HX := Lib.hid (below_trans HB.out hb)
        clear hb
        go_wp2_with fail
        go_ret
        exact ⟨rfl, HX.out⟩
      by_cases c3 : 5120 < b.y
      · have hr : ¬ b.near := fun h => by unfold Spot.near at h; omega
        go_wp2_with fail
        refine (awake_walk _).mono ?_
        rintro e wb ⟨rfl, hb⟩
        have HX := Lib.hid (below_trans HB.out hb)
        clear hb
        go_wp2_with fail
        go_ret
        exact ⟨rfl, HX.out⟩
      have hpn : b.near := by unfold Spot.near; omega
      have HPN := Lib.hid hpn
      clear hpn
      go_wp2_with (first
        | refine arm_load23 rfl (.tmp 51) rfl w.heap.size 6 b rfl HT.out.r1 ?_
        | (refine arm_store23m rfl (.tmp 53) (.tmp 52) rfl (w.heap.size + 1) 6 b (a.mv I J) spot0 spot0 rfl rfl HO.out (by omega) ?_
           intro w8 hw8
           have hT8 : TriAt w8 w.heap.size a b c := by rw [hw8]; exact (setCells_other _ _ _ _ _ (by omega)).trans HT.out
           have hO8 : TriAt w8 (w.heap.size + 1) (a.mv I J) b spot0 := by rw [hw8]; exact (HO.out.put b).2.1
           have hB8 : Below w.heap.size w w8 := by rw [hw8]; exact HB.out.trans (below_setCells _ _ _ _ _ (by omega))
           clear hw8 q0 q1))
      have q0 : w8.cell? ⟨w.heap.size, 6, none⟩ = some (.int .i64 b.x) := hT8.x.2.2.1
      have q1 : w8.cell? ⟨w.heap.size, 7, none⟩ = some (.int .i64 b.y) := hT8.x.2.2.2.1
      have r0 : w8.cell? ⟨w.heap.size + 1, 6, none⟩ = some (.int .i64 b.x) := hO8.x.2.2.1
      have r1 : w8.cell? ⟨w.heap.size + 1, 7, none⟩ = some (.int .i64 b.y) := hO8.x.2.2.2.1
      have f0 : w8.frozen? ⟨w.heap.size + 1, 6, none⟩ = false := hO8.free _
      have f1 : w8.frozen? ⟨w.heap.size + 1, 7, none⟩ = false := hO8.free _
      have H8 := Lib.hid (And.intro hT8 (And.intro hO8 hB8))
      clear hT8 hO8 hB8 HB HT HO
      go_region
      have hT9 : TriAt ((w8.setCell ⟨w.heap.size + 1, 6, none⟩ (.int .i64 (b.x + 256 * I))).setCell ⟨w.heap.size + 1, 7, none⟩ (.int .i64 (b.y + 256 * J))).drew w.heap.size a b c := (setCell_other _ _ _ _ (by simp)).trans ((setCell_other _ _ _ _ (by simp)).trans H8.out.1)
      have hO9 : TriAt ((w8.setCell ⟨w.heap.size + 1, 6, none⟩ (.int .i64 (b.x + 256 * I))).setCell ⟨w.heap.size + 1, 7, none⟩ (.int .i64 (b.y + 256 * J))).drew (w.heap.size + 1) (a.mv I J) (b.mv I J) spot0 := (H8.out.2.1.setx _ _).2.1
      have hB9 : Below w.heap.size w ((w8.setCell ⟨w.heap.size + 1, 6, none⟩ (.int .i64 (b.x + 256 * I))).setCell ⟨w.heap.size + 1, 7, none⟩ (.int .i64 (b.y + 256 * J))).drew := below_drew ((H8.out.2.2.setCell (p := ⟨w.heap.size + 1, 6, none⟩) (by simp) _).setCell (p := ⟨w.heap.size + 1, 7, none⟩) (by simp) _)
      have H9 := Lib.hid (And.intro hT9 (And.intro hO9 hB9))
      clear hT9 hO9 hB9 H8 q0 q1 r0 r1 f0 f1
      generalize ((w8.setCell ⟨w.heap.size + 1, 6, none⟩ (.int .i64 (b.x + 256 * I))).setCell ⟨w.heap.size + 1, 7, none⟩ (.int .i64 (b.y + 256 * J))).drew = w9 at *
      go_wp2_with fail
      go_roundw
      case rel => exact ⟨2, by omega, rfl, H9.out.1, H9.out.2.1, H9.out.2.2, fun _ => HE.out.1 (by omega), fun _ => HPN.out, fun h => by omega⟩
      case measure => simp [intOf]
    · replace hO : TriAt wr (w.heap.size + 1) (a.mv I J) (b.mv I J) spot0 := hO
      have q0 : wr.cell? ⟨w.heap.size, 12, none⟩ = some (.int .i64 c.x) := hT.x.2.2.2.2.1
      have q1 : wr.cell? ⟨w.heap.size, 13, none⟩ = some (.int .i64 c.y) := hT.x.2.2.2.2.2
      have HB := Lib.hid hB
      have HT := Lib.hid hT
      have HO := Lib.hid hO
      clear hB hT hO
      by_cases c0 : c.x < 0
      · have hr : ¬ c.near := fun h => by unfold Spot.near at h; omega
        go_wp2_with fail
        refine (awake_walk _).mono ?_
        rintro e wb ⟨rfl, hb⟩
        have HX := Lib.hid (below_trans HB.out hb)
        clear hb
        go_wp2_with fail
        go_ret
        exact ⟨rfl, HX.out⟩
      by_cases c1 : 5120 < c.x
      · have hr : ¬ c.near := fun h => by unfold Spot.near at h; omega
        go_wp2_with fail
        refine (awake_walk _).mono ?_
        rintro e wb ⟨rfl, hb⟩
        have HX := Lib.hid (below_trans HB.out hb)
        clear hb
        go_wp2_with fail
        go_ret
        exact ⟨rfl, HX.out⟩
      by_cases c2 : c.y < 0
      · have hr : ¬ c.near := fun h => by unfold Spot.near at h; omega
        go_wp2_with fail
        refine (awake_walk _).mono ?_
        rintro e wb ⟨rfl, hb⟩
        have HX := Lib.hid (below_trans HB.out hb)
        clear hb
        go_wp2_with fail
        go_ret
        exact ⟨rfl, HX.out⟩
      by_cases c3 : 5120 < c.y
      · have hr : ¬ c.near := fun h => by unfold Spot.near at h; omega
        go_wp2_with fail
        refine (awake_walk _).mono ?_
        rintro e wb ⟨rfl, hb⟩
        have HX := Lib.hid (below_trans HB.out hb)
        clear hb
        go_wp2_with fail
        go_ret
        exact ⟨rfl, HX.out⟩
      have hpn : c.near := by unfold Spot.near; omega
      have HPN := Lib.hid hpn
      clear hpn
      go_wp2_with (first
        | refine arm_load23 rfl (.tmp 51) rfl w.heap.size 12 c rfl HT.out.r2 ?_
        | (refine arm_store23m rfl (.tmp 53) (.tmp 52) rfl (w.heap.size + 1) 12 c (a.mv I J) (b.mv I J) spot0 rfl rfl HO.out (by omega) ?_
           intro w8 hw8
           have hT8 : TriAt w8 w.heap.size a b c := by rw [hw8]; exact (setCells_other _ _ _ _ _ (by omega)).trans HT.out
           have hO8 : TriAt w8 (w.heap.size + 1) (a.mv I J) (b.mv I J) c := by rw [hw8]; exact (HO.out.put c).2.2
           have hB8 : Below w.heap.size w w8 := by rw [hw8]; exact HB.out.trans (below_setCells _ _ _ _ _ (by omega))
           clear hw8 q0 q1))
      have q0 : w8.cell? ⟨w.heap.size, 12, none⟩ = some (.int .i64 c.x) := hT8.x.2.2.2.2.1
      have q1 : w8.cell? ⟨w.heap.size, 13, none⟩ = some (.int .i64 c.y) := hT8.x.2.2.2.2.2
      have r0 : w8.cell? ⟨w.heap.size + 1, 12, none⟩ = some (.int .i64 c.x) := hO8.x.2.2.2.2.1
      have r1 : w8.cell? ⟨w.heap.size + 1, 13, none⟩ = some (.int .i64 c.y) := hO8.x.2.2.2.2.2
      have f0 : w8.frozen? ⟨w.heap.size + 1, 12, none⟩ = false := hO8.free _
      have f1 : w8.frozen? ⟨w.heap.size + 1, 13, none⟩ = false := hO8.free _
      have H8 := Lib.hid (And.intro hT8 (And.intro hO8 hB8))
      clear hT8 hO8 hB8 HB HT HO
      go_region
      have hT9 : TriAt ((w8.setCell ⟨w.heap.size + 1, 12, none⟩ (.int .i64 (c.x + 256 * I))).setCell ⟨w.heap.size + 1, 13, none⟩ (.int .i64 (c.y + 256 * J))).drew w.heap.size a b c := (setCell_other _ _ _ _ (by simp)).trans ((setCell_other _ _ _ _ (by simp)).trans H8.out.1)
      have hO9 : TriAt ((w8.setCell ⟨w.heap.size + 1, 12, none⟩ (.int .i64 (c.x + 256 * I))).setCell ⟨w.heap.size + 1, 13, none⟩ (.int .i64 (c.y + 256 * J))).drew (w.heap.size + 1) (a.mv I J) (b.mv I J) (c.mv I J) := (H8.out.2.1.setx _ _).2.2
      have hB9 : Below w.heap.size w ((w8.setCell ⟨w.heap.size + 1, 12, none⟩ (.int .i64 (c.x + 256 * I))).setCell ⟨w.heap.size + 1, 13, none⟩ (.int .i64 (c.y + 256 * J))).drew := below_drew ((H8.out.2.2.setCell (p := ⟨w.heap.size + 1, 12, none⟩) (by simp) _).setCell (p := ⟨w.heap.size + 1, 13, none⟩) (by simp) _)
      have H9 := Lib.hid (And.intro hT9 (And.intro hO9 hB9))
      clear hT9 hO9 hB9 H8 q0 q1 r0 r1 f0 f1
      generalize ((w8.setCell ⟨w.heap.size + 1, 12, none⟩ (.int .i64 (c.x + 256 * I))).setCell ⟨w.heap.size + 1, 13, none⟩ (.int .i64 (c.y + 256 * J))).drew = w9 at *
      go_wp2_with fail
      go_roundw
      case rel => exact ⟨3, by omega, rfl, H9.out.1, H9.out.2.1, H9.out.2.2, fun _ => HE.out.1 (by omega), fun _ => HE.out.2.1 (by omega), fun _ => HPN.out⟩
      case measure => simp [intOf]
    · replace hO : TriAt wr (w.heap.size + 1) (a.mv I J) (b.mv I J) (c.mv I J) := hO
      have hOK : a.ok ∧ b.ok ∧ c.ok ∧ (a.mv I J).ok ∧ (b.mv I J).ok ∧ (c.mv I J).ok := by
        have h1 := HE.out.1 (by omega)
        have h2 := HE.out.2.1 (by omega)
        have h3 := HE.out.2.2 (by omega)
        unfold Spot.near at h1 h2 h3
        unfold Spot.ok Spot.mv
        simp only
        omega
      have hmv := moves_ok a b c I J hI hJ (HE.out.1 (by omega)) (HE.out.2.1 (by omega)) (HE.out.2.2 (by omega))
      have harea := area_mv a b c I J
      generalize ha' : a.mv I J = a' at *
      generalize hb' : b.mv I J = b' at *
      generalize hc' : c.mv I J = c' at *
      clear ha' hb' hc'
      have HOK := Lib.hid hOK
      have HD := Lib.hid (And.intro hT (And.intro hO hB))
      clear hOK hT hO hB HE
      go_wp2_with fail
      refine wp_region_link 138 mixed (by kernel_rfl) (by rfl) (UpC wr) (UpC.start wr) ?_
      refine wpL_cons (is (.agg (triA a b c))) (stable_is _) (step_loadRow (go0 rfl) 24 (.tmp 3) rfl (w.heap.size) 24 (triA a b c) (0, 0) _ (opO' 3 (.pointer (some ⟨w.heap.size, 0, none⟩)) rfl rfl) (fun W h => (HD.out.1.below h)) Try.underlying24 rfl (size24 a b c)) ?_
      refine wpL_cons (IsHits (allR (-1) (pix a b c 32 32))) (isHits_stable _) (step_all (go0 rfl) (.tmp 74) (.const (.int .i64 32)) (.const (.int .i64 32)) (.const (.int IntKind.i64 (-1))) _ rfl a b c HOK.out.1 HOK.out.2.1 HOK.out.2.2.1 32 32 (-1) (opT' 74 0 rfl rfl) (opC _) (opC _) (opC _)) ?_
      refine wpL_cons (is (.agg (triA a' b' c'))) (stable_is _) (step_loadRow (go0 rfl) 24 (.tmp 9) rfl (w.heap.size + 1) 24 (triA a' b' c') (0, 0) _ (opO' 9 (.pointer (some ⟨w.heap.size + 1, 0, none⟩)) rfl rfl) (fun W h => (HD.out.2.1.below h)) Try.underlying24 rfl (size24 a' b' c')) ?_
      refine wpL_cons (IsHits (allR (-1) (pix a' b' c' 32 32))) (isHits_stable _) (step_all (go0 rfl) (.tmp 76) (.const (.int .i64 32)) (.const (.int .i64 32)) (.const (.int IntKind.i64 (-1))) _ rfl a' b' c' HOK.out.2.2.2.1 HOK.out.2.2.2.2.1 HOK.out.2.2.2.2.2 32 32 (-1) (opT' 76 2 rfl rfl) (opC _) (opC _) (opC _)) ?_
      refine wpL_cons (IsHits (allR (-1) (pix a b c 32 32))) (isHits_stable _) (step_assign (go0 rfl) (.tmp 75) rfl (opT' 75 1 rfl rfl)) ?_
      refine wpL_cons (IsHits (allR (-1) (pix a' b' c' 32 32))) (isHits_stable _) (step_assign (go0 rfl) (.tmp 77) rfl (opT' 77 3 rfl rfl)) ?_
      refine wpL_nil ?_
      intro v w3 hI3 _ hdone _
      obtain ⟨A1, cap1, e1, hr1, hc1⟩ := hdone 4 11 rfl
      obtain ⟨A2, cap2, e2, hr2, hc2⟩ := hdone 5 12 rfl
      have hI3 : Below wr.heap.size wr w3 := hI3
      have hx0 : ∀ l : List Hit, allR (-1) l = l := fun l => rfl
      rw [hx0] at e1 hr1 hc1 e2 hr2 hc2
      have HG := Lib.hid (And.intro (HD.out.2.2.trans (hI3.mono HD.out.2.2.size)) (And.intro hr1 (And.intro hr2 (And.intro (HD.out.1.below hI3) (HD.out.2.1.below hI3)))))
      clear hdone hI3 hr1 hr2 HD
      simp only [putAll, Act.put, List.setIfInBounds_toArray, List.set_cons_zero, List.set_cons_succ, Nat.zero_add, Nat.reduceAdd, e1, e2]
      clear e1 e2 hx0
      generalize hX : pix a b c 32 32 = X at *
      generalize hY : pix a' b' c' 32 32 = Y at *
      clear hX hY
      rw [hmv.ly] at hc2 ⊢
      have hle := hmv.le
      have HM := Lib.hid hmv
      clear hmv
      go_wp2_with fail
      go_loopw [13] (fun v wr => ∃ i : Nat, i ≤ X.length ∧ v = .int .i64 i ∧ (Below w.heap.size w wr ∧ (HRow wr A1 X ∧ (HRow wr A2 Y ∧ (TriAt wr w.heap.size a b c ∧ TriAt wr (w.heap.size + 1) a' b' c'))))) (fun v _ => X.length - (intOf v).toNat)
      case atStart => exact ⟨0, by omega, rfl, HG.out⟩
      case round =>
        obtain ⟨i, hi, rfl, hGG⟩ := hrel
        clear HG
        have HG := Lib.hid hGG
        clear hGG
        by_cases hlt : i = X.length
        · subst hlt
          have hl1 : ¬ ((X.length : Nat) : Int) < ((X.length : Nat) : Int) := by omega
          go_wp2_with fail
          refine wp_region_link 138 mixed (by kernel_rfl) (by rfl) (UpC wr) (UpC.start wr) ?_
          refine wpL_cons (is (.agg (triA a b c))) (stable_is _) (step_loadRow (go0 rfl) 24 (.tmp 3) rfl (w.heap.size) 24 (triA a b c) (0, 0) _ (opO' 3 (.pointer (some ⟨w.heap.size, 0, none⟩)) rfl rfl) (fun W h => (TriAt.below HG.out.2.2.2.1 h)) Try.underlying24 rfl (size24 a b c)) ?_
          refine wpL_cons (is (.int .i64 (area a b c))) (stable_is _) (step_area (go0 rfl) (.tmp 130) _ rfl a b c HOK.out.1 HOK.out.2.1 HOK.out.2.2.1 (opT' 130 0 rfl rfl)) ?_
          refine wpL_cons (is (.agg (triA a' b' c'))) (stable_is _) (step_loadRow (go0 rfl) 24 (.tmp 9) rfl (w.heap.size + 1) 24 (triA a' b' c') (0, 0) _ (opO' 9 (.pointer (some ⟨w.heap.size + 1, 0, none⟩)) rfl rfl) (fun W h => (TriAt.below HG.out.2.2.2.2 h)) Try.underlying24 rfl (size24 a' b' c')) ?_
          refine wpL_cons (is (.int .i64 (area a' b' c'))) (stable_is _) (step_area (go0 rfl) (.tmp 132) _ rfl a' b' c' HOK.out.2.2.2.1 HOK.out.2.2.2.2.1 HOK.out.2.2.2.2.2 (opT' 132 2 rfl rfl)) ?_
          refine wpL_cons (is (.bool true)) (stable_is _) (step_int (go0 rfl) .eql 3 3 (.tmp 131) (.tmp 133) rfl .i64 .i64 _ _ _ (opT' 131 1 rfl rfl) (opT' 133 3 rfl rfl) (fun W => run_eql3 _ _ true (beq_iff_eq.2 (by omega)) W)) ?_
          refine wpL_cons (is (.bool true)) (stable_is _) (step_move (go0 rfl) (.tmp 134) rfl (opT' 134 4 rfl rfl)) ?_
          refine wpL_cons (is (.bool true)) (stable_is _) (step_awake (go1 5 true 135 rfl rfl rfl rfl) rfl) ?_
          refine wpL_cons (is (.bool true)) (stable_is _) (step_pickT (go0 rfl) (.tmp 135) (.tmp 136) (.const (.bool false)) rfl (opT' 135 5 rfl rfl) (opT' 136 6 rfl rfl)) ?_
          refine wpL_cons (is (.bool true)) (stable_is _) (step_assign (go0 rfl) (.tmp 137) rfl (opT' 137 7 rfl rfl)) ?_
          refine wpL_nil ?_
          intro v w4 hI4 _ hdone _
          have e6 : v 8 = .bool true := hdone 8 6 rfl
          have hI4 : Below wr.heap.size wr w4 := hI4
          have HZ := Lib.hid (HG.out.1.trans (hI4.mono HG.out.1.size))
          clear hdone hI4
          simp only [putAll, Act.put, List.setIfInBounds_toArray, List.set_cons_zero, List.set_cons_succ, Nat.zero_add, Nat.reduceAdd, e6]
          go_wp2_with fail
          go_ret
          exact ⟨rfl, HZ.out⟩
        have hlt : i < X.length := by omega
        obtain ⟨x, y, gx, gy, k1, k2, k3, k4, k5, k6⟩ := HM.out.at_ i hlt
        obtain ⟨b1, rfl, p0, p1, p2, p3, p4⟩ := HG.out.2.1.get gx
        obtain ⟨b2, rfl, s0, s1, s2, s3, s4⟩ := HG.out.2.2.1.get gy
        rw [k3] at s2
        rw [k4] at s3
        rw [k5] at s4
        have hlt2 : ((i : Nat) : Int) < ((X.length : Nat) : Int) := by omega
        go_wp2_with fail
        refine wp_region_link 138 mixed (by kernel_rfl) (by rfl) (UpC wr) (UpC.start wr) ?_
        refine wpL_cons (is (.slice (some ⟨b2, 0, none⟩) X.length cap2)) (stable_is _) (step_move (go0 rfl) (.tmp 12) rfl (opO' 12 (.slice (some ⟨b2, 0, none⟩) X.length cap2) rfl rfl)) ?_
        refine wpL_cons (is (.int .i64 ((i : Nat) : Int))) (stable_is _) (step_move (go0 rfl) (.tmp 13) rfl (opO' 13 (.int .i64 ((i : Nat) : Int)) rfl rfl)) ?_
        refine wpL_cons (is (.pointer (some ⟨b2, i * 5, none⟩))) (stable_is _) (step_idx (go0 rfl) 38 (.tmp 89) (.tmp 90) rfl _ _ _ (opT' 89 0 rfl rfl) (opT' 90 1 rfl rfl) (fun W => run_idx38 b2 (X.length) cap2 i hlt W)) ?_
        refine wpL_cons (is (.pointer (some ⟨b2, i * 5, none⟩))) (stable_is _) (step_field (go0 rfl) 31 0 (.tmp 91) rfl _ _ (opT' 91 2 rfl rfl) (fun W => run_f31_0 _ _ W)) ?_
        refine wpL_cons (is (.int .i64 y.x)) (stable_is _) (step_cell (go0 rfl) 3 (.tmp 92) rfl ⟨b2, i * 5, none⟩ _ (opT' 92 3 rfl rfl) (fun W h => cellUp h s0) (fun W => by kernel_rfl)) ?_
        refine wpL_cons (is (.slice (some ⟨b1, 0, none⟩) X.length cap1)) (stable_is _) (step_move (go0 rfl) (.tmp 11) rfl (opO' 11 (.slice (some ⟨b1, 0, none⟩) X.length cap1) rfl rfl)) ?_
        refine wpL_cons (is (.int .i64 ((i : Nat) : Int))) (stable_is _) (step_move (go0 rfl) (.tmp 13) rfl (opO' 13 (.int .i64 ((i : Nat) : Int)) rfl rfl)) ?_
        refine wpL_cons (is (.pointer (some ⟨b1, i * 5, none⟩))) (stable_is _) (step_idx (go0 rfl) 38 (.tmp 94) (.tmp 95) rfl _ _ _ (opT' 94 5 rfl rfl) (opT' 95 6 rfl rfl) (fun W => run_idx38 b1 (X.length) cap1 i hlt W)) ?_
        refine wpL_cons (is (.pointer (some ⟨b1, i * 5, none⟩))) (stable_is _) (step_field (go0 rfl) 31 0 (.tmp 96) rfl _ _ (opT' 96 7 rfl rfl) (fun W => run_f31_0 _ _ W)) ?_
        refine wpL_cons (is (.int .i64 x.x)) (stable_is _) (step_cell (go0 rfl) 3 (.tmp 97) rfl ⟨b1, i * 5, none⟩ _ (opT' 97 8 rfl rfl) (fun W h => cellUp h p0) (fun W => by kernel_rfl)) ?_
        refine wpL_cons (is (.int .i64 I)) (stable_is _) (step_move (go0 rfl) (.tmp 7) rfl (opO' 7 (.int .i64 I) rfl rfl)) ?_
        refine wpL_cons (is (.int .i64 (x.x + I))) (stable_is _) (step_int (go0 rfl) .add 3 3 (.tmp 98) (.tmp 99) rfl .i64 .i64 _ _ _ (opT' 98 9 rfl rfl) (opT' 99 10 rfl rfl) (fun W => run_add3 _ _ (by omega) W)) ?_
        refine wpL_cons (is (.bool false)) (stable_is _) (step_int (go0 rfl) .neq 3 3 (.tmp 93) (.tmp 100) rfl .i64 .i64 _ _ _ (opT' 93 4 rfl rfl) (opT' 100 11 rfl rfl) (fun W => run_neq3 _ _ false (bne_eq_false_iff_eq.2 (by omega)) W)) ?_
        refine wpL_cons (is (.bool false)) (stable_is _) (step_move (go0 rfl) (.tmp 101) rfl (opT' 101 12 rfl rfl)) ?_
        refine wpL_cons (is (.slice (some ⟨b2, 0, none⟩) X.length cap2)) (stable_is _) (step_move (go1 13 false 102 rfl rfl rfl rfl) (.tmp 12) rfl (opO' 12 (.slice (some ⟨b2, 0, none⟩) X.length cap2) rfl rfl)) ?_
        refine wpL_cons (is (.int .i64 ((i : Nat) : Int))) (stable_is _) (step_move (go1 13 false 102 rfl rfl rfl rfl) (.tmp 13) rfl (opO' 13 (.int .i64 ((i : Nat) : Int)) rfl rfl)) ?_
        refine wpL_cons (is (.pointer (some ⟨b2, i * 5, none⟩))) (stable_is _) (step_idx (go1 13 false 102 rfl rfl rfl rfl) 38 (.tmp 103) (.tmp 104) rfl _ _ _ (opT' 103 14 rfl rfl) (opT' 104 15 rfl rfl) (fun W => run_idx38 b2 (X.length) cap2 i hlt W)) ?_
        refine wpL_cons (is (.pointer (some ⟨b2, i * 5 + 1, none⟩))) (stable_is _) (step_field (go1 13 false 102 rfl rfl rfl rfl) 31 1 (.tmp 105) rfl _ _ (opT' 105 16 rfl rfl) (fun W => run_f31_1 _ _ W)) ?_
        refine wpL_cons (is (.int .i64 y.y)) (stable_is _) (step_cell (go1 13 false 102 rfl rfl rfl rfl) 3 (.tmp 106) rfl ⟨b2, i * 5 + 1, none⟩ _ (opT' 106 17 rfl rfl) (fun W h => cellUp h s1) (fun W => by kernel_rfl)) ?_
        refine wpL_cons (is (.slice (some ⟨b1, 0, none⟩) X.length cap1)) (stable_is _) (step_move (go1 13 false 102 rfl rfl rfl rfl) (.tmp 11) rfl (opO' 11 (.slice (some ⟨b1, 0, none⟩) X.length cap1) rfl rfl)) ?_
        refine wpL_cons (is (.int .i64 ((i : Nat) : Int))) (stable_is _) (step_move (go1 13 false 102 rfl rfl rfl rfl) (.tmp 13) rfl (opO' 13 (.int .i64 ((i : Nat) : Int)) rfl rfl)) ?_
        refine wpL_cons (is (.pointer (some ⟨b1, i * 5, none⟩))) (stable_is _) (step_idx (go1 13 false 102 rfl rfl rfl rfl) 38 (.tmp 108) (.tmp 109) rfl _ _ _ (opT' 108 19 rfl rfl) (opT' 109 20 rfl rfl) (fun W => run_idx38 b1 (X.length) cap1 i hlt W)) ?_
        refine wpL_cons (is (.pointer (some ⟨b1, i * 5 + 1, none⟩))) (stable_is _) (step_field (go1 13 false 102 rfl rfl rfl rfl) 31 1 (.tmp 110) rfl _ _ (opT' 110 21 rfl rfl) (fun W => run_f31_1 _ _ W)) ?_
        refine wpL_cons (is (.int .i64 x.y)) (stable_is _) (step_cell (go1 13 false 102 rfl rfl rfl rfl) 3 (.tmp 111) rfl ⟨b1, i * 5 + 1, none⟩ _ (opT' 111 22 rfl rfl) (fun W h => cellUp h p1) (fun W => by kernel_rfl)) ?_
        refine wpL_cons (is (.int .i64 J)) (stable_is _) (step_move (go1 13 false 102 rfl rfl rfl rfl) (.tmp 8) rfl (opO' 8 (.int .i64 J) rfl rfl)) ?_
        refine wpL_cons (is (.int .i64 (x.y + J))) (stable_is _) (step_int (go1 13 false 102 rfl rfl rfl rfl) .add 3 3 (.tmp 112) (.tmp 113) rfl .i64 .i64 _ _ _ (opT' 112 23 rfl rfl) (opT' 113 24 rfl rfl) (fun W => run_add3 _ _ (by omega) W)) ?_
        refine wpL_cons (is (.bool false)) (stable_is _) (step_int (go1 13 false 102 rfl rfl rfl rfl) .neq 3 3 (.tmp 107) (.tmp 114) rfl .i64 .i64 _ _ _ (opT' 107 18 rfl rfl) (opT' 114 25 rfl rfl) (fun W => run_neq3 _ _ false (bne_eq_false_iff_eq.2 (by omega)) W)) ?_
        refine wpL_cons (is (.bool false)) (stable_is _) (step_pickF (go0 rfl) (.tmp 102) (.const (.bool true)) (.tmp 115) rfl (opT' 102 13 rfl rfl) (opT' 115 26 rfl rfl)) ?_
        refine wpL_cons (is (.bool false)) (stable_is _) (step_move (go0 rfl) (.tmp 116) rfl (opT' 116 27 rfl rfl)) ?_
        refine wpL_cons (is (.slice (some ⟨b2, 0, none⟩) X.length cap2)) (stable_is _) (step_move (go1 28 false 117 rfl rfl rfl rfl) (.tmp 12) rfl (opO' 12 (.slice (some ⟨b2, 0, none⟩) X.length cap2) rfl rfl)) ?_
        refine wpL_cons (is (.int .i64 ((i : Nat) : Int))) (stable_is _) (step_move (go1 28 false 117 rfl rfl rfl rfl) (.tmp 13) rfl (opO' 13 (.int .i64 ((i : Nat) : Int)) rfl rfl)) ?_
        refine wpL_cons (is (.pointer (some ⟨b2, i * 5, none⟩))) (stable_is _) (step_idx (go1 28 false 117 rfl rfl rfl rfl) 38 (.tmp 118) (.tmp 119) rfl _ _ _ (opT' 118 29 rfl rfl) (opT' 119 30 rfl rfl) (fun W => run_idx38 b2 (X.length) cap2 i hlt W)) ?_
        refine wpL_cons (is (.pointer (some ⟨b2, i * 5 + 2, none⟩))) (stable_is _) (step_field (go1 28 false 117 rfl rfl rfl rfl) 31 2 (.tmp 120) rfl _ _ (opT' 120 31 rfl rfl) (fun W => run_f31_2 _ _ W)) ?_
        refine wpL_cons (is (.agg (eA x.e0 x.e1 x.e2))) (stable_is _) (step_load29 (go1 28 false 117 rfl rfl rfl rfl) (.tmp 121) rfl b2 (i * 5 + 2) x.e0 x.e1 x.e2 (opT' 121 32 rfl rfl) (fun W h => e_range (cellUp h s2) (cellUp h s3) (cellUp h s4))) ?_
        refine wpL_cons (is (.slice (some ⟨b1, 0, none⟩) X.length cap1)) (stable_is _) (step_move (go1 28 false 117 rfl rfl rfl rfl) (.tmp 11) rfl (opO' 11 (.slice (some ⟨b1, 0, none⟩) X.length cap1) rfl rfl)) ?_
        refine wpL_cons (is (.int .i64 ((i : Nat) : Int))) (stable_is _) (step_move (go1 28 false 117 rfl rfl rfl rfl) (.tmp 13) rfl (opO' 13 (.int .i64 ((i : Nat) : Int)) rfl rfl)) ?_
        refine wpL_cons (is (.pointer (some ⟨b1, i * 5, none⟩))) (stable_is _) (step_idx (go1 28 false 117 rfl rfl rfl rfl) 38 (.tmp 123) (.tmp 124) rfl _ _ _ (opT' 123 34 rfl rfl) (opT' 124 35 rfl rfl) (fun W => run_idx38 b1 (X.length) cap1 i hlt W)) ?_
        refine wpL_cons (is (.pointer (some ⟨b1, i * 5 + 2, none⟩))) (stable_is _) (step_field (go1 28 false 117 rfl rfl rfl rfl) 31 2 (.tmp 125) rfl _ _ (opT' 125 36 rfl rfl) (fun W => run_f31_2 _ _ W)) ?_
        refine wpL_cons (is (.agg (eA x.e0 x.e1 x.e2))) (stable_is _) (step_load29 (go1 28 false 117 rfl rfl rfl rfl) (.tmp 126) rfl b1 (i * 5 + 2) x.e0 x.e1 x.e2 (opT' 126 37 rfl rfl) (fun W h => e_range (cellUp h p2) (cellUp h p3) (cellUp h p4))) ?_
        refine wpL_cons (is (.bool false)) (stable_is _) (step_two (go1 28 false 117 rfl rfl rfl rfl) (.tmp 122) (.tmp 127) _ _ _ (opT' 122 33 rfl rfl) (opT' 127 38 rfl rfl) (fun ρ W h1 h2 => exec_neq29 ρ _ rfl _ _ _ h1 h2 W)) ?_
        refine wpL_cons (is (.bool false)) (stable_is _) (step_pickF (go0 rfl) (.tmp 117) (.const (.bool true)) (.tmp 128) rfl (opT' 117 28 rfl rfl) (opT' 128 39 rfl rfl)) ?_
        refine wpL_nil ?_
        intro v w4 hI4 _ hdone _
        have e129 : v 40 = .bool false := hdone 40 129 rfl
        have hI4 : Below wr.heap.size wr w4 := hI4
        have HZ := Lib.hid (And.intro (below_trans HG.out.1 hI4) (And.intro (HG.out.2.1.below hI4) (And.intro (HG.out.2.2.1.below hI4) (And.intro (TriAt.below HG.out.2.2.2.1 hI4) (TriAt.below HG.out.2.2.2.2 hI4)))))
        clear hdone hI4
        simp only [putAll, Act.put, List.setIfInBounds_toArray, List.set_cons_zero, List.set_cons_succ, Nat.zero_add, Nat.reduceAdd, e129]
        go_wp2_with fail
        go_roundw
        case rel => exact ⟨i + 1, by omega, by first | (simp; done) | (simp; omega), HZ.out⟩
        case measure =>
          simp [intOf]
          omega

namespace edgeMoves
open Go.ChangeShapes Go.WideShapes Go.ChangeAt Go.RowKit
set_option linter.unusedVariables false

theorem own : ownKnob Try.prog.godebug = none := by kernel_rfl
theorem laidOut : laidOutB Try.prog = true := by kernel_rfl
/-! ### THE ROW's STEP -/
set_option maxRecDepth 100000 in
theorem lifted (os : Os) (started : os.Started) (H : Type) (enc : TypeId × Value → H) :
    ReturnsInHanded {} Try.checked os 7 .any (Rows.edgeMovesSpec.pre6 enc Try.prog Try.f7 Rows.edgeMovesRow.domain false) (Rows.edgeMovesSpec.post enc Try.prog Try.f7 false true false false) := by
  refine returnsInHanded_of_change (C := Try.checked) own started (by kernel_rfl) Try.func7
    (ChangeSpec.witness6 (enc := enc) (C := Try.checked) false ⟨#[], #[.agg #[.int .i64 0, .int .i64 0, .int .i64 0, .int .i64 0, .int .i64 0, .int .i64 0, .int .i64 0, .int .i64 0, .int .i64 0, .int .i64 0, .int .i64 0, .int .i64 0, .int .i64 0, .int .i64 0, .int .i64 0, .int .i64 0, .int .i64 0, .int .i64 0], .int .i64 0, .int .i64 0], []⟩ 8 (by kernel_rfl) (by kernel_rfl) (by kernel_rfl) (by kernel_rfl)) ?_
  intro W base args ds gs before hval0 hW hcnd _
  have hval : ∀ (j : Nat) t v, Try.f7.params[j]? = some t → args[j]? = some v → Value.okWide Try.prog W .any base t v := hval0
  have hW' := hW
  obtain ⟨p, q, hA0, hV, rfl, hfz, hnd⟩ := hW
  have hA : DataW.TrodAll enc Try.prog W 0 (fun _ => true) true Try.f7.params.toList args.toList ds p := hA0
  rw [Try.params7] at hA hval
  obtain ⟨v0, vs0, d0, ds0, p0, q0, hargs, rfl, rfl, h0, r0⟩ := trodAll_cons hA
  obtain ⟨v1, vs1, d1, ds1, p1, q1, rfl, rfl, rfl, h1, r1⟩ := trodAll_cons r0
  obtain ⟨v2, vs2, d2, ds2, p2, q2, rfl, rfl, rfl, h2, r2⟩ := trodAll_cons r1
  obtain ⟨rfl, rfl, rfl⟩ := trodAll_nil r2
  obtain rfl : args = #[v0, v1, v2] := by cases args; simp_all
  obtain ⟨rfl, rfl⟩ := trodVars_none hV
  obtain ⟨x0, y0, z0, rfl⟩ := arg_tri (hval 0 24 v0 rfl rfl) h0
  have lt0 : ∀ x ∈ p0, x.block < W.heap.size := by obtain ⟨m, hm⟩ := h0; exact DataW.trod_lt m _ _ _ hm
  obtain ⟨a1, rfl, rfl, rfl, w1⟩ := open_int Try.underlying3 (hval 1 3 v1 rfl rfl) h1
  obtain ⟨a2, rfl, rfl, rfl, w2⟩ := open_int Try.underlying3 (hval 2 3 v2 rfl rfl) h2
  clear hA0 hval0
  refine (Moves_walk x0 y0 z0 a1 a2 W).mono fun e W' ⟨he, bel⟩ => ?_
  subst he
  exact ⟨_, rfl, _, _, _, [], _, [], hW', trodAll_mk1 (shut_bool Try.underlying4 _), (trodAll_cons_mk (Below.trod laidOut (by kernel_rfl) (of_decide_eq_true (by kernel_rfl)) h0 bel lt0) (trodAll_cons_mk (shut_int Try.underlying3 w1) (trodAll_cons_mk (shut_int Try.underlying3 w2) trodAll_mk0))), rfl, bel.frame _, fun h => by cases h⟩

theorem over : Rows.edgeMovesRow.holds Try.pinned (OpenSpec.ofChange Rows.edgeMovesSpec) :=
  OpenClaim.holds_of_wide 7 Try.f7 rfl rfl rfl rfl rfl rfl rfl ⟨rfl, rfl, rfl, rfl, rfl⟩ rfl rfl rfl rfl rfl (by kernel_rfl) Try.func7 (by kernel_rfl)
    (of_decide_eq_true (by kernel_rfl)) (by unfold Func.isWrapper; first | (rw [if_pos (by decide +kernel)]; kernel_rfl) | (rw [if_neg (by decide +kernel)]; exact ⟨rfl, rfl⟩))
    (fun os started H enc _ => lifted os started H enc)

/-- THE STATEMENT -/
theorem proved : Rows.EdgeMovesSaid := over
end edgeMoves
end Go.Proofs.Ytgkidgpdgcdgnaa
