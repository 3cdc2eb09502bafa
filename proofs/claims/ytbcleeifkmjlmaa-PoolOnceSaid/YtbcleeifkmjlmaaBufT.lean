/-
  The walk of layer 17's told: it returns true. No condition.
-/
import Derived.Test.YtbcleeifkmjlmaaBufC
namespace Go.Proofs.Ytbcleeifkmjlmaa
open Go.RowKit
set_option maxRecDepth 100000
set_option maxHeartbeats 1000000

theorem told17_any (w : World) :
    Calls Try.prog 17 #[] w fun e w' => e = .returned (.bool true) ∧ Below w.heap.size w w' := by
  go_enter Try.func17, Try.ntmps17
  go_wp2_with fail
  refine (bnew_any _).mono ?_
  rintro e w1 ⟨rfl, hA, hb⟩
  go_wp2_with fail
  refine (bput_room _ _ _ _ hA (by decide)).mono ?_
  rintro e w2 ⟨rfl, hA2, hu2⟩
  go_wp2_with fail
  refine (bput_room _ _ _ _ hA2 (by decide)).mono ?_
  rintro e w3 ⟨rfl, hA3, hu3⟩
  go_wp2_with fail
  refine (bget_some _ _ [1] 2 hA3).mono ?_
  rintro e w4 ⟨rfl, hA4, hu4⟩
  go_wp2_with fail
  refine (blen_any _ _ _ hA4).mono ?_
  rintro e w' ⟨rfl, rfl⟩
  go_wp2_with fail
  refine (ball_any _ _ _ hA4).mono ?_
  rintro e w5 ⟨v, rfl, hv, hb5⟩
  go_wp2_with fail
  refine (ints_any _ _ _ [1] [1] (hv.rd.alloc _) (Rd.one w5 1) (by decide)).mono ?_
  rintro e w6 ⟨rfl, n, rfl⟩
  rw [show decide (([1] : List Int) = [1]) = true from by decide]
  go_wp2_with fail
  go_ret
  have hB : Below w.heap.size w w4 := below_upd (below_upd (below_upd hb hu2 hb.size (fun k h => Nat.le_of_eq h.symm)) hu3 (Nat.le_trans hb.size hu2.size) (fun k h => Nat.le_of_eq h.symm)) hu4 (Nat.le_trans hb.size (Nat.le_trans hu2.size hu3.size)) (fun k h => Nat.le_of_eq h.symm)
  have hB5 := bx hB hb5
  exact ⟨rfl, Upd.toBelow (F := fun _ => False) (((Upd.ofBelow hB5).alloc _).drewN n) (Nat.le_refl _) (fun _ h => h.elim)⟩
end Go.Proofs.Ytbcleeifkmjlmaa
