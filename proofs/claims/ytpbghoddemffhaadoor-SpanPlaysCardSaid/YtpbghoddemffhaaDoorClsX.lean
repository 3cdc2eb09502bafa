/-
  The walks of the size classes, second part: Of of the program, and Pages, Slots, Of of the reference, each with its contract. No condition.
-/
import Derived.Test.YtpbghoddemffhaaDoorClsW
namespace Go.Proofs.YtpbghoddemffhaaDoor
open Go.RowKit
set_option maxRecDepth 100000
set_option maxHeartbeats 400000

theorem rpages_in (k : Nat) (hk : k < 16) (w : World) :
    Calls Tryd.prog 19 #[.int .i64 (k : Int)] w fun e w' => e = .returned (.int .i64 (pgN k)) ∧ Below w.heap.size w w' := by
  have E := Lib.hid (show szN k = tabL.getD k 0 from atL_nat _ _ hk)
  have E2 := Lib.hid (show pgN k = pgL.getD k 0 from atL_nat _ _ hk)
  have hs := tab_bd k hk
  have hP := pg_bd k hk
  have HT := Lib.hid (pg_test' k hk)
  generalize tabL.getD k 0 = s at hs E HT
  generalize pgL.getD k 0 = P at hP E2 HT
  obtain ⟨hs1, hs2⟩ := hs
  obtain ⟨hP1, hP2⟩ := hP
  have hs0 : (s == 0) = false := by simp; omega
  have hs0' : ¬ s = 0 := by omega
  go_enter Tryd.func19, Tryd.ntmps19
  go_wp2_with (go_at_call 14; refine (rsize_any _ _).mono ?_; rintro e w1 ⟨rfl, hb⟩; rw [E.out])
  go_loopw [4] (fun p wr => ∃ q : Nat, 1 ≤ q ∧ (q : Int) ≤ P ∧ p = .int .i64 q ∧ Below w.heap.size w wr) (fun p _ => (5 - intOf p).toNat)
  case atStart => exact ⟨1, by omega, by omega, rfl, hb⟩
  case round =>
    obtain ⟨q, hq1, hq2, rfl, hbr⟩ := hrel
    have ht := HT.out q hq1 hq2
    have h0 : 0 ≤ (q:Int) * 64 % s := Int.emod_nonneg _ (by omega)
    have h1 : (q:Int) * 64 % s < 256 := by have := Int.emod_lt_of_pos ((q:Int) * 64) (show 0 < s by omega); omega
    have hq4 : (q : Int) ≤ 4 := by omega
    by_cases hqP : (q : Int) = P
    · obtain ⟨ht1, ht2⟩ := ht.2 hqP
      have HQ := Lib.hid hqP
      clear hqP ht
      go_wp2
      go_ret
      exact ⟨by rw [E2.out, ← HQ.out]; rfl, hbr⟩
    · by_cases hsq : s ≤ (q : Int) * 64
      · have ht1 : ¬ ((q:Int) * 64 % s * 8 ≤ (q:Int) * 64) := fun h => hqP (ht.1 ⟨hsq, h⟩)
        clear ht
        go_wp2
        go_roundw
        case rel => exact ⟨q + 1, by omega, by omega, by go_num, hbr⟩
        case measure => simp [intOf]; omega
      · clear ht
        go_wp2
        go_roundw
        case rel => exact ⟨q + 1, by omega, by omega, by go_num, hbr⟩
        case measure => simp [intOf]; omega
theorem rpages_out (k : Int) (h : k < 0 ∨ 15 < k) (w : World) :
    Calls Tryd.prog 19 #[.int .i64 k] w fun e w' => e = .returned (.int .i64 (pgN k)) ∧ Below w.heap.size w w' := by
  have E := Lib.hid (show szN k = 0 from atL_out _ _ h)
  have E2 := Lib.hid (show pgN k = 0 from atL_out _ _ h)
  clear h
  go_enter Tryd.func19, Tryd.ntmps19
  go_wp2_with (go_at_call 14; refine (rsize_any _ _).mono ?_; rintro e w1 ⟨rfl, hb⟩; rw [E.out])
  go_ret
  exact ⟨by rw [E2.out]; rfl, hb⟩
theorem rpages_any (k : Int) (w : World) :
    Calls Tryd.prog 19 #[.int .i64 k] w fun e w' => e = .returned (.int .i64 (pgN k)) ∧ Below w.heap.size w w' := by
  by_cases h : k < 0 ∨ 15 < k
  · exact rpages_out k h w
  · obtain ⟨n, rfl⟩ := Int.eq_ofNat_of_zero_le (show 0 ≤ k by omega)
    exact rpages_in n (by omega) w

theorem rslots_in (k : Nat) (hk : k < 16) (w : World) :
    Calls Tryd.prog 54 #[.int .i64 (k : Int)] w fun e w' => e = .returned (.int .i64 (slN k)) ∧ Below w.heap.size w w' := by
  have E := Lib.hid (show szN k = tabL.getD k 0 from atL_nat _ _ hk)
  have E2 := Lib.hid (show pgN k = pgL.getD k 0 from atL_nat _ _ hk)
  have E3 := Lib.hid (show slN k = slL.getD k 0 from atL_nat _ _ hk)
  have hs := tab_bd k hk
  have hP := pg_bd k hk
  have HT := Lib.hid (sl_eq k hk)
  generalize tabL.getD k 0 = s at hs E HT
  generalize pgL.getD k 0 = P at hP E2 HT
  generalize slL.getD k 0 = L at E3 HT
  obtain ⟨hs1, hs2⟩ := hs
  obtain ⟨hP1, hP2⟩ := hP
  have hs0 : (s == 0) = false := by simp; omega
  have hs0' : ¬ s = 0 := by omega
  have hd0 : 0 ≤ P * 64 / s := Int.ediv_nonneg (by omega) (by omega)
  have hd1 : P * 64 / s ≤ 256 := by have := Int.ediv_le_self s (show 0 ≤ P * 64 by omega); omega
  go_enter Tryd.func54, Tryd.ntmps54
  go_wp2_with fail
  refine (rsize_any _ _).mono ?_
  rintro e w1 ⟨rfl, hb⟩
  rw [E.out]
  go_wp2_with fail
  refine (rpages_any _ _).mono ?_
  rintro e w2 ⟨rfl, hb2⟩
  rw [E2.out]
  go_wp2_with fail
  refine (rsize_any _ _).mono ?_
  rintro e w3 ⟨rfl, hb3⟩
  rw [E.out]
  go_wp2_with fail
  go_ret
  exact ⟨by rw [E3.out, ← HT.out]; rfl, bstep (bstep hb hb2 hb.size) hb3 (Nat.le_trans hb.size hb2.size)⟩
theorem rslots_out (k : Int) (h : k < 0 ∨ 15 < k) (w : World) :
    Calls Tryd.prog 54 #[.int .i64 k] w fun e w' => e = .returned (.int .i64 (slN k)) ∧ Below w.heap.size w w' := by
  have E := Lib.hid (show szN k = 0 from atL_out _ _ h)
  have E2 := Lib.hid (show slN k = 0 from atL_out _ _ h)
  clear h
  go_enter Tryd.func54, Tryd.ntmps54
  go_wp2_with (go_at_call 14; refine (rsize_any _ _).mono ?_; rintro e w1 ⟨rfl, hb⟩; rw [E.out])
  go_ret
  exact ⟨by rw [E2.out]; rfl, hb⟩
theorem rslots_any (k : Int) (w : World) :
    Calls Tryd.prog 54 #[.int .i64 k] w fun e w' => e = .returned (.int .i64 (slN k)) ∧ Below w.heap.size w w' := by
  by_cases h : k < 0 ∨ 15 < k
  · exact rslots_out k h w
  · obtain ⟨n, rfl⟩ := Int.eq_ofNat_of_zero_le (show 0 ≤ k by omega)
    exact rslots_in n (by omega) w
end Go.Proofs.YtpbghoddemffhaaDoor
