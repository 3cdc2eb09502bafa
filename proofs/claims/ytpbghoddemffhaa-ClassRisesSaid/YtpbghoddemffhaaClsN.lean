/-
  The walk of ClassRises: it returns true whatever came in. No condition.
-/
import Derived.Test.YtpbghoddemffhaaClsL
namespace Go.Proofs.Ytpbghoddemffhaa
open Go.RowKit
set_option maxRecDepth 100000
set_option maxHeartbeats 1000000

theorem ClassRises_walk (a b : Int) (w : World) :
    Calls Try.prog 5 #[.int .i64 a, .int .i64 b] w fun e w' => e = .returned (.bool true) ∧ Below w.heap.size w w' := by
  have hu : 0 ≤ IntKind.u64.wrap a := by rw [IntKind.wrap_u64]; exact Int.emod_nonneg _ (by omega)
  have hv : 0 ≤ IntKind.u64.wrap b := by rw [IntKind.wrap_u64]; exact Int.emod_nonneg _ (by omega)
  have hm0 : 0 ≤ IntKind.u64.wrap a % 256 := Int.emod_nonneg _ (by omega)
  have hm1 : IntKind.u64.wrap a % 256 < 256 := Int.emod_lt_of_pos _ (by omega)
  have hn0 : 0 ≤ IntKind.u64.wrap b % 256 := Int.emod_nonneg _ (by omega)
  have hn1 : IntKind.u64.wrap b % 256 < 256 := Int.emod_lt_of_pos _ (by omega)
  obtain ⟨p, hp⟩ := Int.eq_ofNat_of_zero_le hm0
  obtain ⟨q, hq⟩ := Int.eq_ofNat_of_zero_le hn0
  have hp256 : p < 256 := by omega
  have hq256 : q < 256 := by omega
  clear hm0 hm1 hn0 hn1
  have o0 := Lib.hid (show szN (-1) = 0 from atL_out _ _ (by omega))
  have o1 := Lib.hid (show szN 16 = 0 from atL_out _ _ (by omega))
  have o2 := Lib.hid (show slN 16 = 0 from atL_out _ _ (by omega))
  have o3 := Lib.hid (show ofN 0 = -1 from of_low _ (by omega))
  have hB := Below.refl w.heap.size w
  have F : ∃ k j : Nat, (p ≤ q ∧ ofN (1 + (p : Int)) = k ∧ ofN (1 + (q : Int)) = j ∧ k < 16 ∧ j < 16 ∧ k ≤ j ∧ tabL.getD k 0 < 2 * (1 + (p : Int)) ∧ 1 + (q : Int) ≤ tabL.getD j 0) ∨
      (q < p ∧ ofN (1 + (q : Int)) = k ∧ ofN (1 + (p : Int)) = j ∧ k < 16 ∧ j < 16 ∧ k ≤ j ∧ tabL.getD k 0 < 2 * (1 + (q : Int)) ∧ 1 + (p : Int) ≤ tabL.getD j 0) := by
    rcases Nat.lt_or_ge q p with h | h
    · obtain ⟨k, j, r⟩ := of_two q p (by omega) hp256
      exact ⟨k, j, .inr ⟨h, r⟩⟩
    · obtain ⟨k, j, r⟩ := of_two p q (by omega) hq256
      exact ⟨k, j, .inl ⟨h, r⟩⟩
  obtain ⟨k, j, F⟩ := F
  rcases F with ⟨hpq, c1, c2, k16, j16, kj, f1, f2⟩ | ⟨hpq, c1, c2, k16, j16, kj, f1, f2⟩
  all_goals
    have C1 := Lib.hid c1
    have C2 := Lib.hid c2
    clear c1 c2
    have E1 := Lib.hid (show szN k = tabL.getD k 0 from atL_nat _ _ k16)
    have E2 := Lib.hid (show szN j = tabL.getD j 0 from atL_nat _ _ j16)
    have hd1 : decide (j < k) = false := by simp; omega
    have b1 := tab_bd k k16
    have b2 := tab_bd j j16
    generalize tabL.getD k 0 = s at *
    generalize tabL.getD j 0 = t at *
    go_enter Try.func5, Try.ntmps5
    go_wp2_with fail
    refine (of_any _ _).mono ?_
    rintro e w' ⟨rfl, hb⟩
    replace hB := bx hB hb
    clear hb
    rw [C1.out]
    go_wp2_with fail
    refine (of_any _ _).mono ?_
    rintro e w' ⟨rfl, hb⟩
    replace hB := bx hB hb
    clear hb
    rw [C2.out]
    go_wp2_with fail
    refine (size_any _ _).mono ?_
    rintro e w' ⟨rfl, hb⟩
    replace hB := bx hB hb
    clear hb
    rw [E1.out]
    go_wp2_with fail
    refine (size_any _ _).mono ?_
    rintro e w' ⟨rfl, hb⟩
    replace hB := bx hB hb
    clear hb
    rw [E2.out]
    go_wp2_with fail
    go_loopw [9] (fun p wr => ∃ c : Nat, 1 ≤ c ∧ c ≤ 16 ∧ p = .int .i64 c ∧ Below w.heap.size w wr) (fun p _ => (17 - intOf p).toNat)
    case atStart => exact ⟨1, by omega, by omega, rfl, hB⟩
    case round =>
      obtain ⟨c, hc1, hc2, rfl, hB⟩ := hrel
      by_cases hc : c < 16
      · have A1 := Lib.hid (show szN c = tabL.getD c 0 from atL_nat _ _ hc)
        have A2 := Lib.hid (show szN ((c : Int) - 1) = tabL.getD (c - 1) 0 from by
          rw [show ((c : Int) - 1) = ((c - 1 : Nat) : Int) by omega]
          exact atL_nat _ _ (by omega))
        have A3 := Lib.hid (show slN c = slL.getD c 0 from atL_nat _ _ hc)
        have A4 := Lib.hid (show pgN c = pgL.getD c 0 from atL_nat _ _ hc)
        have hr := tab_rises (c - 1) c (by omega) hc
        have hl := sl_bd c hc
        have hg := pg_bd c hc
        generalize tabL.getD c 0 = u at *
        generalize tabL.getD (c - 1) 0 = v at *
        generalize slL.getD c 0 = L at *
        generalize pgL.getD c 0 = P at *
        go_wp2_with (first
          | (go_at_call 15; refine (count_any _).mono ?_; rintro e w' ⟨rfl, hb⟩; replace hB := bx hB hb; clear hb)
          | (go_at_call 7; refine (size_any _ _).mono ?_; rintro e w' ⟨rfl, hb⟩; replace hB := bx hB hb; clear hb; first | rw [A1.out] | rw [A2.out])
          | (go_at_call 11; refine (slots_any _ _).mono ?_; rintro e w' ⟨rfl, hb⟩; replace hB := bx hB hb; clear hb; rw [A3.out])
          | (go_at_call 9; refine (pages_any _ _).mono ?_; rintro e w' ⟨rfl, hb⟩; replace hB := bx hB hb; clear hb; rw [A4.out]))
        go_roundw
        case rel => exact ⟨c + 1, by omega, by omega, by go_num, hB⟩
        case measure => simp [intOf]; omega
      · go_wp2_with (first
          | (go_at_call 15; refine (count_any _).mono ?_; rintro e w' ⟨rfl, hb⟩; replace hB := bx hB hb; clear hb)
          | (go_at_call 6; refine (told4_any _).mono ?_; rintro e w' ⟨rfl, hb⟩; replace hB := bx hB hb; clear hb)
          | (go_at_call 7; refine (size_any _ _).mono ?_; rintro e w' ⟨rfl, hb⟩; replace hB := bx hB hb; clear hb; first | rw [o0.out] | rw [o1.out])
          | (go_at_call 11; refine (slots_any _ _).mono ?_; rintro e w' ⟨rfl, hb⟩; replace hB := bx hB hb; clear hb; rw [o2.out])
          | (go_at_call 13; refine (of_any _ _).mono ?_; rintro e w' ⟨rfl, hb⟩; replace hB := bx hB hb; clear hb; rw [o3.out]))
        go_ret
        exact ⟨rfl, hB⟩
end Go.Proofs.Ytpbghoddemffhaa
