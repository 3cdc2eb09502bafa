/-
  The walk of ClassLeast: it returns true whatever came in. No condition.
-/
import Derived.Test.YtpbghoddemffhaaClsL
namespace Go.Proofs.Ytpbghoddemffhaa
open Go.RowKit
set_option maxRecDepth 100000
set_option maxHeartbeats 1000000

theorem ClassLeast_walk (n : Int) (w : World) :
    Calls Try.prog 4 #[.int .i64 n] w fun e w' => e = .returned (.bool true) ∧ Below w.heap.size w w' := by
  have hu : 0 ≤ IntKind.u64.wrap n := by rw [IntKind.wrap_u64]; exact Int.emod_nonneg _ (by omega)
  have hm0 : 0 ≤ IntKind.u64.wrap n % 256 := Int.emod_nonneg _ (by omega)
  have hm1 : IntKind.u64.wrap n % 256 < 256 := Int.emod_lt_of_pos _ (by omega)
  obtain ⟨q, hq⟩ := Int.eq_ofNat_of_zero_le hm0
  obtain ⟨c, g1, g2, g3, g4, g5, _⟩ := of_good (1 + q) (by omega) (by omega)
  have hc1 : ofN (1 + (q : Int)) = (c : Int) := by
    have : ((1 + q : Nat) : Int) = 1 + (q : Int) := by omega
    rw [← this]; exact g1
  have C1 := Lib.hid hc1
  have E1 := Lib.hid (show szN c = tabL.getD c 0 from atL_nat _ _ g2)
  have E2 := Lib.hid (show pgN c = pgL.getD c 0 from atL_nat _ _ g2)
  have E3 := Lib.hid (show slN c = slL.getD c 0 from atL_nat _ _ g2)
  have hs := tab_bd c g2
  have hP := pg_bd c g2
  have hL := sl_bd c g2
  have HT := Lib.hid (pg_test' c g2)
  have HS := Lib.hid (sl_eq c g2)
  have E4 : 0 < c → Hid (szN ((c : Int) - 1) = tabL.getD (c - 1) 0) := fun h => by
    have : ((c : Int) - 1) = ((c - 1 : Nat) : Int) := by omega
    show _ = _
    rw [this]
    exact atL_nat _ _ (by omega)
  have G5 := Lib.hid g5
  clear hc1 g1 g5
  generalize tabL.getD c 0 = s at *
  generalize pgL.getD c 0 = P at *
  generalize slL.getD c 0 = L at *
  generalize tabL.getD (c - 1) 0 = s' at *
  have hB := Below.refl w.heap.size w
  obtain ⟨hs1, hs2⟩ := hs
  obtain ⟨hP1, hP2⟩ := hP
  obtain ⟨hL1, hL2⟩ := hL
  have hq256 : q < 256 := by omega
  clear hm0 hm1
  have hs0 : (s == 0) = false := by simp; omega
  have hs0' : ¬ s = 0 := by omega
  have d1 : decide (s < 1) = false := by simp; omega
  have d2 : decide (L < 1) = false := by simp; omega
  have hr0 : 0 ≤ P * 64 % s := Int.emod_nonneg _ hs0'
  have hr1 : P * 64 % s < 256 := by have := Int.emod_lt_of_pos (P * 64) (show 0 < s by omega); omega
  have d3 : decide (P * 64 < 8 * (P * 64 % s)) = false := by
    have := (HT.out P.toNat (by omega) (by omega)).2 (by omega)
    rw [show ((P.toNat : Nat) : Int) = P by omega] at this
    simp; omega
  have hcase : (c : Int) ≤ 0 ∨ (0 < c ∧ s' < 1 + (q : Int) ∧ Hid (szN ((c : Int) - 1) = s')) := by
    rcases Nat.eq_zero_or_pos c with h | h
    · exact .inl (by omega)
    · exact .inr ⟨h, by have := g4 h; omega, E4 h⟩
  clear g4 E4
  rcases hcase with hc0 | ⟨hc0, g4, E4⟩
  all_goals
    go_enter Try.func4, Try.ntmps4
    go_wp2_with (first
      | (go_at_call 13; refine (of_any _ _).mono ?_; rintro e w' ⟨rfl, hb⟩; replace hB := bx hB hb; clear hb; rw [C1.out])
      | (go_at_call 9; refine (pages_any _ _).mono ?_; rintro e w' ⟨rfl, hb⟩; replace hB := bx hB hb; clear hb; rw [E2.out])
      | (go_at_call 7; refine (size_any _ _).mono ?_; rintro e w' ⟨rfl, hb⟩; replace hB := bx hB hb; clear hb; first | rw [E1.out] | rw [E4.out]))
    have HS' := HS.out
    refine wp_region_after w.heap.size w (by kernel_rfl) (by kernel_rfl) hB ?_
    repeat (go_big_quiet_step ((go_at_call 11; exact after_call (v := .int .i64 L) (by rw [← E3.out]; exact slots_any _ _))))
    refine wpQuiet_nil ?_
    clear hB HS'
    intro w3 hB
    go_wp2_with fail
    go_loopw [7] (fun p wr => ∃ k : Nat, 1 ≤ k ∧ (k : Int) ≤ P ∧ p = .int .i64 k ∧ Below w.heap.size w wr) (fun p _ => (5 - intOf p).toNat)
    case atStart => exact ⟨1, by omega, by omega, rfl, hB⟩
    case round =>
      obtain ⟨k, hk1, hk2, rfl, hB⟩ := hrel
      have ht := HT.out k hk1 hk2
      have h0 : 0 ≤ (k:Int) * 64 % s := Int.emod_nonneg _ (by omega)
      have h1 : (k:Int) * 64 % s < 256 := by have := Int.emod_lt_of_pos ((k:Int) * 64) (show 0 < s by omega); omega
      have hk4 : (k : Int) ≤ 4 := by omega
      by_cases hkP : (k : Int) = P
      · have hkP' : ¬ (k : Int) < P := by omega
        clear ht hkP
        go_wp2_with (first
          | (go_at_call 9; refine (pages_any _ _).mono ?_; rintro e w' ⟨rfl, hb⟩; replace hB := bx hB hb; clear hb; rw [E2.out])
          | (go_at_call 6; refine (told4_any _).mono ?_; rintro e w' ⟨rfl, hb⟩; replace hB := bx hB hb; clear hb)
          | (go_at_call 13; refine (of_any _ _).mono ?_; rintro e w' ⟨rfl, hb⟩; replace hB := bx hB hb; clear hb; rw [G5.out]))
        go_ret
        exact ⟨rfl, hB⟩
      · have hkP' : (k : Int) < P := by omega
        by_cases hsk : s ≤ (k : Int) * 64
        · have ht1 : ¬ ((k:Int) * 64 % s * 8 ≤ (k:Int) * 64) := fun h => hkP (ht.1 ⟨hsk, h⟩)
          clear ht hkP
          go_wp2_with (go_at_call 9; refine (pages_any _ _).mono ?_; rintro e w' ⟨rfl, hb⟩; replace hB := bx hB hb; clear hb; rw [E2.out])
          go_roundw
          case rel =>
            exact ⟨k + 1, by omega, by omega, by go_num, hB⟩
          case measure => simp [intOf]; omega
        · clear ht hkP
          go_wp2_with (go_at_call 9; refine (pages_any _ _).mono ?_; rintro e w' ⟨rfl, hb⟩; replace hB := bx hB hb; clear hb; rw [E2.out])
          go_roundw
          case rel => exact ⟨k + 1, by omega, by omega, by go_num, hB⟩
          case measure => simp [intOf]; omega
end Go.Proofs.Ytpbghoddemffhaa
