/-
  The walks of the size classes: table, Count, Size, Pages, Slots, Of of the program and of the reference, each with its contract. No condition.
-/
import Derived.Test.YtpbghoddemffhaaDoorGen
import Derived.Test.YtpbghoddemffhaaDoorClsP
namespace Go.Proofs.YtpbghoddemffhaaDoor
open Go.RowKit
set_option maxRecDepth 100000
set_option maxHeartbeats 400000

def tabV : Value := .agg #[.int .i64 1, .int .i64 2, .int .i64 3, .int .i64 4, .int .i64 6, .int .i64 8, .int .i64 12, .int .i64 16, .int .i64 24, .int .i64 32, .int .i64 48, .int .i64 64, .int .i64 96, .int .i64 128, .int .i64 192, .int .i64 256]
theorem table_any (w : World) :
    Calls Tryd.prog 60 #[] w fun e w' => e = .returned tabV ∧ Below w.heap.size w w' := by
  go_enter Tryd.func60, Tryd.ntmps60
  go_wp2
  refine bodyPost_ret (v := tabV) (by simp [results, Tryd.results60, go_sem, tabV]) rfl ⟨rfl, ?_⟩
  exact (Below.refl _ _).alloc (Nat.le_refl _) _
theorem count_any (w : World) :
    Calls Tryd.prog 59 #[] w fun e w' => e = .returned (.int .i64 16) ∧ Below w.heap.size w w' := by
  go_enter Tryd.func59, Tryd.ntmps59
  go_wp2_with (go_at_call 60; refine (table_any _).mono ?_; rintro e w' ⟨rfl, hb⟩)
  go_ret
  exact ⟨rfl, hb⟩
theorem idx_any (k : Nat) (hk : k < 16) (w : World) : (Instr.index 73 tabV (.int .i64 (k : Int))).run Tryd.prog w = .ok (.int .i64 (tabL.getD k 0)) w := by
  have h : k = 0 ∨ k = 1 ∨ k = 2 ∨ k = 3 ∨ k = 4 ∨ k = 5 ∨ k = 6 ∨ k = 7 ∨ k = 8 ∨ k = 9 ∨ k = 10 ∨ k = 11 ∨ k = 12 ∨ k = 13 ∨ k = 14 ∨ k = 15 := by omega
  rcases h with rfl | rfl | rfl | rfl | rfl | rfl | rfl | rfl | rfl | rfl | rfl | rfl | rfl | rfl | rfl | rfl
  all_goals (show _ = _; kernel_rfl)

theorem size_out (k : Int) (h : k < 0 ∨ 15 < k) (w : World) :
    Calls Tryd.prog 51 #[.int .i64 k] w fun e w' => e = .returned (.int .i64 (szN k)) ∧ Below w.heap.size w w' := by
  have e0 : szN k = 0 := atL_out _ _ h
  have E := Lib.hid e0
  clear e0
  rcases h with h | h
  · go_enter Tryd.func51, Tryd.ntmps51
    go_wp2_with (go_at_call 59; refine (count_any _).mono ?_; rintro e w' ⟨rfl, hb⟩)
    go_ret
    exact ⟨by rw [E.out]; rfl, Below.refl _ _⟩
  · have h' : ¬ k < 0 := by omega
    go_enter Tryd.func51, Tryd.ntmps51
    go_wp2_with (go_at_call 59; refine (count_any _).mono ?_; rintro e w' ⟨rfl, hb⟩)
    go_ret
    exact ⟨by rw [E.out]; rfl, hb⟩
theorem size_in (k : Nat) (hk : k < 16) (w : World) :
    Calls Tryd.prog 51 #[.int .i64 (k : Int)] w fun e w' => e = .returned (.int .i64 (szN k)) ∧ Below w.heap.size w w' := by
  have E := Lib.hid (show szN k = tabL.getD k 0 from atL_nat _ _ hk)
  have hidx := idx_any k hk
  generalize tabL.getD k 0 = s at hidx E
  go_enter Tryd.func51, Tryd.ntmps51
  go_wp2_with (first | (go_at_call 59; refine (count_any _).mono ?_; rintro e w1 ⟨rfl, hb⟩) | (go_at_call 60; refine (table_any _).mono ?_; rintro e w2 ⟨rfl, hb2⟩))
  go_ret
  exact ⟨by rw [E.out]; rfl, bstep hb hb2 hb.size⟩

theorem size_any (k : Int) (w : World) :
    Calls Tryd.prog 51 #[.int .i64 k] w fun e w' => e = .returned (.int .i64 (szN k)) ∧ Below w.heap.size w w' := by
  by_cases h : k < 0 ∨ 15 < k
  · exact size_out k h w
  · obtain ⟨n, rfl⟩ := Int.eq_ofNat_of_zero_le (show 0 ≤ k by omega)
    exact size_in n (by omega) w

theorem pages_in (k : Nat) (hk : k < 16) (w : World) :
    Calls Tryd.prog 61 #[.int .i64 (k : Int)] w fun e w' => e = .returned (.int .i64 (pgN k)) ∧ Below w.heap.size w w' := by
  have E := Lib.hid (show szN k = tabL.getD k 0 from atL_nat _ _ hk)
  have E2 := Lib.hid (show pgN k = pgL.getD k 0 from atL_nat _ _ hk)
  have hs := tab_bd k hk
  have hP := pg_bd k hk
  have HT := Lib.hid (pg_test k hk)
  generalize tabL.getD k 0 = s at hs E HT
  generalize pgL.getD k 0 = P at hP E2 HT
  obtain ⟨hs1, hs2⟩ := hs
  obtain ⟨hP1, hP2⟩ := hP
  have hs0 : (s == 0) = false := by simp; omega
  have hs0' : ¬ s = 0 := by omega
  go_enter Tryd.func61, Tryd.ntmps61
  go_wp2_with (go_at_call 51; refine (size_any _ _).mono ?_; rintro e w1 ⟨rfl, hb⟩; rw [E.out])
  go_loopw [4] (fun p wr => ∃ q : Nat, 1 ≤ q ∧ (q : Int) ≤ P ∧ p = .int .i64 q ∧ Below w.heap.size w wr) (fun p _ => (5 - intOf p).toNat)
  case atStart => exact ⟨1, by omega, by omega, rfl, hb⟩
  case round =>
    obtain ⟨q, hq1, hq2, rfl, hbr⟩ := hrel
    have ht := HT.out q hq1 hq2
    have h0 : 0 ≤ (q:Int) * 64 % s := Int.emod_nonneg _ (by omega)
    have h1 : (q:Int) * 64 % s < 256 := by have := Int.emod_lt_of_pos ((q:Int) * 64) (show 0 < s by omega); omega
    have hq4 : (q : Int) ≤ 4 := by omega
    by_cases hqP : (q : Int) = P
    · have ht1 := ht.2 hqP
      have HQ := Lib.hid hqP
      clear hqP ht
      go_wp2
      go_region
      go_wp2
      go_ret
      exact ⟨by rw [E2.out, ← HQ.out]; rfl, hbr.drew⟩
    · have ht1 : ¬ _ := fun h => hqP (ht.1 h)
      clear ht
      go_wp2
      go_region
      go_wp2
      go_roundw
      case rel => exact ⟨q + 1, by omega, by omega, by go_num, hbr.drew⟩
      case measure => simp [intOf]; omega
theorem pages_out (k : Int) (h : k < 0 ∨ 15 < k) (w : World) :
    Calls Tryd.prog 61 #[.int .i64 k] w fun e w' => e = .returned (.int .i64 (pgN k)) ∧ Below w.heap.size w w' := by
  have E := Lib.hid (show szN k = 0 from atL_out _ _ h)
  have E2 := Lib.hid (show pgN k = 0 from atL_out _ _ h)
  clear h
  go_enter Tryd.func61, Tryd.ntmps61
  go_wp2_with (go_at_call 51; refine (size_any _ _).mono ?_; rintro e w1 ⟨rfl, hb⟩; rw [E.out])
  go_ret
  exact ⟨by rw [E2.out]; rfl, hb⟩
theorem pages_any (k : Int) (w : World) :
    Calls Tryd.prog 61 #[.int .i64 k] w fun e w' => e = .returned (.int .i64 (pgN k)) ∧ Below w.heap.size w w' := by
  by_cases h : k < 0 ∨ 15 < k
  · exact pages_out k h w
  · obtain ⟨n, rfl⟩ := Int.eq_ofNat_of_zero_le (show 0 ≤ k by omega)
    exact pages_in n (by omega) w

theorem slots_in (k : Nat) (hk : k < 16) (w : World) :
    Calls Tryd.prog 52 #[.int .i64 (k : Int)] w fun e w' => e = .returned (.int .i64 (slN k)) ∧ Below w.heap.size w w' := by
  have E := Lib.hid (show szN k = tabL.getD k 0 from atL_nat _ _ hk)
  have E2 := Lib.hid (show pgN k = pgL.getD k 0 from atL_nat _ _ hk)
  have E3 := Lib.hid (show slN k = slL.getD k 0 from atL_nat _ _ hk)
  have hs := tab_bd k hk
  have hP := pg_bd k hk
  have HT := Lib.hid (sl_eq k hk)
  generalize tabL.getD k 0 = s at hs E HT
  generalize pgL.getD k 0 = P at hP E2 HT
  generalize slL.getD k 0 = L at E3 HT
  obtain ⟨hs1, hs2⟩ := hs
  obtain ⟨hP1, hP2⟩ := hP
  have hs0' : ¬ s = 0 := by omega
  have hd0 : 0 ≤ P * 64 / s := Int.ediv_nonneg (by omega) (by omega)
  have hd1 : P * 64 / s ≤ 256 := by have := Int.ediv_le_self s (show 0 ≤ P * 64 by omega); omega
  go_enter Tryd.func52, Tryd.ntmps52
  go_wp2_with (first | (go_at_call 51; refine (size_any _ _).mono ?_; rintro e w1 ⟨rfl, hb⟩; rw [E.out]) | (go_at_call 61; refine (pages_any _ _).mono ?_; rintro e w2 ⟨rfl, hb2⟩; rw [E2.out]))
  go_ret
  exact ⟨by rw [E3.out, ← HT.out]; rfl, bstep hb hb2 hb.size⟩
theorem slots_out (k : Int) (h : k < 0 ∨ 15 < k) (w : World) :
    Calls Tryd.prog 52 #[.int .i64 k] w fun e w' => e = .returned (.int .i64 (slN k)) ∧ Below w.heap.size w w' := by
  have E := Lib.hid (show szN k = 0 from atL_out _ _ h)
  have E2 := Lib.hid (show slN k = 0 from atL_out _ _ h)
  clear h
  go_enter Tryd.func52, Tryd.ntmps52
  go_wp2_with (go_at_call 51; refine (size_any _ _).mono ?_; rintro e w1 ⟨rfl, hb⟩; rw [E.out])
  go_ret
  exact ⟨by rw [E2.out]; rfl, hb⟩
theorem slots_any (k : Int) (w : World) :
    Calls Tryd.prog 52 #[.int .i64 k] w fun e w' => e = .returned (.int .i64 (slN k)) ∧ Below w.heap.size w w' := by
  by_cases h : k < 0 ∨ 15 < k
  · exact slots_out k h w
  · obtain ⟨n, rfl⟩ := Int.eq_ofNat_of_zero_le (show 0 ≤ k by omega)
    exact slots_in n (by omega) w

/-! ### The reference. -/
theorem sizes_any (w : World) :
    Calls Tryd.prog 53 #[] w fun e w' => ∃ g : Nat, e = .returned (.slice (some ⟨g, 0, none⟩) 16 16) ∧ (∀ j, j < 16 → w'.cell? ⟨g, j, none⟩ = some (.int .i64 (tabL.getD j 0))) ∧ Below w.heap.size w w' := by
  go_enter Tryd.func53, Tryd.ntmps53
  go_wp2
  go_ret
  refine ⟨w.heap.size, rfl, fun j hj => ?_, (Below.refl _ _).alloc (Nat.le_refl _) _⟩
  have h : j = 0 ∨ j = 1 ∨ j = 2 ∨ j = 3 ∨ j = 4 ∨ j = 5 ∨ j = 6 ∨ j = 7 ∨ j = 8 ∨ j = 9 ∨ j = 10 ∨ j = 11 ∨ j = 12 ∨ j = 13 ∨ j = 14 ∨ j = 15 := by omega
  rcases h with rfl | rfl | rfl | rfl | rfl | rfl | rfl | rfl | rfl | rfl | rfl | rfl | rfl | rfl | rfl | rfl
  all_goals simp [tabL]
theorem rsize_in (k : Nat) (hk : k < 16) (w : World) :
    Calls Tryd.prog 14 #[.int .i64 (k : Int)] w fun e w' => e = .returned (.int .i64 (szN k)) ∧ Below w.heap.size w w' := by
  have E := Lib.hid (show szN k = tabL.getD k 0 from atL_nat _ _ hk)
  generalize hs : tabL.getD k 0 = s at E
  have HS := Lib.hid hs
  clear hs
  go_enter Tryd.func14, Tryd.ntmps14
  go_wp2_with (go_at_call 53; refine (sizes_any _).mono ?_; rintro e w1 ⟨g, rfl, hc, hb⟩; have hck := hc k hk; rw [HS.out] at hck; clear hc)
  go_ret
  exact ⟨by rw [E.out]; rfl, hb⟩
theorem rsize_out (k : Int) (h : k < 0 ∨ 15 < k) (w : World) :
    Calls Tryd.prog 14 #[.int .i64 k] w fun e w' => e = .returned (.int .i64 (szN k)) ∧ Below w.heap.size w w' := by
  have E := Lib.hid (show szN k = 0 from atL_out _ _ h)
  rcases h with h | h
  · go_enter Tryd.func14, Tryd.ntmps14
    go_wp2_with fail
    go_ret
    exact ⟨by rw [E.out]; rfl, Below.refl _ _⟩
  · have h' : ¬ k < 0 := by omega
    go_enter Tryd.func14, Tryd.ntmps14
    go_wp2_with fail
    go_ret
    exact ⟨by rw [E.out]; rfl, Below.refl _ _⟩
theorem rsize_any (k : Int) (w : World) :
    Calls Tryd.prog 14 #[.int .i64 k] w fun e w' => e = .returned (.int .i64 (szN k)) ∧ Below w.heap.size w w' := by
  by_cases h : k < 0 ∨ 15 < k
  · exact rsize_out k h w
  · obtain ⟨n, rfl⟩ := Int.eq_ofNat_of_zero_le (show 0 ≤ k by omega)
    exact rsize_in n (by omega) w
end Go.Proofs.YtpbghoddemffhaaDoor
