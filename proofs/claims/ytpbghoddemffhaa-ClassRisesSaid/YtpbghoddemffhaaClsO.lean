/-
  The walks of the size classes, third part: Of of the program and of the reference. No condition.
-/
import Derived.Test.YtpbghoddemffhaaClsX
namespace Go.Proofs.Ytpbghoddemffhaa
open Go.RowKit
set_option maxRecDepth 100000
set_option maxHeartbeats 400000
theorem rof_low (n : Int) (h : n < 1) (w : World) :
    Calls Try.prog 14 #[.int .i64 n] w fun e w' => e = .returned (.int .i64 (ofN n)) ∧ Below w.heap.size w w' := by
  have E := Lib.hid (of_low n h)
  go_enter Try.func14, Try.ntmps14
  go_wp2_with fail
  go_ret
  exact ⟨by rw [E.out]; rfl, Below.refl _ _⟩
theorem tab_256 (j : Nat) (hj : j < 16) (n : Int) (h : 256 < n) : tabL.getD j 0 < n := by have := tab_bd j hj; omega
theorem rof_high (n : Int) (h : 256 < n) (w : World) :
    Calls Try.prog 14 #[.int .i64 n] w fun e w' => e = .returned (.int .i64 (ofN n)) ∧ Below w.heap.size w w' := by
  have E := Lib.hid (of_miss n (fun j hj => tab_256 j hj n h))
  have h1 : ¬ n < 1 := by omega
  go_enter Try.func14, Try.ntmps14
  go_wp2_with fail
  go_ret
  exact ⟨by rw [E.out]; rfl, Below.refl _ _⟩
theorem rof_in (n : Int) (h1 : 1 ≤ n) (h2 : n ≤ 256) (w : World) :
    Calls Try.prog 14 #[.int .i64 n] w fun e w' => e = .returned (.int .i64 (ofN n)) ∧ Below w.heap.size w w' := by
  have h1' : ¬ n < 1 := by omega
  have h2' : ¬ 256 < n := by omega
  go_enter Try.func14, Try.ntmps14
  go_wp2_with fail
  go_loopw [3] (fun p wr => ∃ c : Nat, c < 16 ∧ p = .int .i64 c ∧ Below w.heap.size w wr ∧ Hid (∀ j, j < c → tabL.getD j 0 < n)) (fun p _ => (16 - intOf p).toNat)
  case atStart => exact ⟨0, by omega, rfl, Below.refl _ _, fun j hj => absurd hj (by omega)⟩
  case round =>
    obtain ⟨c, hc, rfl, hbr, hl⟩ := hrel
    have E := Lib.hid (show szN c = tabL.getD c 0 from atL_nat _ _ hc)
    generalize hs : tabL.getD c 0 = s at E
    have HS := Lib.hid hs
    clear hs
    have hlast : c = 15 → n ≤ s := by
      intro e
      have := HS.out
      rw [e] at this
      have : s = 256 := this.symm
      omega
    by_cases ht : s < n
    · go_wp2_with (go_at_call 8; refine (rsize_any _ _).mono ?_; rintro e w1 ⟨rfl, hb⟩; rw [E.out])
      go_roundw
      case rel =>
        refine ⟨c + 1, by omega, by go_num, bstep hbr hb hbr.size, fun j hj => ?_⟩
        by_cases e : j = c
        · subst e; have := HS.out; omega
        · exact hl.out j (by omega)
      case measure => simp [intOf]; omega
    · have hh : ofN n = c := of_hit n c h1 hc (by have := HS.out; omega) hl.out
      have HH := Lib.hid hh
      clear hh
      go_wp2_with (go_at_call 8; refine (rsize_any _ _).mono ?_; rintro e w1 ⟨rfl, hb⟩; rw [E.out])
      go_ret
      exact ⟨by rw [HH.out]; rfl, bstep hbr hb hbr.size⟩
theorem rof_any (n : Int) (w : World) :
    Calls Try.prog 14 #[.int .i64 n] w fun e w' => e = .returned (.int .i64 (ofN n)) ∧ Below w.heap.size w w' := by
  by_cases h1 : n < 1
  · exact rof_low n h1 w
  · by_cases h2 : 256 < n
    · exact rof_high n h2 w
    · exact rof_in n (by omega) (by omega) w

theorem of_any (n : Int) (w : World) :
    Calls Try.prog 13 #[.int .i64 n] w fun e w' => e = .returned (.int .i64 (ofN n)) ∧ Below w.heap.size w w' := by
  go_enter Try.func13, Try.ntmps13
  go_wp2_with (go_at_call 16; refine (table_any _).mono ?_; rintro e w1 ⟨rfl, hb⟩)
  go_loop [6] (fun p => ∃ c : Nat, c ≤ 16 ∧ p = .int .i64 c ∧ Hid (1 ≤ n → ∀ j, j < c → tabL.getD j 0 < n)) (fun p => (16 - intOf p).toNat)
  case atStart => exact ⟨0, by omega, rfl, fun _ j hj => absurd hj (by omega)⟩
  case round =>
    obtain ⟨c, hc, rfl, hl⟩ := hrel
    by_cases hlt : c < 16
    · have hidx := idx_any c hlt w1
      generalize hs : tabL.getD c 0 = s at hidx
      have HS := Lib.hid hs
      clear hs
      by_cases h1 : 1 ≤ n
      · by_cases ht : n ≤ s
        · have hh : ofN n = c := of_hit n c h1 hlt (by have := HS.out; omega) (hl.out h1)
          have HH := Lib.hid hh
          clear hh
          go_wp2
          go_ret
          exact ⟨by rw [HH.out]; rfl, hb⟩
        · go_wp2
          go_round
          case rel =>
            refine ⟨c + 1, by omega, by go_num, fun _ j hj => ?_⟩
            by_cases e : j = c
            · subst e; have := HS.out; omega
            · exact hl.out h1 j (by omega)
          case measure => simp [intOf]; omega
      · go_wp2
        go_round
        case rel => exact ⟨c + 1, by omega, by go_num, fun h => absurd h h1⟩
        case measure => simp [intOf]; omega
    · have hh : ofN n = -1 := by
        by_cases h1 : 1 ≤ n
        · exact of_miss n (fun j hj => hl.out h1 j (by omega))
        · exact of_low n (by omega)
      have HH := Lib.hid hh
      clear hh
      go_wp2
      go_ret
      exact ⟨by rw [HH.out]; rfl, hb⟩
end Go.Proofs.Ytpbghoddemffhaa
