/-
  The walk of BufferStack: it returns true whatever came in. No condition.
-/
import Derived.Test.YtbcleeifkmjlmaaBufH
import Derived.Deep.LoopGhost
import Derived.Lib.MinMax
namespace Go.Proofs.Ytbcleeifkmjlmaa
open Go.RowKit
set_option maxRecDepth 100000
set_option maxHeartbeats 2000000

def bsL (m : Nat) : List Int := (List.range m).map fun (i : Nat) => 1000 + (i : Int)
theorem bsL_succ (m : Nat) : bsL m ++ [1000 + (m : Int)] = bsL (m + 1) := by simp [bsL, List.range_succ]
theorem bsL_len (m : Nat) : (bsL m).length = m := by simp [bsL]
theorem take_snoc (l : List Int) (j : Nat) (h : j < l.length) : l.take j ++ [l.getD j 0] = l.take (j + 1) := by
  rw [List.getD_eq_getElem?_getD, List.getElem?_eq_getElem h, Option.getD_some, List.take_append_getElem]

theorem mid_snoc (l : List Int) (N K r : Nat) (hN : N ≤ l.length) (hK : K ≤ N) (hr : r < K) : ((l.take N).drop (N - K)).take (r + 1) = ((l.take N).drop (N - K)).take r ++ [l.getD (N - K + r) 0] := by
  have h1 : r < ((l.take N).drop (N - K)).length := by simp; omega
  rw [← take_snoc _ r h1]
  congr 2
  rw [List.getD_eq_getElem?_getD, List.getD_eq_getElem?_getD, List.getElem?_drop, List.getElem?_take, if_pos (by omega)]

theorem bufS_long (a : Option Addr) (n c : Nat) (beside : Int) (w : World) (h40 : 40 < n) :
    Calls Try.prog 4 #[.slice a n c, .int .i64 beside] w fun e w' => e = .returned (.bool true) ∧ Below w.heap.size w w' := by
  go_enter Try.func4, Try.ntmps4
  go_wp2_with fail
  refine (told17_any _).mono ?_
  rintro e w1 ⟨rfl, hb⟩
  go_wp2_with fail
  go_ret
  exact ⟨rfl, hb⟩

theorem bufS_core (b off n c m N : Nat) (a : Option Addr) (l : List Int) (beside : Int) (w : World) (h40 : n ≤ 40) (hl : l.length = n) (ha : 0 < n → a = some ⟨b, off, none⟩)
    (hcell : ∀ j, j < n → w.cell? ⟨b, off + j, none⟩ = some (.int .i64 (l.getD j 0))) (hu : 0 ≤ IntKind.u64.wrap beside) (hm : IntKind.u64.wrap beside % 33 = (m : Int)) (hm32 : m ≤ 32)
    (hN : min n 32 = N) (hmin : min (n : Int) 32 = (N : Int)) :
    Calls Try.prog 4 #[.slice a n c, .int .i64 beside] w fun e w' => e = .returned (.bool true) ∧ Below w.heap.size w w' := by
  have HC : Hid (∀ j, j < n → ∀ wr, Below w.heap.size w wr → wr.cell? ⟨b, off + j, none⟩ = some (.int .i64 (l.getD j 0))) :=
    fun j hj wr hb => (hb.cell (p := ⟨b, off + j, none⟩) (World.block_lt_of_cell? w ⟨b, off + j, none⟩ (hcell j hj))).trans (hcell j hj)
  have HA := Lib.hid ha
  have HL := Lib.hid (And.intro hl hN)
  have hNn : N ≤ n := by omega
  have hN32 : N ≤ 32 := by omega
  clear hcell ha hl hN
  go_enter Try.func4, Try.ntmps4
  go_wp2_with fail
  refine (bnew_any _).mono ?_
  rintro e w1 ⟨rfl, hA, hb⟩
  go_wp2_with fail
  refine (bnew_any _).mono ?_
  rintro e w2 ⟨rfl, hN', hb2⟩
  have hA2 := hA.below hb2
  have hB2 := bx hb hb2
  have hgn : w.heap.size ≠ w1.heap.size := by have := hA.lt; omega
  have hkb : w.heap.size ≤ w1.heap.size := hb.size
  have hgs2 : w.heap.size ≤ w2.heap.size := Nat.le_trans hkb hb2.size
  obtain ⟨g, hg⟩ : ∃ g, w.heap.size = g := ⟨_, rfl⟩
  rw [hg] at hA2 hB2 hgn HC hgs2 hkb ⊢
  obtain ⟨k, hk⟩ : ∃ k, w1.heap.size = k := ⟨_, rfl⟩
  rw [hk] at hN' hgn hkb ⊢
  have HG := Lib.hid hg
  have hgw : g ≤ w.heap.size := Nat.le_of_eq hg.symm
  clear hg hk hA hb hb2
  go_wp2_with fail
  clear hu hm hmin
  go_loopg [9] n (fun q i ws => ∃ j : Nat, j ≤ n ∧ n - j ≤ q ∧ i = .int .i64 j ∧ BufAt ws g (l.take (min j 32)) ∧ BufAt ws k [] ∧ Below g w ws)
  case atStart => exact ⟨0, by omega, by omega, rfl, hA2, hN', hB2⟩
  case round =>
    clear hA2 hN' hB2
    obtain ⟨j, hj, hq, rfl, hA, hN', hB⟩ := hrel
    have hgs : g ≤ wr.heap.size := by have := hB.size; omega
    by_cases hlt : j < n
    · obtain rfl := HA.out (by omega)
      have c1 := HC.out j hlt _ hB
      generalize hx : l.getD j 0 = x at c1
      have HX := Lib.hid hx
      clear hx
      have i1 : (0 : Int) ≤ (j : Int) := by omega
      have i2 : (j : Int) < (n : Int) := by omega
      by_cases h32 : j < 32
      · have i3 : (j : Int) < 32 := by omega
        rw [Nat.min_eq_left (by omega)] at hA
        have hlj : (l.take j).length < 32 := by rw [List.length_take]; omega
        go_wp2_with fail
        refine (bput_room _ _ _ _ hA hlj).mono ?_
        rintro e w3 ⟨rfl, hA3, hu3⟩
        have hN3 := hN'.upd hu3 (fun e => hgn e.symm)
        have hB3 := below_upd hB hu3 hgs (fun q h => Nat.le_of_eq h.symm)
        rw [← HX.out, take_snoc l j (by rw [HL.out.1]; exact hlt)] at hA3
        clear hA hN' hB hu3 c1
        go_wp2_with fail
        go_roundg (n - (j + 1))
        case measure => omega
        case rel => exact ⟨j + 1, by omega, by omega, by go_num, by rw [Nat.min_eq_left (by omega)]; exact hA3, hN3, hB3⟩
      · have i3 : ¬ (j : Int) < 32 := by omega
        have hlj : (l.take (min j 32)).length = 32 := by rw [List.length_take, HL.out.1]; omega
        go_wp2_with fail
        refine (bput_full _ _ _ _ hA hlj).mono ?_
        rintro e w3 ⟨rfl, rfl⟩
        clear c1
        go_wp2_with fail
        go_roundg (n - (j + 1))
        case measure => omega
        case rel => exact ⟨j + 1, by omega, by omega, by go_num, by rw [Nat.min_eq_right (by omega)] at hA ⊢; exact hA, hN', hB⟩
    · obtain rfl : j = n := by omega
      rw [HL.out.2] at hA
      go_wp2_with fail

      go_loopg [10] m (fun q i ws => ∃ t : Nat, t ≤ m ∧ m - t ≤ q ∧ i = .int .i64 t ∧ BufAt ws g (l.take N) ∧ BufAt ws k (bsL t) ∧ Below g w ws)
      case atStart => exact ⟨0, by omega, by omega, rfl, hA, hN', hB⟩
      case round =>
        clear hA hB
        obtain ⟨t, ht, hq, rfl, hA, hN, hB⟩ := hrel
        have hgs : g ≤ wr.heap.size := by have := hB.size; omega
        by_cases hlt : t < m
        · go_wp2_with fail
          refine (bput_room _ _ _ _ hN (by rw [bsL_len]; omega)).mono ?_
          rintro e w3 ⟨rfl, hN3, hu3⟩
          have hA3 := hA.upd hu3 (fun e => hgn e)
          have hB3 := below_upd hB hu3 hgs (fun q h => by omega)
          rw [bsL_succ] at hN3
          clear hA hN hB hu3
          go_wp2_with fail
          go_roundg (m - (t + 1))
          case measure => omega
          case rel => exact ⟨t + 1, by omega, by omega, by go_num, hA3, hN3, hB3⟩
        · obtain rfl : t = m := by omega
          go_wp2_with fail
          have hlD : (l.take N).length = N := by rw [List.length_take, HL.out.1]; omega
          refine (bhalf_gen _ _ _ _ _ hA hN hgn).mono ?_
          rintro e w3 ⟨rfl, hA3, hN3, hu3⟩
          have hB3 := below_upd hB hu3 hgs (fun q h => by omega)
          have hgs3 : g ≤ w3.heap.size := by have := hu3.size; omega
          have hcase : (N / 2 + t ≤ 32 ∧ halfN (l.take N) (bsL t) = N / 2) ∨ (32 < N / 2 + t ∧ halfN (l.take N) (bsL t) = 0) := by
            unfold halfN
            rw [hlD, bsL_len]
            by_cases h : N / 2 + t ≤ 32
            · exact .inl ⟨h, if_pos h⟩
            · exact .inr ⟨by omega, if_neg h⟩
          clear hA hN hB hu3
          have hKn : halfN (l.take N) (bsL t) ≤ N := by rcases hcase with h | h <;> omega
          have hln := HL.out.1
          rw [hlD, List.take_take, Nat.min_eq_left (by omega)] at hA3
          rw [hlD] at hN3
          generalize halfN (l.take N) (bsL t) = K at *
          have hl1 : (l.take (N - K)).length = N - K := by rw [List.length_take]; omega
          have hl2 : (bsL t ++ (l.take N).drop (N - K)).length = t + K := by rw [List.length_append, bsL_len, List.length_drop]; omega
          have e1 : (((l.take (N - K)).length : Nat) : Int) = (N : Int) - (K : Int) := by omega
          have e2 : (((bsL t ++ (l.take N).drop (N - K)).length : Nat) : Int) = (t : Int) + (K : Int) := by omega
          have F := Lib.hid (And.intro hl1 (And.intro hl2 (And.intro e1 (And.intro e2 (And.intro hlD hln)))))
          clear hl1 hl2 e1 e2 hlD hln
          obtain ⟨hh, h0⟩ : ∃ hh : Nat, (N : Int) / 2 = hh := ⟨N / 2, by omega⟩
          have hcase' : K = hh ∨ (32 < hh + t ∧ K = 0 ∧ 0 < hh) := by omega
          clear hcase
          have hK0 : K ≤ N := hKn
          rcases hcase' with rfl | ⟨hx, hk0, hpos⟩
          rotate_left
          have i5 : ((K : Int) != (hh : Int)) = true := by simp; omega
          have i6 : ¬ (hh : Int) ≤ 32 - (t : Int) := by omega
          have i7 : ((K : Int) != 0) = false := by simp; omega
          all_goals
            go_wp2_with fail
            refine (blen_any _ _ _ hA3).mono ?_
            rintro e w' ⟨rfl, rfl⟩
            rw [F.out.2.2.1]
            go_wp2_with fail
            refine (blen_any _ _ _ hN3).mono ?_
            rintro e w' ⟨rfl, rfl⟩
            rw [F.out.2.2.2.1]
            go_wp2_with fail
            go_loopg [12] K (fun q i ws => ∃ r : Nat, r ≤ K ∧ r ≤ q ∧ (∃ z : Int, i = .int .i64 z ∧ z + 1 = (N : Int) - K + r) ∧ BufAt ws g (l.take (N - K)) ∧ BufAt ws k (bsL t ++ ((l.take N).drop (N - K)).take r) ∧ Below g w ws)
            case atStart => exact ⟨K, by omega, by omega, ⟨_, rfl, by omega⟩, hA3, by rw [List.take_of_length_le (by rw [List.length_drop, F.out.2.2.2.2.1]; omega)]; exact hN3, hB3⟩
            case round =>
              clear hA3 hN3 hB3
              obtain ⟨r, hr, hq, ⟨z, rfl, hz⟩, hA, hN, hB⟩ := hrel
              have hgs : g ≤ wr.heap.size := by have := hB.size; omega
              by_cases hlt : 0 < r
              · first | (exfalso; omega) | skip
                all_goals
                  obtain ⟨s, rfl⟩ : ∃ s, r = s + 1 := ⟨r - 1, by omega⟩
                  have hp : z = ((N - K + s : Nat) : Int) := by omega
                  clear hz
                  subst hp
                  rw [mid_snoc l N K s (by rw [F.out.2.2.2.2.2]; omega) (by omega) (by omega), ← List.append_assoc] at hN
                  have hpj : N - K + s < j := by omega
                  obtain rfl := HA.out (by omega)
                  have c1 := HC.out _ hpj
                  generalize hx : l.getD (N - K + s) 0 = x at c1 hN
                  have hpp : N - K + s + K = N + s := by omega
                  generalize N - K + s = p at *
                  have i1 : (0 : Int) ≤ (p : Int) := by omega
                  have i2 : (p : Int) < (j : Int) := by omega
                  have i3 : (p : Int) ≥ (N : Int) - (K : Int) := by omega
                  have HPP := Lib.hid (And.intro hpp hx)
                  clear hx
                  go_wp2_with fail
                  refine (bget_some _ _ _ _ hN).mono ?_
                  rintro e w4 ⟨rfl, hN4, hu4⟩
                  have hA4 := hA.upd hu4 (fun e => hgn e)
                  have hB4 := below_upd hB hu4 hgs (fun q h => by omega)
                  have c2 := c1 _ hB4
                  clear hA hN hB hu4 c1
                  go_wp2_with fail
                  go_roundg s
                  case measure => omega
                  case rel => exact ⟨s, by omega, by omega, ⟨_, by go_num, by have := HPP.out.1; omega⟩, hA4, hN4, hB4⟩
              · obtain rfl : r = 0 := by omega
                go_wp2_with fail
                clear HL
                have hl4 : (l.take (N - K)).length = N - K := F.out.1
                have hl5 : (bsL t ++ ((l.take N).drop (N - K)).take 0).length = t := by simp [bsL_len]
                generalize bsL t ++ ((l.take N).drop (N - K)).take 0 = bb at hN hl5
                have hKj : N - K ≤ j := by omega
                have hD : ∃ D : Nat, N - K = D ∧ (N : Int) - K = D := ⟨N - K, rfl, by omega⟩
                obtain ⟨D, hD1, hD2⟩ := hD
                rw [hD1] at hA hl4 hKj
                have HB := Lib.hid hl5
                have HD := Lib.hid hD2
                clear hl4 hl5 hD1 hD2
                go_loopg [15] D (fun q i ws => ∃ r : Nat, r ≤ D ∧ r ≤ q ∧ (∃ z : Int, i = .int .i64 z ∧ z + 1 = r) ∧ BufAt ws g (l.take r) ∧ BufAt ws k bb ∧ Below g w ws)
                case atStart => exact ⟨D, by omega, by omega, ⟨_, rfl, by have := HD.out; omega⟩, hA, hN, hB⟩
                case round =>
                  clear hA hN hB
                  obtain ⟨r, hr, hq, ⟨z, rfl, hz⟩, hA, hN, hB⟩ := hrel
                  have hgs : g ≤ wr.heap.size := by have := hB.size; omega
                  by_cases hlt : 0 < r
                  · obtain ⟨s, rfl⟩ : ∃ s, r = s + 1 := ⟨r - 1, by omega⟩
                    have hp : z = (s : Int) := by omega
                    clear hz
                    subst hp
                    rw [← take_snoc l s (by have := F.out.2.2.2.2.2; omega)] at hA
                    have hpj : s < j := by omega
                    obtain rfl := HA.out (by omega)
                    have c1 := HC.out _ hpj
                    generalize hx : l.getD s 0 = x at c1 hA
                    have HX := Lib.hid hx
                    clear hx
                    have i1 : (0 : Int) ≤ (s : Int) := by omega
                    have i2 : (s : Int) < (j : Int) := by omega
                    go_wp2_with fail
                    refine (bget_some _ _ _ _ hA).mono ?_
                    rintro e w4 ⟨rfl, hA4, hu4⟩
                    have hN4 := hN.upd hu4 (fun e => hgn e.symm)
                    have hB4 := below_upd hB hu4 hgs (fun q h => by omega)
                    have c2 := c1 _ hB4
                    clear hA hN hB hu4 c1
                    go_wp2_with fail
                    go_roundg s
                    case measure => omega
                    case rel => exact ⟨s, by omega, by omega, ⟨_, by go_num, by omega⟩, hA4, hN4, hB4⟩
                  · obtain rfl : r = 0 := by omega
                    go_wp2_with fail
                    refine (bget_none _ _ hA).mono ?_
                    rintro e w4 ⟨rfl, rfl⟩
                    go_wp2_with fail
                    refine (bget_nil _).mono ?_
                    rintro e w4 ⟨rfl, rfl⟩
                    go_wp2_with fail
                    refine (told17_any _).mono ?_
                    rintro e w4 ⟨rfl, hb4⟩
                    have hN4 := hN.below hb4
                    have hB4 := bstep hB hb4 hgs
                    clear hA hN hB hb4
                    go_wp2_with fail
                    refine (blen_any _ _ _ hN4).mono ?_
                    rintro e w' ⟨rfl, rfl⟩
                    rw [HB.out]
                    go_wp2_with fail
                    refine (bput_nil _ _).mono ?_
                    rintro e w' ⟨rfl, rfl⟩
                    go_wp2_with fail
                    refine (blen_nil _).mono ?_
                    rintro e w' ⟨rfl, rfl⟩
                    go_wp2_with fail
                    go_ret
                    rw [HG.out]
                    exact ⟨rfl, hB4⟩

theorem BufferStack_walk (a : Option Addr) (n c : Nat) (l : List Int) (w : World) (hr : Rd w (.slice a n c) l) (hle : l.length ≤ 9223372036854775807) (beside : Int) :
    Calls Try.prog 4 #[.slice a n c, .int .i64 beside] w fun e w' => e = .returned (.bool true) ∧ Below w.heap.size w w' := by
  by_cases h40 : 40 < n
  · exact bufS_long a n c beside w h40
  · obtain ⟨hl, b, off, ha, hcell⟩ := hr.plain
    have hu : 0 ≤ IntKind.u64.wrap beside := by rw [IntKind.wrap_u64]; exact Int.emod_nonneg _ (by omega)
    have hm0 : 0 ≤ IntKind.u64.wrap beside % 33 := Int.emod_nonneg _ (by omega)
    have hm1 : IntKind.u64.wrap beside % 33 < 33 := Int.emod_lt_of_pos _ (by omega)
    obtain ⟨m, hm⟩ := Int.eq_ofNat_of_zero_le hm0
    exact bufS_core b off n c m (min n 32) a l beside w (by omega) hl ha hcell hu hm (by omega) rfl (by omega)
end Go.Proofs.Ytbcleeifkmjlmaa
