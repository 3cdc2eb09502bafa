/-
  The walk of BitsFills: it returns true whatever came in. Under: the library's table.
-/
import Derived.Test.YtpbghoddemffhaaDoorBitT
namespace Go.Proofs.YtpbghoddemffhaaDoor
open Go.RowKit
set_option maxRecDepth 100000
set_option maxHeartbeats 2000000

def ltM (i : Nat) : Nat → Bool := fun j => decide (j < i)
theorem put_lt (i : Nat) : putM (ltM i) i = ltM (i + 1) := by
  funext j; unfold putM ltM
  by_cases e : j = i
  · rw [if_pos e, decide_eq_true (by omega)]
  · rw [if_neg e]
    by_cases h : j < i
    · rw [decide_eq_true h, decide_eq_true (by omega)]
    · rw [decide_eq_false h, decide_eq_false (by omega)]
theorem cnt_lt (i : Nat) : ∀ n, n ≤ i → cnt (ltM i) n = n
  | 0, _ => rfl
  | n + 1, h => by
    unfold cnt
    rw [cnt_lt i n (by omega), show ltM i n = true from decide_eq_true (by omega)]
    rfl
/-- Below n, but for the multiples of d below i. -/
def skipM (n d i : Nat) : Nat → Bool := fun j => decide (j < n) && !(decide (j % d = 0) && decide (j < i))
theorem skip_zero (n d : Nat) : skipM n d 0 = ltM n := by
  funext j; unfold skipM ltM; simp
theorem mod_between {j d q : Nat} (h1 : j % d = 0) (h2 : j < d * (q + 1)) (h3 : d * q < j) : False := by
  have e := Nat.div_add_mod j d
  rw [h1, Nat.add_zero] at e
  rw [← e] at h2 h3
  have a1 := Nat.lt_of_mul_lt_mul_left h2
  have a2 := Nat.lt_of_mul_lt_mul_left h3
  omega
theorem skip_out (n d q : Nat) (hd : 0 < d) : outM (skipM n d (d * q)) (d * q) = skipM n d (d * (q + 1)) := by
  funext j; unfold outM skipM
  have hq : d * (q + 1) = d * q + d := Nat.mul_succ d q
  by_cases e : j = d * q
  · rw [if_pos e, e, Nat.mul_mod_right, decide_eq_true (rfl : 0 = 0), decide_eq_true (show d * q < d * (q + 1) by omega)]
    simp
  · rw [if_neg e]
    by_cases h : j % d = 0
    · by_cases h2 : j < d * q
      · rw [decide_eq_true h2, decide_eq_true (show j < d * (q + 1) by omega)]
      · rw [decide_eq_false h2, decide_eq_false (show ¬ j < d * (q + 1) from fun h3 => mod_between h h3 (by omega))]
    · rw [decide_eq_false h]; simp
theorem skip_at (n d q : Nat) (h : d * q < n) : skipM n d (d * q) (d * q) = true := by
  unfold skipM
  rw [decide_eq_true h, decide_eq_false (show ¬ d * q < d * q by omega)]
  simp
theorem skip_end (n d i j : Nat) (hi : n ≤ i) (hj : j < n) : skipM n d i j = !(decide (j % d = 0)) := by
  unfold skipM
  rw [decide_eq_true hj, decide_eq_true (show j < i by omega)]
  simp
theorem has_after {w : World} {g k n : Nat} {M : Nat → Bool} (h : SetAt w g k n M) (i : Nat) (x : After w.heap.size w) :
    Calls Tryd.prog 41 #[ptr g, .int .i64 i] x.1 fun e w'' => e = .returned (.bool (M i)) ∧ ∃ y : After w.heap.size w, w'' = y.1 :=
  (set_has _ _ _ _ _ (h.below x.2) i).mono fun _ _ ⟨he, hw⟩ => ⟨he, x, hw.symm⟩

theorem BitsFills_walk (w : World) (hT : Tab w) (size step : Int) :
    Calls Tryd.prog 6 #[.int .i64 size, .int .i64 step] w fun e w' => e = .returned (.bool true) ∧ Below w.heap.size w w' := by
  have hu : 0 ≤ IntKind.u64.wrap size := by rw [IntKind.wrap_u64]; exact Int.emod_nonneg _ (by omega)
  have hu2 : 0 ≤ IntKind.u64.wrap step := by rw [IntKind.wrap_u64]; exact Int.emod_nonneg _ (by omega)
  have hm0 : 0 ≤ IntKind.u64.wrap size % 301 := Int.emod_nonneg _ (by omega)
  have hm1 : IntKind.u64.wrap size % 301 < 301 := Int.emod_lt_of_pos _ (by omega)
  have hs0 : 0 ≤ IntKind.u64.wrap step % 9 := Int.emod_nonneg _ (by omega)
  have hs1 : IntKind.u64.wrap step % 9 < 9 := Int.emod_lt_of_pos _ (by omega)
  obtain ⟨n, hn⟩ := Int.eq_ofNat_of_zero_le hm0
  obtain ⟨d0, hd0⟩ := Int.eq_ofNat_of_zero_le hs0
  have hn300 : n ≤ 300 := by omega
  have hd8 : d0 ≤ 8 := by omega
  have HT := Lib.hid hT
  clear hm0 hm1 hs0 hs1 hT
  go_enter Tryd.func6, Tryd.ntmps6
  go_wp2_with fail
  clear hn hd0 hu hu2
  refine (set_new w _ n (by omega)).mono ?_
  rintro e w1 ⟨g, k, rfl, hS, hg, hk, hgk, hb⟩
  obtain ⟨d, hd⟩ : ∃ d : Nat, 1 + (d0 : Int) = d := ⟨1 + d0, by omega⟩
  rw [hd]
  have hd1 : 1 ≤ d := by omega
  have hd9 : d ≤ 9 := by omega
  clear hd hd8
  go_wp2_with fail
  have hz : (fun _ => false : Nat → Bool) = ltM 0 := by funext j; simp [ltM]
  rw [hz] at hS
  clear hz
  go_loopg [8] n (fun q s8 ws => ∃ i : Nat, s8 = .int .i64 i ∧ i ≤ n ∧ n - i ≤ q ∧ SetAt ws g k n (ltM i) ∧ Below w.heap.size w ws)
  case atStart => exact ⟨0, rfl, by omega, by omega, hS, hb⟩
  case round =>
    clear hS hb
    obtain ⟨i, rfl, hi, hq, hS, hb⟩ := hrel
    have hBs : w.heap.size ≤ wr.heap.size := hb.size
    by_cases hlt : i < n
    · go_wp2_with fail
      refine (set_set _ _ _ _ _ _ hS hlt).mono ?_
      rintro e w2 ⟨rfl, hS2, hu2⟩
      have hb2 := below_upd hb hu2 hBs (fun q h => by rcases h with h | h <;> omega)
      rw [put_lt] at hS2
      rw [show (!(ltM i i)) = true by simp [ltM]]
      clear hS hb hu2
      go_wp2_with fail
      go_roundg (n - (i + 1))
      case measure => omega
      case rel => exact ⟨i + 1, by go_num, by omega, by omega, hS2, hb2⟩
    · obtain rfl : i = n := by omega
      go_wp2_with fail
      refine (set_count _ _ _ _ _ hS).mono ?_
      rintro e w' ⟨rfl, rfl⟩
      rw [cnt_lt i i (Nat.le_refl _)]
      go_wp2_with fail
      refine (set_next _ _ _ _ _ hS (HT.out.ofBelow hb) _ _).mono ?_
      rintro e w' ⟨rfl, rfl⟩
      rw [nextM_none (fun t h1 h2 => by simp [ltM, h2])]
      go_wp2_with fail
      rw [← skip_zero i d] at hS
      have hcn : cnt (skipM i d 0) i = i := by rw [skip_zero]; exact cnt_lt i i (Nat.le_refl _)
      go_loopg [9, 10] (i + 9) (fun q s9 s10 ws => ∃ o t : Nat, s9 = .int .i64 o ∧ s10 = .int .i64 (d * t : Nat) ∧ d * t ≤ i + 9 ∧ i + 9 - d * t ≤ q ∧ cnt (skipM i d (d * t)) i + o = i ∧ SetAt ws g k i (skipM i d (d * t)) ∧ Below w.heap.size w ws)
      case atStart => exact ⟨0, 0, rfl, by simp, by omega, by omega, by simpa using hcn, by simpa using hS, hb⟩
      case round =>
        clear hS hb hcn
        obtain ⟨o, t, rfl, rfl, ht, hq, hcn, hS, hb⟩ := hrel
        have hBs : w.heap.size ≤ wr.heap.size := hb.size
        by_cases hlt : d * t < i
        · have hc1 : cnt (skipM i d (d * (t + 1))) i + (o + 1) = i := by
            have := (cnt_turn (skipM i d (d * t)) (d * t) i hlt).2 (skip_at i d t hlt)
            rw [turn_out (skip_at i d t hlt), skip_out i d t (by omega)] at this
            omega
          have hsucc : d * (t + 1) = d * t + d := Nat.mul_succ d t
          have hat := skip_at i d t hlt
          have hout := skip_out i d t (by omega)
          generalize hp : d * t = p at *
          have HP := Lib.hid (And.intro hp (And.intro hsucc (And.intro hat hout)))
          clear hp hsucc hat hout
          have i1 : (p : Int) < (i : Int) := by omega
          go_wp2_with fail
          refine (set_clear _ _ _ _ _ _ hS).mono ?_
          rintro e w2 ⟨rfl, hS2, hu2⟩
          have hb2 := below_upd hb hu2 hBs (fun q h => by rcases h with h | h <;> omega)
          rw [HP.out.2.2.2] at hS2
          rw [HP.out.2.2.1]
          clear hS hb hu2
          go_wp2_with fail
          refine (set_clear _ _ _ _ _ _ hS2).mono ?_
          rintro e w3 ⟨rfl, hS3, hu3⟩
          have hb3 := below_upd hb2 hu3 hb2.size (fun q h => by rcases h with h | h <;> omega)
          have hno : skipM i d (d * (t + 1)) p = false := by
            rw [← HP.out.2.2.2]; unfold outM; simp
          rw [out_same hno] at hS3
          rw [hno]
          clear hS2 hb2 hu3
          go_wp2_with fail
          refine (set_has _ _ _ _ _ hS3 _).mono ?_
          rintro e w' ⟨rfl, rfl⟩
          rw [hno]
          clear hno
          go_wp2_with fail
          go_roundg (i + 9 - (d * (t + 1)))
          case measure => have := HP.out.2.1; omega
          case rel => exact ⟨o + 1, t + 1, by go_num, by have := HP.out.2.1; go_num, by have := HP.out.2.1; omega, Nat.le_refl _, hc1, hS3, hb3⟩
        · have hi1 : ¬ ((d * t : Nat) : Int) < (i : Int) := by omega
          generalize hp : d * t = p at *
          clear hp
          go_wp2_with fail
          have hMj : Hid (∀ j, j < i → skipM i d p j = !(decide (j % d = 0))) := fun j hj => skip_end i d p j (by omega) hj
          generalize skipM i d p = M at *
          clear hi1
          go_loopg [11] i (fun q s11 ws => ∃ j : Nat, s11 = .int .i64 j ∧ j ≤ i ∧ i - j ≤ q ∧ SetAt ws g k i M ∧ Below w.heap.size w ws)
          case atStart => exact ⟨0, rfl, by omega, by omega, hS, hb⟩
          case round =>
            clear hS hb
            obtain ⟨j, rfl, hj, hq3, hS, hb⟩ := hrel
            by_cases hlt2 : j < i
            · obtain ⟨r, hr⟩ : ∃ r, r = j % d := ⟨_, rfl⟩
              have hri : (j : Int) % (d : Int) = (r : Int) := by rw [hr]; rfl
              have hri2 : (j : Int).tmod (d : Int) = (r : Int) := by rw [hr]; rfl
              have hMr : M j = !(decide (r = 0)) := by rw [hr]; exact hMj.out j hlt2
              have hne : Hid (r = 0 → nextM M i false j = (j : Int)) := fun h => nextM_some (Nat.le_refl _) hlt2 (by rw [hMr, h]; rfl) (fun t h1 h2 => by omega)
              have HR := Lib.hid hr
              clear hr
              have d1 : ((d : Int) == 0) = false := by simp; omega
              have H22 := Lib.hid hS
              have hb22 := Below.refl wr.heap.size wr
              by_cases h0 : r = 0
              · have g1 : ((r : Int) != 0) = false := by simp; omega
                have g2 : ((r : Int) == 0) = true := by simp; omega
                have hMf : M j = false := by rw [hMr, h0]; rfl
                go_upto_region 22 with fail
                refine wp_region_after wr.heap.size wr (by kernel_rfl) (by kernel_rfl) hb22 ?_
                repeat (go_big_quiet_step ((go_at_call 41; exact (hMf ▸ has_after H22.out j _))))
                refine wpQuiet_nil ?_
                intro w5 hb5
                have hS5 := H22.out.below hb5
                have hb6 := bstep hb hb5 hb.size
                clear hS hb hb5 hb22
                go_wp2_with fail
                refine (set_next _ _ _ _ _ hS5 (HT.out.ofBelow hb6) _ _).mono ?_
                rintro e w' ⟨rfl, rfl⟩
                rw [Int.toNat_natCast]
                rw [hne.out h0]
                go_wp2_with fail
                go_roundg (i - (j + 1))
                case measure => omega
                case rel => exact ⟨j + 1, by go_num, by omega, Nat.le_refl _, hS5, hb6⟩
              · have g1 : ((r : Int) != 0) = true := by simp; omega
                have g2 : ((r : Int) == 0) = false := by simp; omega
                have hMf : M j = true := by rw [hMr, decide_eq_false h0]; rfl
                go_upto_region 22 with fail
                refine wp_region_after wr.heap.size wr (by kernel_rfl) (by kernel_rfl) hb22 ?_
                repeat (go_big_quiet_step ((go_at_call 41; exact (hMf ▸ has_after H22.out j _))))
                refine wpQuiet_nil ?_
                intro w5 hb5
                have hS5 := H22.out.below hb5
                have hb6 := bstep hb hb5 hb.size
                clear hS hb hb5 hb22
                go_wp2_with fail
                refine (set_next _ _ _ _ _ hS5 (HT.out.ofBelow hb6) _ _).mono ?_
                rintro e w' ⟨rfl, rfl⟩
                rw [Int.toNat_natCast]
                generalize nextM M i false j = nx
                go_wp2_with fail
                go_roundg (i - (j + 1))
                case measure => omega
                case rel => exact ⟨j + 1, by go_num, by omega, Nat.le_refl _, hS5, hb6⟩
            · obtain rfl : j = i := by omega
              have hlen := elems_len M j
              obtain ⟨cc, hcc⟩ : ∃ cc, cc = cnt M j := ⟨_, rfl⟩
              have hc0 : (cc : Int) = (j : Int) - (o : Int) := by omega
              have HCC := Lib.hid (And.intro hcc hlen)
              clear hcc hlen hcn hMj
              go_wp2_with fail
              refine (told3_any _ (HT.out.ofBelow hb)).mono ?_
              rintro e w5 ⟨rfl, hb5⟩
              have hS5 := hS.below hb5
              have hb6 := bstep hb hb5 hb.size
              clear hS hb hb5
              go_wp2_with fail
              refine (set_count _ _ _ _ _ hS5).mono ?_
              rintro e w' ⟨rfl, rfl⟩
              rw [← HCC.out.1]
              go_wp2_with fail
              refine (set_all _ _ _ _ _ hS5 (HT.out.ofBelow hb6)).mono ?_
              rintro e w7 ⟨v, rfl, hv, hb7⟩
              obtain ⟨va, vc, rfl⟩ := hv.rd.form
              rw [HCC.out.2, ← HCC.out.1]
              have hS7 := hS5.below hb7
              have hb8 := bstep hb6 hb7 hb6.size
              clear hS5 hb6 hb7 hv
              go_wp2_with fail
              refine (set_next_out _ _ _ _ _ hS7 _ _ (Int.le_refl _)).mono ?_
              rintro e w' ⟨rfl, rfl⟩
              go_wp2_with fail
              refine (set_next_out _ _ _ _ _ hS7 _ _ (Int.le_refl _)).mono ?_
              rintro e w' ⟨rfl, rfl⟩
              go_wp2_with fail
              go_ret
              exact ⟨rfl, hb8⟩
end Go.Proofs.YtpbghoddemffhaaDoor
