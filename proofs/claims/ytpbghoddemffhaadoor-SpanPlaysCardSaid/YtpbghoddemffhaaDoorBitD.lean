/-
  The walk of BitsCopies: it returns true whatever came in. Under: the library's table.
-/
import Derived.Test.YtpbghoddemffhaaDoorBitC
import Derived.Test.YtpbghoddemffhaaDoorIntsW
namespace Go.Proofs.YtpbghoddemffhaaDoor
open Go.RowKit
set_option maxRecDepth 100000
set_option maxHeartbeats 2000000

section
variable {w w' : World} {g k n h j m B : Nat} {M M' : Nat → Bool} {v : Value} {l : List Int}
theorem SetAt.other (hs : SetAt w g k n M) (ho : SetAt w h j m M') (hgh : g ≠ h) (hkj : k ≠ j) (hu : Upd (fun b => b = g ∨ b = k) w w') : SetAt w' h j m M' := by
  obtain ⟨_, _, a1, a2, _⟩ := hs
  have ho' := ho
  obtain ⟨_, _, b1, b2, _⟩ := ho
  exact ho'.upd hu (fun e => e.elim (fun e => hgh e.symm) (fun e => b1.ne a2 (by decide) e)) (fun e => e.elim (fun e => a1.ne b2 (by decide) e.symm) (fun e => hkj e.symm))
theorem SetAt.own (hs : SetAt w g k n M) (hv : Own w B v l) (hu : Upd (fun b => b = g ∨ b = k) w w') : Own w' B v l := by
  obtain ⟨_, _, a1, a2, _⟩ := hs
  exact hv.upd hu (fun b hb e => e.elim (fun e => hv.typed a1 (by decide) b hb e) (fun e => hv.typed a2 (by decide) b hb e))
theorem SetAt.own1 (hs : SetAt w g k n M) (hv : Own w B v l) (hu : Upd (· = g) w w') : Own w' B v l := by
  obtain ⟨_, _, a1, a2, _⟩ := hs
  exact hv.upd hu (fun b hb e => hv.typed a1 (by decide) b hb e)
theorem SetAt.other1 (hs : SetAt w g k n M) (ho : SetAt w h j m M') (hgh : g ≠ h) (hu : Upd (· = g) w w') : SetAt w' h j m M' := by
  obtain ⟨_, _, a1, a2, _⟩ := hs
  have ho' := ho
  obtain ⟨_, _, b1, b2, _⟩ := ho
  exact ho'.upd hu (fun e => hgh e.symm) (fun e => a1.ne b2 (by decide) e.symm)
theorem Own.ofBelow (hv : Own w B v l) (hb : Below w.heap.size w w') : Own w' B v l := hv.upd (F := fun _ => False) (Upd.ofBelow hb) (fun _ _ h => h)
theorem Own.drewN (hv : Own w B v l) (q : Nat) : Own (w.drewN q) B v l := hv.upd (F := fun _ => False) ((Upd.refl _ w).drewN q) (fun _ _ h => h)
end
theorem elems_le (M : Nat → Bool) (n : Nat) (h : n ≤ 16777216) : (elems M n).length ≤ 9223372036854775807 := by
  rw [elems_len]; have := cnt_le M n; omega

theorem bitsC_core (b off L n c b2 off2 L2 m c2 : Nat) (a a2 : Option Addr) (l l2 : List Int) (size other : Int) (w : World) (hT : Tab w) (h40 : L ≤ 40) (h402 : L2 ≤ 40) (ha : 0 < L → a = some ⟨b, off, none⟩) (ha2 : 0 < L2 → a2 = some ⟨b2, off2, none⟩)
    (hcell : ∀ j, j < L → w.cell? ⟨b, off + j, none⟩ = some (.int .i64 (l.getD j 0))) (hcell2 : ∀ j, j < L2 → w.cell? ⟨b2, off2 + j, none⟩ = some (.int .i64 (l2.getD j 0)))
    (hu : 0 ≤ IntKind.u64.wrap size) (hn : IntKind.u64.wrap size % 201 = (n : Int)) (hn200 : n ≤ 200) (hu2 : 0 ≤ IntKind.u64.wrap other) (hm : IntKind.u64.wrap other % 201 = (m : Int)) (hm200 : m ≤ 200) :
    Calls Tryd.prog 9 #[.int .i64 size, .int .i64 other, .slice a L c, .slice a2 L2 c2] w fun e w' => e = .returned (.bool true) ∧ Below w.heap.size w w' := by
  have HC : Hid (∀ j, j < L → ∀ wr, Below w.heap.size w wr → wr.cell? ⟨b, off + j, none⟩ = some (.int .i64 (l.getD j 0))) :=
    fun j hj wr hb => (hb.cell (p := ⟨b, off + j, none⟩) (World.block_lt_of_cell? w ⟨b, off + j, none⟩ (hcell j hj))).trans (hcell j hj)
  have HC2 : Hid (∀ j, j < L2 → ∀ wr, Below w.heap.size w wr → wr.cell? ⟨b2, off2 + j, none⟩ = some (.int .i64 (l2.getD j 0))) :=
    fun j hj wr hb => (hb.cell (p := ⟨b2, off2 + j, none⟩) (World.block_lt_of_cell? w ⟨b2, off2 + j, none⟩ (hcell2 j hj))).trans (hcell2 j hj)
  have HA := Lib.hid (And.intro ha ha2)
  have HT := Lib.hid hT
  clear hcell ha hT hcell2 ha2
  go_enter Tryd.func9, Tryd.ntmps9
  go_wp2_with fail
  refine (set_new w _ n (by omega)).mono ?_
  rintro e w1 ⟨g, k, rfl, hS, hg, hk, hgk, hb⟩
  go_wp2_with fail
  refine (set_new w1 _ m (by omega)).mono ?_
  rintro e w2 ⟨h, j, rfl, hO, hh, hj, hhj, hb2⟩
  clear hn hu hu2 hm
  have hS2 := hS.below hb2
  have hB2 := bx hb hb2
  have hgh : g ≠ h := by have := hS.lt; omega
  have hkj : k ≠ j := by have := hS.ltk; omega
  have hh' : w.heap.size ≤ h := by have := hb.size; omega
  have hj' : w.heap.size ≤ j := by have := hb.size; omega
  clear hS hb hb2 hh hj
  go_wp2_with fail
  go_loopg [13] L (fun q s7 ws => ∃ (i : Nat) (M : Nat → Bool), s7 = .int .i64 i ∧ i ≤ L ∧ L - i ≤ q ∧ SetAt ws g k n M ∧ SetAt ws h j m (fun _ => false) ∧ Below w.heap.size w ws)
  case atStart => exact ⟨0, _, rfl, by omega, by omega, hS2, hO, hB2⟩
  case round =>
    clear hS2 hO hB2
    obtain ⟨i, M, rfl, hi, hq, hS, hO, hb⟩ := hrel
    by_cases hlt : i < L
    · obtain rfl := HA.out.1 (by omega)
      have c1 := HC.out i hlt _ hb
      generalize l.getD i 0 = x at c1
      have i1 : (0 : Int) ≤ (i : Int) := by omega
      have i2 : (i : Int) < (L : Int) := by omega
      have hu : 0 ≤ IntKind.u64.wrap x := by rw [IntKind.wrap_u64]; exact Int.emod_nonneg _ (by omega)
      have hm0 : 0 ≤ IntKind.u64.wrap x % 201 := Int.emod_nonneg _ (by omega)
      have hm1 : IntKind.u64.wrap x % 201 < 201 := Int.emod_lt_of_pos _ (by omega)
      obtain ⟨y, hm⟩ := Int.eq_ofNat_of_zero_le hm0
      have hm320 : y < 201 := by omega
      clear hm0 hm1
      go_wp2_with fail
      refine (set_set_gen _ _ _ _ _ _ hS).mono ?_
      rintro e w2 ⟨rfl, hS2, hu2⟩
      have hb2 := below_upd hb hu2 hb.size (fun q h => by rcases h with h | h <;> omega)
      have hO2 := hS.other hO hgh hkj hu2
      clear hS hO hb hu2 hm hu c1
      go_wp2_with fail
      go_roundg (L - (i + 1))
      case measure => omega
      case rel => exact ⟨i + 1, _, by go_num, by omega, Nat.le_refl _, hS2, hO2, hb2⟩
    · obtain rfl : i = L := by omega
      go_wp2_with fail
      go_loopg [14] L2 (fun q s7 ws => ∃ (t : Nat) (N : Nat → Bool), s7 = .int .i64 t ∧ t ≤ L2 ∧ L2 - t ≤ q ∧ SetAt ws g k n M ∧ SetAt ws h j m N ∧ Below w.heap.size w ws)
      case atStart => exact ⟨0, _, rfl, by omega, by omega, hS, hO, hb⟩
      case round =>
        clear hS hO hb
        obtain ⟨t, N, rfl, ht, hq2, hS, hO, hb⟩ := hrel
        by_cases hlt : t < L2
        · obtain rfl := HA.out.2 (by omega)
          have c1 := HC2.out t hlt _ hb
          generalize l2.getD t 0 = x at c1
          have i1 : (0 : Int) ≤ (t : Int) := by omega
          have i2 : (t : Int) < (L2 : Int) := by omega
          have hu : 0 ≤ IntKind.u64.wrap x := by rw [IntKind.wrap_u64]; exact Int.emod_nonneg _ (by omega)
          have hm0 : 0 ≤ IntKind.u64.wrap x % 201 := Int.emod_nonneg _ (by omega)
          have hm1 : IntKind.u64.wrap x % 201 < 201 := Int.emod_lt_of_pos _ (by omega)
          obtain ⟨y, hm⟩ := Int.eq_ofNat_of_zero_le hm0
          have hm320 : y < 201 := by omega
          clear hm0 hm1
          go_wp2_with fail
          refine (set_set_gen _ _ _ _ _ _ hO).mono ?_
          rintro e w2 ⟨rfl, hO2, hu2⟩
          have hb2 := below_upd hb hu2 hb.size (fun q h => by rcases h with h | h <;> omega)
          have hS2 := hO.other hS hgh.symm hkj.symm hu2
          clear hS hO hb hu2 hm hu c1
          go_wp2_with fail
          go_roundg (L2 - (t + 1))
          case measure => omega
          case rel => exact ⟨t + 1, _, by go_num, by omega, Nat.le_refl _, hS2, hO2, hb2⟩
        · obtain rfl : t = L2 := by omega
          go_wp2_with fail
          refine (set_all _ _ _ _ _ hS (HT.out.ofBelow hb)).mono ?_
          rintro e w3 ⟨was, rfl, hwas, hb3⟩
          have hS3 := hS.below hb3
          have hO3 := hO.below hb3
          have hB3 := bstep hb hb3 hb.size
          clear hS hO hb hb3
          go_wp2_with fail
          by_cases hnm : n = m
          · subst hnm
            refine (set_copy _ _ _ _ _ _ _ _ hS3 hO3).mono ?_
            rintro e w4 ⟨k2, rfl, hS4, hk2, hu4⟩
            have hO4 := hS3.other1 hO3 hgh hu4
            have hb4 := below_upd hB3 hu4 hB3.size (fun q e => by omega)
            have hkj2 : k2 ≠ j := by have := hO3.ltk; omega
            have hk2' : w.heap.size ≤ k2 := by have := hB3.size; omega
            clear hS3 hO3 hB3 hu4 hwas hkj hk hgk hk2
            go_wp2_with fail
            refine (set_all _ _ _ _ _ hS4 (HT.out.ofBelow hb4)).mono ?_
            rintro e w5 ⟨v5, rfl, hv5, hb5⟩
            have hS5 := hS4.below hb5
            have hO5 := hO4.below hb5
            have hB5 := bstep hb4 hb5 hb4.size
            clear hS4 hO4 hb4 hb5
            go_wp2_with fail
            refine (set_all _ _ _ _ _ hO5 (HT.out.ofBelow hB5)).mono ?_
            rintro e w6 ⟨v6, rfl, hv6, hb6⟩
            have hS6 := hS5.below hb6
            have hO6 := hO5.below hb6
            have hB6 := bstep hB5 hb6 hB5.size
            have hv5' := hv5.ofBelow hb6
            clear hS5 hO5 hB5 hb6 hv5
            go_wp2_with fail
            refine (ints_any _ _ _ _ _ hv5'.rd hv6.rd (elems_le _ _ (by omega))).mono ?_
            rintro e w7 ⟨rfl, q7, rfl⟩
            rw [decide_eq_true (rfl : elems N n = elems N n)]
            have hS7 : SetAt (w6.drewN q7) g k2 n N := hS6.upd (F := fun _ => False) ((Upd.refl _ w6).drewN q7) (fun h => h) (fun h => h)
            have hO7 : SetAt (w6.drewN q7) h j n N := hO6.upd (F := fun _ => False) ((Upd.refl _ w6).drewN q7) (fun h => h) (fun h => h)
            have hB7 : Below w.heap.size w (w6.drewN q7) := Upd.toBelow (F := fun _ => False) ((Upd.ofBelow hB6).drewN q7) (Nat.le_refl _) (fun _ h => h.elim)
            generalize w6.drewN q7 = w7 at *
            clear hS6 hO6 hB6 hv5' hv6
            go_wp2_with fail
            refine (set_all _ _ _ _ _ hO7 (HT.out.ofBelow hB7)).mono ?_
            rintro e w8 ⟨now, rfl, hnow, hb8⟩
            have hS8 := hS7.below hb8
            have hO8 := hO7.below hb8
            have hB8 := bstep hB7 hb8 hB7.size
            generalize w7.heap.size = B8 at hnow
            clear hS7 hO7 hB7 hb8
            go_wp2_with fail
            go_loopg [17] n (fun q s17 ws => ∃ (i : Nat) (K : Nat → Bool), s17 = .int .i64 i ∧ i ≤ n ∧ n - i ≤ q ∧ SetAt ws g k2 n K ∧ Hid (∀ t, t < i → K t = false) ∧ SetAt ws h j n N ∧ Own ws B8 now (elems N n) ∧ Below w.heap.size w ws)
            case atStart => exact ⟨0, N, rfl, by omega, by omega, hS8, (fun t h => by omega), hO8, hnow, hB8⟩
            case round =>
              clear hS8 hO8 hB8 hnow
              obtain ⟨x, K, rfl, hx, hq3, hS, hK, hO, hnow, hb⟩ := hrel
              by_cases hlt3 : x < n
              · go_wp2_with fail
                refine (set_clear _ _ _ _ _ _ hS).mono ?_
                rintro e w9 ⟨rfl, hS9, hu9⟩
                have hO9 := hS.other hO hgh hkj2 hu9
                have hnow9 := hS.own hnow hu9
                have hb9 := below_upd hb hu9 hb.size (fun q h => by rcases h with h | h <;> omega)
                have hK9 : Hid (∀ t, t < x + 1 → outM K x t = false) := fun t h1 => by
                  unfold outM; split
                  · rfl
                  · exact hK.out t (by omega)
                generalize K x = kx
                clear hS hO hnow hb hu9 hK
                go_wp2_with fail
                go_roundg (n - (x + 1))
                case measure => omega
                case rel => exact ⟨x + 1, _, by go_num, by omega, Nat.le_refl _, hS9, hK9, hO9, hnow9, hb9⟩
              · obtain rfl : x = n := by omega
                have hc0 : cnt K x = 0 := cnt_gap (M := K) (p := 0) x (by omega) (fun t _ h2 => hK.out t h2)
                have HC0 := Lib.hid hc0
                clear hc0
                go_wp2_with fail
                refine (told3_any _ (HT.out.ofBelow hb)).mono ?_
                rintro e w9 ⟨rfl, hb9⟩
                have hS9 := hS.below hb9
                have hO9 := hO.below hb9
                have hnow9 := hnow.ofBelow hb9
                have hB9 := bstep hb hb9 hb.size
                clear hS hO hnow hb hb9
                go_wp2_with fail
                refine (set_all _ _ _ _ _ hO9 (HT.out.ofBelow hB9)).mono ?_
                rintro e w10 ⟨v10, rfl, hv10, hb10⟩
                have hS10 := hS9.below hb10
                have hnow10 := hnow9.ofBelow hb10
                have hB10 := bstep hB9 hb10 hB9.size
                clear hS9 hO9 hnow9 hB9 hb10
                go_wp2_with fail
                refine (ints_any _ _ _ _ _ hv10.rd hnow10.rd (elems_le _ _ (by omega))).mono ?_
                rintro e w11 ⟨rfl, q11, rfl⟩
                rw [decide_eq_true (rfl : elems N x = elems N x)]
                have hS11 : SetAt (w10.drewN q11) g k2 x K := hS10.upd (F := fun _ => False) ((Upd.refl _ w10).drewN q11) (fun h => h) (fun h => h)
                have hB11 : Below w.heap.size w (w10.drewN q11) := Upd.toBelow (F := fun _ => False) ((Upd.ofBelow hB10).drewN q11) (Nat.le_refl _) (fun _ h => h.elim)
                generalize w10.drewN q11 = w11 at *
                clear hS10 hB10 hnow10 hv10
                go_wp2_with fail
                refine (set_count _ _ _ _ _ hS11).mono ?_
                rintro e w' ⟨rfl, rfl⟩
                rw [HC0.out]
                go_wp2_with fail
                refine (set_copy _ _ _ _ _ _ _ _ hS11 hS11).mono ?_
                rintro e w12 ⟨k3, rfl, hS12, hk3, hu12⟩
                have hb12 := below_upd hB11 hu12 hB11.size (fun q e => by omega)
                clear hS11 hS12 hB11 hu12
                go_wp2_with fail
                go_ret
                exact ⟨rfl, hb12⟩
          · refine (set_copy_other _ _ _ _ _ _ _ _ _ hS3 hO3 hnm).mono ?_
            rintro e w4 ⟨rfl, q4, rfl⟩
            have e1 : ((n : Int) == (m : Int)) = false := by simp; omega
            have e2 : ((n : Int) != (m : Int)) = true := by simp; omega
            have hS4 : SetAt (w3.drewN q4) g k n M := hS3.upd (F := fun _ => False) ((Upd.refl _ w3).drewN q4) (fun h => h) (fun h => h)
            have hB4 : Below w.heap.size w (w3.drewN q4) := Upd.toBelow (F := fun _ => False) ((Upd.ofBelow hB3).drewN q4) (Nat.le_refl _) (fun _ h => h.elim)
            have hwas4 := hwas.drewN q4
            generalize w3.drewN q4 = w4 at *
            clear hS3 hO3 hB3 hwas hnm
            go_wp2_with fail
            refine (told3_any _ (HT.out.ofBelow hB4)).mono ?_
            rintro e w9 ⟨rfl, hb9⟩
            have hS9 := hS4.below hb9
            have hwas9 := hwas4.ofBelow hb9
            have hB9 := bstep hB4 hb9 hB4.size
            clear hS4 hwas4 hB4 hb9
            go_wp2_with fail
            refine (set_all _ _ _ _ _ hS9 (HT.out.ofBelow hB9)).mono ?_
            rintro e w10 ⟨v10, rfl, hv10, hb10⟩
            have hwas10 := hwas9.ofBelow hb10
            have hB10 := bstep hB9 hb10 hB9.size
            clear hS9 hwas9 hB9 hb10
            go_wp2_with fail
            refine (ints_any _ _ _ _ _ hv10.rd hwas10.rd (elems_le _ _ (by omega))).mono ?_
            rintro e w11 ⟨rfl, q11, rfl⟩
            rw [decide_eq_true (rfl : elems M n = elems M n)]
            have hB11 : Below w.heap.size w (w10.drewN q11) := Upd.toBelow (F := fun _ => False) ((Upd.ofBelow hB10).drewN q11) (Nat.le_refl _) (fun _ h => h.elim)
            generalize w10.drewN q11 = w11 at *
            go_wp2_with fail
            go_ret
            exact ⟨rfl, hB11⟩

theorem bitsC_long (L L2 c c2 n m : Nat) (a a2 : Option Addr) (size other : Int) (w : World) (hT : Tab w) (h40 : 40 < L ∨ (L ≤ 40 ∧ 40 < L2))
    (hu : 0 ≤ IntKind.u64.wrap size) (hn : IntKind.u64.wrap size % 201 = (n : Int)) (_hn200 : n ≤ 200) (hu2 : 0 ≤ IntKind.u64.wrap other) (hm : IntKind.u64.wrap other % 201 = (m : Int)) (_hm200 : m ≤ 200) :
    Calls Tryd.prog 9 #[.int .i64 size, .int .i64 other, .slice a L c, .slice a2 L2 c2] w fun e w' => e = .returned (.bool true) ∧ Below w.heap.size w w' := by
  have HT := Lib.hid hT
  clear hT
  rcases h40 with h40 | ⟨h40, h41⟩
  all_goals
    go_enter Tryd.func9, Tryd.ntmps9
    go_wp2_with fail
    refine (set_new w _ n (by omega)).mono ?_
    rintro e w1 ⟨g, k, rfl, hS, hg, hk, hgk, hb⟩
    go_wp2_with fail
    refine (set_new w1 _ m (by omega)).mono ?_
    rintro e w2 ⟨h, j, rfl, hO, hh, hj, hhj, hb2⟩
    clear hn hu hu2 hm
    have hB2 := bx hb hb2
    go_wp2_with fail
    refine (told3_any _ (HT.out.ofBelow hB2)).mono ?_
    rintro e w5 ⟨rfl, hb5⟩
    go_wp2_with fail
    go_ret
    exact ⟨rfl, bx hB2 hb5⟩

theorem BitsCopies_walk (w : World) (hT : Tab w) (size other : Int) (a : Option Addr) (L c : Nat) (l : List Int) (hr : Rd w (.slice a L c) l) (_hle : l.length ≤ 9223372036854775807)
    (a2 : Option Addr) (L2 c2 : Nat) (l2 : List Int) (hr2 : Rd w (.slice a2 L2 c2) l2) (_hle2 : l2.length ≤ 9223372036854775807) :
    Calls Tryd.prog 9 #[.int .i64 size, .int .i64 other, .slice a L c, .slice a2 L2 c2] w fun e w' => e = .returned (.bool true) ∧ Below w.heap.size w w' := by
  have hu : ∀ x, 0 ≤ IntKind.u64.wrap x := fun x => by rw [IntKind.wrap_u64]; exact Int.emod_nonneg _ (by omega)
  have hm0 : ∀ x, 0 ≤ IntKind.u64.wrap x % 201 := fun x => Int.emod_nonneg _ (by omega)
  have hm1 : ∀ x, IntKind.u64.wrap x % 201 < 201 := fun x => Int.emod_lt_of_pos _ (by omega)
  obtain ⟨n, hn⟩ := Int.eq_ofNat_of_zero_le (hm0 size)
  obtain ⟨m, hm⟩ := Int.eq_ofNat_of_zero_le (hm0 other)
  have b1 := hm1 size
  have b2 := hm1 other
  by_cases h40 : 40 < L ∨ (L ≤ 40 ∧ 40 < L2)
  · exact bitsC_long L L2 c c2 n m a a2 size other w hT h40 (hu _) hn (by omega) (hu _) hm (by omega)
  · obtain ⟨hl, b, off, ha, hcell⟩ := hr.plain
    obtain ⟨hl2, b', off', ha2, hcell2⟩ := hr2.plain
    exact bitsC_core b off L n c b' off' L2 m c2 a a2 l l2 size other w hT (by omega) (by omega) ha ha2 hcell hcell2 (hu _) hn (by omega) (hu _) hm (by omega)
end Go.Proofs.YtpbghoddemffhaaDoor
