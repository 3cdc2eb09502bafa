/-
  Spans: Addr, At, Full.
-/
import Derived.Test.YtpbghoddemffhaaDoorSpW
namespace Go.Proofs.YtpbghoddemffhaaDoor
open Go.RowKit
set_option maxRecDepth 100000
set_option maxHeartbeats 1000000

section
variable (w : World) (p u ku m km n : Nat) (first k from_ : Int) (U M : Nat → Bool) (h : SpAt w p u ku m km n first k from_ U M)
include h
theorem sp_full (hT : Tab w) :
    Calls Tryd.prog 34 #[ptr p] w fun e w' => e = .returned (.bool (decide (nextM U n false from_.toNat < 0))) ∧ Below w.heap.size w w' := by
  have c0 : ∀ x : After w.heap.size w, x.1.cell? ⟨p, 2, none⟩ = some (ptr u) := fun x => (h.below x.2).cel.cell 2
  have c1 : ∀ x : After w.heap.size w, x.1.cell? ⟨p, 4, none⟩ = some (.int .i64 from_) := fun x => (h.below x.2).cel.cell 4
  have H := Lib.hid (And.intro h hT)
  clear h hT
  unfold ptr at *
  go_enter Tryd.func34, Tryd.ntmps34
  go_upto_region 1 with fail
  refine wp_region_after w.heap.size w (by kernel_rfl) (by kernel_rfl) (Below.refl _ _) ?_
  repeat (go_big_quiet_step ((go_at_call 40; exact after_call (((set_next _ u ku n U (H.out.1.below (Subtype.property _)).us (H.out.2.ofBelow (Subtype.property _)) from_ false).mono fun _ _ ⟨he, hw⟩ => ⟨he, hw ▸ Below.refl _ _⟩)))))
  refine wpQuiet_nil ?_
  clear c0 c1
  intro w' hb
  go_wp2
  go_ret
  exact ⟨rfl, hb⟩
theorem sp_addr_out (i : Int) (hi : i < 0 ∨ (n : Int) ≤ i) :
    Calls Tryd.prog 18 #[ptr p, .int .i64 i] w fun e w' => e = .returned (.int .i64 0) ∧ w = w' := by
  have H := Lib.hid h
  clear h
  by_cases h0 : i < 0
  · unfold ptr at *
    go_enter Tryd.func18, Tryd.ntmps18
    go_wp2
    go_ret
    exact ⟨rfl, rfl⟩
  · have h1 : ¬ i < 0 := by omega
    have h2 : (n : Int) ≤ i := by omega
    unfold ptr at *
    go_enter Tryd.func18, Tryd.ntmps18
    go_wp2_with (go_at_call 16; refine (sp_slots _ _ _ _ _ _ _ _ _ _ _ _ H.out).mono ?_; rintro e w' ⟨rfl, rfl⟩)
    go_ret
    exact ⟨rfl, rfl⟩
theorem sp_addr (i : Nat) (hi : i < n) (hn64 : n ≤ 64) :
    Calls Tryd.prog 18 #[ptr p, .int .i64 i] w fun e w' => e = .returned (.int .i64 (first * 64 + i * szN k)) ∧ Below w.heap.size w w' := by
  have c1 : ∀ x : After w.heap.size w, x.1.cell? ⟨p, 1, none⟩ = some (.int .i64 k) := fun x => (h.below x.2).cel.cell 1
  have H := Lib.hid h
  have hf := h.hf
  have hz : 0 ≤ szN k ∧ szN k ≤ 256 := by
    obtain ⟨q, hq⟩ := Int.eq_ofNat_of_zero_le h.hk.1
    rw [hq]; unfold szN; rw [atL_nat _ _ (by have := h.hk; omega)]
    have := tab_bd q (by have := h.hk; omega)
    omega
  clear h
  unfold ptr at *
  have i0 : ¬ (i : Int) < 0 := by omega
  have i1 : ¬ (n : Int) ≤ (i : Int) := by omega
  obtain ⟨z, hzz⟩ : ∃ z, z = szN k := ⟨_, rfl⟩
  rw [← hzz] at hz ⊢
  have HZ := Lib.hid hzz
  clear hzz
  have hm : 0 ≤ (i : Int) * z ∧ (i : Int) * z ≤ 16384 := by
    obtain ⟨y, rfl⟩ := Int.eq_ofNat_of_zero_le hz.1
    have : i * y ≤ 64 * 256 := Nat.mul_le_mul (by omega) (by omega)
    constructor
    · exact Int.mul_nonneg (by omega) (by omega)
    · have e : ((i * y : Nat) : Int) ≤ 16384 := by omega
      rw [Int.natCast_mul] at e
      exact e
  have w1 : IntKind.i64.wrap ((i : Int) * z) = (i : Int) * z := IntWalk.i64_in _ (by omega)
  have w2 : IntKind.i64.wrap (first * 64 + (i : Int) * z) = first * 64 + (i : Int) * z := IntWalk.i64_in _ (by omega)
  go_enter Tryd.func18, Tryd.ntmps18
  go_wp2_with fail
  refine (sp_slots _ _ _ _ _ _ _ _ _ _ _ _ H.out).mono ?_
  rintro e w' ⟨rfl, rfl⟩
  go_upto_region 3 with fail
  refine wp_region_after w.heap.size w (by kernel_rfl) (by kernel_rfl) (Below.refl _ _) ?_
  repeat (go_big_quiet_step (first
    | (go_at_call 21; exact after_call (((sp_base _ p u ku m km n first k from_ U M (H.out.below (Subtype.property _))).mono fun _ _ ⟨he, hw⟩ => ⟨he, hw ▸ Below.refl _ _⟩)))
    | (go_at_call 51; exact after_call (v := .int .i64 z) (by rw [HZ.out]; exact size_any _ _))))
  refine wpQuiet_nil ?_
  clear c1
  intro w' hb
  go_wp2
  go_ret
  exact ⟨rfl, hb⟩
theorem sp_at_low (x : Int) (hx : x < first * 64) :
    Calls Tryd.prog 15 #[ptr p, .int .i64 x] w fun e w' => e = .returned (.tuple #[.int .i64 0, .bool false]) ∧ w = w' := by
  have H := Lib.hid h
  clear h
  unfold ptr at *
  go_enter Tryd.func15, Tryd.ntmps15
  go_wp2_with (go_at_call 21; refine (sp_base _ _ _ _ _ _ _ _ _ _ _ _ H.out).mono ?_; rintro e w' ⟨rfl, rfl⟩)
  go_ret2
  exact ⟨rfl, rfl⟩
theorem sp_at (x : Int) (d s : Nat) (hx : x = first * 64 + d) (hd : d ≤ 1099511627776) (hs : szN k = (s : Int)) (hs0 : 1 ≤ s) (hs1 : s ≤ 256) :
    Calls Tryd.prog 15 #[ptr p, .int .i64 x] w fun e w' => e = .returned (if d % s = 0 ∧ d / s < n then .tuple #[.int .i64 (d / s : Nat), .bool true] else .tuple #[.int .i64 0, .bool false]) ∧ Below w.heap.size w w' := by
  have c1 : ∀ x : After w.heap.size w, x.1.cell? ⟨p, 1, none⟩ = some (.int .i64 k) := fun x => (h.below x.2).cel.cell 1
  have H := Lib.hid h
  have hf := h.hf
  clear h
  obtain ⟨res, hres⟩ : ∃ res, res = if d % s = 0 ∧ d / s < n then Value.tuple #[.int .i64 (d / s : Nat), .bool true] else Value.tuple #[.int .i64 0, .bool false] := ⟨_, rfl⟩
  rw [← hres]
  unfold ptr at *
  have HR := Lib.hid hres
  clear hres
  have i0 : ¬ x < first * 64 := by omega
  have w1 : IntKind.i64.wrap (x - first * 64) = (d : Int) := by rw [IntWalk.i64_in _ (by omega)]; omega
  have w2 : x - first * 64 = (d : Int) := by omega
  have HS := Lib.hid hs
  clear hs
  have d1 : ((s : Int) == 0) = false := by simp; omega
  go_enter Tryd.func15, Tryd.ntmps15
  go_wp2_with fail
  refine (sp_base _ _ _ _ _ _ _ _ _ _ _ _ H.out).mono ?_
  rintro e w' ⟨rfl, rfl⟩
  go_upto_region 3 with fail
  refine wp_region_after w.heap.size w (by kernel_rfl) (by kernel_rfl) (Below.refl _ _) ?_
  repeat (go_big_quiet_step (first
    | (go_at_call 21; exact after_call (((sp_base _ p u ku m km n first k from_ U M (H.out.below (Subtype.property _))).mono fun _ _ ⟨he, hw⟩ => ⟨he, hw ▸ Below.refl _ _⟩)))
    | (go_at_call 51; exact after_call (v := .int .i64 s) (by rw [← HS.out]; exact size_any _ _))))
  refine wpQuiet_nil ?_
  clear c1
  intro w5 hb
  rw [show first * 64 + (d : Int) - first * 64 = (d : Int) by omega]
  clear w1 w2 hx i0
  obtain ⟨r, hr⟩ : ∃ r, r = d % s := ⟨_, rfl⟩
  obtain ⟨t, ht⟩ : ∃ t, t = d / s := ⟨_, rfl⟩
  have HR2 := HR.out
  rw [← hr, ← ht] at HR2
  have HR3 := Lib.hid HR2
  clear HR HR2
  have hri : (d : Int) % (s : Int) = (r : Int) := by rw [hr]; rfl
  have hti : (d : Int) / (s : Int) = (t : Int) := by rw [ht]; rfl
  have ht40 : t ≤ 1099511627776 := by rw [ht]; exact Nat.le_trans (Nat.div_le_self _ _) hd
  have w3 : IntKind.i64.wrap (t : Int) = (t : Int) := IntWalk.i64_in _ (by omega)
  have w4 : IntKind.i64.wrap (r : Int) = (r : Int) := IntWalk.i64_in _ (by have := Nat.mod_lt d (show 0 < s by omega); omega)
  clear hr ht
  have H5 := Lib.hid (H.out.below hb)
  clear H HS
  by_cases h0 : r = 0
  · have g1 : ((r : Int) != 0) = false := by simp; omega
    by_cases h1 : t < n
    · have g2 : ¬ (n : Int) ≤ (t : Int) := by omega
      go_upto_region 4 with fail
      refine wp_region_after w5.heap.size w5 (by kernel_rfl) (by kernel_rfl) (Below.refl _ _) ?_
      repeat (go_big_quiet_step ((go_at_call 16; exact after_call (((sp_slots _ p u ku m km n first k from_ U M (H5.out.below (Subtype.property _))).mono fun _ _ ⟨he, hw⟩ => ⟨he, hw ▸ Below.refl _ _⟩)))))
      refine wpQuiet_nil ?_
      intro w6 hb6
      go_wp2
      go_ret2
      exact ⟨by rw [HR3.out, if_pos ⟨h0, h1⟩]; rfl, bx hb hb6⟩
    · have g2 : (n : Int) ≤ (t : Int) := by omega
      go_upto_region 4 with fail
      refine wp_region_after w5.heap.size w5 (by kernel_rfl) (by kernel_rfl) (Below.refl _ _) ?_
      repeat (go_big_quiet_step ((go_at_call 16; exact after_call (((sp_slots _ p u ku m km n first k from_ U M (H5.out.below (Subtype.property _))).mono fun _ _ ⟨he, hw⟩ => ⟨he, hw ▸ Below.refl _ _⟩)))))
      refine wpQuiet_nil ?_
      intro w6 hb6
      go_wp2
      go_ret2
      exact ⟨by rw [HR3.out, if_neg (fun h => h1 h.2)]; rfl, bx hb hb6⟩
  · have g1 : ((r : Int) != 0) = true := by simp; omega
    go_upto_region 4 with fail
    refine wp_region_after w5.heap.size w5 (by kernel_rfl) (by kernel_rfl) (Below.refl _ _) ?_
    repeat (go_big_quiet_step (fail))
    refine wpQuiet_nil ?_
    intro w6 hb6
    go_wp2
    go_ret2
    exact ⟨by rw [HR3.out, if_neg (fun h => h0 h.1)]; rfl, bx hb hb6⟩
end
end Go.Proofs.YtpbghoddemffhaaDoor
