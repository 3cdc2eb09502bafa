/-
  Spans: New, Alloc.
-/
import Derived.Test.YtpbghoddemffhaaDoorSpM
namespace Go.Proofs.YtpbghoddemffhaaDoor
open Go.RowKit
set_option maxRecDepth 100000
set_option maxHeartbeats 1000000

theorem sp_new_not (w : World) (first k : Int) (h : (k < 0 ∨ 15 < k) ∨ first < 1 ∨ 262144 < first) :
    Calls Tryd.prog 13 #[.int .i64 first, .int .i64 k] w fun e w' => e = .returned (.tuple #[.pointer none, .int .i64 1]) ∧ Below w.heap.size w w' := by
  by_cases hk : k < 0 ∨ 15 < k
  · have E := Lib.hid (show szN k = 0 from atL_out _ _ hk)
    clear h hk
    go_enter Tryd.func13, Tryd.ntmps13
    go_wp2_with (go_at_call 51; refine (size_any _ _).mono ?_; rintro e w1 ⟨rfl, hb⟩; rw [E.out])
    go_ret2
    exact ⟨rfl, hb⟩
  · obtain ⟨q, rfl⟩ := Int.eq_ofNat_of_zero_le (show 0 ≤ k by omega)
    have hz : 1 ≤ szN q := by unfold szN; rw [atL_nat _ _ (by omega)]; exact (tab_bd q (by omega)).1
    have hf : first < 1 ∨ (¬ first < 1 ∧ 262144 < first) := by omega
    have hsz := fun w => size_any (q : Int) w
    clear h hk
    generalize szN q = z at hz hsz
    have hz0 : (z == 0) = false := by simp; omega
    have hz1 : ¬ z = 0 := by omega
    rcases hf with hf | ⟨hf, hf2⟩
    all_goals
      go_enter Tryd.func13, Tryd.ntmps13
      go_wp2_with (go_at_call 51; refine (hsz _).mono ?_; rintro e w1 ⟨rfl, hb⟩)
      go_ret2
      exact ⟨rfl, hb⟩
/-- What a new span is. -/
def NewSp (B : Nat) (n : Nat) (first k : Int) (e : Ending) (w' : World) : Prop :=
  ∃ p u ku m km, e = .returned (.tuple #[ptr p, .int .i64 0]) ∧ SpAt w' p u ku m km n first k 0 (fun _ => false) (fun _ => false) ∧ B ≤ p ∧ B ≤ u ∧ B ≤ ku ∧ B ≤ m ∧ B ≤ km
theorem sp_new (w : World) (first : Int) (k n : Nat) (hk : k < 16) (hf1 : 1 ≤ first) (hf2 : first ≤ 262144) (hn : slN (k : Int) = (n : Int)) :
    Calls Tryd.prog 13 #[.int .i64 first, .int .i64 (k : Int)] w fun e w' => NewSp w.heap.size n first k e w' ∧ Below w.heap.size w w' := by
  have hz : 1 ≤ szN k := by unfold szN; rw [atL_nat _ _ hk]; exact (tab_bd k hk).1
  have hn64 : n ≤ 64 := by
    have := sl_bd k hk
    unfold slN at hn; rw [atL_nat _ _ hk] at hn; omega
  have hsz := fun w => size_any (k : Int) w
  generalize szN k = z at hz hsz
  have hz0 : (z == 0) = false := by simp; omega
  have hz1 : ¬ z = 0 := by omega
  have i1 : ¬ first < 1 := by omega
  have i2 : ¬ 262144 < first := by omega
  have HN := Lib.hid hn
  clear hn
  go_enter Tryd.func13, Tryd.ntmps13
  go_wp2_with fail
  refine (hsz _).mono ?_
  rintro e w1 ⟨rfl, hb1⟩
  clear hsz
  go_wp2_with fail
  refine (slots_any _ _).mono ?_
  rintro e w2 ⟨rfl, hb2⟩
  rw [HN.out]
  have hB2 := bx hb1 hb2
  clear hb1 hb2
  go_wp2_with fail
  refine (set_new w2 _ n (by omega)).mono ?_
  rintro e w3 ⟨u, ku, rfl, hU, hu, hku, huk, hb3⟩
  have hu' : w.heap.size ≤ u := Nat.le_trans hB2.size hu
  have hku' : w.heap.size ≤ ku := Nat.le_trans hB2.size hku
  have hB3 := bx hB2 hb3
  clear hB2 hb3 hu hku
  go_wp2_with fail
  refine (set_new w3 _ n (by omega)).mono ?_
  rintro e w4 ⟨m, km, rfl, hM, hm, hkm, hmk, hb4⟩
  have hU4 := hU.below hb4
  have hum : u ≠ m := by have := hU.lt; omega
  have hkk : ku ≠ km := by have := hU.ltk; omega
  have hm' : w.heap.size ≤ m := Nat.le_trans hB3.size hm
  have hkm' : w.heap.size ≤ km := Nat.le_trans hB3.size hkm
  have hB4 := bx hB3 hb4
  clear hU hB3 hb4 hm hkm
  go_wp2_with fail
  go_ret2
  have u5 : Upd (fun _ => False) w4 (w4.alloc (.cells #[.int .i64 first, .int .i64 (k : Int), ptr u, ptr m, .int .i64 0] 65)) := (Upd.refl _ _).alloc _
  exact ⟨⟨w4.heap.size, u, ku, m, km, rfl, ⟨Cel.born _ _ _, hU4.upd u5 (fun h => h) (fun h => h), hM.upd u5 (fun h => h) (fun h => h), hum, hkk, HN.out.symm, ⟨by omega, by omega⟩, ⟨by omega, by omega⟩, by omega⟩, hB4.size, hu', hku', hm', hkm'⟩, below_upd hB4 u5 hB4.size (fun _ h => h.elim)⟩

section
variable (w : World) (p u ku m km n : Nat) (first k from_ : Int) (U M : Nat → Bool) (h : SpAt w p u ku m km n first k from_ U M)
include h
theorem sp_alloc_full (hT : Tab w) (b : Bool) (hno : nextM U n false from_.toNat = -1) :
    Calls Tryd.prog 23 #[ptr p, .bool b] w fun e w' => e = .returned (.tuple #[.int .i64 0, .bool false]) ∧ Below w.heap.size w w' := by
  have H := Lib.hid (And.intro h (And.intro hT hno))
  clear h hT hno
  go_enter Tryd.func23, Tryd.ntmps23
  go_wp2_with fail
  refine (sp_full _ _ _ _ _ _ _ _ _ _ _ _ H.out.1 H.out.2.1).mono ?_
  rintro e w1 ⟨rfl, hb⟩
  rw [H.out.2.2, show decide ((-1 : Int) < 0) = true from rfl]
  go_wp2_with fail
  go_ret2
  exact ⟨rfl, hb⟩
theorem sp_alloc (hT : Tab w) (b : Bool) (i : Nat) (hi : nextM U n false from_.toNat = (i : Int)) (hin : i < n) (hUi : U i = false) :
    Calls Tryd.prog 23 #[ptr p, .bool b] w fun e w' => e = .returned (.tuple #[.int .i64 i, .bool true]) ∧ SpAt w' p u ku m km n first k i (putM U i) (if b then putM M i else M) ∧ Upd (fun x => x = p ∨ x = u ∨ x = ku ∨ x = m ∨ x = km) w w' := by
  have H := Lib.hid (And.intro h (And.intro hT (And.intro hi hUi)))
  clear h hT hi hUi
  unfold ptr at *
  go_enter Tryd.func23, Tryd.ntmps23
  go_wp2_with fail
  refine (sp_full _ _ _ _ _ _ _ _ _ _ _ _ H.out.1 H.out.2.1).mono ?_
  rintro e w1 ⟨rfl, hb⟩
  rw [H.out.2.2.1, show decide ((i : Int) < 0) = false by simp]
  have h1 := H.out.1.below hb
  have hT1 := H.out.2.1.ofBelow hb
  have u1 : Upd (fun x => x = p ∨ x = u ∨ x = ku ∨ x = m ∨ x = km) w w1 := Upd.ofBelow hb
  clear hb
  have c0 : ∀ x : After w1.heap.size w1, x.1.cell? ⟨p, 2, none⟩ = some (ptr u) := fun x => (h1.below x.2).cel.cell 2
  have c1 : ∀ x : After w1.heap.size w1, x.1.cell? ⟨p, 4, none⟩ = some (.int .i64 from_) := fun x => (h1.below x.2).cel.cell 4
  have H1 := Lib.hid (And.intro h1 (And.intro hT1 u1))
  clear h1 hT1 u1
  unfold ptr at *
  go_upto_region 3 with fail
  refine wp_region_after w1.heap.size w1 (by kernel_rfl) (by kernel_rfl) (Below.refl _ _) ?_
  repeat (go_big_quiet_step ((go_at_call 40; exact after_call (((set_next _ u ku n U (H1.out.1.below (Subtype.property _)).us (H1.out.2.1.ofBelow (Subtype.property _)) from_ false).mono fun _ _ ⟨he, hw⟩ => ⟨he, hw ▸ Below.refl _ _⟩)))))
  refine wpQuiet_nil ?_
  clear c0 c1
  intro w2 hb2
  rw [H.out.2.2.1]
  have h2 := H1.out.1.below hb2
  have u2 : Upd (fun x => x = p ∨ x = u ∨ x = ku ∨ x = m ∨ x = km) w w2 := H1.out.2.2.trans (Upd.ofBelow hb2)
  clear hb2 H1
  have e0 : w2.cell? ⟨p, 2, none⟩ = some (ptr u) := h2.cel.cell 2
  unfold ptr at e0
  go_wp2_with fail
  refine (set_set _ _ _ _ _ _ h2.us hin).mono ?_
  rintro e w3 ⟨rfl, hS3, hu3⟩
  have h3 := h2.putU hS3 hu3
  have u3 := u2.step hu3 (fun x hx _ => by rcases hx with rfl | rfl <;> simp)
  clear e0 h2 u2 hu3 hS3
  have e1 := h3.cel.free 4
  have e2 : w3.cell? ⟨p, 4, none⟩ = some (.int .i64 from_) := h3.cel.cell 4
  have e3 : w3.cell? ⟨p, 3, none⟩ = some (ptr m) := h3.cel.cell 3
  have h4 := h3.putF i (by omega)
  have u4 := u3.sc (g := p) (fun _ => .inl rfl) 4 (.int .i64 i)
  have e4 : (w3.setCell ⟨p, 4, none⟩ (.int .i64 i)).cell? ⟨p, 3, none⟩ = some (ptr m) := h4.cel.cell 3
  unfold ptr at e3 e4
  have H4 := Lib.hid (And.intro h4 u4)
  clear h3 u3 h4 u4
  cases b with
  | false =>
    go_wp2_with fail
    go_ret2
    exact ⟨rfl, H4.out.1, H4.out.2⟩
  | true =>
    go_wp2_with fail
    refine (set_set _ _ _ _ _ _ H4.out.1.ms hin).mono ?_
    rintro e w5 ⟨rfl, hS5, hu5⟩
    have h5 := H4.out.1.putM hS5 hu5
    have u5 := H4.out.2.step hu5 (fun x hx _ => by rcases hx with rfl | rfl <;> simp)
    clear hS5 hu5 e1 e2 e3 e4
    go_wp2_with fail
    go_ret2
    exact ⟨rfl, h5, u5⟩
end
end Go.Proofs.YtpbghoddemffhaaDoor
