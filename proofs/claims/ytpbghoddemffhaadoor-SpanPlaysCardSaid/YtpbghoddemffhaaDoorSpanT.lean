/-
  The walk of SpanPlays: it returns true whatever came in. Under: the library's table.
-/
import Derived.Test.YtpbghoddemffhaaDoorRefS
import Derived.Test.YtpbghoddemffhaaDoorTrip
namespace Go.Proofs.YtpbghoddemffhaaDoor
open Go.RowKit
set_option maxRecDepth 100000
set_option maxHeartbeats 4000000

/-- The program's span beside the reference's. -/
structure Twin (B : Nat) (w0 ws : World) (p u ku m km g r s n : Nat) (first : Int) (k fr f2 : Nat) (U M : Nat → Bool) : Prop where
  a : SpIn B w0 ws p u ku m km n first k fr U M
  b : RSp ws g r s n first k f2 U M
  gB : B ≤ g
  rB : B ≤ r
  sB : B ≤ s
  sub : ∀ t, M t = true → U t = true
  next : nextM U n false fr = nextM U n false f2
  f2n : f2 ≤ n
section
variable {B : Nat} {w0 w w' : World} {p u ku m km g r s n : Nat} {first : Int} {k fr f2 x y : Nat} {U M U' M' : Nat → Bool}
theorem RSp.far {k f2 : Int} (h : RSp w g r s n first k f2 U M) {F : Nat → Prop} (hu : Upd F w w') (hF : ∀ q, F q → ∃ t cs, Cel w q t cs ∧ t ≠ 37 ∧ t ≠ 4) : RSp w' g r s n first k f2 U M := by
  have h' := h
  obtain ⟨c1, c2, cs1, cs2, a1, a2, a3, _⟩ := h'
  refine h.upd hu (fun e => ?_) (fun e => ?_) (fun e => ?_)
  · obtain ⟨t, cs, hc, h1, _⟩ := hF _ e; exact hc.ne a1 h1 rfl
  · obtain ⟨t, cs, hc, _, h2⟩ := hF _ e; exact hc.ne a2 h2 rfl
  · obtain ⟨t, cs, hc, _, h2⟩ := hF _ e; exact hc.ne a3 h2 rfl
theorem SpIn.kinds {k fr : Int} (h : SpIn B w0 w p u ku m km n first k fr U M) : ∀ q, (q = p ∨ q = u ∨ q = ku ∨ q = m ∨ q = km) → ∃ t cs, Cel w q t cs ∧ t ≠ 37 ∧ t ≠ 4 := by
  obtain ⟨_, _, a1, a2, _⟩ := h.at_.us
  obtain ⟨_, _, b1, b2, _⟩ := h.at_.ms
  rintro q (rfl | rfl | rfl | rfl | rfl)
  · exact ⟨_, _, h.at_.cel, by decide, by decide⟩
  · exact ⟨_, _, a1, by decide, by decide⟩
  · exact ⟨_, _, a2, by decide, by decide⟩
  · exact ⟨_, _, b1, by decide, by decide⟩
  · exact ⟨_, _, b2, by decide, by decide⟩
/-- The reference's span turns; the program's does not. -/
theorem SpIn.beside {k fr k' f2 : Int} {U2 M2 : Nat → Bool} (h : SpIn B w0 w p u ku m km n first k fr U M) (hr : RSp w g r s n first k' f2 U2 M2) (gB : B ≤ g) (rB : B ≤ r) (sB : B ≤ s) (hu : Upd (fun x => x = g ∨ x = r ∨ x = s) w w') : SpIn B w0 w' p u ku m km n first k fr U M := by
  obtain ⟨c1, c2, cs1, cs2, a1, a2, a3, _⟩ := hr
  have hk := h.kinds
  have no : ∀ q, (q = p ∨ q = u ∨ q = ku ∨ q = m ∨ q = km) → ¬ (q = g ∨ q = r ∨ q = s) := fun q hq e => by
    obtain ⟨t, cs, hc, h1, h2⟩ := hk q hq
    rcases e with rfl | rfl | rfl
    · exact hc.ne a1 h1 rfl
    · exact hc.ne a2 h2 rfl
    · exact hc.ne a3 h2 rfl
  exact ⟨h.at_.upd hu (no _ (by simp)) (no _ (by simp)) (no _ (by simp)) (no _ (by simp)) (no _ (by simp)), h.pB, h.uB, h.kuB, h.mB, h.kmB, Nat.le_trans h.size hu.size, below_upd h.below hu h.size (fun q e => by rcases e with e | e | e <;> omega)⟩
theorem Twin.step (h : Twin B w0 w p u ku m km g r s n first k fr f2 U M) (hb : Below w.heap.size w w') : Twin B w0 w' p u ku m km g r s n first k fr f2 U M :=
  ⟨h.a.step hb, h.b.below hb, h.gB, h.rB, h.sB, h.sub, h.next, h.f2n⟩
theorem Cel.farK {q : Nat} {t : TypeId} {cs : Array Value} {F : Nat → Prop} (hc : Cel w q t cs) (hu : Upd F w w') (hF : ∀ q, F q → ∃ t' cs', Cel w q t' cs' ∧ t ≠ t') : Cel w' q t cs :=
  hu.cel hc (fun e => by obtain ⟨t', cs', h1, h2⟩ := hF _ e; exact hc.ne h1 h2 rfl)
theorem SpIn.cel {k fr : Int} {q : Nat} {t : TypeId} {cs : Array Value} (h : SpIn B w0 w p u ku m km n first k fr U M) (hc : Cel w q t cs) (h1 : t ≠ 65) (h2 : t ≠ 68) (h3 : t ≠ 70) (hu : Upd (fun y => y = p ∨ y = u ∨ y = ku ∨ y = m ∨ y = km) w w') : Cel w' q t cs := by
  obtain ⟨_, _, a1, a2, _⟩ := h.at_.us
  obtain ⟨_, _, b1, b2, _⟩ := h.at_.ms
  refine hc.farK hu ?_
  rintro q' (rfl | rfl | rfl | rfl | rfl)
  · exact ⟨_, _, h.at_.cel, h1⟩
  · exact ⟨_, _, a1, h2⟩
  · exact ⟨_, _, a2, h3⟩
  · exact ⟨_, _, b1, h2⟩
  · exact ⟨_, _, b2, h3⟩
theorem RSp.cel {k f2 : Int} {q : Nat} {t : TypeId} {cs : Array Value} (h : RSp w g r s n first k f2 U M) (hc : Cel w q t cs) (h1 : t ≠ 37) (h2 : t ≠ 4) (hu : Upd (fun x => x = g ∨ x = r ∨ x = s) w w') : Cel w' q t cs := by
  obtain ⟨c1, c2, cs1, cs2, a1, a2, a3, _⟩ := h
  refine hc.farK hu ?_
  rintro q' (rfl | rfl | rfl)
  · exact ⟨_, _, a1, h1⟩
  · exact ⟨_, _, a2, h2⟩
  · exact ⟨_, _, a3, h2⟩

/-- Marks, whatever number came. -/
def mkM (U M : Nat → Bool) (x : Int) : Nat → Bool := if atM U x = true then putM M x.toNat else M
theorem mkM_sub {x : Int} (hs : ∀ t, M t = true → U t = true) : ∀ t, mkM U M x t = true → U t = true := fun t ht => by
  unfold mkM at ht
  split at ht
  · rename_i h0
    unfold putM at ht
    split at ht
    · rename_i e
      rw [e]
      unfold atM at h0
      simp at h0
      exact h0.2
    · exact hs t ht
  · exact hs t ht
theorem sp_mark_int {k fr : Int} (h : SpAt w p u ku m km n first k fr U M) (x : Int) :
    Calls Tryd.prog 25 #[ptr p, .int .i64 x] w fun e w' => e = .returned (.bool (atM U x && !atM M x)) ∧ SpAt w' p u ku m km n first k fr U (mkM U M x) ∧ Upd (fun b => b = m ∨ b = km) w w' := by
  unfold mkM
  cases hx : atM U x with
  | false =>
    refine (sp_mark_not _ _ _ _ _ _ _ _ _ _ _ _ h x hx).mono fun e w' ⟨he, hw⟩ => ?_
    subst hw
    exact ⟨he, by rw [if_neg Bool.false_ne_true]; exact h, Upd.refl _ _⟩
  | true =>
    have h0 : 0 ≤ x ∧ U x.toNat = true := by unfold atM at hx; simpa using hx
    obtain ⟨i, rfl⟩ := Int.eq_ofNat_of_zero_le h0.1
    rw [Int.toNat_natCast] at h0
    rw [atM_nat, if_pos rfl, Int.toNat_natCast]
    exact (sp_mark _ _ _ _ _ _ _ _ _ _ _ _ h i h0.2).mono fun e w' ⟨he, hw⟩ => ⟨he, hw⟩
theorem rs_set_int {k f2 : Nat} (h : RSp w g r s n first k f2 U M) (hU : ∀ t, U t = true → t < n) (x : Int) :
    Calls Tryd.prog 26 #[ptr g, .int .i64 x] w fun e w' => e = .returned (.bool (atM U x && !atM M x)) ∧ RSp w' g r s n first k f2 U (mkM U M x) ∧ Upd (fun x => x = g ∨ x = r ∨ x = s) w w' := by
  unfold mkM
  cases hx : inB n x with
  | false =>
    have hU0 : atM U x = false := atM_out hU hx
    rw [hU0]
    refine (rs_set_out w g r s n f2 first k U M h x hx).mono fun e w' ⟨he, hw⟩ => ?_
    subst hw
    exact ⟨he, by rw [if_neg Bool.false_ne_true]; exact h, Upd.refl _ _⟩
  | true =>
    have h0 := of_decide_eq_true hx
    obtain ⟨i, rfl⟩ := Int.eq_ofNat_of_zero_le h0.1
    rw [atM_nat, atM_nat, Int.toNat_natCast]
    exact (rs_set w g r s n f2 first k U M h i (by omega)).mono fun e w' ⟨he, h1, h2⟩ => ⟨he, h1, h2⟩
end
end Go.Proofs.YtpbghoddemffhaaDoor
