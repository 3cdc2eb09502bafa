/-
  Spans: Sweep of none; layer 6's told: it returns true. Under: the library's table.
-/
import Derived.Test.YtpbghoddemffhaaDoorSpS
namespace Go.Proofs.YtpbghoddemffhaaDoor
open Go.RowKit
set_option maxRecDepth 100000
set_option maxHeartbeats 2000000

theorem sp_sweep_nil (w : World) :
    Calls Tryd.prog 28 #[.pointer none] w fun e w' => e = .returned (.slice none 0 0) ∧ Below w.heap.size w w' := by
  go_enter Tryd.func28, Tryd.ntmps28
  go_wp2_with fail
  go_ret
  exact ⟨rfl, (Below.refl _ _).alloc (Nat.le_refl _) _⟩
/-- A span's blocks all lie from B on, and nothing below B has turned since w0. -/
structure SpIn (B : Nat) (w0 w : World) (p u ku m km n : Nat) (first k from_ : Int) (U M : Nat → Bool) : Prop where
  at_ : SpAt w p u ku m km n first k from_ U M
  pB : B ≤ p
  uB : B ≤ u
  kuB : B ≤ ku
  mB : B ≤ m
  kmB : B ≤ km
  size : B ≤ w.heap.size
  below : Below B w0 w
section
variable {B : Nat} {w0 w w' : World} {p u ku m km n : Nat} {first k from_ x : Int} {U M U' M' : Nat → Bool}
theorem SpIn.step (h : SpIn B w0 w p u ku m km n first k from_ U M) (hb : Below w.heap.size w w') : SpIn B w0 w' p u ku m km n first k from_ U M :=
  ⟨h.at_.below hb, h.pB, h.uB, h.kuB, h.mB, h.kmB, Nat.le_trans h.size hb.size, bstep h.below hb h.size⟩
theorem SpIn.put (h : SpIn B w0 w p u ku m km n first k from_ U M) (hs : SpAt w' p u ku m km n first k x U' M') (hu : Upd (fun y => y = p ∨ y = u ∨ y = ku ∨ y = m ∨ y = km) w w') : SpIn B w0 w' p u ku m km n first k x U' M' := by
  have h1 := h.pB; have h2 := h.uB; have h3 := h.kuB; have h4 := h.mB; have h5 := h.kmB
  exact ⟨hs, h.pB, h.uB, h.kuB, h.mB, h.kmB, Nat.le_trans h.size hu.size, below_upd h.below hu h.size (fun q e => by rcases e with e | e | e | e | e <;> omega)⟩
theorem SpIn.mark (h : SpIn B w0 w p u ku m km n first k from_ U M) (hs : SpAt w' p u ku m km n first k from_ U M') (hu : Upd (fun y => y = m ∨ y = km) w w') : SpIn B w0 w' p u ku m km n first k from_ U M' :=
  h.put hs (hu.mono (fun y hy _ => by rcases hy with hy | hy <;> simp [hy]))
theorem SpIn.swept (h : SpIn B w0 w p u ku m km n first k from_ U M) (hs : SpAt w' p m km u ku n first k x U' M') (hu : Upd (fun y => y = p ∨ y = u ∨ y = ku) w w') : SpIn B w0 w' p m km u ku n first k x U' M' := by
  have h1 := h.pB; have h2 := h.uB; have h3 := h.kuB
  exact ⟨hs, h.pB, h.mB, h.kmB, h.uB, h.kuB, Nat.le_trans h.size hu.size, below_upd h.below hu h.size (fun q e => by rcases e with e | e | e <;> omega)⟩
theorem SpIn.new {e : Ending} (h : NewSp w.heap.size n first k e w') (hb : Below w.heap.size w w') : ∃ p u ku m km, e = .returned (.tuple #[ptr p, .int .i64 0]) ∧ SpIn w.heap.size w w' p u ku m km n first k 0 (fun _ => false) (fun _ => false) := by
  obtain ⟨p, u, ku, m, km, he, h1, g1, g2, g3, g4, g5⟩ := h
  exact ⟨p, u, ku, m, km, he, ⟨h1, g1, g2, g3, g4, g5, hb.size, hb⟩⟩
theorem SpIn.tab (h : SpIn B w0 w p u ku m km n first k from_ U M) (hT : Tab w0) (hB : w0.heap.size = B) : Tab w := by
  subst hB; exact hT.ofBelow h.below
end

theorem told6_any (w : World) (hT : Tab w) :
    Calls Tryd.prog 17 #[] w fun e w' => e = .returned (.bool true) ∧ Below w.heap.size w w' := by
  have HT := Lib.hid hT
  clear hT
  go_enter Tryd.func17, Tryd.ntmps17
  go_wp2_with fail
  refine (sp_new w 2 15 1 (by omega) (by omega) (by omega) (by decide)).mono ?_
  rintro e w1 ⟨h0, hb0⟩
  obtain ⟨p, u, ku, m, km, rfl, h1⟩ := SpIn.new h0 hb0
  clear h0 hb0
  go_wp2_with fail
  refine (sp_new_not w1 0 3 (by omega)).mono ?_
  rintro e w2 ⟨rfl, hb2⟩
  have h2 := h1.step hb2
  clear h1 hb2
  go_wp2_with fail
  refine (sp_alloc w2 p u ku m km 1 2 15 0 _ _ h2.at_ (h2.tab HT.out rfl) false 0 (by kernel_rfl) (by omega) rfl).mono ?_
  rintro e w3 ⟨rfl, hS3, hu3⟩
  have h3 := h2.put hS3 hu3
  clear h2 hS3 hu3
  go_wp2_with fail
  refine (sp_alloc_full w3 p u ku m km 1 2 15 0 _ _ h3.at_ (h3.tab HT.out rfl) true (by kernel_rfl)).mono ?_
  rintro e w4 ⟨rfl, hb4⟩
  have h4 := h3.step hb4
  clear h3 hb4
  go_wp2_with fail
  refine (sp_sweep w4 p u ku m km 1 2 15 0 _ _ h4.at_ (h4.tab HT.out rfl)).mono ?_
  rintro e w5 ⟨v5, rfl, hv5, hS5, hu5⟩
  have h5 := h4.swept hS5 hu5
  obtain ⟨va, vc, rfl⟩ := hv5.rd.form
  rw [show (elems (fun t => putM (fun _ => false) 0 t && !(if false = true then putM (fun _ => false) 0 else fun _ => false) t) 1).length = 1 by kernel_rfl]
  clear h4 hS5 hu5 hv5
  go_wp2_with fail
  refine (sp_slots _ _ _ _ _ _ _ _ _ _ _ _ h5.at_).mono ?_
  rintro e w' ⟨rfl, rfl⟩
  go_wp2_with fail
  refine (sp_base _ _ _ _ _ _ _ _ _ _ _ _ h5.at_).mono ?_
  rintro e w' ⟨rfl, rfl⟩
  go_wp2_with fail
  refine (sp_live _ _ _ _ _ _ _ _ _ _ _ _ h5.at_).mono ?_
  rintro e w' ⟨rfl, rfl⟩
  rw [show cnt (if false = true then putM (fun _ => false) 0 else fun _ => false) 1 = 0 by kernel_rfl]
  go_wp2_with fail
  refine (sp_class _ _ _ _ _ _ _ _ _ _ _ _ h5.at_).mono ?_
  rintro e w' ⟨rfl, rfl⟩
  go_wp2_with fail
  go_ret
  exact ⟨rfl, h5.below⟩
end Go.Proofs.YtpbghoddemffhaaDoor
