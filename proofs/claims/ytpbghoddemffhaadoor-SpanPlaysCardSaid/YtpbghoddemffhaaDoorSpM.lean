/-
  Spans: Mark, Alloc, New.
-/
import Derived.Test.YtpbghoddemffhaaDoorSpN
namespace Go.Proofs.YtpbghoddemffhaaDoor
open Go.RowKit
set_option maxRecDepth 100000
set_option maxHeartbeats 1000000

section
variable {w w' : World} {p u ku m km n : Nat} {first k from_ : Int} {U M U' M' : Nat → Bool}
theorem SpAt.putU (h : SpAt w p u ku m km n first k from_ U M) (hs : SetAt w' u ku n U') (hu : Upd (fun b => b = u ∨ b = ku) w w') : SpAt w' p u ku m km n first k from_ U' M := by
  have hus := h.us
  obtain ⟨_, _, a1, a2, _⟩ := h.us
  exact ⟨hu.cel h.cel (fun e => e.elim (fun e => h.cel.ne a1 (by decide) e) (fun e => h.cel.ne a2 (by decide) e)), hs, hus.other h.ms h.um h.kk hu, h.um, h.kk, h.hn, h.hk, h.hf, h.from0⟩
theorem SpAt.putM (h : SpAt w p u ku m km n first k from_ U M) (hs : SetAt w' m km n M') (hu : Upd (fun b => b = m ∨ b = km) w w') : SpAt w' p u ku m km n first k from_ U M' := by
  have hms := h.ms
  obtain ⟨_, _, a1, a2, _⟩ := h.ms
  exact ⟨hu.cel h.cel (fun e => e.elim (fun e => h.cel.ne a1 (by decide) e) (fun e => h.cel.ne a2 (by decide) e)), hms.other h.us h.um.symm h.kk.symm hu, hs, h.um, h.kk, h.hn, h.hk, h.hf, h.from0⟩
theorem SpAt.putF (h : SpAt w p u ku m km n first k from_ U M) (x : Int) (hx : 0 ≤ x) : SpAt (w.setCell ⟨p, 4, none⟩ (.int .i64 x)) p u ku m km n first k x U M := by
  obtain ⟨_, _, a1, a2, _⟩ := h.us
  obtain ⟨_, _, b1, b2, _⟩ := h.ms
  have hu : Upd (· = p) w (w.setCell ⟨p, 4, none⟩ (.int .i64 x)) := (Upd.refl (· = p) w).sc (fun _ => rfl) 4 (.int .i64 x)
  exact ⟨h.cel.put 4 _, h.us.upd hu (h.cel.ne a1 (by decide)).symm (h.cel.ne a2 (by decide)).symm, h.ms.upd hu (h.cel.ne b1 (by decide)).symm (h.cel.ne b2 (by decide)).symm, h.um, h.kk, h.hn, h.hk, h.hf, hx⟩
end

section
variable (w : World) (p u ku m km n : Nat) (first k from_ : Int) (U M : Nat → Bool) (h : SpAt w p u ku m km n first k from_ U M)
include h
theorem sp_mark_not (i : Int) (hi : atM U i = false) :
    Calls Tryd.prog 25 #[ptr p, .int .i64 i] w fun e w' => e = .returned (.bool false) ∧ w = w' := by
  have H := Lib.hid h
  clear h
  unfold ptr at *
  go_enter Tryd.func25, Tryd.ntmps25
  go_wp2_with (go_at_call 30; refine (sp_used _ _ _ _ _ _ _ _ _ _ _ _ H.out i).mono ?_; rintro e w' ⟨rfl, rfl⟩; rw [hi])
  go_ret
  exact ⟨rfl, rfl⟩
theorem sp_mark (i : Nat) (hi : U i = true) :
    Calls Tryd.prog 25 #[ptr p, .int .i64 i] w fun e w' => e = .returned (.bool (!M i)) ∧ SpAt w' p u ku m km n first k from_ U (putM M i) ∧ Upd (fun b => b = m ∨ b = km) w w' := by
  have c0 : w.cell? ⟨p, 3, none⟩ = some (ptr m) := h.cel.cell 3
  have H := Lib.hid h
  have hin := h.us.in i hi
  have hat : atM U (i : Int) = true := by unfold atM; rw [Int.toNat_natCast, hi]; simp
  clear h
  unfold ptr at *
  go_enter Tryd.func25, Tryd.ntmps25
  go_wp2_with (first
    | (go_at_call 30; refine (sp_used _ _ _ _ _ _ _ _ _ _ _ _ H.out i).mono ?_; rintro e w' ⟨rfl, rfl⟩; rw [hat])
    | (go_at_call 39; refine (set_set _ _ _ _ _ _ H.out.ms hin).mono ?_; rintro e w' ⟨rfl, hS, hu⟩))
  go_ret
  exact ⟨rfl, H.out.putM hS hu, hu⟩
end
end Go.Proofs.YtpbghoddemffhaaDoor
