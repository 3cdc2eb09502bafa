/-
  Spans: a span's form in memory; New, Class, Base, Slots, Used, Marked, Live, Full, Addr, At.
-/
import Derived.Test.YtpbghoddemffhaaDoorBitU
import Derived.Test.YtpbghoddemffhaaDoorClsX
namespace Go.Proofs.YtpbghoddemffhaaDoor
open Go.RowKit
set_option maxRecDepth 100000
set_option maxHeartbeats 1000000

/-- The span at p: its two sets at u, m (their words at ku, km), of n places; used: U; marked: M. -/
structure SpAt (w : World) (p u ku m km n : Nat) (first k from_ : Int) (U M : Nat → Bool) : Prop where
  cel : Cel w p 65 #[.int .i64 first, .int .i64 k, ptr u, ptr m, .int .i64 from_]
  us : SetAt w u ku n U
  ms : SetAt w m km n M
  um : u ≠ m
  kk : ku ≠ km
  hn : (n : Int) = slN k
  hk : 0 ≤ k ∧ k < 16
  hf : 1 ≤ first ∧ first ≤ 262144
  from0 : 0 ≤ from_
section
variable {w w' : World} {p u ku m km n : Nat} {first k from_ : Int} {U M : Nat → Bool}
theorem SpAt.upd {F : Nat → Prop} (h : SpAt w p u ku m km n first k from_ U M) (hu : Upd F w w') (h1 : ¬ F p) (h2 : ¬ F u) (h3 : ¬ F ku) (h4 : ¬ F m) (h5 : ¬ F km) : SpAt w' p u ku m km n first k from_ U M :=
  ⟨hu.cel h.cel h1, h.us.upd hu h2 h3, h.ms.upd hu h4 h5, h.um, h.kk, h.hn, h.hk, h.hf, h.from0⟩
theorem SpAt.below (h : SpAt w p u ku m km n first k from_ U M) (hb : Below w.heap.size w w') : SpAt w' p u ku m km n first k from_ U M :=
  h.upd (F := fun _ => False) (Upd.ofBelow hb) (fun h => h) (fun h => h) (fun h => h) (fun h => h) (fun h => h)
theorem SpAt.drewN (h : SpAt w p u ku m km n first k from_ U M) (q : Nat) : SpAt (w.drewN q) p u ku m km n first k from_ U M :=
  h.upd (F := fun _ => False) ((Upd.refl _ w).drewN q) (fun h => h) (fun h => h) (fun h => h) (fun h => h) (fun h => h)
end

theorem sp_base_nil (w : World) :
    Calls Tryd.prog 21 #[.pointer none] w fun e w' => e = .returned (.int .i64 0) ∧ w = w' := by
  go_enter Tryd.func21, Tryd.ntmps21
  go_wp2
  go_ret
  exact ⟨rfl, rfl⟩
theorem sp_slots_nil (w : World) :
    Calls Tryd.prog 16 #[.pointer none] w fun e w' => e = .returned (.int .i64 0) ∧ w = w' := by
  go_enter Tryd.func16, Tryd.ntmps16
  go_wp2
  go_ret
  exact ⟨rfl, rfl⟩
theorem sp_live_nil (w : World) :
    Calls Tryd.prog 32 #[.pointer none] w fun e w' => e = .returned (.int .i64 0) ∧ w = w' := by
  go_enter Tryd.func32, Tryd.ntmps32
  go_wp2
  go_ret
  exact ⟨rfl, rfl⟩
theorem sp_used_nil (w : World) (i : Int) :
    Calls Tryd.prog 30 #[.pointer none, .int .i64 i] w fun e w' => e = .returned (.bool false) ∧ w = w' := by
  go_enter Tryd.func30, Tryd.ntmps30
  go_wp2
  go_ret
  exact ⟨rfl, rfl⟩
theorem sp_full_nil (w : World) :
    Calls Tryd.prog 34 #[.pointer none] w fun e w' => e = .returned (.bool true) ∧ ∃ q, w' = w.drewN q := by
  go_enter Tryd.func34, Tryd.ntmps34
  go_wp2
  go_quiet (fail)
  go_wp2
  go_ret
  exact ⟨rfl, nq, rfl⟩
theorem sp_at_nil (w : World) (i : Int) :
    Calls Tryd.prog 15 #[.pointer none, .int .i64 i] w fun e w' => e = .returned (.tuple #[.int .i64 0, .bool false]) ∧ w = w' := by
  go_enter Tryd.func15, Tryd.ntmps15
  go_wp2
  go_ret2
  exact ⟨rfl, rfl⟩
theorem sp_alloc_nil (w : World) (b : Bool) :
    Calls Tryd.prog 23 #[.pointer none, .bool b] w fun e w' => e = .returned (.tuple #[.int .i64 0, .bool false]) ∧ ∃ q, w' = w.drewN q := by
  go_enter Tryd.func23, Tryd.ntmps23
  go_wp2_with fail
  refine (sp_full_nil _).mono ?_
  rintro e w' ⟨rfl, q, rfl⟩
  go_wp2_with fail
  go_ret2
  exact ⟨rfl, q, rfl⟩
theorem sp_mark_nil (w : World) (i : Int) :
    Calls Tryd.prog 25 #[.pointer none, .int .i64 i] w fun e w' => e = .returned (.bool false) ∧ w = w' := by
  go_enter Tryd.func25, Tryd.ntmps25
  go_wp2_with fail
  refine (sp_used_nil _ _).mono ?_
  rintro e w' ⟨rfl, rfl⟩
  go_wp2_with fail
  go_ret
  exact ⟨rfl, rfl⟩

section
variable (w : World) (p u ku m km n : Nat) (first k from_ : Int) (U M : Nat → Bool) (h : SpAt w p u ku m km n first k from_ U M)
include h
theorem sp_base :
    Calls Tryd.prog 21 #[ptr p] w fun e w' => e = .returned (.int .i64 (first * 64)) ∧ w = w' := by
  have c0 : w.cell? ⟨p, 0, none⟩ = some (.int .i64 first) := h.cel.cell 0
  have w1 : IntKind.i64.wrap (first * 64) = first * 64 := IntWalk.i64_in _ (by have := h.hf; omega)
  have hf := h.hf
  clear h
  unfold ptr
  go_enter Tryd.func21, Tryd.ntmps21
  go_wp2
  go_ret
  exact ⟨rfl, rfl⟩
theorem sp_class :
    Calls Tryd.prog 22 #[ptr p] w fun e w' => e = .returned (.int .i64 k) ∧ w = w' := by
  have c0 : w.cell? ⟨p, 1, none⟩ = some (.int .i64 k) := h.cel.cell 1
  clear h
  unfold ptr
  go_enter Tryd.func22, Tryd.ntmps22
  go_wp2
  go_ret
  exact ⟨rfl, rfl⟩
theorem sp_slots :
    Calls Tryd.prog 16 #[ptr p] w fun e w' => e = .returned (.int .i64 n) ∧ w = w' := by
  have c0 : w.cell? ⟨p, 2, none⟩ = some (ptr u) := h.cel.cell 2
  have H := Lib.hid h
  clear h
  unfold ptr at *
  go_enter Tryd.func16, Tryd.ntmps16
  go_wp2_with (go_at_call 45; refine (set_len _ _ _ _ _ H.out.us).mono ?_; rintro e w' ⟨rfl, rfl⟩)
  go_ret
  exact ⟨rfl, rfl⟩
theorem sp_live :
    Calls Tryd.prog 32 #[ptr p] w fun e w' => e = .returned (.int .i64 (cnt U n)) ∧ w = w' := by
  have c0 : w.cell? ⟨p, 2, none⟩ = some (ptr u) := h.cel.cell 2
  have H := Lib.hid h
  clear h
  unfold ptr at *
  go_enter Tryd.func32, Tryd.ntmps32
  go_wp2_with (go_at_call 42; refine (set_count _ _ _ _ _ H.out.us).mono ?_; rintro e w' ⟨rfl, rfl⟩)
  go_ret
  exact ⟨rfl, rfl⟩
theorem sp_used (i : Int) :
    Calls Tryd.prog 30 #[ptr p, .int .i64 i] w fun e w' => e = .returned (.bool (atM U i)) ∧ w = w' := by
  have c0 : w.cell? ⟨p, 2, none⟩ = some (ptr u) := h.cel.cell 2
  have H := Lib.hid h
  clear h
  unfold ptr at *
  go_enter Tryd.func30, Tryd.ntmps30
  go_wp2_with (go_at_call 41; refine (set_has_int H.out.us i).mono ?_; rintro e w' ⟨rfl, rfl⟩)
  go_ret
  exact ⟨rfl, rfl⟩
theorem sp_marked (i : Int) :
    Calls Tryd.prog 31 #[ptr p, .int .i64 i] w fun e w' => e = .returned (.bool (atM M i)) ∧ w = w' := by
  have c0 : w.cell? ⟨p, 3, none⟩ = some (ptr m) := h.cel.cell 3
  have H := Lib.hid h
  clear h
  unfold ptr at *
  go_enter Tryd.func31, Tryd.ntmps31
  go_wp2_with (go_at_call 41; refine (set_has_int H.out.ms i).mono ?_; rintro e w' ⟨rfl, rfl⟩)
  go_ret
  exact ⟨rfl, rfl⟩
end
end Go.Proofs.YtpbghoddemffhaaDoor
