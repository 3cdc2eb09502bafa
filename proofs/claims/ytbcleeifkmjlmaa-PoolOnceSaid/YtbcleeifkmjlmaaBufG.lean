/-
  The buffer's functions and the reference's, each in one form whatever there is.
-/
import Derived.Test.YtbcleeifkmjlmaaBufH
import Derived.Test.YtbcleeifkmjlmaaRefB
import Derived.Test.YtbcleeifkmjlmaaPlan
namespace Go.Proofs.Ytbcleeifkmjlmaa
open Go.RowKit
set_option maxRecDepth 100000
set_option maxHeartbeats 1000000

def putL (l : List Int) (v : Int) : List Int := if l.length < 32 then l ++ [v] else l
def lastL (l : List Int) : Int := l.getLastD 0
theorem putL_le {l : List Int} {v : Int} (h : l.length ≤ 32) : (putL l v).length ≤ 32 := by
  unfold putL; split
  · simp; omega
  · exact h
theorem snoc_of {l : List Int} (h : 0 < l.length) : l = l.dropLast ++ [lastL l] := by
  have hne : l ≠ [] := fun e => by rw [e] at h; simp at h
  unfold lastL
  rw [List.getLastD_eq_getLast?, List.getLast?_eq_some_getLast hne, Option.getD_some, List.dropLast_concat_getLast hne]

theorem bput_gen (w : World) (g : Nat) (l : List Int) (v : Int) (h : BufAt w g l) :
    Calls Try.prog 10 #[ptr g, .int .i64 v] w fun e w' => e = .returned (.bool (decide (l.length < 32))) ∧ BufAt w' g (putL l v) ∧ Upd (· = g) w w' := by
  unfold putL
  by_cases hl : l.length < 32
  · rw [if_pos hl, decide_eq_true hl]
    exact bput_room w g l v h hl
  · rw [if_neg hl, decide_eq_false hl]
    refine (bput_full w g l v h (by have := h.le; omega)).mono fun e w' ⟨he, hw⟩ => ?_
    subst hw
    exact ⟨he, h, Upd.refl _ _⟩
theorem rput_gen (w : World) (B h : Nat) (l : List Int) (v : Int) (hr : RefAt w B h l) (hle : l.length ≤ 32) (hB : B ≤ w.heap.size) :
    Calls Try.prog 11 #[ptr h, .int .i64 v] w fun e w' => e = .returned (.bool (decide (l.length < 32))) ∧ RefAt w' B h (putL l v) ∧ Upd (· = h) w w' := by
  unfold putL
  by_cases hl : l.length < 32
  · rw [if_pos hl, decide_eq_true hl]
    exact rput_room w B h l v hr hl hB
  · rw [if_neg hl, decide_eq_false hl]
    refine (rput_full w B h l v hr (by omega)).mono fun e w' ⟨he, hw⟩ => ?_
    subst hw
    exact ⟨he, hr, Upd.refl _ _⟩
theorem bget_gen (w : World) (g : Nat) (l : List Int) (h : BufAt w g l) :
    Calls Try.prog 12 #[ptr g] w fun e w' => e = .returned (.tuple #[.int .i64 (lastL l), .bool (decide (0 < l.length))]) ∧ BufAt w' g l.dropLast ∧ Upd (· = g) w w' := by
  by_cases hl : 0 < l.length
  · rw [decide_eq_true hl]
    rw [snoc_of hl] at h
    exact bget_some w g _ _ h
  · obtain rfl : l = [] := List.eq_nil_of_length_eq_zero (by omega)
    refine (bget_none w g h).mono fun e w' ⟨he, hw⟩ => ?_
    subst hw
    exact ⟨he, h, Upd.refl _ _⟩
theorem rget_gen (w : World) (B h : Nat) (l : List Int) (hr : RefAt w B h l) (hle : l.length ≤ 32) :
    Calls Try.prog 13 #[ptr h] w fun e w' => e = .returned (.tuple #[.int .i64 (lastL l), .bool (decide (0 < l.length))]) ∧ RefAt w' B h l.dropLast ∧ Upd (· = h) w w' := by
  by_cases hl : 0 < l.length
  · rw [decide_eq_true hl]
    rw [snoc_of hl] at hr
    exact rget_some w B h _ _ hr (by rw [← snoc_of hl]; exact hle)
  · obtain rfl : l = [] := List.eq_nil_of_length_eq_zero (by omega)
    refine (rget_none w B h hr).mono fun e w' ⟨he, hw⟩ => ?_
    subst hw
    exact ⟨he, hr, Upd.refl _ _⟩
theorem rhalf_gen (w : World) (B h k : Nat) (l m : List Int) (hr : RefAt w B h l) (hr' : RefAt w B k m) (hhk : h ≠ k) (hl : l.length ≤ 32) (hm : m.length ≤ 32) (hB : B ≤ w.heap.size) :
    Calls Try.prog 15 #[ptr h, ptr k] w fun e w' => e = .returned (.int .i64 (halfN l m)) ∧
      RefAt w' B h (l.take (l.length - halfN l m)) ∧ RefAt w' B k (m ++ l.drop (l.length - halfN l m)) ∧ Upd (fun b => b = h ∨ b = k) w w' := by
  unfold halfN
  by_cases hf : l.length / 2 + m.length ≤ 32
  · rw [if_pos hf]
    exact rhalf_fits w B h k l m hr hr' hhk hf hl hB
  · rw [if_neg hf]
    refine (rhalf_much w B h k l m hr hr' hhk (by omega) hl hm).mono fun e w' ⟨he, hw⟩ => ?_
    subst hw
    exact ⟨he, by simpa using hr, by simpa using hr', Upd.refl _ _⟩

/-- The two buffers beside the reference's two. -/
structure Two (B : Nat) (w0 w : World) (ga gb ha hb : Nat) (la lb lx ly : List Int) : Prop where
  a : BufAt w ga la
  b : BufAt w gb lb
  x : RefAt w B ha lx
  y : RefAt w B hb ly
  ab : ga ≠ gb
  xy : ha ≠ hb
  la' : B ≤ ga
  lb' : B ≤ gb
  lx' : B ≤ ha
  ly' : B ≤ hb
  hw : B ≤ w0.heap.size
  below : Below B w0 w
section
variable {B : Nat} {w0 w w' : World} {ga gb ha hb : Nat} {la lb lx ly la' lb' lx' ly' : List Int}
theorem Two.swap (h : Two B w0 w ga gb ha hb la lb lx ly) : Two B w0 w gb ga hb ha lb la ly lx :=
  ⟨h.b, h.a, h.y, h.x, h.ab.symm, h.xy.symm, h.lb', h.la', h.ly', h.lx', h.hw, h.below⟩
theorem Two.size (h : Two B w0 w ga gb ha hb la lb lx ly) : B ≤ w.heap.size := Nat.le_trans h.hw h.below.size
theorem BufAt.ref {C : Nat} {l m : List Int} {g h : Nat} (hg : BufAt w g l) (hh : RefAt w C h m) : g ≠ h := by
  obtain ⟨cs, hc, _⟩ := hg
  obtain ⟨v, hv, _⟩ := hh
  exact hc.ne hv (by decide)
theorem Two.upd {F : Nat → Prop} (h : Two B w0 w ga gb ha hb la lb lx ly) (hu : Upd F w w') (hF : ∀ k, F k → B ≤ k) (ka : BufAt w' ga la') (kb : BufAt w' gb lb') (kx : RefAt w' B ha lx') (ky : RefAt w' B hb ly') :
    Two B w0 w' ga gb ha hb la' lb' lx' ly' :=
  ⟨ka, kb, kx, ky, h.ab, h.xy, h.la', h.lb', h.lx', h.ly', h.hw, below_upd h.below hu h.size hF⟩
theorem Two.putA (h : Two B w0 w ga gb ha hb la lb lx ly) (hu : Upd (· = ga) w w') (ka : BufAt w' ga la') : Two B w0 w' ga gb ha hb la' lb lx ly := by
  obtain ⟨cs, hc, _⟩ := h.a
  exact h.upd hu (fun k e => e ▸ h.la') ka (h.b.upd hu (fun e => h.ab e.symm)) (h.x.upd hu (fun e => h.a.ref h.x e.symm) (fun k e => ⟨_, _, e ▸ hc, by decide⟩))
    (h.y.upd hu (fun e => h.a.ref h.y e.symm) (fun k e => ⟨_, _, e ▸ hc, by decide⟩))
theorem Two.putX (h : Two B w0 w ga gb ha hb la lb lx ly) (hu : Upd (· = ha) w w') (kx : RefAt w' B ha lx') : Two B w0 w' ga gb ha hb la lb lx' ly := by
  obtain ⟨v, hc, _⟩ := h.x
  exact h.upd hu (fun k e => e ▸ h.lx') (h.a.upd hu (fun e => h.a.ref h.x e)) (h.b.upd hu (fun e => h.b.ref h.x e)) kx (h.y.upd hu (fun e => h.xy e.symm) (fun k e => ⟨_, _, e ▸ hc, by decide⟩))
theorem Two.putAB (h : Two B w0 w ga gb ha hb la lb lx ly) (hu : Upd (fun b => b = ga ∨ b = gb) w w') (ka : BufAt w' ga la') (kb : BufAt w' gb lb') : Two B w0 w' ga gb ha hb la' lb' lx ly := by
  obtain ⟨cs, hc, _⟩ := h.a
  obtain ⟨cs', hc', _⟩ := h.b
  have hi : ∀ k, (k = ga ∨ k = gb) → ∃ t cs, Cel w k t cs ∧ t ≠ 3 := fun k e => by
    rcases e with rfl | rfl
    · exact ⟨_, _, hc, by decide⟩
    · exact ⟨_, _, hc', by decide⟩
  exact h.upd hu (fun k e => by rcases e with rfl | rfl <;> first | exact h.la' | exact h.lb') ka kb
    (h.x.upd hu (fun e => e.elim (fun e => h.a.ref h.x e.symm) (fun e => h.b.ref h.x e.symm)) hi) (h.y.upd hu (fun e => e.elim (fun e => h.a.ref h.y e.symm) (fun e => h.b.ref h.y e.symm)) hi)
theorem Two.putXY (h : Two B w0 w ga gb ha hb la lb lx ly) (hu : Upd (fun b => b = ha ∨ b = hb) w w') (kx : RefAt w' B ha lx') (ky : RefAt w' B hb ly') : Two B w0 w' ga gb ha hb la lb lx' ly' :=
  h.upd hu (fun k e => by rcases e with rfl | rfl <;> first | exact h.lx' | exact h.ly') (h.a.upd hu (fun e => e.elim (fun e => h.a.ref h.x e) (fun e => h.a.ref h.y e))) (h.b.upd hu (fun e => e.elim (fun e => h.b.ref h.x e) (fun e => h.b.ref h.y e))) kx ky
theorem Two.ofBelow (h : Two B w0 w ga gb ha hb la lb lx ly) (hu : Below w.heap.size w w') : Two B w0 w' ga gb ha hb la lb lx ly :=
  have u : Upd (fun _ => False) w w' := Upd.ofBelow hu
  h.upd u (fun _ e => e.elim) (h.a.upd u (fun e => e)) (h.b.upd u (fun e => e)) (h.x.upd u (fun e => e) (fun _ e => e.elim)) (h.y.upd u (fun e => e) (fun _ e => e.elim))
/-- A block of another type, beside. -/
theorem Two.celA {k : Nat} {cs : Array Value} {t : TypeId} (h : Two B w0 w ga gb ha hb la lb lx ly) (hc : Cel w k t cs) (ht : t ≠ 56) (hu : Upd (· = ga) w w') : Cel w' k t cs := by
  obtain ⟨_, hg, _⟩ := h.a
  exact hu.cel hc (fun e => hc.ne hg ht e)
theorem Two.celX {k : Nat} {cs : Array Value} {t : TypeId} (h : Two B w0 w ga gb ha hb la lb lx ly) (hc : Cel w k t cs) (ht : t ≠ 28) (hu : Upd (· = ha) w w') : Cel w' k t cs := by
  obtain ⟨_, hg, _⟩ := h.x
  exact hu.cel hc (fun e => hc.ne hg ht e)
theorem Two.celAB {k : Nat} {cs : Array Value} {t : TypeId} (h : Two B w0 w ga gb ha hb la lb lx ly) (hc : Cel w k t cs) (ht : t ≠ 56) (hu : Upd (fun b => b = ga ∨ b = gb) w w') : Cel w' k t cs := by
  obtain ⟨_, hg, _⟩ := h.a
  obtain ⟨_, hg', _⟩ := h.b
  exact hu.cel hc (fun e => e.elim (fun e => hc.ne hg ht e) (fun e => hc.ne hg' ht e))
end
end Go.Proofs.Ytbcleeifkmjlmaa
