/-
  The pool: two Ps; none; what is told of a few.
-/
import Derived.Test.YtbcleeifkmjlmaaPoolB
namespace Go.Proofs.Ytbcleeifkmjlmaa
open Go.RowKit
set_option maxRecDepth 100000
set_option maxHeartbeats 2000000

section
variable {B : Nat} {w0 w w' : World} {W : Nat} {s s' : PoS} {A C : List PoP} {x x' : PoP} {y : List Int × List Int × Bool} {o t : List Int} {f : Bool} {full : List (List Int)} {e : Nat}
theorem pool_put_zero (h : Rep B w0 w W s) (hs : s.ps = A ++ x :: C) (hn : s.ps.length ≤ 64) :
    Calls Try.prog 21 #[ptr W, .int .i64 (A.length : Int), .int .i64 0] w fun e w' => e = .returned (.int .i64 1) ∧ w = w' := by
  have H := Lib.hid (And.intro h (And.intro hs hn))
  clear h hs hn
  unfold ptr
  go_enter Try.func21, Try.ntmps21
  go_wp2_with fail
  refine (pool_at H.out.1 H.out.2.1 H.out.2.2).mono ?_
  rintro e w' ⟨rfl, rfl⟩
  unfold ptr
  go_wp2_with fail
  go_ret
  exact ⟨rfl, rfl⟩
theorem pool_give_nil (w : World) (p : Int) :
    Calls Try.prog 28 #[.pointer none, .int .i64 p] w fun e w' => e = .returned (.bool false) ∧ w = w' := by
  go_enter Try.func28, Try.ntmps28
  go_wp2_with fail
  refine (pool_at_nil _ _).mono ?_
  rintro e w' ⟨rfl, rfl⟩
  go_wp2_with fail
  go_ret
  exact ⟨rfl, rfl⟩
theorem put0_L {A' C' : List (List Int × List Int × Bool)} (h : RepL B w0 w W ⟨A' ++ (o, t, f) :: C', full, e⟩) (hn : A'.length + C'.length < 64) :
    Calls Try.prog 21 #[ptr W, .int .i64 (A'.length : Int), .int .i64 0] w fun r w' => r = .returned (.int .i64 1) ∧ w = w' := by
  obtain ⟨s, h1, h2, h3⟩ := h
  obtain ⟨A, x, C, hv', hl⟩ := view_of h3
  rw [← hl]
  exact pool_put_zero h1 hv'.ps (view_len hv' hn)

theorem put20 (h : RepL B w0 w W ⟨[(o, t, f), y], full, e⟩) (he : e ≤ 100000) (hf : full.length ≤ 100000) (v : Int) (hv : v ≠ 0) :
    Calls Try.prog 21 #[ptr W, .int .i64 0, .int .i64 v] w fun r w' => r = .returned (.int .i64 0) ∧ ∃ P, RepL B w0 w' W P ∧ PutL [] [y] o t f full e v P :=
  put_L (A' := []) h (by show 0 + 1 < 64; omega) he hf v hv
theorem put20_zero (h : RepL B w0 w W ⟨[(o, t, f), y], full, e⟩) :
    Calls Try.prog 21 #[ptr W, .int .i64 0, .int .i64 0] w fun r w' => r = .returned (.int .i64 1) ∧ w = w' :=
  put0_L (A' := []) h (by show 0 + 1 < 64; omega)
theorem get20 (h : RepL B w0 w W ⟨[(o, t, f), y], full, e⟩) (he : e ≤ 100000) (hf : full.length ≤ 100000) :
    Calls Try.prog 24 #[ptr W, .int .i64 0] w fun r w' => ∃ v ok, r = .returned (.tuple #[.int .i64 v, .bool ok]) ∧ ∃ P, RepL B w0 w' W P ∧ GetL [] [y] o t f full e v ok P :=
  get_L (A' := []) h (by show 0 + 1 < 64; omega) he hf
theorem get21 (h : RepL B w0 w W ⟨[y, (o, t, f)], full, e⟩) (he : e ≤ 100000) (hf : full.length ≤ 100000) :
    Calls Try.prog 24 #[ptr W, .int .i64 1] w fun r w' => ∃ v ok, r = .returned (.tuple #[.int .i64 v, .bool ok]) ∧ ∃ P, RepL B w0 w' W P ∧ GetL [y] [] o t f full e v ok P :=
  get_L (A' := [y]) h (by show 1 + 0 < 64; omega) he hf
theorem flush20 (h : RepL B w0 w W ⟨[(o, t, f), y], full, e⟩) (he : e ≤ 100000) (hf : full.length ≤ 100000) :
    Calls Try.prog 26 #[ptr W, .int .i64 0] w fun r w' => (∃ v, r = .returned v) ∧ ∃ e', e' ≤ e ∧ (e = 0 → e' = 0) ∧ RepL B w0 w' W ⟨[([], [], f || (decide (0 < o.length) || decide (0 < t.length))), y], full ++ (nz o ++ nz t), e'⟩ :=
  flush_L (A' := []) h (by show 0 + 1 < 64; omega) he hf
theorem flushed20 (h : RepL B w0 w W ⟨[(o, t, f), y], full, e⟩) :
    Calls Try.prog 22 #[ptr W, .int .i64 0] w fun r w' => r = .returned (.bool f) ∧ w = w' :=
  flushed_L (A' := []) h (by show 0 + 1 < 64; omega)
theorem flushed21 (h : RepL B w0 w W ⟨[y, (o, t, f)], full, e⟩) :
    Calls Try.prog 22 #[ptr W, .int .i64 1] w fun r w' => r = .returned (.bool f) ∧ w = w' :=
  flushed_L (A' := [y]) h (by show 1 + 0 < 64; omega)
theorem local20 (h : RepL B w0 w W ⟨[(o, t, f), y], full, e⟩) :
    Calls Try.prog 25 #[ptr W, .int .i64 0] w fun r w' => r = .returned (.int .i64 (o.length + t.length : Nat)) ∧ Below w.heap.size w w' :=
  local_L (A' := []) h (by show 0 + 1 < 64; omega)
theorem reset20 (h : RepL B w0 w W ⟨[(o, t, f), y], full, e⟩) :
    Calls Try.prog 23 #[ptr W, .int .i64 0] w fun r w' => (∃ v, r = .returned v) ∧ RepL B w0 w' W ⟨[(o, t, false), y], full, e⟩ :=
  reset_L (A' := []) h (by show 0 + 1 < 64; omega)
theorem new2 (w : World) :
    Calls Try.prog 20 #[.int .i64 2] w fun r w' => ∃ W, r = .returned (.tuple #[ptr W, .int .i64 0]) ∧ RepL w.heap.size w w' W ⟨[([], [], false), ([], [], false)], [], 0⟩ :=
  new_L w 2 (by omega) (by omega)
end
theorem told18 (w : World) : Calls Try.prog 27 #[] w fun e w' => e = .returned (.bool true) ∧ Below w.heap.size w w' := by
  go_enter Try.func27, Try.ntmps27
  go_wp2_with fail
  refine (new2 w).mono ?_
  rintro e w1 ⟨W, rfl, h1⟩
  have H1 := Lib.hid h1
  clear h1
  unfold ptr
  go_wp2_with fail
  refine (pool_new_not _ 0 (.inl (by omega))).mono ?_
  rintro e w2 ⟨rfl, rfl⟩
  go_wp2_with fail
  refine (put20 H1.out (by omega) (by simp) 5 (by omega)).mono ?_
  rintro e w3 ⟨rfl, P, h3, hp⟩
  obtain rfl : P = ⟨[([5], [], false), ([], [], false)], [], 0⟩ := by
    rcases hp with ⟨_, h⟩ | ⟨h, _⟩ | ⟨h, _⟩
    · exact h
    · exact absurd h (by decide)
    · exact absurd h (by decide)
  have H3 := Lib.hid h3
  clear hp h3 H1
  go_wp2_with fail
  refine (get21 H3.out (by omega) (by simp)).mono ?_
  rintro e w4 ⟨v4, ok, rfl, P, h4, hp⟩
  obtain ⟨rfl, rfl⟩ : ok = false ∧ P = ⟨[([5], [], false), ([], [], false)], [], 0⟩ := by
    rcases hp with ⟨h, _⟩ | ⟨_, h, _⟩ | ⟨_, _, _, h, h'⟩ | ⟨_, _, F, l, h, _⟩
    · exact absurd h (by decide)
    · exact absurd h (by decide)
    · exact ⟨h, h'⟩
    · exact absurd (congrArg List.length h) (by simp)
  have H4 := Lib.hid h4
  clear hp h4 H3
  go_wp2_with fail
  refine (flush20 H4.out (by omega) (by simp)).mono ?_
  rintro e w5 ⟨⟨v5, rfl⟩, e', _, he, h5⟩
  obtain rfl := he rfl
  have H5 := Lib.hid (show RepL _ _ w5 W ⟨[([], [], true), ([], [], false)], [[5]], 0⟩ from h5)
  clear h5 he H4
  go_wp2_with fail
  refine (get21 H5.out (by omega) (by simp)).mono ?_
  rintro e w6 ⟨v6, ok, rfl, P, h6, hp⟩
  obtain ⟨rfl, rfl, rfl⟩ : v6 = 5 ∧ ok = true ∧ P = ⟨[([], [], true), ([], [], false)], [], 1⟩ := by
    rcases hp with ⟨h, _⟩ | ⟨_, h, _⟩ | ⟨_, _, h, _⟩ | ⟨_, _, F, l, h, h1, h2, h3⟩
    · exact absurd h (by decide)
    · exact absurd h (by decide)
    · exact absurd h (by simp)
    · obtain ⟨rfl, h'⟩ := List.append_inj' (s₁ := []) (t₁ := [[5]]) h rfl
      injection h' with h' _
      subst h'
      exact ⟨h1, h2, h3⟩
  have H6 := Lib.hid h6
  clear hp h6 H5
  go_wp2_with fail
  refine (flushed20 H6.out).mono ?_
  rintro e w' ⟨rfl, rfl⟩
  go_wp2_with fail
  refine (flushed21 H6.out).mono ?_
  rintro e w' ⟨rfl, rfl⟩
  go_wp2_with fail
  refine (len_L H6.out (by show 2 ≤ 64; omega) (by simp)).mono ?_
  rintro e w7 ⟨rfl, hb7⟩
  have H7 := Lib.hid (H6.out.step hb7)
  have e7 : (Value.int .i64 (lenL ⟨[([], [], true), ([], [], false)], [], 1⟩ : Nat)) = .int .i64 0 := rfl
  rw [e7]
  clear hb7 H6 e7
  go_wp2_with fail
  refine (put20_zero H7.out).mono ?_
  rintro e w' ⟨rfl, rfl⟩
  go_wp2_with fail
  go_ret
  exact ⟨rfl, H7.out.below⟩
end Go.Proofs.Ytbcleeifkmjlmaa
