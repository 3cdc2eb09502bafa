/-
  The walks of slices.Clone at ints and of the buffer's All. No condition but that the copy is of a size that memory holds.
-/
import Derived.Test.YtbcleeifkmjlmaaIntsW
import Derived.Test.YtbcleeifkmjlmaaBufW
import Derived.Lib.SliceRun
namespace Go.Proofs.Ytbcleeifkmjlmaa
open Go.RowKit
set_option maxRecDepth 100000
set_option maxHeartbeats 400000

theorem clone_any (w : World) (ad : Addr) (n c : Nat) (l : List Int) (hr : Rd w (.slice (some ad) n c) l) (hlim : l.length * 8 ≤ 140737488355328) :
    Calls Try.prog 31 #[.slice (some ad) n c] w fun e w' => ∃ v, e = .returned v ∧ Own w' w.heap.size v l ∧ Below w.heap.size w w' := by
  have heq := Lib.run_eql_slice_nil (P := Try.prog) w 26 3 (some ad) n c 0 0 Try.underlying26
  go_enter Try.func31, Try.ntmps31
  go_wp2_with (at_builtin; refine wpList_append_rd rfl (.tmp 5) (.tmp 6) rfl rfl rfl (Own.empty w w.heap.size (Nat.le_refl _)) (hr.alloc _) (by simp) l.length (by simp) hlim ?_; intro a1 c1 w1 hown hg hat)
  go_ret
  exact ⟨.slice a1 l.length c1, rfl, hown, ((Below.refl _ _).alloc (Nat.le_refl _) _).grown hg (by simp) (fun k hk => Nat.le_of_eq (Option.some.inj hk))⟩

theorem slice_to (g n : Nat) (h : n ≤ 32) (w : World) :
    (Instr.sliceAt 54 (.pointer (some ⟨g, 0, none⟩)) none (some (.int .i64 (n : Int))) none).run Try.prog w = .ok (.slice (some ⟨g, 0, none⟩) n 32) w := by
  rw [run_sliceAt_array_h _ _ _ (by kernel_rfl) _ _ (by omega) (by rw [len_arr]; omega), len_arr, size_arr]
  simp [Result.andThen, slicedAt, Addr.add]
theorem buf_rd {w : World} {g : Nat} {l : List Int} (h : BufAt w g l) : Rd w (.slice (some ⟨g, 0, none⟩) l.length 32) l := by
  obtain ⟨cs, hc, hs, hl, hn, hx⟩ := h
  exact .inr ⟨_, 32, rfl, fun j hj => by rw [Go.WideShapes.add_plain, hc.cell, Nat.zero_add]; exact hx j hj⟩
theorem ball_nil (w : World) :
    Calls Try.prog 19 #[.pointer none] w fun e w' => e = .returned (.slice none 0 0) ∧ w = w' := by
  go_enter Try.func19, Try.ntmps19
  go_wp2
  go_ret
  exact ⟨rfl, rfl⟩
theorem ball_any (w : World) (g : Nat) (l : List Int) (h : BufAt w g l) :
    Calls Try.prog 19 #[ptr g] w fun e w' => ∃ v, e = .returned v ∧ Own w' w.heap.size v l ∧ Below w.heap.size w w' := by
  have hcl := Lib.hid (clone_any w.drew _ _ _ l (buf_rd h).drew (by have := h.le; omega))
  obtain ⟨cs, hc, hs, hl, hn, hx⟩ := h
  have c32 : w.cell? ⟨g, 32, none⟩ = some (.int .i64 l.length) := (hc.cell 32).trans hn
  have s1 := slice_to g l.length hl
  clear hx hn hc
  go_enter Try.func19, Try.ntmps19
  go_wp2
  refine wp_region_tail 8 (by kernel_rfl) (by kernel_rfl) ?_
  simp only [List.take_succ_cons, List.take_zero, List.drop_succ_cons, List.drop_zero]
  repeat (go_big_quiet_step (fail))
  refine wpQuiet_nil ?_
  show wpList _ _ _ _ _ _
  go_wp2_with (go_at_call 31; refine hcl.out.mono ?_; rintro e w1 ⟨v, rfl, hown, hb⟩)
  go_ret
  exact ⟨v, rfl, hown, (Below.refl _ _).drew.trans hb⟩

/-- How many go over. -/
def halfN (l m : List Int) : Nat := if l.length / 2 + m.length ≤ 32 then l.length / 2 else 0
theorem halfN_le (l m : List Int) : halfN l m ≤ l.length / 2 := by unfold halfN; split <;> omega
theorem bhalf_gen (w : World) (g k : Nat) (l m : List Int) (h : BufAt w g l) (h' : BufAt w k m) (hgk : g ≠ k) :
    Calls Try.prog 14 #[ptr g, ptr k] w fun e w' => e = .returned (.int .i64 (halfN l m)) ∧ BufAt w' g (l.take (l.length - halfN l m)) ∧ BufAt w' k (m ++ l.drop (l.length - halfN l m)) ∧ Upd (fun b => b = g ∨ b = k) w w' := by
  unfold halfN
  by_cases hf : l.length / 2 + m.length ≤ 32
  · rw [if_pos hf]
    exact bhalf_any w g k l m h h' hgk hf
  · rw [if_neg hf]
    refine (bhalf_much w g k l m h h' hgk (by omega)).mono fun e w' ⟨he, hw⟩ => ?_
    subst hw
    exact ⟨he, by simpa using h, by simpa using h', Upd.refl _ _⟩
end Go.Proofs.Ytbcleeifkmjlmaa
