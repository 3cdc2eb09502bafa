/-
  The pool's small functions: at, fresh, give, Flushed, Reset, Local, Lists: contracts.
-/
import Derived.Test.YtbcleeifkmjlmaaPoolM
namespace Go.Proofs.Ytbcleeifkmjlmaa
open Go.RowKit
set_option maxRecDepth 100000
set_option maxHeartbeats 1000000

theorem pslice_to (a : Option Addr) (n c i : Nat) (hi : i ≤ n) (hn : n ≤ c) (W : World) : (Instr.slice 59 (.slice a n c) none (some (.int .i64 (i : Int))) none).run Try.prog W = .ok (.slice a i c) W := by
  rw [run_slice_h W 59 a n c (by kernel_rfl) .i64 _ (by omega) (by omega)]
  rw [show (sizeOf (Try.prog.elem 59)).run Try.prog W = .ok 1 W from by kernel_rfl, Int.toNat_natCast]
  simp only [Result.andThen, sliced, Nat.zero_mul, Nat.sub_zero]
  congr 2
  split
  · rfl
  · cases a <;> simp [Addr.add]

theorem pool_at_nil (w : World) (p : Int) :
    Calls Try.prog 32 #[.pointer none, .int .i64 p] w fun e w' => e = .returned (.pointer none) ∧ w = w' := by
  go_enter Try.func32, Try.ntmps32
  go_wp2
  go_ret
  exact ⟨rfl, rfl⟩
section
variable {B : Nat} {w0 w : World} {W : Nat} {s : PoS} {A C : List PoP} {x : PoP}
theorem pool_at (h : Rep B w0 w W s) (hs : s.ps = A ++ x :: C) (hn : s.ps.length ≤ 64) :
    Calls Try.prog 32 #[ptr W, .int .i64 (A.length : Int)] w fun e w' => e = .returned (ptr x.a) ∧ w = w' := by
  obtain ⟨pv, fv, ev, p1, p2, _, _, _⟩ := h.pool
  have hlen : (s.ps.map (·.a)).length = s.ps.length := by simp
  have hl : s.ps.length = A.length + 1 + C.length := by rw [hs]; simp; omega
  obtain ⟨b, c, rfl, hc, hcell⟩ := p2.at (by omega)
  have c1 := hcell A.length (by omega)
  rw [show (s.ps.map (·.a)).getD A.length 0 = x.a by rw [hs]; simp] at c1
  have c0 : w.cell? ⟨W, 0, none⟩ = some (.slice (some ⟨b, 0, none⟩) (s.ps.map (·.a)).length c) := p1.cell 0
  rw [hlen] at c0
  generalize s.ps.length = np at c0 hl hn
  generalize A.length = k at c1 hl ⊢
  have i0 : ¬ (k : Int) < 0 := by omega
  have i1 : decide (np ≤ k) = false := decide_eq_false (by omega)
  have i2 : (k : Int) < (np : Int) := by omega
  unfold ptr at *
  clear h p1 p2 hcell hlen hs hl hc
  go_enter Try.func32, Try.ntmps32
  go_wp2
  go_ret
  exact ⟨rfl, rfl⟩

theorem pool_flushed (h : Rep B w0 w W s) (hs : s.ps = A ++ x :: C) (hn : s.ps.length ≤ 64) :
    Calls Try.prog 22 #[ptr W, .int .i64 (A.length : Int)] w fun e w' => e = .returned (.bool x.f) ∧ w = w' := by
  have c2 : w.cell? ⟨x.a, 2, none⟩ = some (.bool x.f) := (h.pairs x (by rw [hs]; simp)).cell 2
  have H := Lib.hid (And.intro h (And.intro hs hn))
  clear h hs hn
  go_enter Try.func22, Try.ntmps22
  go_wp2_with fail
  refine (pool_at H.out.1 H.out.2.1 H.out.2.2).mono ?_
  rintro e w' ⟨rfl, rfl⟩
  unfold ptr at *
  go_wp2_with fail
  go_ret
  exact ⟨rfl, rfl⟩
theorem pool_flushed_nil (w : World) (p : Int) :
    Calls Try.prog 22 #[.pointer none, .int .i64 p] w fun e w' => e = .returned (.bool false) ∧ w = w' := by
  go_enter Try.func22, Try.ntmps22
  go_wp2_with fail
  refine (pool_at_nil _ _).mono ?_
  rintro e w' ⟨rfl, rfl⟩
  go_wp2_with fail
  go_ret
  exact ⟨rfl, rfl⟩
theorem pool_reset (h : Rep B w0 w W s) (hs : s.ps = A ++ x :: C) (hn : s.ps.length ≤ 64) :
    Calls Try.prog 23 #[ptr W, .int .i64 (A.length : Int)] w fun e w' => (∃ v, e = .returned v) ∧ Rep B w0 w' W { s with ps := A ++ { x with f := false } :: C } := by
  have hx := h.pairs x (by rw [hs]; simp)
  have c2 : w.cell? ⟨x.a, 2, none⟩ = some (.bool x.f) := hx.cell 2
  have c3 := hx.free 2
  have hx' : x ∈ s.ps := by rw [hs]; simp
  have ho : x.o ∈ allB s ∧ x.t ∈ allB s := by
    have := bufsP_mem hx'
    unfold allB
    exact ⟨List.mem_append_left _ this.1, List.mem_append_left _ this.2⟩
  have h2 : Rep B w0 (w.setCell ⟨x.a, 2, none⟩ (.bool false)) W { s with ps := A ++ { x with f := false } :: C } :=
    h.pair hs (hx.put 2 _) ((Upd.refl (· = x.a) w).sc (fun _ => rfl) _ _) ⟨h.bufs _ ho.1, h.gB _ ho.1⟩ ⟨h.bufs _ ho.2, h.gB _ ho.2⟩
  have H := Lib.hid (And.intro h (And.intro hs (And.intro hn h2)))
  clear h hs hn hx hx' ho h2
  go_enter Try.func23, Try.ntmps23
  go_wp2_with fail
  refine (pool_at H.out.1 H.out.2.1 H.out.2.2.1).mono ?_
  rintro e w' ⟨rfl, rfl⟩
  unfold ptr at *
  go_wp2_with fail
  go_end0
  exact ⟨⟨_, rfl⟩, H.out.2.2.2⟩
theorem pool_local (h : Rep B w0 w W s) (hs : s.ps = A ++ x :: C) (hn : s.ps.length ≤ 64) :
    Calls Try.prog 25 #[ptr W, .int .i64 (A.length : Int)] w fun e w' => e = .returned (.int .i64 ((s.con x.o).length + (s.con x.t).length : Nat)) ∧ Below w.heap.size w w' := by
  have hx' : x ∈ s.ps := by rw [hs]; simp
  have hm := bufsP_mem hx'
  have ho : x.o ∈ allB s := List.mem_append_left _ hm.1
  have ht : x.t ∈ allB s := List.mem_append_left _ hm.2
  have hx : ∀ y : After w.heap.size w, Cel y.1 x.a 64 #[ptr x.o, ptr x.t, .bool x.f] := fun y => (h.pairs x hx').ofBelow y.2
  have c0 : ∀ y : After w.heap.size w, y.1.cell? ⟨x.a, 0, none⟩ = some (ptr x.o) := fun y => (hx y).cell 0
  have c1 : ∀ y : After w.heap.size w, y.1.cell? ⟨x.a, 1, none⟩ = some (ptr x.t) := fun y => (hx y).cell 1
  have bo := h.bufs _ ho
  have bt := h.bufs _ ht
  have l1 := bo.le
  have l2 := bt.le
  have H := Lib.hid (And.intro h (And.intro hs (And.intro hn (And.intro bo bt))))
  clear h hs hn hx hx' hm ho ht bo bt
  obtain ⟨q1, hq1⟩ : ∃ q, q = (s.con x.o).length := ⟨_, rfl⟩
  obtain ⟨q2, hq2⟩ : ∃ q, q = (s.con x.t).length := ⟨_, rfl⟩
  rw [← hq1] at l1 ⊢
  rw [← hq2] at l2 ⊢
  have HQ := Lib.hid (And.intro hq1 hq2)
  clear hq1 hq2
  have wq : IntKind.i64.wrap ((q1 : Int) + (q2 : Int)) = (q1 : Int) + (q2 : Int) := IntWalk.i64_in _ (by omega)
  go_enter Try.func25, Try.ntmps25
  go_wp2_with fail
  refine (pool_at H.out.1 H.out.2.1 H.out.2.2.1).mono ?_
  rintro e w' ⟨rfl, rfl⟩
  unfold ptr at *
  go_upto_region 4 with fail
  refine wp_region_after w.heap.size w (by kernel_rfl) (by kernel_rfl) (Below.refl _ _) ?_
  repeat (go_big_quiet_step (first
    | ((go_at_call 16; exact after_call (v := .int .i64 q1) (by rw [HQ.out.1]; exact (blen_any _ x.o _ (H.out.2.2.2.1.ofBelow (Subtype.property _))).mono fun _ _ ⟨he, hw⟩ => ⟨he, hw ▸ Below.refl _ _⟩)))
    | ((go_at_call 16; exact after_call (v := .int .i64 q2) (by rw [HQ.out.2]; exact (blen_any _ x.t _ (H.out.2.2.2.2.ofBelow (Subtype.property _))).mono fun _ _ ⟨he, hw⟩ => ⟨he, hw ▸ Below.refl _ _⟩)))))
  refine wpQuiet_nil ?_
  clear c0 c1
  intro w' hb
  go_wp2
  go_ret
  exact ⟨by rw [Int.natCast_add]; rfl, hb⟩
theorem pool_lists (h : Rep B w0 w W s) :
    Calls Try.prog 30 #[ptr W] w fun e w' => e = .returned (.tuple #[.int .i64 s.full.length, .int .i64 s.emp.length]) ∧ Below w.heap.size w w' := by
  obtain ⟨pv, fv, ev, p1, _, p3, p4, _⟩ := h.pool
  obtain ⟨fa, fc, rfl, _⟩ := p3.form
  obtain ⟨ea, ec, rfl, _⟩ := p4.form
  have c1 : ∀ y : After w.heap.size w, y.1.cell? ⟨W, 1, none⟩ = some (.slice fa s.full.length fc) := fun y => (p1.ofBelow y.2).cell 1
  have c2 : ∀ y : After w.heap.size w, y.1.cell? ⟨W, 2, none⟩ = some (.slice ea s.emp.length ec) := fun y => (p1.ofBelow y.2).cell 2
  clear h p1 p3 p4
  generalize s.full.length = fl at *
  generalize s.emp.length = el at *
  unfold ptr at *
  go_enter Try.func30, Try.ntmps30
  go_upto_region 3 with fail
  refine wp_region_after w.heap.size w (by kernel_rfl) (by kernel_rfl) (Below.refl _ _) ?_
  repeat (go_big_quiet_step (fail))
  refine wpQuiet_nil ?_
  clear c1 c2
  intro w' hb
  go_wp2
  go_ret2
  exact ⟨rfl, hb⟩
end
end Go.Proofs.Ytbcleeifkmjlmaa
