/-
  The pool: Put: a contract over addresses.
-/
import Derived.Test.YtbcleeifkmjlmaaPoolX
namespace Go.Proofs.Ytbcleeifkmjlmaa
open Go.RowKit
set_option maxRecDepth 100000
set_option maxHeartbeats 2000000

section
variable {B : Nat} {w0 w w' : World} {W : Nat} {s : PoS} {A C : List PoP} {x : PoP}
theorem updC_at (con : Nat → List Int) (g : Nat) (l : List Int) : updC con g l g = l := by unfold updC; rw [if_pos rfl]
theorem updC_ne {con : Nat → List Int} {g k : Nat} {l : List Int} (h : k ≠ g) : updC con g l k = con k := by unfold updC; rw [if_neg h]
theorem updC_two (con : Nat → List Int) (g : Nat) (l m : List Int) : updC (updC con g l) g m = updC con g m := by
  funext k; unfold updC; split <;> rfl
theorem Rep.con (h : Rep B w0 w W s) {con : Nat → List Int} (hc : ∀ g ∈ allB s, con g = s.con g) : Rep B w0 w W { s with con := con } :=
  ⟨h.pool, h.pairs, fun g hg => by show BufAt w g (con g); rw [hc g hg]; exact h.bufs g hg, h.pa, h.WB, h.aB, h.gB, h.size, h.below⟩
theorem Rep.in (h : Rep B w0 w W s) (hs : s.ps = A ++ x :: C) : x ∈ s.ps ∧ x.o ∈ allB s ∧ x.t ∈ allB s := by
  have hx' : x ∈ s.ps := by rw [hs]; simp
  have hm := bufsP_mem hx'
  have _ := h.size
  exact ⟨hx', List.mem_append_left _ hm.1, List.mem_append_left _ hm.2⟩
theorem Rep.swap (h : Rep B w0 w W s) (hs : s.ps = A ++ x :: C) : Rep B w0 ((w.setCell ⟨x.a, 0, none⟩ (ptr x.t)).setCell ⟨x.a, 1, none⟩ (ptr x.o)) W { s with ps := A ++ { x with o := x.t, t := x.o } :: C } := by
  obtain ⟨h1, h2, h3⟩ := h.in hs
  exact h.pair hs (((h.pairs x h1).put 0 _).put 1 _) (((Upd.refl (· = x.a) w).sc (fun _ => rfl) _ _).sc (fun _ => rfl) _ _) ⟨h.bufs _ h3, h.gB _ h3⟩ ⟨h.bufs _ h2, h.gB _ h2⟩
/-- A P's block takes another first buffer, or another second one. -/
theorem Rep.setO (h : Rep B w0 w W s) (hs : s.ps = A ++ x :: C) {g : Nat} (hg : BufAt w g (s.con g) ∧ B ≤ g) : Rep B w0 (w.setCell ⟨x.a, 0, none⟩ (ptr g)) W { s with ps := A ++ { x with o := g } :: C } := by
  obtain ⟨h1, h2, h3⟩ := h.in hs
  exact h.pair hs ((h.pairs x h1).put 0 _) ((Upd.refl (· = x.a) w).sc (fun _ => rfl) _ _) hg ⟨h.bufs _ h3, h.gB _ h3⟩
theorem Rep.setT (h : Rep B w0 w W s) (hs : s.ps = A ++ x :: C) {g : Nat} (hg : BufAt w g (s.con g) ∧ B ≤ g) : Rep B w0 (w.setCell ⟨x.a, 1, none⟩ (ptr g)) W { s with ps := A ++ { x with t := g } :: C } := by
  obtain ⟨h1, h2, h3⟩ := h.in hs
  exact h.pair hs ((h.pairs x h1).put 1 _) ((Upd.refl (· = x.a) w).sc (fun _ => rfl) _ _) ⟨h.bufs _ h2, h.gB _ h2⟩ hg

theorem mem_swap {con : Nat → List Int} {f : Bool} {b g : Nat} (hs : s.ps = A ++ x :: C) (hg : g ∈ allB s) : g ∈ allB ⟨A ++ ⟨x.a, x.t, x.o, f⟩ :: C, s.full ++ [b], s.emp, con⟩ := by
  unfold allB at hg ⊢
  rw [hs] at hg
  rw [bufsP_app] at hg ⊢
  simp only [List.mem_append, List.mem_cons] at hg ⊢
  rcases hg with (h | h | h | h) | h | h
  · exact .inl (.inl h)
  · exact .inl (.inr (.inr (.inl h)))
  · exact .inl (.inr (.inl h))
  · exact .inl (.inr (.inr (.inr h)))
  · exact .inr (.inl (.inl h))
  · exact .inr (.inr h)
/-- Where a fresh buffer came from. -/
def Fresh (s : PoS) (g : Nat) (emp : List Nat) : Prop := s.emp = emp ++ [g] ∨ (s.emp = [] ∧ emp = [] ∧ g ∉ allB s)
/-- What a put makes of a pool. -/
def PutS (s : PoS) (A : List PoP) (x : PoP) (C : List PoP) (v : Int) (s' : PoS) : Prop :=
  ((s.con x.o).length < 32 ∧ s' = { s with con := updC s.con x.o (s.con x.o ++ [v]) }) ∨
  ((s.con x.o).length = 32 ∧ (s.con x.t).length < 32 ∧ s' = { s with ps := A ++ { x with o := x.t, t := x.o } :: C, con := updC s.con x.t (s.con x.t ++ [v]) }) ∨
  ((s.con x.o).length = 32 ∧ (s.con x.t).length = 32 ∧ ∃ g emp, Fresh s g emp ∧ s' = ⟨A ++ ⟨x.a, g, x.o, true⟩ :: C, s.full ++ [x.t], emp, updC s.con g [v]⟩)
def PutR (B : Nat) (w0 : World) (W : Nat) (s : PoS) (A : List PoP) (x : PoP) (C : List PoP) (v : Int) (e : Ending) (w' : World) : Prop := ∃ s', e = .returned (.int .i64 0) ∧ Rep B w0 w' W s' ∧ PutS s A x C v s'

theorem pool_put1 (h : Rep B w0 w W s) (hs : s.ps = A ++ x :: C) (hn : s.ps.length ≤ 64) (v : Int) (hv : v ≠ 0) (h1 : (s.con x.o).length < 32) :
    Calls Try.prog 21 #[ptr W, .int .i64 (A.length : Int), .int .i64 v] w (PutR B w0 W s A x C v) := by
  obtain ⟨m1, m2, m3⟩ := h.in hs
  have c0 : w.cell? ⟨x.a, 0, none⟩ = some (ptr x.o) := (h.pairs x m1).cell 0
  have H := Lib.hid (And.intro h (And.intro hs (And.intro hn (And.intro m2 h1))))
  have l0 : (((s.con x.o).length : Int) == 32) = false := by simp; omega
  obtain ⟨q, hq⟩ : ∃ q, q = (s.con x.o).length := ⟨_, rfl⟩
  rw [← hq] at l0
  have HQ := Lib.hid hq
  have v0 : (v == 0) = false := by simpa using hv
  clear h hs hn m1 m2 m3 h1 hq hv
  unfold ptr at c0 ⊢
  go_enter Try.func21, Try.ntmps21
  go_wp2_with fail
  refine (pool_at H.out.1 H.out.2.1 H.out.2.2.1).mono ?_
  rintro e w' ⟨rfl, rfl⟩
  unfold ptr
  go_wp2_with fail
  refine (blen_any _ x.o _ (H.out.1.bufs _ H.out.2.2.2.1)).mono ?_
  rintro e w' ⟨rfl, rfl⟩
  rw [← HQ.out]
  go_wp2_with fail
  refine (blen_any _ x.o _ (H.out.1.bufs _ H.out.2.2.2.1)).mono ?_
  rintro e w' ⟨rfl, rfl⟩
  rw [← HQ.out]
  go_wp2_with fail
  refine (bput_gen _ x.o _ v (H.out.1.bufs _ H.out.2.2.2.1)).mono ?_
  rintro e w2 ⟨rfl, hb2, hu2⟩
  have h2 := H.out.1.buf (H.out.1.bufs _ H.out.2.2.2.1) hb2 hu2 (H.out.1.gB _ H.out.2.2.2.1)
  have H2 := Lib.hid h2
  clear h2 hb2 hu2 c0
  go_wp2_with fail
  go_ret
  exact ⟨_, rfl, H2.out, .inl ⟨H.out.2.2.2.2, by unfold putL; rw [if_pos H.out.2.2.2.2]⟩⟩

theorem pool_put2 (h : Rep B w0 w W s) (hs : s.ps = A ++ x :: C) (hn : s.ps.length ≤ 64) (v : Int) (hv : v ≠ 0) (h1 : (s.con x.o).length = 32) (h2 : (s.con x.t).length < 32) :
    Calls Try.prog 21 #[ptr W, .int .i64 (A.length : Int), .int .i64 v] w (PutR B w0 W s A x C v) := by
  obtain ⟨m1, m2, m3⟩ := h.in hs
  have hx := h.pairs x m1
  have c0 : w.cell? ⟨x.a, 0, none⟩ = some (ptr x.o) := hx.cell 0
  have H := Lib.hid (And.intro h (And.intro hs (And.intro hn (And.intro m2 (And.intro m3 (And.intro h1 h2))))))
  have l1 : (((s.con x.t).length : Int) == 32) = false := by simp; omega
  obtain ⟨q2, hq2⟩ : ∃ q, q = (s.con x.t).length := ⟨_, rfl⟩
  rw [← hq2] at l1
  have HQ := Lib.hid hq2
  have v0 : (v == 0) = false := by simpa using hv
  clear h hs hn m1 m2 m3 h1 h2 hq2 hv
  unfold ptr at c0 ⊢
  go_enter Try.func21, Try.ntmps21
  go_wp2_with fail
  refine (pool_at H.out.1 H.out.2.1 H.out.2.2.1).mono ?_
  rintro e w' ⟨rfl, rfl⟩
  unfold ptr
  go_wp2_with fail
  refine (blen_any _ x.o _ (H.out.1.bufs _ H.out.2.2.2.1)).mono ?_
  rintro e w' ⟨rfl, rfl⟩
  rw [H.out.2.2.2.2.2.1]
  clear c0
  go_upto_region 5 with fail
  have hne : Nonempty (Kept (Upd (fun _ => False) w)) := ⟨⟨w, Upd.refl _ w⟩⟩
  have g1 : ∀ y : Kept (Upd (fun _ => False) w), y.1.cell? ⟨x.a, 0, none⟩ = some (.pointer (some ⟨x.o, 0, none⟩)) := fun y => (y.2.cel hx (fun h => h)).cell 0
  have g2 : ∀ y : Kept (Upd (fun _ => False) w), y.1.cell? ⟨x.a, 1, none⟩ = some (.pointer (some ⟨x.t, 0, none⟩)) := fun y => (y.2.cel hx (fun h => h)).cell 1
  refine wp_region_planZ [seg0 [0, 1, 2, 3, 4, 6, 7, 8] [], seg (Upd (fun _ => False) w) [10, 11, 12, 13, 14, 15] [5, 9] [], seg0 [10, 11] [12], seg0 [13, 14] [15]] (by kernel_rfl) (by kernel_rfl) (fun _ _ _ _ _ h => h) ?_
  refine planZ_seg0 ?_
  show wpQuiet _ _ _ _ (List.filterMap _ _) _
  simp only [List.filterMap_cons, List.filterMap_nil, List.getElem?_toArray, List.getElem?_cons_zero, List.getElem?_cons_succ]
  show wpQuiet _ _ _ _ [_, _, _, _, _, _, _, _] _
  repeat (go_big_quiet_step (fail))
  refine wpQuiet_nil ?_
  refine planZ_seg (Upd.refl _ w).drew ?_
  show wpQuiet _ _ _ _ (List.filterMap _ _) _
  simp only [List.filterMap_cons, List.filterMap_nil, List.getElem?_toArray, List.getElem?_cons_zero, List.getElem?_cons_succ]
  show wpQuiet _ _ _ _ [_, _] _
  repeat (go_big_quiet_step (fail))
  refine wpQuiet_nil ?_
  clear g1 g2 hne
  have hx5 : Cel w.drew x.a 64 #[ptr x.o, ptr x.t, .bool x.f] := hx.drew
  have hR5 := H.out.1.step (Below.refl w.heap.size w).drew
  clear hx
  generalize w.drew = w5 at hx5 hR5 ⊢
  have d1 := hx5
  have d2 := d1.put 0 (ptr x.t)
  have e1 := d1.free 0
  have f1 : w5.cell? ⟨x.a, 0, none⟩ = some (.pointer (some ⟨x.o, 0, none⟩)) := d1.cell 0
  have e2 := d2.free 1
  have f2 : (w5.setCell ⟨x.a, 0, none⟩ (ptr x.t)).cell? ⟨x.a, 1, none⟩ = some (.pointer (some ⟨x.t, 0, none⟩)) := d2.cell 1
  have h6 := Lib.hid (hR5.swap H.out.2.1)
  clear hx5 d1 d2 hR5
  unfold ptr at e1 e2 f1 f2 h6
  refine planZ_seg0 ?_
  show wpQuiet _ _ _ _ (List.filterMap _ _) _
  simp only [List.filterMap_cons, List.filterMap_nil, List.getElem?_toArray, List.getElem?_cons_zero, List.getElem?_cons_succ]
  show wpQuiet _ _ _ _ [_, _] _
  repeat (go_big_quiet_step (fail))
  refine wpQuiet_nil ?_
  refine planZ_op (o := ⟨_, _, _, _, _, _⟩) rfl rfl fun K hK => ?_
  go_simp
  refine hK _ _ (fun _ => ⟨⟨_, trivial⟩, rfl⟩) ?_
  clear hK K
  refine planZ_seg0 ?_
  show wpQuiet _ _ _ _ (List.filterMap _ _) _
  simp only [List.filterMap_cons, List.filterMap_nil, List.getElem?_toArray, List.getElem?_cons_zero, List.getElem?_cons_succ]
  show wpQuiet _ _ _ _ [_, _] _
  repeat (go_big_quiet_step (fail))
  refine wpQuiet_nil ?_
  refine planZ_op (o := ⟨_, _, _, _, _, _⟩) rfl rfl fun K hK => ?_
  go_simp
  refine hK _ _ (fun _ => ⟨⟨_, trivial⟩, rfl⟩) ?_
  clear hK K
  unfold ChainZ PlanZ
  clear e1 e2 f1 f2
  generalize (w5.setCell ⟨x.a, 0, none⟩ (.pointer (some ⟨x.t, 0, none⟩))).setCell ⟨x.a, 1, none⟩ (.pointer (some ⟨x.o, 0, none⟩)) = w6 at h6 ⊢
  have m6 := h6.out.in (x := { x with o := x.t, t := x.o }) rfl
  have c6 : w6.cell? ⟨x.a, 0, none⟩ = some (ptr x.t) := (h6.out.pairs _ m6.1).cell 0
  have M6 := Lib.hid m6
  clear m6
  unfold ptr at c6
  go_wp2_with fail
  refine (blen_any _ x.t _ (h6.out.bufs _ M6.out.2.1)).mono ?_
  rintro e w' ⟨rfl, rfl⟩
  rw [show (PoS.con _ x.t).length = q2 from HQ.out.symm]
  go_wp2_with fail
  refine (bput_gen _ x.t _ v (h6.out.bufs _ M6.out.2.1)).mono ?_
  rintro e w7 ⟨rfl, hb7, hu7⟩
  have h7 := Lib.hid (h6.out.buf (h6.out.bufs _ M6.out.2.1) hb7 hu7 (h6.out.gB _ M6.out.2.1))
  clear hb7 hu7 c6
  go_wp2_with fail
  go_ret
  exact ⟨_, rfl, h7.out, .inr (.inl ⟨H.out.2.2.2.2.2.1, H.out.2.2.2.2.2.2, by
    show PoS.mk _ _ _ (updC s.con x.t (putL (s.con x.t) v)) = _
    unfold putL; rw [if_pos H.out.2.2.2.2.2.2]⟩)⟩

theorem pool_put3 (h : Rep B w0 w W s) (hs : s.ps = A ++ x :: C) (hn : s.ps.length ≤ 64) (v : Int) (hv : v ≠ 0) (h1 : (s.con x.o).length = 32) (h2 : (s.con x.t).length = 32) (hE : ∀ g ∈ s.emp, s.con g = []) (hle : s.emp.length ≤ 1000000) (hlf : s.full.length ≤ 1000000) :
    Calls Try.prog 21 #[ptr W, .int .i64 (A.length : Int), .int .i64 v] w (PutR B w0 W s A x C v) := by
  obtain ⟨m1, m2, m3⟩ := h.in hs
  have hx := h.pairs x m1
  have c0 : w.cell? ⟨x.a, 0, none⟩ = some (ptr x.o) := hx.cell 0
  have H := Lib.hid (And.intro h (And.intro hs (And.intro hn (And.intro m2 (And.intro m3 (And.intro h1 h2))))))
  have HE := Lib.hid (And.intro hE (And.intro hle hlf))
  have HQ := Lib.hid h2
  have v0 : (v == 0) = false := by simpa using hv
  clear h hs hn m1 m2 m3 h1 h2 hv hE hle hlf
  unfold ptr at c0 ⊢
  go_enter Try.func21, Try.ntmps21
  go_wp2_with fail
  refine (pool_at H.out.1 H.out.2.1 H.out.2.2.1).mono ?_
  rintro e w' ⟨rfl, rfl⟩
  unfold ptr
  go_wp2_with fail
  refine (blen_any _ x.o _ (H.out.1.bufs _ H.out.2.2.2.1)).mono ?_
  rintro e w' ⟨rfl, rfl⟩
  rw [H.out.2.2.2.2.2.1]
  clear c0
  go_upto_region 5 with fail
  have hne : Nonempty (Kept (Upd (fun _ => False) w)) := ⟨⟨w, Upd.refl _ w⟩⟩
  have g1 : ∀ y : Kept (Upd (fun _ => False) w), y.1.cell? ⟨x.a, 0, none⟩ = some (.pointer (some ⟨x.o, 0, none⟩)) := fun y => (y.2.cel hx (fun h => h)).cell 0
  have g2 : ∀ y : Kept (Upd (fun _ => False) w), y.1.cell? ⟨x.a, 1, none⟩ = some (.pointer (some ⟨x.t, 0, none⟩)) := fun y => (y.2.cel hx (fun h => h)).cell 1
  refine wp_region_planZ [seg0 [0, 1, 2, 3, 4, 6, 7, 8] [], seg (Upd (fun _ => False) w) [10, 11, 12, 13, 14, 15] [5, 9] [], seg0 [10, 11] [12], seg0 [13, 14] [15]] (by kernel_rfl) (by kernel_rfl) (fun _ _ _ _ _ h => h) ?_
  refine planZ_seg0 ?_
  show wpQuiet _ _ _ _ (List.filterMap _ _) _
  simp only [List.filterMap_cons, List.filterMap_nil, List.getElem?_toArray, List.getElem?_cons_zero, List.getElem?_cons_succ]
  show wpQuiet _ _ _ _ [_, _, _, _, _, _, _, _] _
  repeat (go_big_quiet_step (fail))
  refine wpQuiet_nil ?_
  refine planZ_seg (Upd.refl _ w).drew ?_
  show wpQuiet _ _ _ _ (List.filterMap _ _) _
  simp only [List.filterMap_cons, List.filterMap_nil, List.getElem?_toArray, List.getElem?_cons_zero, List.getElem?_cons_succ]
  show wpQuiet _ _ _ _ [_, _] _
  repeat (go_big_quiet_step (fail))
  refine wpQuiet_nil ?_
  clear g1 g2 hne
  have hx5 : Cel w.drew x.a 64 #[ptr x.o, ptr x.t, .bool x.f] := hx.drew
  have hR5 := H.out.1.step (Below.refl w.heap.size w).drew
  clear hx
  generalize w.drew = w5 at hx5 hR5 ⊢
  have d1 := hx5
  have d2 := d1.put 0 (ptr x.t)
  have e1 := d1.free 0
  have f1 : w5.cell? ⟨x.a, 0, none⟩ = some (.pointer (some ⟨x.o, 0, none⟩)) := d1.cell 0
  have e2 := d2.free 1
  have f2 : (w5.setCell ⟨x.a, 0, none⟩ (ptr x.t)).cell? ⟨x.a, 1, none⟩ = some (.pointer (some ⟨x.t, 0, none⟩)) := d2.cell 1
  have h6 := Lib.hid (hR5.swap H.out.2.1)
  clear hx5 d1 d2 hR5
  unfold ptr at e1 e2 f1 f2 h6
  refine planZ_seg0 ?_
  show wpQuiet _ _ _ _ (List.filterMap _ _) _
  simp only [List.filterMap_cons, List.filterMap_nil, List.getElem?_toArray, List.getElem?_cons_zero, List.getElem?_cons_succ]
  show wpQuiet _ _ _ _ [_, _] _
  repeat (go_big_quiet_step (fail))
  refine wpQuiet_nil ?_
  refine planZ_op (o := ⟨_, _, _, _, _, _⟩) rfl rfl fun K hK => ?_
  go_simp
  refine hK _ _ (fun _ => ⟨⟨_, trivial⟩, rfl⟩) ?_
  clear hK K
  refine planZ_seg0 ?_
  show wpQuiet _ _ _ _ (List.filterMap _ _) _
  simp only [List.filterMap_cons, List.filterMap_nil, List.getElem?_toArray, List.getElem?_cons_zero, List.getElem?_cons_succ]
  show wpQuiet _ _ _ _ [_, _] _
  repeat (go_big_quiet_step (fail))
  refine wpQuiet_nil ?_
  refine planZ_op (o := ⟨_, _, _, _, _, _⟩) rfl rfl fun K hK => ?_
  go_simp
  refine hK _ _ (fun _ => ⟨⟨_, trivial⟩, rfl⟩) ?_
  clear hK K
  unfold ChainZ PlanZ
  clear e1 e2 f1 f2
  generalize (w5.setCell ⟨x.a, 0, none⟩ (.pointer (some ⟨x.t, 0, none⟩))).setCell ⟨x.a, 1, none⟩ (.pointer (some ⟨x.o, 0, none⟩)) = w6 at h6 ⊢
  have m6 := h6.out.in (x := { x with o := x.t, t := x.o }) rfl
  have c6 : w6.cell? ⟨x.a, 0, none⟩ = some (ptr x.t) := (h6.out.pairs _ m6.1).cell 0
  have M6 := Lib.hid m6
  clear m6
  unfold ptr at c6
  go_wp2_with fail
  refine (blen_any _ x.t _ (h6.out.bufs _ M6.out.2.1)).mono ?_
  rintro e w' ⟨rfl, rfl⟩
  rw [show (PoS.con _ x.t).length = 32 from HQ.out]
  go_wp2_with fail
  refine (pool_give (x := { x with o := x.t, t := x.o }) (b := x.t) h6.out rfl (h6.out.bufs _ M6.out.2.1) (h6.out.gB _ M6.out.2.1) HE.out.2.2).mono ?_
  rintro e w7 ⟨⟨v7, rfl⟩, h7, _⟩
  have h7 := Lib.hid h7
  clear c6 h6 M6
  go_wp2_with fail
  refine (pool_fresh h7.out HE.out.1 HE.out.2.1).mono ?_
  rintro e w8 ⟨g, emp, rfl, hb8, hgB, h8, _, hpr8, hfr⟩
  have hcon : ∀ k ∈ allB ⟨A ++ ⟨x.a, x.t, x.o, true⟩ :: C, s.full ++ [x.t], emp, s.con⟩, updC s.con g [] k = s.con k := fun k hk => by
    by_cases e : k = g
    · subst e
      rw [updC_at]
      rcases hfr with hfr | ⟨_, h11, hfr⟩
      · exact (HE.out.1 k (by rw [show s.emp = emp ++ [k] from hfr]; simp)).symm
      · have h9 : k ∈ allB ⟨A ++ ⟨x.a, x.t, x.o, true⟩ :: C, s.full ++ [x.t], s.emp, s.con⟩ := by
          unfold allB at hk ⊢
          simp only [List.mem_append] at hk ⊢
          rcases hk with hk | hk | hk
          · exact .inl hk
          · exact .inr (.inl hk)
          · rw [h11] at hk; cases hk
        have := (h7.out.bufs k h9).lt
        omega
    · exact updC_ne e
  have h8' := (h8.con (con := updC s.con g []) hcon)
  have hb8' : BufAt w8 g (updC s.con g [] g) ∧ B ≤ g := ⟨by rw [updC_at]; exact hb8, hgB⟩
  have h9 := h8'.setO (x := ⟨x.a, x.t, x.o, true⟩) rfl hb8'
  have hxx := h8'.pairs ⟨x.a, x.t, x.o, true⟩ (by show _ ∈ A ++ _ :: C; simp)
  have e1 : w8.frozen? ⟨x.a, 0, none⟩ = false := hxx.free 0
  have f1 : w8.cell? ⟨x.a, 0, none⟩ = some (ptr x.t) := hxx.cell 0
  have hb9 : BufAt (w8.setCell ⟨x.a, 0, none⟩ (ptr g)) g [] := hb8.upd (F := (· = x.a)) ((Upd.refl (· = x.a) w8).sc (fun _ => rfl) _ _) (fun e => by
    obtain ⟨_, b1, _⟩ := hb8
    exact b1.ne hxx (by decide) e)
  have hxx9 : Cel (w8.setCell ⟨x.a, 0, none⟩ (ptr g)) x.a 64 #[ptr g, ptr x.o, .bool true] := hxx.put 0 _
  have f9 : (w8.setCell ⟨x.a, 0, none⟩ (ptr g)).cell? ⟨x.a, 0, none⟩ = some (ptr g) := hxx9.cell 0
  have hfre : Fresh s g emp := by
    rcases hfr with hfr | ⟨h10, h11, h12⟩
    · exact .inl hfr
    · refine .inr ⟨h10, h11, fun hin => ?_⟩
      have := (h7.out.bufs g (mem_swap H.out.2.1 hin)).lt
      omega
  have H9 := Lib.hid (And.intro h9 (And.intro hb9 hfre))
  clear h8 hb8 hgB hpr8 hfr hcon h8' hb8' h9 hxx hb9 hxx9 hfre
  unfold ptr at e1 f1 f9
  go_wp2_with fail
  refine (bput_gen _ g [] v H9.out.2.1).mono ?_
  rintro e w10 ⟨rfl, hb10, hu10⟩
  have h10 := Lib.hid (H9.out.1.buf H9.out.2.1 hb10 hu10 (H9.out.1.gB _ (by unfold allB; rw [bufsP_app]; simp)))
  clear hb10 hu10 e1 f1 f9
  go_wp2_with fail
  go_ret
  exact ⟨_, rfl, h10.out, .inr (.inr ⟨H.out.2.2.2.2.2.1, H.out.2.2.2.2.2.2, g, emp, H9.out.2.2, by rw [updC_two]; rfl⟩)⟩
theorem pool_put (h : Rep B w0 w W s) (hs : s.ps = A ++ x :: C) (hn : s.ps.length ≤ 64) (v : Int) (hv : v ≠ 0) (hE : ∀ g ∈ s.emp, s.con g = []) (hle : s.emp.length ≤ 1000000) (hlf : s.full.length ≤ 1000000) :
    Calls Try.prog 21 #[ptr W, .int .i64 (A.length : Int), .int .i64 v] w (PutR B w0 W s A x C v) := by
  obtain ⟨m1, m2, m3⟩ := h.in hs
  have l1 := (h.bufs _ m2).le
  have l2 := (h.bufs _ m3).le
  by_cases h1 : (s.con x.o).length < 32
  · exact pool_put1 h hs hn v hv h1
  · by_cases h2 : (s.con x.t).length < 32
    · exact pool_put2 h hs hn v hv (by omega) h2
    · exact pool_put3 h hs hn v hv (by omega) (by omega) hE hle hlf
end
end Go.Proofs.Ytbcleeifkmjlmaa
