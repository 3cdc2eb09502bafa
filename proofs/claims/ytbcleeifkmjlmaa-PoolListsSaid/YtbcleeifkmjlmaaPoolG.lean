/-
  The pool: Get: a contract over addresses.
-/
import Derived.Test.YtbcleeifkmjlmaaPoolP
namespace Go.Proofs.Ytbcleeifkmjlmaa
open Go.RowKit
set_option maxRecDepth 100000
set_option maxHeartbeats 2000000

section
variable {B : Nat} {w0 w w' : World} {W : Nat} {s : PoS} {A C : List PoP} {x : PoP}
theorem Rep.fullPop (h : Rep B w0 w W s) {pv ev : Value} {a : Option Addr} {c : Nat} {F : List Nat} {g : Nat} (he : s.full = F ++ [g]) (p1 : Cel w W 61 #[pv, .slice a s.full.length c, ev]) (p2 : OwnP w B 62 pv (s.ps.map (·.a))) (p3 : OwnP w B 23 (.slice a s.full.length c) s.full) (p4 : OwnP w B 23 ev s.emp) (p5 : Dis (.slice a s.full.length c) ev) :
    Rep B w0 (w.setCell ⟨W, 1, none⟩ (.slice a F.length c)) W { s with full := F } := by
  have hd : Dis (.slice a F.length c) ev := fun q h1 h2 => p5 q (by rw [← h1]; cases a <;> rfl) h2
  have p3' := p3.take F.length (by rw [he]; simp) _ c rfl
  rw [show s.full.take F.length = F by rw [he]; simp] at p3'
  have hu : Upd (· = W) w (w.setCell ⟨W, 1, none⟩ (.slice a F.length c)) := (Upd.refl (· = W) w).sc (fun _ => rfl) _ _
  have keepB : ∀ g l, BufAt w g l → BufAt (w.setCell ⟨W, 1, none⟩ (.slice a F.length c)) g l := fun g l hl => by
    obtain ⟨cs, c1, c2⟩ := hl
    exact ⟨cs, hu.cel c1 (fun e => c1.ne p1 (by decide) e), c2⟩
  exact h.lists (con := s.con) (full := F) (emp := s.emp) (p1.put 1 _) (p2.upd hu (p2.typed p1 (by decide))) (p3'.upd hu (p3'.typed p1 (by decide))) (p4.upd hu (p4.typed p1 (by decide))) hd hu
    (fun q hq => by subst hq; exact ⟨h.WB, _, _, p1, by decide, by decide, .inl rfl⟩) (fun _ _ => rfl) (fun g hg => by
      have : g ∈ allB s := by
        unfold allB; rw [he]
        rcases hg with hg | hg <;> simp [hg]
      exact ⟨keepB g _ (h.bufs g this), h.gB g this⟩)

/-- What a get makes of a pool, and hands back. -/
def GetS (s : PoS) (A : List PoP) (x : PoP) (C : List PoP) (v : Int) (ok : Bool) (s' : PoS) : Prop :=
  (0 < (s.con x.o).length ∧ v = lastL (s.con x.o) ∧ ok = true ∧ s' = { s with con := updC s.con x.o (s.con x.o).dropLast }) ∨
  (s.con x.o = [] ∧ 0 < (s.con x.t).length ∧ v = lastL (s.con x.t) ∧ ok = true ∧ s' = { s with ps := A ++ { x with o := x.t, t := x.o } :: C, con := updC s.con x.t (s.con x.t).dropLast }) ∨
  (s.con x.o = [] ∧ s.con x.t = [] ∧ s.full = [] ∧ ok = false ∧ s' = { s with ps := A ++ { x with o := x.t, t := x.o } :: C, con := updC s.con x.t [] }) ∨
  (s.con x.o = [] ∧ s.con x.t = [] ∧ ∃ F f, s.full = F ++ [f] ∧ v = lastL (s.con f) ∧ ok = decide (0 < (s.con f).length) ∧ s' = ⟨A ++ ⟨x.a, f, x.o, x.f⟩ :: C, F, s.emp ++ [x.t], updC s.con f (s.con f).dropLast⟩)
def GetR (B : Nat) (w0 : World) (W : Nat) (s : PoS) (A : List PoP) (x : PoP) (C : List PoP) (e : Ending) (w' : World) : Prop := ∃ v ok s', e = .returned (.tuple #[.int .i64 v, .bool ok]) ∧ Rep B w0 w' W s' ∧ GetS s A x C v ok s'
theorem pool_get_nil (w : World) (p : Int) :
    Calls Try.prog 24 #[.pointer none, .int .i64 p] w fun e w' => e = .returned (.tuple #[.int .i64 0, .bool false]) ∧ w = w' := by
  go_enter Try.func24, Try.ntmps24
  go_wp2_with fail
  refine (pool_at_nil _ _).mono ?_
  rintro e w' ⟨rfl, rfl⟩
  go_wp2_with fail
  go_ret2
  exact ⟨rfl, rfl⟩

theorem pool_get1 (h : Rep B w0 w W s) (hs : s.ps = A ++ x :: C) (hn : s.ps.length ≤ 64) (h1 : 0 < (s.con x.o).length) :
    Calls Try.prog 24 #[ptr W, .int .i64 (A.length : Int)] w (GetR B w0 W s A x C) := by
  obtain ⟨m1, m2, m3⟩ := h.in hs
  have c0 : w.cell? ⟨x.a, 0, none⟩ = some (ptr x.o) := (h.pairs x m1).cell 0
  obtain ⟨pv, fv, ev, p1, p2, p3, p4, p5⟩ := h.pool
  obtain ⟨fa, fc, rfl, _⟩ := p3.form
  have cf : w.cell? ⟨W, 1, none⟩ = some (.slice fa s.full.length fc) := p1.cell 1
  have H := Lib.hid (And.intro h (And.intro hs (And.intro hn (And.intro m2 h1))))
  obtain ⟨q, hq⟩ : ∃ q, q = (s.con x.o).length := ⟨_, rfl⟩
  have l0 : ((q : Int) == 0) = false := by simp; omega
  have HQ := Lib.hid hq
  generalize s.full.length = fl at cf
  clear h hs hn m1 m2 m3 h1 hq p1 p2 p3 p4 p5
  unfold ptr at c0 ⊢
  go_enter Try.func24, Try.ntmps24
  go_wp2_with fail
  refine (pool_at H.out.1 H.out.2.1 H.out.2.2.1).mono ?_
  rintro e w' ⟨rfl, rfl⟩
  unfold ptr
  go_wp2_with fail
  refine (blen_any _ x.o _ (H.out.1.bufs _ H.out.2.2.2.1)).mono ?_
  rintro e w' ⟨rfl, rfl⟩
  rw [← HQ.out]
  go_wp2_with fail
  refine (blen_any _ x.o _ (H.out.1.bufs _ H.out.2.2.2.1)).mono ?_
  rintro e w' ⟨rfl, rfl⟩
  rw [← HQ.out]
  go_wp2_with fail
  refine (bget_gen _ x.o _ (H.out.1.bufs _ H.out.2.2.2.1)).mono ?_
  rintro e w2 ⟨rfl, hb2, hu2⟩
  have H2 := Lib.hid (H.out.1.buf (H.out.1.bufs _ H.out.2.2.2.1) hb2 hu2 (H.out.1.gB _ H.out.2.2.2.1))
  clear hb2 hu2 c0 cf
  rw [decide_eq_true H.out.2.2.2.2]
  generalize hlv : lastL (s.con x.o) = lv
  have HLV := Lib.hid hlv
  clear hlv
  go_wp2_with fail
  go_ret2
  exact ⟨_, _, _, rfl, H2.out, .inl ⟨H.out.2.2.2.2, HLV.out.symm, rfl, rfl⟩⟩
theorem pool_get2 (h : Rep B w0 w W s) (hs : s.ps = A ++ x :: C) (hn : s.ps.length ≤ 64) (h1 : s.con x.o = []) (h2 : 0 < (s.con x.t).length) :
    Calls Try.prog 24 #[ptr W, .int .i64 (A.length : Int)] w (GetR B w0 W s A x C) := by
  obtain ⟨m1, m2, m3⟩ := h.in hs
  have hx := h.pairs x m1
  have c0 : w.cell? ⟨x.a, 0, none⟩ = some (ptr x.o) := hx.cell 0
  have H := Lib.hid (And.intro h (And.intro hs (And.intro hn (And.intro m2 (And.intro m3 (And.intro h1 h2))))))
  obtain ⟨q, hq⟩ : ∃ q, q = (s.con x.t).length := ⟨_, rfl⟩
  have l0 : ((q : Int) == 0) = false := by simp; omega
  have HQ := Lib.hid hq
  clear h hs hn m1 m2 m3 h1 h2 hq
  unfold ptr at c0 ⊢
  go_enter Try.func24, Try.ntmps24
  go_wp2_with fail
  refine (pool_at H.out.1 H.out.2.1 H.out.2.2.1).mono ?_
  rintro e w' ⟨rfl, rfl⟩
  unfold ptr
  go_wp2_with fail
  refine (blen_any _ x.o _ (H.out.1.bufs _ H.out.2.2.2.1)).mono ?_
  rintro e w' ⟨rfl, rfl⟩
  rw [show (s.con x.o).length = 0 by rw [H.out.2.2.2.2.2.1]; rfl]
  clear c0
  go_upto_region 5 with fail
  have hne : Nonempty (Kept (Upd (fun _ => False) w)) := ⟨⟨w, Upd.refl _ w⟩⟩
  have g1 : ∀ y : Kept (Upd (fun _ => False) w), y.1.cell? ⟨x.a, 0, none⟩ = some (.pointer (some ⟨x.o, 0, none⟩)) := fun y => (y.2.cel hx (fun h => h)).cell 0
  have g2 : ∀ y : Kept (Upd (fun _ => False) w), y.1.cell? ⟨x.a, 1, none⟩ = some (.pointer (some ⟨x.t, 0, none⟩)) := fun y => (y.2.cel hx (fun h => h)).cell 1
  refine wp_region_planZ [seg0 [0, 1, 2, 3, 4, 6, 7, 8] [], seg (Upd (fun _ => False) w) [10, 11, 12, 13, 14, 15] [5, 9] [], seg0 [10, 11] [12], seg0 [13, 14] [15]] (by kernel_rfl) (by kernel_rfl) (fun _ _ _ _ _ h => h) ?_
  refine planZ_seg0 ?_
  show wpQuiet _ _ _ _ (List.filterMap _ _) _
  simp only [List.filterMap_cons, List.filterMap_nil, List.getElem?_toArray, List.getElem?_cons_zero, List.getElem?_cons_succ]
  show wpQuiet _ _ _ _ [_, _, _, _, _, _, _, _] _
  repeat (go_big_quiet_step (fail))
  refine wpQuiet_nil ?_
  refine planZ_seg (Upd.refl _ w).drew ?_
  show wpQuiet _ _ _ _ (List.filterMap _ _) _
  simp only [List.filterMap_cons, List.filterMap_nil, List.getElem?_toArray, List.getElem?_cons_zero, List.getElem?_cons_succ]
  show wpQuiet _ _ _ _ [_, _] _
  repeat (go_big_quiet_step (fail))
  refine wpQuiet_nil ?_
  clear g1 g2 hne
  have hx5 : Cel w.drew x.a 64 #[ptr x.o, ptr x.t, .bool x.f] := hx.drew
  have hR5 := H.out.1.step (Below.refl w.heap.size w).drew
  clear hx
  generalize w.drew = w5 at hx5 hR5 ⊢
  have d1 := hx5
  have d2 := d1.put 0 (ptr x.t)
  have e1 := d1.free 0
  have f1 : w5.cell? ⟨x.a, 0, none⟩ = some (.pointer (some ⟨x.o, 0, none⟩)) := d1.cell 0
  have e2 := d2.free 1
  have f2 : (w5.setCell ⟨x.a, 0, none⟩ (ptr x.t)).cell? ⟨x.a, 1, none⟩ = some (.pointer (some ⟨x.t, 0, none⟩)) := d2.cell 1
  have h6 := Lib.hid (hR5.swap H.out.2.1)
  clear hx5 d1 d2 hR5
  unfold ptr at e1 e2 f1 f2 h6
  refine planZ_seg0 ?_
  show wpQuiet _ _ _ _ (List.filterMap _ _) _
  simp only [List.filterMap_cons, List.filterMap_nil, List.getElem?_toArray, List.getElem?_cons_zero, List.getElem?_cons_succ]
  show wpQuiet _ _ _ _ [_, _] _
  repeat (go_big_quiet_step (fail))
  refine wpQuiet_nil ?_
  refine planZ_op (o := ⟨_, _, _, _, _, _⟩) rfl rfl fun K hK => ?_
  go_simp
  refine hK _ _ (fun _ => ⟨⟨_, trivial⟩, rfl⟩) ?_
  clear hK K
  refine planZ_seg0 ?_
  show wpQuiet _ _ _ _ (List.filterMap _ _) _
  simp only [List.filterMap_cons, List.filterMap_nil, List.getElem?_toArray, List.getElem?_cons_zero, List.getElem?_cons_succ]
  show wpQuiet _ _ _ _ [_, _] _
  repeat (go_big_quiet_step (fail))
  refine wpQuiet_nil ?_
  refine planZ_op (o := ⟨_, _, _, _, _, _⟩) rfl rfl fun K hK => ?_
  go_simp
  refine hK _ _ (fun _ => ⟨⟨_, trivial⟩, rfl⟩) ?_
  clear hK K
  unfold ChainZ PlanZ
  clear e1 e2 f1 f2
  generalize (w5.setCell ⟨x.a, 0, none⟩ (.pointer (some ⟨x.t, 0, none⟩))).setCell ⟨x.a, 1, none⟩ (.pointer (some ⟨x.o, 0, none⟩)) = w6 at h6 ⊢
  have m6 := h6.out.in (x := { x with o := x.t, t := x.o }) rfl
  have hx6 := h6.out.pairs _ m6.1
  have c6 : w6.cell? ⟨x.a, 0, none⟩ = some (ptr x.t) := hx6.cell 0
  obtain ⟨pv, fv, ev, p1, p2, p3, p4, p5⟩ := h6.out.pool
  obtain ⟨fa, fc, rfl, hfc⟩ := p3.form
  have cf : w6.cell? ⟨W, 1, none⟩ = some (.slice fa s.full.length fc) := p1.cell 1
  have M6 := Lib.hid (And.intro m6 hx6)
  unfold ptr at c6
  generalize s.full.length = fl at cf
  clear m6 hx6 p1 p2 p3 p4 p5 hfc
  go_wp2_with fail
  refine (blen_any _ x.t _ (h6.out.bufs _ M6.out.1.2.1)).mono ?_
  rintro e w' ⟨rfl, rfl⟩
  rw [show (PoS.con _ x.t).length = q from HQ.out.symm]
  go_wp2_with fail
  refine (bget_gen _ x.t _ (h6.out.bufs _ M6.out.1.2.1)).mono ?_
  rintro e w7 ⟨rfl, hb7, hu7⟩
  have h7 := Lib.hid (h6.out.buf (h6.out.bufs _ M6.out.1.2.1) hb7 hu7 (h6.out.gB _ M6.out.1.2.1))
  clear hb7 hu7 c6 cf
  rw [show decide (0 < (PoS.con _ x.t).length) = true from decide_eq_true H.out.2.2.2.2.2.2, show lastL (PoS.con _ x.t) = lastL (s.con x.t) from rfl]
  generalize hlv : lastL (s.con x.t) = lv
  have HLV := Lib.hid hlv
  clear hlv
  go_wp2_with fail
  go_ret2
  exact ⟨_, _, _, rfl, h7.out, .inr (.inl ⟨H.out.2.2.2.2.2.1, H.out.2.2.2.2.2.2, HLV.out.symm, rfl, rfl⟩)⟩
theorem pool_get3 (h : Rep B w0 w W s) (hs : s.ps = A ++ x :: C) (hn : s.ps.length ≤ 64) (h1 : s.con x.o = []) (h2 : s.con x.t = []) (hf : s.full = []) :
    Calls Try.prog 24 #[ptr W, .int .i64 (A.length : Int)] w (GetR B w0 W s A x C) := by
  obtain ⟨m1, m2, m3⟩ := h.in hs
  have hx := h.pairs x m1
  have c0 : w.cell? ⟨x.a, 0, none⟩ = some (ptr x.o) := hx.cell 0
  have H := Lib.hid (And.intro h (And.intro hs (And.intro hn (And.intro m2 (And.intro m3 (And.intro h1 h2))))))
  have HF := Lib.hid hf
  clear h hs hn m1 m2 m3 h1 h2 hf
  unfold ptr at c0 ⊢
  go_enter Try.func24, Try.ntmps24
  go_wp2_with fail
  refine (pool_at H.out.1 H.out.2.1 H.out.2.2.1).mono ?_
  rintro e w' ⟨rfl, rfl⟩
  unfold ptr
  go_wp2_with fail
  refine (blen_any _ x.o _ (H.out.1.bufs _ H.out.2.2.2.1)).mono ?_
  rintro e w' ⟨rfl, rfl⟩
  rw [show (s.con x.o).length = 0 by rw [H.out.2.2.2.2.2.1]; rfl]
  clear c0
  go_upto_region 5 with fail
  have hne : Nonempty (Kept (Upd (fun _ => False) w)) := ⟨⟨w, Upd.refl _ w⟩⟩
  have g1 : ∀ y : Kept (Upd (fun _ => False) w), y.1.cell? ⟨x.a, 0, none⟩ = some (.pointer (some ⟨x.o, 0, none⟩)) := fun y => (y.2.cel hx (fun h => h)).cell 0
  have g2 : ∀ y : Kept (Upd (fun _ => False) w), y.1.cell? ⟨x.a, 1, none⟩ = some (.pointer (some ⟨x.t, 0, none⟩)) := fun y => (y.2.cel hx (fun h => h)).cell 1
  refine wp_region_planZ [seg0 [0, 1, 2, 3, 4, 6, 7, 8] [], seg (Upd (fun _ => False) w) [10, 11, 12, 13, 14, 15] [5, 9] [], seg0 [10, 11] [12], seg0 [13, 14] [15]] (by kernel_rfl) (by kernel_rfl) (fun _ _ _ _ _ h => h) ?_
  refine planZ_seg0 ?_
  show wpQuiet _ _ _ _ (List.filterMap _ _) _
  simp only [List.filterMap_cons, List.filterMap_nil, List.getElem?_toArray, List.getElem?_cons_zero, List.getElem?_cons_succ]
  show wpQuiet _ _ _ _ [_, _, _, _, _, _, _, _] _
  repeat (go_big_quiet_step (fail))
  refine wpQuiet_nil ?_
  refine planZ_seg (Upd.refl _ w).drew ?_
  show wpQuiet _ _ _ _ (List.filterMap _ _) _
  simp only [List.filterMap_cons, List.filterMap_nil, List.getElem?_toArray, List.getElem?_cons_zero, List.getElem?_cons_succ]
  show wpQuiet _ _ _ _ [_, _] _
  repeat (go_big_quiet_step (fail))
  refine wpQuiet_nil ?_
  clear g1 g2 hne
  have hx5 : Cel w.drew x.a 64 #[ptr x.o, ptr x.t, .bool x.f] := hx.drew
  have hR5 := H.out.1.step (Below.refl w.heap.size w).drew
  clear hx
  generalize w.drew = w5 at hx5 hR5 ⊢
  have d1 := hx5
  have d2 := d1.put 0 (ptr x.t)
  have e1 := d1.free 0
  have f1 : w5.cell? ⟨x.a, 0, none⟩ = some (.pointer (some ⟨x.o, 0, none⟩)) := d1.cell 0
  have e2 := d2.free 1
  have f2 : (w5.setCell ⟨x.a, 0, none⟩ (ptr x.t)).cell? ⟨x.a, 1, none⟩ = some (.pointer (some ⟨x.t, 0, none⟩)) := d2.cell 1
  have h6 := Lib.hid (hR5.swap H.out.2.1)
  clear hx5 d1 d2 hR5
  unfold ptr at e1 e2 f1 f2 h6
  refine planZ_seg0 ?_
  show wpQuiet _ _ _ _ (List.filterMap _ _) _
  simp only [List.filterMap_cons, List.filterMap_nil, List.getElem?_toArray, List.getElem?_cons_zero, List.getElem?_cons_succ]
  show wpQuiet _ _ _ _ [_, _] _
  repeat (go_big_quiet_step (fail))
  refine wpQuiet_nil ?_
  refine planZ_op (o := ⟨_, _, _, _, _, _⟩) rfl rfl fun K hK => ?_
  go_simp
  refine hK _ _ (fun _ => ⟨⟨_, trivial⟩, rfl⟩) ?_
  clear hK K
  refine planZ_seg0 ?_
  show wpQuiet _ _ _ _ (List.filterMap _ _) _
  simp only [List.filterMap_cons, List.filterMap_nil, List.getElem?_toArray, List.getElem?_cons_zero, List.getElem?_cons_succ]
  show wpQuiet _ _ _ _ [_, _] _
  repeat (go_big_quiet_step (fail))
  refine wpQuiet_nil ?_
  refine planZ_op (o := ⟨_, _, _, _, _, _⟩) rfl rfl fun K hK => ?_
  go_simp
  refine hK _ _ (fun _ => ⟨⟨_, trivial⟩, rfl⟩) ?_
  clear hK K
  unfold ChainZ PlanZ
  clear e1 e2 f1 f2
  generalize (w5.setCell ⟨x.a, 0, none⟩ (.pointer (some ⟨x.t, 0, none⟩))).setCell ⟨x.a, 1, none⟩ (.pointer (some ⟨x.o, 0, none⟩)) = w6 at h6 ⊢
  have m6 := h6.out.in (x := { x with o := x.t, t := x.o }) rfl
  have hx6 := h6.out.pairs _ m6.1
  have c6 : w6.cell? ⟨x.a, 0, none⟩ = some (ptr x.t) := hx6.cell 0
  obtain ⟨pv, fv, ev, p1, p2, p3, p4, p5⟩ := h6.out.pool
  obtain ⟨fa, fc, rfl, hfc⟩ := p3.form
  have cf : w6.cell? ⟨W, 1, none⟩ = some (.slice fa s.full.length fc) := p1.cell 1
  have M6 := Lib.hid (And.intro m6 hx6)
  unfold ptr at c6
  rw [show s.full.length = 0 by rw [HF.out]; rfl] at cf
  clear m6 hx6 p1 p2 p3 p4 p5 hfc
  go_wp2_with fail
  refine (blen_any _ x.t _ (h6.out.bufs _ M6.out.1.2.1)).mono ?_
  rintro e w' ⟨rfl, rfl⟩
  rw [show (PoS.con _ x.t).length = 0 from by show (s.con x.t).length = 0; rw [H.out.2.2.2.2.2.2]; rfl]
  go_wp2_with fail
  refine (bget_gen _ x.t _ (h6.out.bufs _ M6.out.1.2.1)).mono ?_
  rintro e w7 ⟨rfl, hb7, hu7⟩
  have h7 := Lib.hid (h6.out.buf (h6.out.bufs _ M6.out.1.2.1) hb7 hu7 (h6.out.gB _ M6.out.1.2.1))
  clear hb7 hu7 c6 cf
  rw [show decide (0 < (PoS.con _ x.t).length) = false from by show decide (0 < (s.con x.t).length) = false; rw [H.out.2.2.2.2.2.2]; rfl]
  generalize lastL (PoS.con _ x.t) = lv
  go_wp2_with fail
  go_ret2
  exact ⟨lv, _, _, rfl, h7.out, .inr (.inr (.inl ⟨H.out.2.2.2.2.2.1, H.out.2.2.2.2.2.2, HF.out, rfl, by show PoS.mk _ _ _ (updC s.con x.t (s.con x.t).dropLast) = _; rw [H.out.2.2.2.2.2.2]; rfl⟩))⟩
theorem pool_get4 (h : Rep B w0 w W s) (hs : s.ps = A ++ x :: C) (hn : s.ps.length ≤ 64) (h1 : s.con x.o = []) (h2 : s.con x.t = []) {F : List Nat} {f : Nat} (hf : s.full = F ++ [f]) (hlf : s.full.length ≤ 1000000) (hle : s.emp.length ≤ 1000000) :
    Calls Try.prog 24 #[ptr W, .int .i64 (A.length : Int)] w (GetR B w0 W s A x C) := by
  obtain ⟨m1, m2, m3⟩ := h.in hs
  have hx := h.pairs x m1
  have c0 : w.cell? ⟨x.a, 0, none⟩ = some (ptr x.o) := hx.cell 0
  have H := Lib.hid (And.intro h (And.intro hs (And.intro hn (And.intro m2 (And.intro m3 (And.intro h1 h2))))))
  have HF := Lib.hid (And.intro hf (And.intro hlf hle))
  clear h hs hn m1 m2 m3 h1 h2 hf hlf hle
  unfold ptr at c0 ⊢
  go_enter Try.func24, Try.ntmps24
  go_wp2_with fail
  refine (pool_at H.out.1 H.out.2.1 H.out.2.2.1).mono ?_
  rintro e w' ⟨rfl, rfl⟩
  unfold ptr
  go_wp2_with fail
  refine (blen_any _ x.o _ (H.out.1.bufs _ H.out.2.2.2.1)).mono ?_
  rintro e w' ⟨rfl, rfl⟩
  rw [show (s.con x.o).length = 0 by rw [H.out.2.2.2.2.2.1]; rfl]
  clear c0
  go_upto_region 5 with fail
  have hne : Nonempty (Kept (Upd (fun _ => False) w)) := ⟨⟨w, Upd.refl _ w⟩⟩
  have g1 : ∀ y : Kept (Upd (fun _ => False) w), y.1.cell? ⟨x.a, 0, none⟩ = some (.pointer (some ⟨x.o, 0, none⟩)) := fun y => (y.2.cel hx (fun h => h)).cell 0
  have g2 : ∀ y : Kept (Upd (fun _ => False) w), y.1.cell? ⟨x.a, 1, none⟩ = some (.pointer (some ⟨x.t, 0, none⟩)) := fun y => (y.2.cel hx (fun h => h)).cell 1
  refine wp_region_planZ [seg0 [0, 1, 2, 3, 4, 6, 7, 8] [], seg (Upd (fun _ => False) w) [10, 11, 12, 13, 14, 15] [5, 9] [], seg0 [10, 11] [12], seg0 [13, 14] [15]] (by kernel_rfl) (by kernel_rfl) (fun _ _ _ _ _ h => h) ?_
  refine planZ_seg0 ?_
  show wpQuiet _ _ _ _ (List.filterMap _ _) _
  simp only [List.filterMap_cons, List.filterMap_nil, List.getElem?_toArray, List.getElem?_cons_zero, List.getElem?_cons_succ]
  show wpQuiet _ _ _ _ [_, _, _, _, _, _, _, _] _
  repeat (go_big_quiet_step (fail))
  refine wpQuiet_nil ?_
  refine planZ_seg (Upd.refl _ w).drew ?_
  show wpQuiet _ _ _ _ (List.filterMap _ _) _
  simp only [List.filterMap_cons, List.filterMap_nil, List.getElem?_toArray, List.getElem?_cons_zero, List.getElem?_cons_succ]
  show wpQuiet _ _ _ _ [_, _] _
  repeat (go_big_quiet_step (fail))
  refine wpQuiet_nil ?_
  clear g1 g2 hne
  have hx5 : Cel w.drew x.a 64 #[ptr x.o, ptr x.t, .bool x.f] := hx.drew
  have hR5 := H.out.1.step (Below.refl w.heap.size w).drew
  clear hx
  generalize w.drew = w5 at hx5 hR5 ⊢
  have d1 := hx5
  have d2 := d1.put 0 (ptr x.t)
  have e1 := d1.free 0
  have f1 : w5.cell? ⟨x.a, 0, none⟩ = some (.pointer (some ⟨x.o, 0, none⟩)) := d1.cell 0
  have e2 := d2.free 1
  have f2 : (w5.setCell ⟨x.a, 0, none⟩ (ptr x.t)).cell? ⟨x.a, 1, none⟩ = some (.pointer (some ⟨x.t, 0, none⟩)) := d2.cell 1
  have h6 := Lib.hid (hR5.swap H.out.2.1)
  clear hx5 d1 d2 hR5
  unfold ptr at e1 e2 f1 f2 h6
  refine planZ_seg0 ?_
  show wpQuiet _ _ _ _ (List.filterMap _ _) _
  simp only [List.filterMap_cons, List.filterMap_nil, List.getElem?_toArray, List.getElem?_cons_zero, List.getElem?_cons_succ]
  show wpQuiet _ _ _ _ [_, _] _
  repeat (go_big_quiet_step (fail))
  refine wpQuiet_nil ?_
  refine planZ_op (o := ⟨_, _, _, _, _, _⟩) rfl rfl fun K hK => ?_
  go_simp
  refine hK _ _ (fun _ => ⟨⟨_, trivial⟩, rfl⟩) ?_
  clear hK K
  refine planZ_seg0 ?_
  show wpQuiet _ _ _ _ (List.filterMap _ _) _
  simp only [List.filterMap_cons, List.filterMap_nil, List.getElem?_toArray, List.getElem?_cons_zero, List.getElem?_cons_succ]
  show wpQuiet _ _ _ _ [_, _] _
  repeat (go_big_quiet_step (fail))
  refine wpQuiet_nil ?_
  refine planZ_op (o := ⟨_, _, _, _, _, _⟩) rfl rfl fun K hK => ?_
  go_simp
  refine hK _ _ (fun _ => ⟨⟨_, trivial⟩, rfl⟩) ?_
  clear hK K
  unfold ChainZ PlanZ
  clear e1 e2 f1 f2
  generalize (w5.setCell ⟨x.a, 0, none⟩ (.pointer (some ⟨x.t, 0, none⟩))).setCell ⟨x.a, 1, none⟩ (.pointer (some ⟨x.o, 0, none⟩)) = w6 at h6 ⊢
  have m6 := h6.out.in (x := { x with o := x.t, t := x.o }) rfl
  have hx6 := h6.out.pairs _ m6.1
  have c6 : w6.cell? ⟨x.a, 0, none⟩ = some (ptr x.t) := hx6.cell 0
  obtain ⟨pv, fv, ev, p1, p2, p3, p4, p5⟩ := h6.out.pool
  obtain ⟨fa, fc, rfl, hfc⟩ := p3.form
  have cf : w6.cell? ⟨W, 1, none⟩ = some (.slice fa s.full.length fc) := p1.cell 1
  have M6 := Lib.hid (And.intro m6 hx6)
  unfold ptr at c6
  obtain ⟨ea, ec, rfl, _⟩ := p4.form
  obtain ⟨fl, hfl⟩ : ∃ fl, fl = F.length := ⟨_, rfl⟩
  have hfl1 : s.full.length = fl + 1 := by rw [HF.out.1, hfl]; simp
  obtain ⟨el, hel⟩ : ∃ el, el = s.emp.length := ⟨_, rfl⟩
  rw [hfl1] at cf hfc
  have HL := Lib.hid (And.intro hfl (And.intro hfl1 hel))
  have P := Lib.hid (And.intro p1 (And.intro p2 (And.intro p3 (And.intro p4 p5))))
  have hfle : fl ≤ 1000000 := by have := HF.out.2.1; omega
  have hele : el ≤ 1000000 := by have := HF.out.2.2; omega
  have g0 : 0 < ((fl + 1 : Nat) : Int) := by omega
  clear m6 hx6 p1 p2 p3 p4 p5 hfl hfl1 hel
  go_wp2_with fail
  refine (blen_any _ x.t _ (h6.out.bufs _ M6.out.1.2.1)).mono ?_
  rintro e w' ⟨rfl, rfl⟩
  rw [show (PoS.con _ x.t).length = 0 from by show (s.con x.t).length = 0; rw [H.out.2.2.2.2.2.2]; rfl]
  go_upto_region 8 with fail
  have hxo := H.out.1
  have hS6 : Cel w6 W 61 #[pv, .slice fa s.full.length fc, .slice ea s.emp.length ec] ∧ Cel w6 x.a 64 #[ptr x.t, ptr x.o, .bool x.f] := ⟨P.out.1, M6.out.2⟩
  have hne : Nonempty (Kept (fun y => Cel y W 61 #[pv, .slice fa s.full.length fc, .slice ea s.emp.length ec] ∧ Cel y x.a 64 #[ptr x.t, ptr x.o, .bool x.f])) := ⟨⟨w6, hS6⟩⟩
  have r1 : ∀ y : Kept (fun y => Cel y W 61 #[pv, .slice fa s.full.length fc, .slice ea s.emp.length ec] ∧ Cel y x.a 64 #[ptr x.t, ptr x.o, .bool x.f]), y.1.cell? ⟨W, 2, none⟩ = some (.slice ea el ec) := fun y => by rw [HL.out.2.2]; exact y.2.1.cell 2
  have r2 : ∀ y : Kept (fun y => Cel y W 61 #[pv, .slice fa s.full.length fc, .slice ea s.emp.length ec] ∧ Cel y x.a 64 #[ptr x.t, ptr x.o, .bool x.f]), y.1.cell? ⟨x.a, 0, none⟩ = some (.pointer (some ⟨x.t, 0, none⟩)) := fun y => y.2.2.cell 0
  clear c6 cf hxo g0
  refine wp_region_planZ [seg (fun y => Cel y W 61 #[pv, .slice fa s.full.length fc, .slice ea s.emp.length ec] ∧ Cel y x.a 64 #[ptr x.t, ptr x.o, .bool x.f]) [13] [0, 1, 2, 3, 4, 5, 6, 7, 8] [9, 10, 11, 12, 13]] (by kernel_rfl) (by kernel_rfl) (fun _ _ _ _ _ h => h) ?_
  refine planZ_seg ⟨hS6.1.drew, hS6.2.drew⟩ ?_
  show wpQuiet _ _ _ _ (List.filterMap _ _) _
  simp only [List.filterMap_cons, List.filterMap_nil, List.getElem?_toArray, List.getElem?_cons_zero, List.getElem?_cons_succ]
  show wpQuiet _ _ _ _ [_, _, _, _, _, _, _, _, _] _
  repeat (go_big_quiet_step (fail))
  refine wpQuiet_nil ?_
  clear r1 r2
  have hb7 : Below w6.heap.size w6 w6.drew := (Below.refl _ _).drew
  have h7 := h6.out.step hb7
  have hS7 : Cel w6.drew W 61 #[pv, .slice fa s.full.length fc, .slice ea s.emp.length ec] ∧ Cel w6.drew x.a 64 #[ptr x.t, ptr x.o, .bool x.f] := ⟨hS6.1.drew, hS6.2.drew⟩
  have P7 := Lib.hid (And.intro (P.out.2.1.ofBelow hb7) (And.intro (P.out.2.2.1.ofBelow hb7) (And.intro (P.out.2.2.2.1.ofBelow hb7) P.out.2.2.2.2)))
  have H7 := Lib.hid (And.intro h7 hS7)
  clear hne hS6 hb7 h7 hS7 h6 P
  generalize w6.drew = w7 at P7 H7 ⊢
  refine planZ_op (o := ⟨_, _, _, _, _, _⟩) rfl rfl fun K hK => ?_
  go_simp
  refine hK _ _ (fun _ => ⟨⟨_, H7.out.2.1.alloc _, H7.out.2.2.alloc _⟩, rfl⟩) ?_
  clear hK K
  refine planZ_op (o := ⟨_, _, _, _, _, _⟩) rfl rfl fun K hK => ?_
  refine wp_append_ptr (B := B) (vs := .slice ea el ec) (st := 59) (k := w7.heap.size) (g := x.t) (l := s.emp) (.tmp 52) (.tmp 57) rfl rfl rfl Try.underlying59 info_buf_ptr ((show OwnP w7 B 23 (.slice ea el ec) s.emp by rw [HL.out.2.2]; exact P7.out.2.2.1).alloc _) ((Cel.born w7 23 #[ptr x.t]).cell 0) (by have := H7.out.1.size; simp; omega) HL.out.2.2.symm hele ?_
  intro a5 c5 w9 hown5 hg5 hat5
  rw [show Value.ownBlock (.slice ea el ec) = Value.ownBlock (.slice ea s.emp.length ec) by cases ea <;> rfl] at hg5 hat5
  obtain ⟨k1, k2, k3⟩ := H7.out.1.empPut _ H7.out.2.1 P7.out.1 P7.out.2.1 P7.out.2.2.1 P7.out.2.2.2 hown5 hg5 hat5 (H7.out.1.bufs _ M6.out.1.2.1) (H7.out.1.gB _ M6.out.1.2.1)
  have hx9 : Cel w9 x.a 64 #[ptr x.t, ptr x.o, .bool x.f] :=
    Upd.cel (((Upd.refl (fun q => Value.ownBlock (.slice ea s.emp.length ec) = some q) w7).alloc _).grown hg5 (fun q hq _ => hq)) H7.out.2.2 (fun e => P7.out.2.2.1.typed H7.out.2.2 (by decide) _ e rfl)
  have K9 := Lib.hid (And.intro k1 (And.intro k3 hx9))
  have t1 := k3.cell 2
  have t2 := k3.free 2
  clear k1 k2 k3 hx9 hown5 hg5 hat5
  refine hK _ _ (fun _ => ⟨⟨w9, K9.out.2.1, K9.out.2.2⟩, rfl⟩) ?_
  clear hK K
  refine planZ_op (o := ⟨_, _, _, _, _, _⟩) rfl rfl fun K hK => ?_
  go_simp
  refine hK _ _ (fun _ => ⟨⟨w9, K9.out.2.1, K9.out.2.2⟩, rfl⟩) ?_
  clear hK K
  refine planZ_op (o := ⟨_, _, _, _, _, _⟩) rfl rfl fun K hK => ?_
  go_simp
  refine hK _ _ (fun _ => ⟨⟨w9, K9.out.2.1, K9.out.2.2⟩, rfl⟩) ?_
  clear hK K
  refine planZ_op (o := ⟨_, _, _, _, _, _⟩) rfl rfl fun K hK => ?_
  go_simp
  refine hK _ _ (fun h => by cases h) ?_
  clear hK K
  unfold ChainZ PlanZ
  have h10 := Lib.hid K9.out.1
  clear t1 t2 K9 H7 P7
  generalize w9.setCell ⟨W, 2, none⟩ (.slice a5 (el + 1) c5) = w10 at h10 ⊢
  obtain ⟨pv', fv', ev', p1, p2, p3, p4, p5⟩ := h10.out.pool
  have hlen : (PoS.mk (A ++ ⟨x.a, x.t, x.o, x.f⟩ :: C) s.full (s.emp ++ [x.t]) s.con).full.length = fl + 1 := HL.out.2.1
  obtain ⟨bb, fc', rfl, hfc', hcell⟩ := p3.at (by rw [hlen]; omega)
  have cfl := hcell fl (by rw [hlen]; omega)
  rw [show (PoS.mk (A ++ ⟨x.a, x.t, x.o, x.f⟩ :: C) s.full (s.emp ++ [x.t]) s.con).full.getD fl 0 = f by show s.full.getD fl 0 = f; rw [HF.out.1, HL.out.1]; simp] at cfl
  rw [hlen] at hfc'
  have m10 := h10.out.in (x := { x with o := x.t, t := x.o }) rfl
  have hx10 := h10.out.pairs _ m10.1
  have P := Lib.hid (And.intro p1 (And.intro p2 (And.intro p3 (And.intro p4 (And.intro p5 (And.intro hlen (And.intro hx10 cfl)))))))
  have hsl := pslice_to (some ⟨bb, 0, none⟩) (fl + 1) fc' fl (by omega) hfc'
  have wq1 : IntKind.i64.wrap (((fl : Int) + 1) - 1) = (fl : Int) := by rw [show ((fl : Int) + 1) - 1 = fl by omega]; exact IntWalk.i64_in _ (by omega)
  have wq2 : ((fl : Int) + 1) - 1 = (fl : Int) := by omega
  have wq3 : IntKind.i64.wrap (fl : Int) = (fl : Int) := IntWalk.i64_in _ (by omega)
  have n1 : (0 : Int) ≤ (fl : Int) := by omega
  have n2 : (fl : Int) < ((fl + 1 : Nat) : Int) := by omega
  have n3 : (fl : Int) < (fl : Int) + 1 := by omega
  go_upto_region 9 with fail
  have hS10 : (fun y => Cel y W 61 #[pv', .slice (some ⟨bb, 0, none⟩) (PoS.mk (A ++ ⟨x.a, x.t, x.o, x.f⟩ :: C) s.full (s.emp ++ [x.t]) s.con).full.length fc', ev'] ∧ y.cell? ⟨bb, fl, none⟩ = some (ptr f)) w10 := ⟨P.out.1, P.out.2.2.2.2.2.2.2⟩
  have hne : Nonempty (Kept (fun y => Cel y W 61 #[pv', .slice (some ⟨bb, 0, none⟩) (PoS.mk (A ++ ⟨x.a, x.t, x.o, x.f⟩ :: C) s.full (s.emp ++ [x.t]) s.con).full.length fc', ev'] ∧ y.cell? ⟨bb, fl, none⟩ = some (ptr f))) := ⟨⟨w10, hS10⟩⟩
  have r1 : ∀ y : Kept (fun y => Cel y W 61 #[pv', .slice (some ⟨bb, 0, none⟩) (PoS.mk (A ++ ⟨x.a, x.t, x.o, x.f⟩ :: C) s.full (s.emp ++ [x.t]) s.con).full.length fc', ev'] ∧ y.cell? ⟨bb, fl, none⟩ = some (ptr f)), y.1.cell? ⟨W, 1, none⟩ = some (.slice (some ⟨bb, 0, none⟩) (fl + 1) fc') := fun y => (y.2.1.cell 1).trans (congrArg (fun n => some (Value.slice (some ⟨bb, 0, none⟩) n fc')) P.out.2.2.2.2.2.1)
  have r2 : ∀ y : Kept (fun y => Cel y W 61 #[pv', .slice (some ⟨bb, 0, none⟩) (PoS.mk (A ++ ⟨x.a, x.t, x.o, x.f⟩ :: C) s.full (s.emp ++ [x.t]) s.con).full.length fc', ev'] ∧ y.cell? ⟨bb, fl, none⟩ = some (ptr f)), y.1.cell? ⟨bb, fl, none⟩ = some (.pointer (some ⟨f, 0, none⟩)) := fun y => y.2.2
  clear p1 p2 p3 p4 p5 hlen hcell cfl hfc' m10 hx10 hfc
  refine wp_region_planZ [seg (fun y => Cel y W 61 #[pv', .slice (some ⟨bb, 0, none⟩) (PoS.mk (A ++ ⟨x.a, x.t, x.o, x.f⟩ :: C) s.full (s.emp ++ [x.t]) s.con).full.length fc', ev'] ∧ y.cell? ⟨bb, fl, none⟩ = some (ptr f)) [22] [0, 1, 2, 3, 4, 5, 6, 7, 8, 9, 10, 11, 12, 13, 14, 15, 16] [17, 18, 19, 20, 21, 22]] (by kernel_rfl) (by kernel_rfl) (fun _ _ _ _ _ h => h) ?_
  refine planZ_seg ⟨hS10.1.drew, hS10.2⟩ ?_
  show wpQuiet _ _ _ _ (List.filterMap _ _) _
  simp only [List.filterMap_cons, List.filterMap_nil, List.getElem?_toArray, List.getElem?_cons_zero, List.getElem?_cons_succ]
  show wpQuiet _ _ _ _ [_, _, _, _, _, _, _, _, _, _, _, _, _, _, _, _, _] _
  repeat (go_big_quiet_step (fail))
  refine wpQuiet_nil ?_
  clear r1 r2 hne hsl wq1 wq2 wq3 n1 n2 n3 hS10
  have hb11 : Below w10.heap.size w10 w10.drew := (Below.refl _ _).drew
  have h11 := h10.out.step hb11
  have lbb := World.block_lt_of_cell? w10 ⟨bb, fl, none⟩ P.out.2.2.2.2.2.2.2
  have P11 := Lib.hid (And.intro (P.out.1.ofBelow hb11) (And.intro (P.out.2.1.ofBelow hb11) (And.intro (P.out.2.2.1.ofBelow hb11) (And.intro (P.out.2.2.2.1.ofBelow hb11) (And.intro P.out.2.2.2.2.1 (And.intro (P.out.2.2.2.2.2.2.1.ofBelow hb11) (And.intro (show w10.drew.cell? ⟨bb, fl, none⟩ = some (ptr f) from P.out.2.2.2.2.2.2.2) (show bb < w10.drew.heap.size from lbb))))))))
  clear h10 P hb11 lbb
  generalize w10.drew = w11 at h11 P11 ⊢
  have hfin : f ∈ allB (PoS.mk (A ++ ⟨x.a, x.t, x.o, x.f⟩ :: C) s.full (s.emp ++ [x.t]) s.con) := by
    unfold allB
    show f ∈ _ ++ (s.full ++ _)
    rw [HF.out.1]; simp
  have h12 := h11.setO (x := { x with o := x.t, t := x.o }) rfl ⟨h11.bufs f hfin, h11.gB f hfin⟩
  have u12 : Upd (· = x.a) w11 (w11.setCell ⟨x.a, 0, none⟩ (ptr f)) := (Upd.refl (· = x.a) w11).sc (fun _ => rfl) _ _
  have hx11 := P11.out.2.2.2.2.2.1
  have y1 : Cel (w11.setCell ⟨x.a, 0, none⟩ (ptr f)) W 61 _ := u12.cel P11.out.1 (fun e => P11.out.1.ne hx11 (by decide) e)
  have y2 : (w11.setCell ⟨x.a, 0, none⟩ (ptr f)).cell? ⟨bb, fl, none⟩ = some (ptr f) :=
    (World.cell?_of_block (a := ⟨bb, fl, none⟩) (u12.block bb P11.out.2.2.2.2.2.2.2 (fun e => P11.out.2.2.1.typed hx11 (by decide) bb rfl e))).trans P11.out.2.2.2.2.2.2.1
  have h13 := h12.fullPop (F := F) (g := f) HF.out.1 y1 (by
      have := P11.out.2.1.upd u12 (P11.out.2.1.typed hx11 (by decide))
      simpa using this) (P11.out.2.2.1.upd u12 (P11.out.2.2.1.typed hx11 (by decide))) (P11.out.2.2.2.1.upd u12 (P11.out.2.2.2.1.typed hx11 (by decide))) P11.out.2.2.2.2.1
  rw [← HL.out.1] at h13
  have e1 := hx11.free 0
  have f1 : w11.cell? ⟨x.a, 0, none⟩ = some (.pointer (some ⟨x.t, 0, none⟩)) := hx11.cell 0
  have e2 := y1.free 1
  have f2 := y1.cell 1
  have H13 := Lib.hid (And.intro h13 hfin)
  have HS11 := Lib.hid (And.intro P11.out.1 P11.out.2.2.2.2.2.2.1)
  have HS12 := Lib.hid (And.intro y1 y2)
  clear h11 h12 h13 u12 hx11 y1 y2 P11 hfin
  unfold ptr at e1 f1 e2 f2 H13
  refine planZ_op (o := ⟨_, _, _, _, _, _⟩) rfl rfl fun K hK => ?_
  go_simp
  refine hK _ _ (fun _ => ⟨⟨_, HS11.out.1, HS11.out.2⟩, rfl⟩) ?_
  clear hK K
  refine planZ_op (o := ⟨_, _, _, _, _, _⟩) rfl rfl fun K hK => ?_
  go_simp
  refine hK _ _ (fun _ => ⟨⟨_, HS11.out.1, HS11.out.2⟩, rfl⟩) ?_
  clear hK K
  refine planZ_op (o := ⟨_, _, _, _, _, _⟩) rfl rfl fun K hK => ?_
  go_simp
  refine hK _ _ (fun _ => ⟨⟨_, HS12.out.1, HS12.out.2⟩, rfl⟩) ?_
  clear hK K
  refine planZ_op (o := ⟨_, _, _, _, _, _⟩) rfl rfl fun K hK => ?_
  go_simp
  refine hK _ _ (fun _ => ⟨⟨_, HS12.out.1, HS12.out.2⟩, rfl⟩) ?_
  clear hK K
  refine planZ_op (o := ⟨_, _, _, _, _, _⟩) rfl rfl fun K hK => ?_
  go_simp
  refine hK _ _ (fun _ => ⟨⟨_, HS12.out.1, HS12.out.2⟩, rfl⟩) ?_
  clear hK K
  refine planZ_op (o := ⟨_, _, _, _, _, _⟩) rfl rfl fun K hK => ?_
  go_simp
  refine hK _ _ (fun h => by cases h) ?_
  clear hK K
  unfold ChainZ PlanZ
  clear e1 f1 e2 f2 HS11 HS12
  generalize (w11.setCell ⟨x.a, 0, none⟩ (.pointer (some ⟨f, 0, none⟩))).setCell ⟨W, 1, none⟩ (.slice (some ⟨bb, 0, none⟩) fl fc') = w13 at H13 ⊢
  have m13 := H13.out.1.in (x := { x with o := f, t := x.o }) rfl
  have c13 : w13.cell? ⟨x.a, 0, none⟩ = some (ptr f) := (H13.out.1.pairs _ m13.1).cell 0
  have M13 := Lib.hid m13
  clear m13
  unfold ptr at c13
  go_wp2_with fail
  refine (bget_gen _ f _ (H13.out.1.bufs _ M13.out.2.1)).mono ?_
  rintro e w14 ⟨rfl, hb14, hu14⟩
  have h14 := Lib.hid (H13.out.1.buf (H13.out.1.bufs _ M13.out.2.1) hb14 hu14 (H13.out.1.gB _ M13.out.2.1))
  clear hb14 hu14 c13
  rw [show lastL (PoS.con _ f) = lastL (s.con f) from rfl]
  generalize hlv : lastL (s.con f) = lv
  have HLV := Lib.hid hlv
  clear hlv
  go_wp2_with fail
  go_ret2
  exact ⟨_, _, _, rfl, h14.out, .inr (.inr (.inr ⟨H.out.2.2.2.2.2.1, H.out.2.2.2.2.2.2, F, f, HF.out.1, HLV.out.symm, rfl, rfl⟩))⟩
theorem pool_get (h : Rep B w0 w W s) (hs : s.ps = A ++ x :: C) (hn : s.ps.length ≤ 64) (hlf : s.full.length ≤ 1000000) (hle : s.emp.length ≤ 1000000) :
    Calls Try.prog 24 #[ptr W, .int .i64 (A.length : Int)] w (GetR B w0 W s A x C) := by
  by_cases h1 : 0 < (s.con x.o).length
  · exact pool_get1 h hs hn h1
  · have h1' : s.con x.o = [] := List.eq_nil_of_length_eq_zero (by omega)
    by_cases h2 : 0 < (s.con x.t).length
    · exact pool_get2 h hs hn h1' h2
    · have h2' : s.con x.t = [] := List.eq_nil_of_length_eq_zero (by omega)
      rcases List.eq_nil_or_concat s.full with hf | ⟨F, f, hf⟩
      · exact pool_get3 h hs hn h1' h2' hf
      · rw [List.concat_eq_append] at hf
        exact pool_get4 h hs hn h1' h2' hf hlf hle
end
end Go.Proofs.Ytbcleeifkmjlmaa
