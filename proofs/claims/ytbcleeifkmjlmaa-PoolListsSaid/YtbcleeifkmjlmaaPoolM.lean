/-
  The pool's form in memory: Ps, buffers, the two common lists; and what a change of one block leaves of it.
-/
import Derived.Test.YtbcleeifkmjlmaaPtrs
namespace Go.Proofs.Ytbcleeifkmjlmaa
open Go.RowKit
set_option maxRecDepth 100000
set_option maxHeartbeats 1000000

/-- One P: its block, its two buffers' blocks, its flag. -/
structure PoP where
  a : Nat
  o : Nat
  t : Nat
  f : Bool
/-- A pool: its Ps, the full buffers, the empty ones, and what each buffer holds. -/
structure PoS where
  ps : List PoP
  full : List Nat
  emp : List Nat
  con : Nat → List Int
def bufsP (ps : List PoP) : List Nat := ps.flatMap fun x => [x.o, x.t]
def allB (s : PoS) : List Nat := bufsP s.ps ++ (s.full ++ s.emp)
def updC (con : Nat → List Int) (g : Nat) (l : List Int) : Nat → List Int := fun k => if k = g then l else con k
theorem bufsP_mem {ps : List PoP} {x : PoP} (h : x ∈ ps) : x.o ∈ bufsP ps ∧ x.t ∈ bufsP ps := by
  unfold bufsP
  exact ⟨List.mem_flatMap.2 ⟨x, h, by simp⟩, List.mem_flatMap.2 ⟨x, h, by simp⟩⟩
theorem bufsP_app (A C : List PoP) (x : PoP) : bufsP (A ++ x :: C) = bufsP A ++ (x.o :: x.t :: bufsP C) := by
  unfold bufsP; simp

section
variable {w w' : World}
/-- What else lies in memory stays. -/
def Keeps (w w' : World) : Prop := ∀ q t cs, Cel w q t cs → t ≠ 61 → t ≠ 64 → t ≠ 23 → t ≠ 56 → Cel w' q t cs
theorem Keeps.trans {w1 : World} (h : Keeps w w1) (k : Keeps w1 w') : Keeps w w' := fun q t cs hc h1 h2 h3 h4 => k q t cs (h q t cs hc h1 h2 h3 h4) h1 h2 h3 h4
theorem Keeps.ofBelow (hb : Below w.heap.size w w') : Keeps w w' := fun _ _ _ hc _ _ _ _ => hc.ofBelow hb
theorem Keeps.refl (w : World) : Keeps w w := fun _ _ _ hc _ _ _ _ => hc
theorem Keeps.pair {x : PoP} {cs0 : Array Value} (hx : Cel w x.a 64 cs0) (hu : Upd (· = x.a) w w') : Keeps w w' := fun _ _ _ hc _ h2 _ _ => hu.cel hc (fun e => hc.ne hx h2 e)
theorem Keeps.buf {g : Nat} {l : List Int} (hg : BufAt w g l) (hu : Upd (· = g) w w') : Keeps w w' := fun _ _ _ hc _ _ _ h4 => by
  obtain ⟨_, b1, _⟩ := hg
  exact hu.cel hc (fun e => hc.ne b1 h4 e)
theorem Keeps.lists {F : Nat → Prop} (hu : Upd F w w') (hF : ∀ q, F q → ∃ t cs, Cel w q t cs ∧ t ≠ 64 ∧ t ≠ 56 ∧ (t = 61 ∨ t = 23)) : Keeps w w' := fun q _ _ hc h1 _ h3 _ => hu.cel hc (fun e => by
  obtain ⟨t', cs', c1, _, _, rfl | rfl⟩ := hF q e
  · exact hc.ne c1 h1 rfl
  · exact hc.ne c1 h3 rfl)
end

/-- The pool at W: every block of it lies from B on; nothing below B has turned since w0. -/
structure Rep (B : Nat) (w0 w : World) (W : Nat) (s : PoS) : Prop where
  pool : ∃ pv fv ev, Cel w W 61 #[pv, fv, ev] ∧ OwnP w B 62 pv (s.ps.map (·.a)) ∧ OwnP w B 23 fv s.full ∧ OwnP w B 23 ev s.emp ∧ Dis fv ev
  pairs : ∀ x ∈ s.ps, Cel w x.a 64 #[ptr x.o, ptr x.t, .bool x.f]
  bufs : ∀ g ∈ allB s, BufAt w g (s.con g)
  pa : (s.ps.map (·.a)).Nodup
  WB : B ≤ W
  aB : ∀ x ∈ s.ps, B ≤ x.a
  gB : ∀ g ∈ allB s, B ≤ g
  size : B ≤ w.heap.size
  below : Below B w0 w ∧ Keeps w0 w

section
variable {B : Nat} {w0 w w' : World} {W : Nat} {s : PoS} {A C : List PoP} {x : PoP}
theorem BufAt.ofBelow {g : Nat} {l : List Int} (h : BufAt w g l) (hb : Below w.heap.size w w') : BufAt w' g l := h.upd (F := fun _ => False) (Upd.ofBelow hb) (fun h => h)
theorem Rep.step (h : Rep B w0 w W s) (hb : Below w.heap.size w w') : Rep B w0 w' W s := by
  obtain ⟨pv, fv, ev, p1, p2, p3, p4, p5⟩ := h.pool
  exact ⟨⟨pv, fv, ev, p1.ofBelow hb, p2.ofBelow hb, p3.ofBelow hb, p4.ofBelow hb, p5⟩, fun x hx => (h.pairs x hx).ofBelow hb, fun g hg => (h.bufs g hg).ofBelow hb, h.pa, h.WB, h.aB, h.gB, Nat.le_trans h.size hb.size, ⟨bstep h.below.1 hb h.size, h.below.2.trans (Keeps.ofBelow hb)⟩⟩
/-- One P's block turns. -/
theorem Rep.pair (h : Rep B w0 w W s) (hs : s.ps = A ++ x :: C) {o t : Nat} {f : Bool} (hc : Cel w' x.a 64 #[ptr o, ptr t, .bool f]) (hu : Upd (· = x.a) w w') (h1 : BufAt w o (s.con o) ∧ B ≤ o) (h2 : BufAt w t (s.con t) ∧ B ≤ t) :
    Rep B w0 w' W { s with ps := A ++ { x with o := o, t := t, f := f } :: C } := by
  obtain ⟨pv, fv, ev, p1, p2, p3, p4, p5⟩ := h.pool
  have hx := h.pairs x (by rw [hs]; simp)
  have hxB := h.aB x (by rw [hs]; simp)
  have hpa := h.pa
  rw [hs] at hpa
  have hne : ∀ y, y ∈ A ∨ y ∈ C → y.a ≠ x.a := fun y hy e => by
    rw [List.map_append, List.map_cons, List.nodup_append] at hpa
    obtain ⟨_, h2, h3⟩ := hpa
    rcases hy with hy | hy
    · exact h3 y.a (List.mem_map_of_mem hy) x.a (by simp) e
    · exact (List.nodup_cons.1 h2).1 (by rw [← e]; exact List.mem_map_of_mem hy)
  have hbuf : ∀ g, BufAt w g (s.con g) → BufAt w' g (s.con g) := fun g hg => by
    have hg' := hg
    obtain ⟨_, b1, _⟩ := hg'
    exact hg.upd hu (fun e => b1.ne hx (by decide) e)
  have hmem : ∀ g ∈ allB { s with ps := A ++ { x with o := o, t := t, f := f } :: C }, g = o ∨ g = t ∨ g ∈ allB s := fun g hg => by
    unfold allB at *
    rw [hs]
    rw [bufsP_app] at hg ⊢
    simp only [List.mem_append, List.mem_cons] at hg ⊢
    rcases hg with (h | h | h | h) | h
    · exact .inr (.inr (.inl (.inl h)))
    · exact .inl h
    · exact .inr (.inl h)
    · exact .inr (.inr (.inl (.inr (.inr (.inr h)))))
    · exact .inr (.inr (.inr h))
  refine ⟨⟨pv, fv, ev, hu.cel p1 (fun e => p1.ne hx (by decide) e), ?_, p3.upd hu (p3.typed hx (by decide)), p4.upd hu (p4.typed hx (by decide)), p5⟩, fun y hy => ?_, fun g hg => ?_, ?_, h.WB, fun y hy => ?_, fun g hg => ?_, Nat.le_trans h.size hu.size, ⟨below_upd h.below.1 hu h.size (fun q e => by omega), h.below.2.trans (Keeps.pair hx hu)⟩⟩
  · have e : (A ++ { x with o := o, t := t, f := f } :: C).map (·.a) = s.ps.map (·.a) := by rw [hs]; simp
    show OwnP w' B _ pv ((A ++ { x with o := o, t := t, f := f } :: C).map (·.a))
    rw [e]
    exact p2.upd hu (p2.typed hx (by decide))
  · rcases List.mem_append.1 hy with hy | hy
    · exact hu.cel (h.pairs y (by rw [hs]; simp [hy])) (hne y (.inl hy))
    · rcases List.mem_cons.1 hy with rfl | hy
      · exact hc
      · exact hu.cel (h.pairs y (by rw [hs]; simp [hy])) (hne y (.inr hy))
  · rcases hmem g hg with rfl | rfl | hg
    · exact hbuf _ h1.1
    · exact hbuf _ h2.1
    · exact hbuf g (h.bufs g hg)
  · show ((A ++ { x with o := o, t := t, f := f } :: C).map (·.a)).Nodup
    simpa using hpa
  · rcases List.mem_append.1 hy with hy | hy
    · exact h.aB y (by rw [hs]; simp [hy])
    · rcases List.mem_cons.1 hy with rfl | hy
      · exact hxB
      · exact h.aB y (by rw [hs]; simp [hy])
  · rcases hmem g hg with rfl | rfl | hg
    · exact h1.2
    · exact h2.2
    · exact h.gB g hg
/-- One buffer turns. -/
theorem Rep.buf (h : Rep B w0 w W s) {g : Nat} {l l0 : List Int} (h0 : BufAt w g l0) (hg : BufAt w' g l) (hu : Upd (· = g) w w') (hB : B ≤ g) : Rep B w0 w' W { s with con := updC s.con g l } := by
  obtain ⟨pv, fv, ev, p1, p2, p3, p4, p5⟩ := h.pool
  have h00 := h0
  obtain ⟨_, b1, _⟩ := h0
  refine ⟨⟨pv, fv, ev, hu.cel p1 (fun e => p1.ne b1 (by decide) e), p2.upd hu (p2.typed b1 (by decide)), p3.upd hu (p3.typed b1 (by decide)), p4.upd hu (p4.typed b1 (by decide)), p5⟩, fun y hy => ?_, fun k hk => ?_, h.pa, h.WB, h.aB, h.gB, Nat.le_trans h.size hu.size, ⟨below_upd h.below.1 hu h.size (fun q e => by omega), h.below.2.trans (Keeps.buf h00 hu)⟩⟩
  · have hy' := h.pairs y hy
    exact hu.cel hy' (fun e => hy'.ne b1 (by decide) e)
  · show BufAt w' k (updC s.con g l k)
    unfold updC
    by_cases e : k = g
    · rw [if_pos e, e]; exact hg
    · rw [if_neg e]; exact (h.bufs k hk).upd hu e
/-- The common lists turn. -/
theorem Rep.lists (h : Rep B w0 w W s) {pv fv ev : Value} {full emp : List Nat} {con : Nat → List Int} {F : Nat → Prop} (hc : Cel w' W 61 #[pv, fv, ev]) (hpv : OwnP w' B 62 pv (s.ps.map (·.a))) (hfv : OwnP w' B 23 fv full) (hev : OwnP w' B 23 ev emp) (hd : Dis fv ev)
    (hu : Upd F w w') (hF : ∀ q, F q → B ≤ q ∧ ∃ t cs, Cel w q t cs ∧ t ≠ 64 ∧ t ≠ 56 ∧ (t = 61 ∨ t = 23)) (hcon : ∀ g ∈ allB s, con g = s.con g) (hb : ∀ g, (g ∈ full ∨ g ∈ emp) → BufAt w' g (con g) ∧ B ≤ g) :
    Rep B w0 w' W { s with full := full, emp := emp, con := con } := by
  have hps : ∀ g ∈ bufsP s.ps, BufAt w' g (con g) ∧ B ≤ g := fun g hg => by
    have hg' : g ∈ allB s := by unfold allB; simp [hg]
    have h1 := h.bufs g hg'
    have h1' := h1
    obtain ⟨_, b1, _⟩ := h1'
    rw [hcon g hg']
    exact ⟨h1.upd hu (fun e => by obtain ⟨_, t, cs, c1, _, c3, _⟩ := hF _ e; exact c1.ne b1 c3 rfl), h.gB g hg'⟩
  have hall : ∀ g ∈ allB { s with full := full, emp := emp, con := con }, BufAt w' g (con g) ∧ B ≤ g := fun g hg => by
    unfold allB at hg
    rcases List.mem_append.1 hg with hg | hg
    · exact hps g hg
    · exact hb g (List.mem_append.1 hg)
  refine ⟨⟨pv, fv, ev, hc, hpv, hfv, hev, hd⟩, fun y hy => ?_, fun g hg => (hall g hg).1, h.pa, h.WB, h.aB, fun g hg => (hall g hg).2, Nat.le_trans h.size hu.size, ⟨below_upd h.below.1 hu h.size (fun q e => (hF q e).1), h.below.2.trans (Keeps.lists hu fun q e => (hF q e).2)⟩⟩
  have hy' := h.pairs y hy
  exact hu.cel hy' (fun e => by obtain ⟨_, t, cs, c1, c2, _⟩ := hF _ e; exact c1.ne hy' c2 rfl)
end
end Go.Proofs.Ytbcleeifkmjlmaa
