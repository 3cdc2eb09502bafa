/-
  The pool: what an append to a common list leaves of it; fresh, give: contracts.
-/
import Derived.Test.YtbcleeifkmjlmaaPoolW
namespace Go.Proofs.Ytbcleeifkmjlmaa
open Go.RowKit
set_option maxRecDepth 100000
set_option maxHeartbeats 1000000

section
variable {B : Nat} {w0 w w' : World} {W : Nat} {s : PoS} {A C : List PoP} {x : PoP}
theorem Rep.fullPut (h : Rep B w0 w W s) {pv fv ev v5 : Value} {b : Nat} (o : Obj) (p1 : Cel w W 61 #[pv, fv, ev]) (p2 : OwnP w B 62 pv (s.ps.map (·.a))) (p3 : OwnP w B 23 fv s.full) (p4 : OwnP w B 23 ev s.emp) (p5 : Dis fv ev)
    (hv5 : OwnP w' B 23 v5 (s.full ++ [b])) (hg : (w.alloc o).grownBy w' fv.ownBlock) (hat : v5.ownBlock = fv.ownBlock ∨ v5.ownBlock = some (w.alloc o).heap.size) (hb : BufAt w b (s.con b)) (hbB : B ≤ b) :
    Rep B w0 (w'.setCell ⟨W, 1, none⟩ v5) W { s with full := s.full ++ [b] } ∧ Upd (fun q => q = W ∨ fv.ownBlock = some q) w (w'.setCell ⟨W, 1, none⟩ v5) ∧ Cel w' W 61 #[pv, fv, ev] := by
  have hu0 : Upd (fun q => q = W ∨ fv.ownBlock = some q) w w' := ((Upd.refl _ w).alloc o).grown hg (fun q hq _ => .inr hq)
  have hu : Upd (fun q => q = W ∨ fv.ownBlock = some q) w (w'.setCell ⟨W, 1, none⟩ v5) := hu0.sc (g := W) (fun _ => .inl rfl) _ _
  have p1' : Cel w' W 61 #[pv, fv, ev] := ((Upd.refl (fun q => fv.ownBlock = some q) w).alloc o).grown hg (fun q hq _ => hq) |>.cel p1 (fun e => p3.typed p1 (by decide) _ e rfl)
  have hd5 : Dis v5 ev := fun q hq hq' => by
    rcases hat with e | e
    · exact p5 q (e.symm.trans hq) hq'
    · have h1 : (w.alloc o).heap.size = q := Option.some.inj (e.symm.trans hq)
      have h2 := (p4.ge q hq').2
      simp at h1
      omega
  have keepT : ∀ q t cs, Cel w q t cs → t ≠ 61 → t ≠ 23 → Cel (w'.setCell ⟨W, 1, none⟩ v5) q t cs := fun q t cs hc h1 h2 => hu.cel hc (fun e => by
    rcases e with rfl | e
    · exact hc.ne p1 h1 rfl
    · exact p3.typed hc h2 _ e rfl)
  have keepB : ∀ g l, BufAt w g l → BufAt (w'.setCell ⟨W, 1, none⟩ v5) g l := fun g l hl => by
    obtain ⟨cs, c1, c2⟩ := hl
    exact ⟨cs, keepT _ _ _ c1 (by decide) (by decide), c2⟩
  have hin : ∀ g, (g ∈ s.full ∨ g ∈ s.emp) → g ∈ allB s := fun g hg => List.mem_append_right _ (List.mem_append.2 hg)
  have keep : ∀ g, g ∈ allB s → BufAt (w'.setCell ⟨W, 1, none⟩ v5) g (s.con g) ∧ B ≤ g := fun g hg => ⟨keepB g _ (h.bufs g hg), h.gB g hg⟩
  have bkeep := keepB b _ hb
  have hf5 : OwnP (w'.setCell ⟨W, 1, none⟩ v5) B 23 v5 (s.full ++ [b]) := hv5.upd (F := (· = W)) ((Upd.refl (· = W) w').sc (fun _ => rfl) _ _) (hv5.typed p1' (by decide))
  have ho5 : OwnP (w'.setCell ⟨W, 1, none⟩ v5) B 23 ev s.emp := p4.upd hu (fun q hq e => by
    rcases e with rfl | e
    · exact p4.typed p1 (by decide) _ hq rfl
    · exact p5 q e hq)
  have hp5 : OwnP (w'.setCell ⟨W, 1, none⟩ v5) B 62 pv (s.ps.map (·.a)) := p2.upd hu (fun q hq e => by
    rcases e with rfl | e
    · exact p2.typed p1 (by decide) _ hq rfl
    · rcases p3.blk with ⟨e', _⟩ | ⟨g, cap, cs, e', _, c1, _⟩
      · rw [e'] at e; cases e
      · rw [e'] at e
        have : g = q := Option.some.inj e
        subst this
        exact p2.typed c1 (by decide) _ hq rfl)
  have hc5 : Cel (w'.setCell ⟨W, 1, none⟩ v5) W 61 #[pv, v5, ev] := p1'.put 1 v5
  refine ⟨h.lists (con := s.con) (full := s.full ++ [b]) (emp := s.emp) hc5 hp5 hf5 ho5 hd5 hu ?_ (fun _ _ => rfl) ?_, hu, p1'⟩
  · rintro q (rfl | e)
    · exact ⟨h.WB, _, _, p1, by decide, by decide, .inl rfl⟩
    · rcases p3.blk with ⟨e', _⟩ | ⟨g, cap, cs, e', gB, c1, _⟩
      · rw [e'] at e; cases e
      · rw [e'] at e
        have : g = q := Option.some.inj e
        subst this
        exact ⟨gB, _, _, c1, by decide, by decide, .inr rfl⟩
  · intro g hg
    rcases hg with hg | hg
    · rcases List.mem_append.1 hg with hg | hg
      · exact keep g (hin g (.inl hg))
      · rw [List.mem_singleton.1 hg]; exact ⟨bkeep, hbB⟩
    · exact keep g (hin g (.inr hg))
theorem Rep.empPut (h : Rep B w0 w W s) {pv fv ev v5 : Value} {b : Nat} (o : Obj) (p1 : Cel w W 61 #[pv, fv, ev]) (p2 : OwnP w B 62 pv (s.ps.map (·.a))) (p3 : OwnP w B 23 fv s.full) (p4 : OwnP w B 23 ev s.emp) (p5 : Dis fv ev)
    (hv5 : OwnP w' B 23 v5 (s.emp ++ [b])) (hg : (w.alloc o).grownBy w' ev.ownBlock) (hat : v5.ownBlock = ev.ownBlock ∨ v5.ownBlock = some (w.alloc o).heap.size) (hb : BufAt w b (s.con b)) (hbB : B ≤ b) :
    Rep B w0 (w'.setCell ⟨W, 2, none⟩ v5) W { s with emp := s.emp ++ [b] } ∧ Upd (fun q => q = W ∨ ev.ownBlock = some q) w (w'.setCell ⟨W, 2, none⟩ v5) ∧ Cel w' W 61 #[pv, fv, ev] := by
  have hu0 : Upd (fun q => q = W ∨ ev.ownBlock = some q) w w' := ((Upd.refl _ w).alloc o).grown hg (fun q hq _ => .inr hq)
  have hu : Upd (fun q => q = W ∨ ev.ownBlock = some q) w (w'.setCell ⟨W, 2, none⟩ v5) := hu0.sc (g := W) (fun _ => .inl rfl) _ _
  have p1' : Cel w' W 61 #[pv, fv, ev] := ((Upd.refl (fun q => ev.ownBlock = some q) w).alloc o).grown hg (fun q hq _ => hq) |>.cel p1 (fun e => p4.typed p1 (by decide) _ e rfl)
  have hd5 : Dis v5 fv := fun q hq hq' => by
    rcases hat with e | e
    · exact p5.symm q (e.symm.trans hq) hq'
    · have h1 : (w.alloc o).heap.size = q := Option.some.inj (e.symm.trans hq)
      have h2 := (p3.ge q hq').2
      simp at h1
      omega
  have keepT : ∀ q t cs, Cel w q t cs → t ≠ 61 → t ≠ 23 → Cel (w'.setCell ⟨W, 2, none⟩ v5) q t cs := fun q t cs hc h1 h2 => hu.cel hc (fun e => by
    rcases e with rfl | e
    · exact hc.ne p1 h1 rfl
    · exact p4.typed hc h2 _ e rfl)
  have keepB : ∀ g l, BufAt w g l → BufAt (w'.setCell ⟨W, 2, none⟩ v5) g l := fun g l hl => by
    obtain ⟨cs, c1, c2⟩ := hl
    exact ⟨cs, keepT _ _ _ c1 (by decide) (by decide), c2⟩
  have hin : ∀ g, (g ∈ s.full ∨ g ∈ s.emp) → g ∈ allB s := fun g hg => List.mem_append_right _ (List.mem_append.2 hg)
  have keep : ∀ g, g ∈ allB s → BufAt (w'.setCell ⟨W, 2, none⟩ v5) g (s.con g) ∧ B ≤ g := fun g hg => ⟨keepB g _ (h.bufs g hg), h.gB g hg⟩
  have bkeep := keepB b _ hb
  have hf5 : OwnP (w'.setCell ⟨W, 2, none⟩ v5) B 23 v5 (s.emp ++ [b]) := hv5.upd (F := (· = W)) ((Upd.refl (· = W) w').sc (fun _ => rfl) _ _) (hv5.typed p1' (by decide))
  have ho5 : OwnP (w'.setCell ⟨W, 2, none⟩ v5) B 23 fv s.full := p3.upd hu (fun q hq e => by
    rcases e with rfl | e
    · exact p3.typed p1 (by decide) _ hq rfl
    · exact p5.symm q e hq)
  have hp5 : OwnP (w'.setCell ⟨W, 2, none⟩ v5) B 62 pv (s.ps.map (·.a)) := p2.upd hu (fun q hq e => by
    rcases e with rfl | e
    · exact p2.typed p1 (by decide) _ hq rfl
    · rcases p4.blk with ⟨e', _⟩ | ⟨g, cap, cs, e', _, c1, _⟩
      · rw [e'] at e; cases e
      · rw [e'] at e
        have : g = q := Option.some.inj e
        subst this
        exact p2.typed c1 (by decide) _ hq rfl)
  have hc5 : Cel (w'.setCell ⟨W, 2, none⟩ v5) W 61 #[pv, fv, v5] := p1'.put 2 v5
  refine ⟨h.lists (con := s.con) (full := s.full) (emp := s.emp ++ [b]) hc5 hp5 ho5 hf5 hd5.symm hu ?_ (fun _ _ => rfl) ?_, hu, p1'⟩
  · rintro q (rfl | e)
    · exact ⟨h.WB, _, _, p1, by decide, by decide, .inl rfl⟩
    · rcases p4.blk with ⟨e', _⟩ | ⟨g, cap, cs, e', gB, c1, _⟩
      · rw [e'] at e; cases e
      · rw [e'] at e
        have : g = q := Option.some.inj e
        subst this
        exact ⟨gB, _, _, c1, by decide, by decide, .inr rfl⟩
  · intro g hg
    rcases hg with hg | hg
    · exact keep g (hin g (.inl hg))
    · rcases List.mem_append.1 hg with hg | hg
      · exact keep g (hin g (.inr hg))
      · rw [List.mem_singleton.1 hg]; exact ⟨bkeep, hbB⟩

/-- What fresh hands back. -/
def FreshR (B : Nat) (w0 w : World) (W : Nat) (s : PoS) (e : Ending) (w' : World) : Prop :=
  ∃ g emp, e = .returned (ptr g) ∧ BufAt w' g [] ∧ B ≤ g ∧ Rep B w0 w' W { s with emp := emp } ∧ Keeps w w' ∧ (∀ q cs, Cel w q 64 cs → Cel w' q 64 cs) ∧ (s.emp = emp ++ [g] ∨ (s.emp = [] ∧ emp = [] ∧ w.heap.size ≤ g))
theorem pool_fresh_new (h : Rep B w0 w W s) (he : s.emp = []) :
    Calls Try.prog 34 #[ptr W] w (FreshR B w0 w W s) := by
  obtain ⟨pv, fv, ev, p1, _, _, p4, _⟩ := h.pool
  obtain ⟨ea, ec, rfl, _⟩ := p4.form
  have c2 : w.cell? ⟨W, 2, none⟩ = some (.slice ea 0 ec) := by rw [show (0 : Nat) = s.emp.length by rw [he]; rfl]; exact p1.cell 2
  have H := Lib.hid (And.intro h he)
  clear h he p1 p4
  unfold ptr at *
  go_enter Try.func34, Try.ntmps34
  go_wp2_with fail
  refine (bnew_any _).mono ?_
  rintro e w1 ⟨rfl, hA, hb⟩
  have H1 := Lib.hid (And.intro hA hb)
  clear hA hb
  go_wp2_with fail
  go_ret
  have hs : ({ s with emp := [] } : PoS) = s := by rw [← H.out.2]
  exact ⟨w.heap.size, [], rfl, H1.out.1, H.out.1.size, by rw [hs]; exact H.out.1.step H1.out.2, Keeps.ofBelow H1.out.2, fun q cs hc => hc.ofBelow H1.out.2, .inr ⟨H.out.2, rfl, Nat.le_refl _⟩⟩
theorem pool_fresh_pop (h : Rep B w0 w W s) {E : List Nat} {g : Nat} (he : s.emp = E ++ [g]) (hg0 : s.con g = []) (hlen : E.length ≤ 1000000) :
    Calls Try.prog 34 #[ptr W] w (FreshR B w0 w W s) := by
  obtain ⟨pv, fv, ev, p1, p2, p3, p4, p5⟩ := h.pool
  have hl : s.emp.length = E.length + 1 := by rw [he]; simp
  obtain ⟨b, ec, rfl, hec, hcell⟩ := p4.at (by omega)
  have c3 := hcell E.length (by omega)
  rw [show s.emp.getD E.length 0 = g by rw [he]; simp] at c3
  have c2 : w.cell? ⟨W, 2, none⟩ = some (.slice (some ⟨b, 0, none⟩) (E.length + 1) ec) := by rw [← hl]; exact p1.cell 2
  have e2 := p1.free 2
  have hsl := pslice_to (some ⟨b, 0, none⟩) (E.length + 1) ec E.length (by omega) (by omega)
  have hd : Dis fv (.slice (some ⟨b, 0, none⟩) E.length ec) := fun q h1 h2 => p5 q h1 (by rw [← h2]; rfl)
  have p4' := p4.take E.length (by omega) _ ec rfl
  rw [show s.emp.take E.length = E by rw [he]; simp] at p4'
  have hu : Upd (· = W) w (w.setCell ⟨W, 2, none⟩ (.slice (some ⟨b, 0, none⟩) E.length ec)) := (Upd.refl (· = W) w).sc (fun _ => rfl) _ _
  have hgin : g ∈ allB s := by unfold allB; rw [he]; simp
  have hgb := h.bufs g hgin
  rw [hg0] at hgb
  have keepB : ∀ g l, BufAt w g l → BufAt (w.setCell ⟨W, 2, none⟩ (.slice (some ⟨b, 0, none⟩) E.length ec)) g l := fun g l hl => by
    obtain ⟨cs, c1, c2⟩ := hl
    exact ⟨cs, hu.cel c1 (fun e => c1.ne p1 (by decide) e), c2⟩
  have hR : Rep B w0 (w.setCell ⟨W, 2, none⟩ (.slice (some ⟨b, 0, none⟩) E.length ec)) W { s with emp := E } :=
    h.lists (con := s.con) (full := s.full) (emp := E) (p1.put 2 _) (p2.upd hu (p2.typed p1 (by decide))) (p3.upd hu (p3.typed p1 (by decide))) (p4'.upd hu (p4'.typed p1 (by decide))) hd hu
      (fun q hq => by subst hq; exact ⟨h.WB, _, _, p1, by decide, by decide, .inl rfl⟩) (fun _ _ => rfl) (fun g hg => by
        have : g ∈ allB s := by
          unfold allB; rw [he]
          rcases hg with hg | hg <;> simp [hg]
        exact ⟨keepB g _ (h.bufs g this), h.gB g this⟩)
  have H := Lib.hid (And.intro h (And.intro he (And.intro hR (And.intro (keepB g _ hgb) (And.intro hgin (And.intro p1 hu))))))
  obtain ⟨k, hk⟩ : ∃ k, k = E.length := ⟨_, rfl⟩
  rw [← hk] at c3 c2 hsl hlen H
  have i0 : ((k + 1 : Nat) : Int) - 1 = (k : Int) := by omega
  have i00 : (k : Int) + 1 - 1 = (k : Int) := by omega
  have i1 : (0 : Int) ≤ (k : Int) := by omega
  have i2 : (k : Int) < ((k + 1 : Nat) : Int) := by omega
  have i3 : (((k + 1 : Nat) : Int) == 0) = false := by simp; omega
  clear h he hg0 p1 p2 p3 p4 p5 hl hcell hec hd p4' hu hgin hgb keepB hR hk
  unfold ptr at *
  go_enter Try.func34, Try.ntmps34
  go_wp2
  go_ret
  obtain ⟨h, he, hR, hgb, hgin, p1, hu⟩ := H.out
  exact ⟨g, E, rfl, hgb, h.gB g hgin, hR, fun q t cs hc h1 _ _ _ => hu.cel hc (fun e => hc.ne p1 h1 e), fun q cs hc => hu.cel hc (fun e => hc.ne p1 (by decide) e), .inl he⟩
theorem pool_fresh (h : Rep B w0 w W s) (hE : ∀ g ∈ s.emp, s.con g = []) (hlen : s.emp.length ≤ 1000000) :
    Calls Try.prog 34 #[ptr W] w (FreshR B w0 w W s) := by
  rcases List.eq_nil_or_concat s.emp with he | ⟨E, g, he⟩
  · exact pool_fresh_new h he
  · rw [List.concat_eq_append] at he
    exact pool_fresh_pop h he (hE g (by rw [he]; simp)) (by rw [he] at hlen; simp at hlen; omega)

theorem pool_give (h : Rep B w0 w W s) (hs : s.ps = A ++ x :: C) {b : Nat} (hb : BufAt w b (s.con b)) (hbB : B ≤ b) (hlen : s.full.length ≤ 1000000) :
    Calls Try.prog 33 #[ptr W, ptr x.a, ptr b] w fun e w' => (∃ v, e = .returned v) ∧ Rep B w0 w' W { s with full := s.full ++ [b], ps := A ++ { x with f := true } :: C } ∧ Keeps w w' := by
  obtain ⟨pv, fv, ev, p1, p2, p3, p4, p5⟩ := h.pool
  obtain ⟨fa, fc, rfl, _⟩ := p3.form
  obtain ⟨fl, hfl⟩ : ∃ fl, fl = s.full.length := ⟨_, rfl⟩
  rw [← hfl] at p1 p3 p5 hlen
  have c1 : w.cell? ⟨W, 1, none⟩ = some (.slice fa fl fc) := p1.cell 1
  have hx := h.pairs x (by rw [hs]; simp)
  have hx' : x ∈ s.ps := by rw [hs]; simp
  have hm := bufsP_mem hx'
  have ho : x.o ∈ allB s := List.mem_append_left _ hm.1
  have ht : x.t ∈ allB s := List.mem_append_left _ hm.2
  have H := Lib.hid (And.intro h (And.intro hs (And.intro hb (And.intro hbB (And.intro p1 (And.intro p2 (And.intro p3 (And.intro p4 (And.intro p5 (And.intro hfl (And.intro hx (And.intro ho ht))))))))))))
  clear h hs hb hbB p1 p2 p3 p4 p5 hfl hx ho ht hm hx'
  unfold ptr
  go_enter Try.func33, Try.ntmps33
  go_wp2_with (at_builtin; go_loud (refine wpList_append_ptr (st := 59) (k := w.heap.size) (g := b) (l := s.full) rfl (.tmp 11) (.tmp 13) rfl rfl rfl Try.underlying59 info_buf_ptr (H.out.2.2.2.2.2.2.1.alloc _) ((Cel.born w 23 #[ptr b]).cell 0) (by have := H.out.1.size; simp; omega) H.out.2.2.2.2.2.2.2.2.2.1.symm hlen ?_; intro a5 c5 w5 hown5 hg5 hat5; obtain ⟨k1, k2, k3⟩ := H.out.1.fullPut _ H.out.2.2.2.2.1 H.out.2.2.2.2.2.1 H.out.2.2.2.2.2.2.1 H.out.2.2.2.2.2.2.2.1 H.out.2.2.2.2.2.2.2.2.1 hown5 hg5 hat5 H.out.2.2.1 H.out.2.2.2.1; have d1 := k3.cell 1; have d2 := k3.free 1; have hxx := k1.pairs x (by show x ∈ s.ps; rw [H.out.2.1]; simp); have d3 : (w5.setCell ⟨W, 1, none⟩ (.slice a5 (fl + 1) c5)).cell? ⟨x.a, 2, none⟩ = some (.bool x.f) := hxx.cell 2; have d4 := hxx.free 2; have K := Lib.hid (And.intro k1 (And.intro k2 hxx)); clear k1 k2 k3 hxx hown5 hg5 hat5))
  go_end0
  obtain ⟨k1, k2, hxx⟩ := K.out
  have hx1 : x ∈ ({ s with full := s.full ++ [b] } : PoS).ps := by show x ∈ s.ps; rw [H.out.2.1]; simp
  have hm1 := bufsP_mem hx1
  have ho1 : x.o ∈ allB { s with full := s.full ++ [b] } := List.mem_append_left _ hm1.1
  have ht1 : x.t ∈ allB { s with full := s.full ++ [b] } := List.mem_append_left _ hm1.2
  have hu1 : Upd (· = x.a) (w5.setCell ⟨W, 1, none⟩ (.slice a5 (fl + 1) c5)) ((w5.setCell ⟨W, 1, none⟩ (.slice a5 (fl + 1) c5)).setCell ⟨x.a, 2, none⟩ (.bool true)) := (Upd.refl (· = x.a) _).sc (fun _ => rfl) _ _
  refine ⟨⟨_, rfl⟩, k1.pair (s := { s with full := s.full ++ [b] }) H.out.2.1 (hxx.put 2 _) hu1 ⟨k1.bufs _ ho1, k1.gB _ ho1⟩ ⟨k1.bufs _ ht1, k1.gB _ ht1⟩, Keeps.trans (fun q t cs hc h1 h2 h3 h4 => k2.cel hc (fun e => ?_)) (Keeps.pair hxx hu1)⟩
  rcases e with rfl | e
  · exact hc.ne H.out.2.2.2.2.1 h1 rfl
  · exact H.out.2.2.2.2.2.2.1.typed hc h3 _ e rfl
end
end Go.Proofs.Ytbcleeifkmjlmaa
