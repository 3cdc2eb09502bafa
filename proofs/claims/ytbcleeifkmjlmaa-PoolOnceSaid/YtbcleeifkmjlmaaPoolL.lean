/-
  The pool: Len, Flush: contracts over addresses.
-/
import Derived.Test.YtbcleeifkmjlmaaPoolN
namespace Go.Proofs.Ytbcleeifkmjlmaa
open Go.RowKit
set_option maxRecDepth 100000
set_option maxHeartbeats 2000000

section
variable {B : Nat} {w0 w w' : World} {W : Nat} {s : PoS} {A C : List PoP} {x : PoP}
def sumL (con : Nat → List Int) (l : List Nat) : Nat := (l.map fun g => (con g).length).sum
theorem sumL_app (con : Nat → List Int) (l m : List Nat) : sumL con (l ++ m) = sumL con l + sumL con m := by unfold sumL; simp
theorem sumL_le {con : Nat → List Int} : ∀ {l : List Nat}, (∀ g ∈ l, (con g).length ≤ 32) → sumL con l ≤ 32 * l.length
  | [], _ => by simp [sumL]
  | g :: l, h => by
    have h1 := h g (by simp)
    have h2 := sumL_le (l := l) (fun k hk => h k (by simp [hk]))
    have e : sumL con (g :: l) = (con g).length + sumL con l := by simp [sumL]
    rw [e, List.length_cons]; omega
theorem bufsP_take {ps : List PoP} {i : Nat} {x : PoP} {C : List PoP} (h : ps = ps.take i ++ x :: C) (hi : i < ps.length) : bufsP (ps.take (i + 1)) = bufsP (ps.take i) ++ [x.o, x.t] := by
  have e : ps.take (i + 1) = ps.take i ++ [x] := by
    rw [List.take_succ_eq_append_getElem hi]
    congr 2
    have : ps[i]? = some x := by
      rw [h, List.getElem?_append_right (by simp; omega)]
      simp [Nat.min_eq_left (Nat.le_of_lt hi)]
    rw [List.getElem?_eq_getElem hi] at this
    exact Option.some.inj this
  rw [e]; unfold bufsP; simp
theorem split_at {ps : List PoP} {i : Nat} (hi : i < ps.length) : ∃ x C, ps = ps.take i ++ x :: C ∧ (ps.take i).length = i :=
  ⟨ps[i], ps.drop (i + 1), by rw [List.getElem_cons_drop, List.take_append_drop], by simp; omega⟩
theorem bufsP_len (ps : List PoP) : (bufsP ps).length = 2 * ps.length := by
  unfold bufsP
  induction ps with
  | nil => rfl
  | cons x ps ih => rw [List.flatMap_cons, List.length_append, ih]; simp; omega

theorem pool_len_nil (w : World) :
    Calls Try.prog 29 #[.pointer none] w fun e w' => e = .returned (.int .i64 0) ∧ w = w' := by
  go_enter Try.func29, Try.ntmps29
  go_wp2
  go_ret
  exact ⟨rfl, rfl⟩
theorem pool_len (h : Rep B w0 w W s) (hn : s.ps.length ≤ 64) (hlf : s.full.length ≤ 1000000) :
    Calls Try.prog 29 #[ptr W] w fun e w' => e = .returned (.int .i64 (sumL s.con (bufsP s.ps) + sumL s.con s.full : Nat)) ∧ Below w.heap.size w w' := by
  obtain ⟨pv, fv, ev, p1, p2, p3, p4, p5⟩ := h.pool
  obtain ⟨pa, pc, rfl, _⟩ := p2.form
  obtain ⟨fa, fc, hfv, _⟩ := p3.form
  obtain ⟨np, hnp⟩ : ∃ np, np = s.ps.length := ⟨_, rfl⟩
  have hnp2 : (s.ps.map (·.a)).length = np := by rw [hnp]; simp
  rw [hnp2] at p1
  have c0 : w.cell? ⟨W, 0, none⟩ = some (.slice pa np pc) := p1.cell 0
  have hle : ∀ g ∈ allB s, (s.con g).length ≤ 32 := fun g hg => (h.bufs g hg).le
  have hl1 : sumL s.con (bufsP s.ps) ≤ 4096 := by
    have := sumL_le (con := s.con) (l := bufsP s.ps) (fun g hg => hle g (List.mem_append_left _ hg))
    rw [bufsP_len] at this; omega
  have hl2 : ∀ j, sumL s.con (s.full.take j) ≤ 32000000 := fun j => by
    have := sumL_le (con := s.con) (l := s.full.take j) (fun g hg => hle g (List.mem_append_right _ (List.mem_append_left _ (List.mem_of_mem_take hg))))
    have h3 : (s.full.take j).length ≤ s.full.length := by rw [List.length_take]; omega
    omega
  have hn' : np ≤ 64 := by omega
  have H := Lib.hid (And.intro h (And.intro hn (And.intro hlf (And.intro hnp (And.intro p1 (And.intro p3 (And.intro hfv (And.intro hl1 hl2))))))))
  clear h hn hlf hnp hnp2 p1 p2 p3 p4 p5 hle hl1 hl2 hfv
  unfold ptr
  go_enter Try.func29, Try.ntmps29
  go_wp2_with fail
  clear c0
  go_loopg [3, 14] np (fun q s3 s14 ws => ∃ i t : Nat, s14 = .int .i64 i ∧ i ≤ np ∧ np - i ≤ q ∧ s3 = .int .i64 t ∧ t ≤ 4096 ∧ Hid (t = sumL s.con (bufsP (s.ps.take i))) ∧ Below w.heap.size w ws)
  case atStart => exact ⟨0, 0, rfl, by omega, by omega, rfl, by omega, by simp [Hid, bufsP, sumL], Below.refl _ _⟩
  case round =>
    obtain ⟨i, t, rfl, hi, hq, rfl, ht, hs, hb⟩ := hrel
    by_cases hlt : i < np
    · obtain ⟨x, C, hsp, hti⟩ := split_at (ps := s.ps) (i := i) (by have := H.out.2.2.2.1; omega)
      have hnx := bufsP_take hsp (by have := H.out.2.2.2.1; omega)
      have hx : x ∈ s.ps := by rw [hsp]; simp
      have hm := bufsP_mem hx
      have l1 := (H.out.1.bufs _ (List.mem_append_left _ hm.1)).le
      have l2 := (H.out.1.bufs _ (List.mem_append_left _ hm.2)).le
      obtain ⟨lo, hlo⟩ : ∃ lo, lo = (s.con x.o).length + (s.con x.t).length := ⟨_, rfl⟩
      have hlo2 : lo ≤ 64 := by omega
      have hst : t + lo = sumL s.con (bufsP (s.ps.take (i + 1))) := by
        rw [hnx, sumL_app, ← hs.out, hlo]; simp [sumL]
      have ht2 : t + lo ≤ 4096 := by
        have e1 : bufsP s.ps = bufsP (s.ps.take (i + 1)) ++ bufsP (s.ps.drop (i + 1)) := by
          unfold bufsP; rw [← List.flatMap_append, List.take_append_drop]
        have e2 := H.out.2.2.2.2.2.2.2.1
        rw [e1, sumL_app] at e2
        omega
      have HX := Lib.hid (And.intro hsp (And.intro hti (And.intro hlo hst)))
      clear hsp hti hnx hx hm l1 l2 hlo hst
      have i1 : (i : Int) < (np : Int) := by omega
      go_wp2_with fail
      have hloc := pool_local (A := s.ps.take i) (x := x) (C := C) (H.out.1.step hb) HX.out.1 H.out.2.1
      rw [HX.out.2.1, ← HX.out.2.2.1] at hloc
      refine hloc.mono ?_
      rintro e w2 ⟨rfl, hb2⟩
      have hB2 := bx hb hb2
      clear hloc hb hb2
      go_wp2_with fail
      go_roundg (np - (i + 1))
      case measure => omega
      case rel => exact ⟨i + 1, t + lo, by go_num, by omega, Nat.le_refl _, by go_num, ht2, HX.out.2.2.2, hB2⟩
    · obtain rfl : i = np := by omega
      have hs' := hs.out
      rw [H.out.2.2.2.1, List.take_length] at hs'
      have HT := Lib.hid hs'
      obtain ⟨fl, hfl⟩ : ∃ fl, fl = s.full.length := ⟨_, rfl⟩
      have c1 : wr.cell? ⟨W, 1, none⟩ = some (.slice fa fl fc) := by rw [hfl, ← H.out.2.2.2.2.2.2.1]; exact (H.out.2.2.2.2.1.ofBelow hb).cell 1
      have hflm : fl ≤ 1000000 := by rw [hfl]; exact H.out.2.2.1
      have p3 := H.out.2.2.2.2.2.1
      have hcells : Hid (∀ j, j < fl → ∃ bb, fa = some ⟨bb, 0, none⟩ ∧ ∀ wx, Below w.heap.size w wx → wx.cell? ⟨bb, j, none⟩ = some (ptr (s.full.getD j 0))) := fun j hj => by
        obtain ⟨bb, c', e, _, hc⟩ := p3.at (by omega)
        rw [H.out.2.2.2.2.2.2.1] at e
        injection e with e1 _ _
        exact ⟨bb, e1, fun wx hwx => (hwx.cell (p := ⟨bb, j, none⟩) (World.block_lt_of_cell? w ⟨bb, j, none⟩ (hc j (by omega)))).trans (hc j (by omega))⟩
      have HFL := Lib.hid hfl
      clear hs hs' hfl p3
      go_wp2_with fail
      clear c1
      go_loopg [3, 28] fl (fun q s3 s28 ws => ∃ j u : Nat, s28 = .int .i64 j ∧ j ≤ fl ∧ fl - j ≤ q ∧ s3 = .int .i64 u ∧ u ≤ 33000000 ∧ Hid (u = t + sumL s.con (s.full.take j)) ∧ Below w.heap.size w ws)
      case atStart => exact ⟨0, t, rfl, by omega, by omega, rfl, by omega, by simp [Hid, sumL], hb⟩
      case round =>
        clear hb
        obtain ⟨j, u, rfl, hj, hq2, rfl, hu, hs, hb⟩ := hrel
        by_cases hlt2 : j < fl
        · obtain ⟨bb, rfl, hc⟩ := hcells.out j hlt2
          have cj := hc wr hb
          obtain ⟨g, hg⟩ : ∃ g, g = s.full.getD j 0 := ⟨_, rfl⟩
          rw [← hg] at cj
          have hgm : g ∈ s.full := by
            have hj' : j < s.full.length := by rw [← HFL.out]; exact hlt2
            rw [hg, List.getD_eq_getElem?_getD, List.getElem?_eq_getElem hj']; exact List.getElem_mem hj'
          have hgb := H.out.1.bufs g (List.mem_append_right _ (List.mem_append_left _ hgm))
          obtain ⟨lg, hlg⟩ : ∃ lg, lg = (s.con g).length := ⟨_, rfl⟩
          have hlg2 : lg ≤ 32 := by rw [hlg]; exact hgb.le
          have hst : u + lg = t + sumL s.con (s.full.take (j + 1)) := by
            have hj' : j < s.full.length := by rw [← HFL.out]; exact hlt2
            have e : s.full.take (j + 1) = s.full.take j ++ [g] := by
              rw [List.take_succ_eq_append_getElem hj', hg, List.getD_eq_getElem?_getD, List.getElem?_eq_getElem hj']; rfl
            rw [e, sumL_app, hs.out, hlg]; simp [sumL]; omega
          have hu2 : u + lg ≤ 33000000 := by have := H.out.2.2.2.2.2.2.2.2 (j + 1); omega
          have HG := Lib.hid (And.intro hgb (And.intro hlg hst))
          have j1 : (j : Int) < (fl : Int) := by omega
          have j0 : (0 : Int) ≤ (j : Int) := by omega
          unfold ptr at cj
          clear hc hg hgm hgb hlg hst hs
          go_wp2_with fail
          refine (blen_any _ g _ (HG.out.1.upd (F := fun _ => False) (Upd.ofBelow hb) (fun h => h))).mono ?_
          rintro e w' ⟨rfl, rfl⟩
          rw [← HG.out.2.1]
          clear cj
          go_wp2_with fail
          go_roundg (fl - (j + 1))
          case measure => omega
          case rel => exact ⟨j + 1, u + lg, by go_num, by omega, Nat.le_refl _, by go_num, hu2, HG.out.2.2, hb⟩
        · obtain rfl : j = fl := by omega
          have hfin := hs.out
          rw [HFL.out, List.take_length, HT.out] at hfin
          have HFI := Lib.hid hfin
          clear hfin hs
          go_wp2_with fail
          go_ret
          exact ⟨by rw [← HFI.out]; rfl, hb⟩
end
end Go.Proofs.Ytbcleeifkmjlmaa
