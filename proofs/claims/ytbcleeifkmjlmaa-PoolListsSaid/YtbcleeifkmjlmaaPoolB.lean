/-
  The pool as lists alone: contracts.
-/
import Derived.Test.YtbcleeifkmjlmaaPoolA
namespace Go.Proofs.Ytbcleeifkmjlmaa
open Go.RowKit
set_option maxRecDepth 100000
set_option maxHeartbeats 1000000

def nz (o : List Int) : List (List Int) := if 0 < o.length then [o] else []
/-- One P of the lists, and where it lies. -/
structure View (s : PoS) (A : List PoP) (x : PoP) (C : List PoP) (A' : List (List Int × List Int × Bool)) (o t : List Int) (f : Bool) (C' : List (List Int × List Int × Bool)) (full : List (List Int)) (e : Nat) : Prop where
  ps : s.ps = A ++ x :: C
  A : A.map (absX s.con) = A'
  C : C.map (absX s.con) = C'
  o : s.con x.o = o
  t : s.con x.t = t
  f : x.f = f
  full : s.full.map s.con = full
  e : s.emp.length = e
section
variable {B : Nat} {w0 w w' : World} {W : Nat} {s s' : PoS} {A C : List PoP} {x x' : PoP} {A' C' : List (List Int × List Int × Bool)} {o t : List Int} {f : Bool} {full : List (List Int)} {e : Nat}
theorem View.abs (v : View s A x C A' o t f C' full e) : absS s = ⟨A' ++ (o, t, f) :: C', full, e⟩ := by
  unfold absS
  rw [v.ps, List.map_append, List.map_cons, v.A, v.C, v.full, v.e]
  unfold absX
  rw [v.o, v.t, v.f]
theorem view_of (h : absS s = ⟨A' ++ (o, t, f) :: C', full, e⟩) : ∃ A x C, View s A x C A' o t f C' full e ∧ A.length = A'.length := by
  unfold absS at h
  injection h with h1 h2 h3
  obtain ⟨A, D, h4, h5, h6⟩ := List.map_eq_append_iff.1 h1
  obtain ⟨x, C, h7, h8, h9⟩ := List.map_eq_cons_iff.1 h6
  unfold absX at h8
  injection h8 with h10 h11
  injection h11 with h12 h13
  exact ⟨A, x, C, ⟨by rw [h4, h7], h5, h9, h10, h12, h13, h2, h3⟩, by rw [← h5]; simp⟩
theorem flo_abs (h : Good s) (v : View s A x C A' o t f C' full e) (hf : FlO s A x C s' x') : Good s' ∧ View s' A x' C A' [] t (f || decide (0 < o.length)) C' (full ++ nz o) (if 0 < o.length then e - 1 else e) := by
  rcases hf with ⟨h1, rfl, rfl⟩ | ⟨h1, g, emp, hf, rfl, rfl⟩
  · have h2 : o = [] := by rw [← v.o, h1]
    subst h2
    refine ⟨h, v.ps, v.A, v.C, h1, v.t, ?_, ?_, v.e⟩
    · rw [v.f]; simp
    · rw [v.full]; unfold nz; simp
  · rw [v.o] at h1
    obtain ⟨hN, hE, hl⟩ := fresh_all h v.ps hf
    have hN' := hN
    simp only [List.nodup_cons, List.mem_cons, List.mem_append, not_or] at hN'
    obtain ⟨⟨g1, g2, g3, g4, g5, g6⟩, _⟩ := hN'
    refine ⟨⟨?_, fun k hk => by show updC s.con g _ k = []; rw [updC_ne (fun e => g6 (by rw [← e]; exact hk))]; exact hE k hk⟩, rfl, ?_, ?_, ?_, ?_, ?_, ?_, ?_⟩
    · refine (perm_all A C ⟨x.a, g, x.t, true⟩ (s.full ++ [x.o]) emp _).nodup_iff.2 ?_
      refine (List.Perm.nodup_iff ?_).1 hN
      rw [List.perm_iff_count]
      intro z
      simp only [List.count_append, List.count_cons, List.count_nil]
      omega
    · show A.map (absX (updC s.con g [])) = A'
      rw [absX_upd g3]; exact v.A
    · show C.map (absX (updC s.con g [])) = C'
      rw [absX_upd g4]; exact v.C
    · exact updC_at _ _ _
    · show updC s.con g [] x.t = t
      rw [updC_ne (fun e => g2 e.symm)]; exact v.t
    · show true = _
      rw [decide_eq_true h1]; simp
    · show (s.full ++ [x.o]).map (updC s.con g []) = _
      rw [List.map_append, full_upd g5, v.full]
      congr 1
      show [updC s.con g [] x.o] = _
      rw [updC_ne (fun e => g1 e.symm), v.o]
      unfold nz
      rw [if_pos h1]
    · show emp.length = _
      rw [if_pos h1, hl, v.e]
theorem flt_abs (h : Good s) (v : View s A x C A' o t f C' full e) (hf : FlT s A x C s' x') : Good s' ∧ View s' A x' C A' o [] (f || decide (0 < t.length)) C' (full ++ nz t) (if 0 < t.length then e - 1 else e) := by
  rcases hf with ⟨h1, rfl, rfl⟩ | ⟨h1, g, emp, hf, rfl, rfl⟩
  · have h2 : t = [] := by rw [← v.t, h1]
    subst h2
    refine ⟨h, v.ps, v.A, v.C, v.o, h1, ?_, ?_, v.e⟩
    · rw [v.f]; simp
    · rw [v.full]; unfold nz; simp
  · rw [v.t] at h1
    obtain ⟨hN, hE, hl⟩ := fresh_all h v.ps hf
    have hN' := hN
    simp only [List.nodup_cons, List.mem_cons, List.mem_append, not_or] at hN'
    obtain ⟨⟨g1, g2, g3, g4, g5, g6⟩, _⟩ := hN'
    refine ⟨⟨?_, fun k hk => by show updC s.con g _ k = []; rw [updC_ne (fun e => g6 (by rw [← e]; exact hk))]; exact hE k hk⟩, rfl, ?_, ?_, ?_, ?_, ?_, ?_, ?_⟩
    · refine (perm_all A C ⟨x.a, x.o, g, true⟩ (s.full ++ [x.t]) emp _).nodup_iff.2 ?_
      refine (List.Perm.nodup_iff ?_).1 hN
      rw [List.perm_iff_count]
      intro z
      simp only [List.count_append, List.count_cons, List.count_nil]
      omega
    · show A.map (absX (updC s.con g [])) = A'
      rw [absX_upd g3]; exact v.A
    · show C.map (absX (updC s.con g [])) = C'
      rw [absX_upd g4]; exact v.C
    · show updC s.con g [] x.o = o
      rw [updC_ne (fun e => g1 e.symm)]; exact v.o
    · exact updC_at _ _ _
    · show true = _
      rw [decide_eq_true h1]; simp
    · show (s.full ++ [x.t]).map (updC s.con g []) = _
      rw [List.map_append, full_upd g5, v.full]
      congr 1
      show [updC s.con g [] x.t] = _
      rw [updC_ne (fun e => g2 e.symm), v.t]
      unfold nz
      rw [if_pos h1]
    · show emp.length = _
      rw [if_pos h1, hl, v.e]
theorem RepL.step {P : Pl} (h : RepL B w0 w W P) (hb : Below w.heap.size w w') : RepL B w0 w' W P := by
  obtain ⟨s, h1, h2, h3⟩ := h
  exact ⟨s, h1.step hb, h2, h3⟩
theorem RepL.le {P : Pl} (h : RepL B w0 w W P) : (∀ x ∈ P.ps, x.1.length ≤ 32 ∧ x.2.1.length ≤ 32) ∧ ∀ l ∈ P.full, l.length ≤ 32 := by
  obtain ⟨s, h1, h2, rfl⟩ := h
  refine ⟨fun x hx => ?_, fun l hl => ?_⟩
  · obtain ⟨y, hy, rfl⟩ := List.mem_map.1 hx
    have hm := bufsP_mem hy
    exact ⟨(h1.bufs _ (List.mem_append_left _ hm.1)).le, (h1.bufs _ (List.mem_append_left _ hm.2)).le⟩
  · obtain ⟨y, hy, rfl⟩ := List.mem_map.1 hl
    exact (h1.bufs _ (List.mem_append_right _ (List.mem_append_left _ hy))).le
theorem RepL.below {P : Pl} (h : RepL B w0 w W P) : Below B w0 w := by
  obtain ⟨s, h1, _, _⟩ := h
  exact h1.below.1
theorem RepL.keeps {P : Pl} (h : RepL B w0 w W P) : Keeps w0 w := by
  obtain ⟨s, h1, _, _⟩ := h
  exact h1.below.2
/-- .. counted from now on. -/
theorem RepL.now {P : Pl} (h : RepL B w0 w W P) : RepL B w w W P := by
  obtain ⟨s, h1, h2, h3⟩ := h
  exact ⟨s, ⟨h1.pool, h1.pairs, h1.bufs, h1.pa, h1.WB, h1.aB, h1.gB, h1.size, Below.refl _ _, Keeps.refl _⟩, h2, h3⟩
theorem view_len (v : View s A x C A' o t f C' full e) (hn : A'.length + C'.length < 64) : s.ps.length ≤ 64 := by
  rw [v.ps, List.length_append, List.length_cons]
  have h1 : A.length = A'.length := by rw [← v.A]; simp
  have h2 : C.length = C'.length := by rw [← v.C]; simp
  omega

theorem put_L (h : RepL B w0 w W ⟨A' ++ (o, t, f) :: C', full, e⟩) (hn : A'.length + C'.length < 64) (he : e ≤ 100000) (hf : full.length ≤ 100000) (v : Int) (hv : v ≠ 0) :
    Calls Try.prog 21 #[ptr W, .int .i64 (A'.length : Int), .int .i64 v] w fun r w' => r = .returned (.int .i64 0) ∧ ∃ P, RepL B w0 w' W P ∧ PutL A' C' o t f full e v P := by
  obtain ⟨s, h1, h2, h3⟩ := h
  obtain ⟨A, x, C, hv', hl⟩ := view_of h3
  rw [← hl]
  refine (pool_put h1 hv'.ps (view_len hv' hn) v hv h2.2 (by rw [hv'.e]; omega) (by have := congrArg List.length hv'.full; rw [List.length_map] at this; omega)).mono ?_
  rintro r w' ⟨s', rfl, h4, h5⟩
  obtain ⟨h6, h7⟩ := put_abs h2 hv'.ps h5
  rw [hv'.A, hv'.C, hv'.o, hv'.t, hv'.f, hv'.full, hv'.e] at h7
  exact ⟨rfl, _, ⟨s', h4, h6, rfl⟩, h7⟩
theorem get_L (h : RepL B w0 w W ⟨A' ++ (o, t, f) :: C', full, e⟩) (hn : A'.length + C'.length < 64) (he : e ≤ 100000) (hf : full.length ≤ 100000) :
    Calls Try.prog 24 #[ptr W, .int .i64 (A'.length : Int)] w fun r w' => ∃ v ok, r = .returned (.tuple #[.int .i64 v, .bool ok]) ∧ ∃ P, RepL B w0 w' W P ∧ GetL A' C' o t f full e v ok P := by
  obtain ⟨s, h1, h2, h3⟩ := h
  obtain ⟨A, x, C, hv', hl⟩ := view_of h3
  rw [← hl]
  refine (pool_get h1 hv'.ps (view_len hv' hn) (by have := congrArg List.length hv'.full; rw [List.length_map] at this; omega) (by rw [hv'.e]; omega)).mono ?_
  rintro r w' ⟨v, ok, s', rfl, h4, h5⟩
  obtain ⟨h6, h7⟩ := get_abs h2 hv'.ps h5
  rw [hv'.A, hv'.C, hv'.o, hv'.t, hv'.f, hv'.full, hv'.e] at h7
  exact ⟨v, ok, rfl, _, ⟨s', h4, h6, rfl⟩, h7⟩
theorem flush_L (h : RepL B w0 w W ⟨A' ++ (o, t, f) :: C', full, e⟩) (hn : A'.length + C'.length < 64) (he : e ≤ 100000) (hf : full.length ≤ 100000) :
    Calls Try.prog 26 #[ptr W, .int .i64 (A'.length : Int)] w fun r w' => (∃ v, r = .returned v) ∧ ∃ e', e' ≤ e ∧ (e = 0 → e' = 0) ∧ RepL B w0 w' W ⟨A' ++ ([], [], f || (decide (0 < o.length) || decide (0 < t.length))) :: C', full ++ (nz o ++ nz t), e'⟩ := by
  obtain ⟨s, h1, h2, h3⟩ := h
  obtain ⟨A, x, C, hv', hl⟩ := view_of h3
  rw [← hl]
  refine (pool_flush h1 hv'.ps (view_len hv' hn) h2.2 (by rw [hv'.e]; omega) (by have := congrArg List.length hv'.full; rw [List.length_map] at this; omega)).mono ?_
  rintro r w' ⟨hr, s2, x2, s1, x1, h4, h5, h6, h7⟩
  obtain ⟨g2, v2⟩ := flo_abs h2 hv' h6
  obtain ⟨g1, v1⟩ := flt_abs g2 v2 h7
  have v3 := v1.abs
  rw [Bool.or_assoc, List.append_assoc] at v3
  refine ⟨hr, _, ?_, ?_, s1, h4, g1, v3⟩
  · split <;> split <;> omega
  · intro e0; split <;> split <;> omega
theorem flushed_L (h : RepL B w0 w W ⟨A' ++ (o, t, f) :: C', full, e⟩) (hn : A'.length + C'.length < 64) :
    Calls Try.prog 22 #[ptr W, .int .i64 (A'.length : Int)] w fun r w' => r = .returned (.bool f) ∧ w = w' := by
  obtain ⟨s, h1, h2, h3⟩ := h
  obtain ⟨A, x, C, hv', hl⟩ := view_of h3
  rw [← hl, ← hv'.f]
  exact pool_flushed h1 hv'.ps (view_len hv' hn)
theorem local_L (h : RepL B w0 w W ⟨A' ++ (o, t, f) :: C', full, e⟩) (hn : A'.length + C'.length < 64) :
    Calls Try.prog 25 #[ptr W, .int .i64 (A'.length : Int)] w fun r w' => r = .returned (.int .i64 (o.length + t.length : Nat)) ∧ Below w.heap.size w w' := by
  obtain ⟨s, h1, h2, h3⟩ := h
  obtain ⟨A, x, C, hv', hl⟩ := view_of h3
  rw [← hl, ← hv'.o, ← hv'.t]
  exact pool_local h1 hv'.ps (view_len hv' hn)
theorem reset_L (h : RepL B w0 w W ⟨A' ++ (o, t, f) :: C', full, e⟩) (hn : A'.length + C'.length < 64) :
    Calls Try.prog 23 #[ptr W, .int .i64 (A'.length : Int)] w fun r w' => (∃ v, r = .returned v) ∧ RepL B w0 w' W ⟨A' ++ (o, t, false) :: C', full, e⟩ := by
  obtain ⟨s, h1, h2, h3⟩ := h
  obtain ⟨A, x, C, hv', hl⟩ := view_of h3
  rw [← hl]
  refine (pool_reset h1 hv'.ps (view_len hv' hn)).mono ?_
  rintro r w' ⟨hr, h4⟩
  refine ⟨hr, _, h4, ⟨?_, h2.2⟩, View.abs ⟨rfl, hv'.A, hv'.C, hv'.o, hv'.t, rfl, hv'.full, hv'.e⟩⟩
  have hp := good_all h2 hv'.ps
  exact (perm_all A C { x with f := false } s.full s.emp s.con).nodup_iff.2 hp
theorem lists_L {P : Pl} (h : RepL B w0 w W P) :
    Calls Try.prog 30 #[ptr W] w fun r w' => r = .returned (.tuple #[.int .i64 P.full.length, .int .i64 P.e]) ∧ Below w.heap.size w w' := by
  obtain ⟨s, h1, h2, rfl⟩ := h
  have := pool_lists h1
  rw [← List.length_map s.con] at this
  exact this
def lenL (P : Pl) : Nat := (P.ps.map fun x => x.1.length + x.2.1.length).sum + (P.full.map List.length).sum
theorem sum_ps (con : Nat → List Int) : ∀ ps : List PoP, sumL con (bufsP ps) = ((ps.map (absX con)).map fun x => x.1.length + x.2.1.length).sum
  | [] => rfl
  | x :: ps => by
    show sumL con ([x.o, x.t] ++ bufsP ps) = _
    rw [sumL_app, sum_ps con ps, List.map_cons, List.map_cons, List.sum_cons]
    unfold sumL absX
    simp
theorem len_L {P : Pl} (h : RepL B w0 w W P) (hn : P.ps.length ≤ 64) (hf : P.full.length ≤ 100000) :
    Calls Try.prog 29 #[ptr W] w fun r w' => r = .returned (.int .i64 (lenL P)) ∧ Below w.heap.size w w' := by
  obtain ⟨s, h1, h2, rfl⟩ := h
  have e1 : lenL (absS s) = sumL s.con (bufsP s.ps) + sumL s.con s.full := by
    rw [sum_ps]
    unfold lenL absS sumL
    simp only [List.map_map]
    rfl
  rw [e1]
  unfold absS at hn hf
  simp only [List.length_map] at hn hf
  exact pool_len h1 hn (by omega)
theorem new_L (w : World) (n : Nat) (h1 : 1 ≤ n) (h2 : n ≤ 64) :
    Calls Try.prog 20 #[.int .i64 n] w fun r w' => ∃ W, r = .returned (.tuple #[ptr W, .int .i64 0]) ∧ RepL w.heap.size w w' W ⟨List.replicate n ([], [], false), [], 0⟩ := by
  refine (pool_new w n h1 h2).mono ?_
  rintro r w' ⟨W, ps, rfl, h3, h4, h5, h6⟩
  refine ⟨W, rfl, _, h3, ⟨h5, fun g hg => by cases hg⟩, ?_⟩
  unfold absS
  congr 1
  show ps.map (absX fun _ => []) = _
  rw [List.eq_replicate_iff]
  refine ⟨by simp [h4], fun y hy => ?_⟩
  obtain ⟨z, hz, rfl⟩ := List.mem_map.1 hy
  unfold absX
  rw [h6 z hz]
end
end Go.Proofs.Ytbcleeifkmjlmaa
