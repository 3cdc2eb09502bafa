/-
  The pool as lists alone: what each buffer holds, no addresses; the contracts over that.
-/
import Derived.Test.YtbcleeifkmjlmaaPoolF
namespace Go.Proofs.Ytbcleeifkmjlmaa
open Go.RowKit
set_option maxRecDepth 100000
set_option maxHeartbeats 1000000

/-- A pool as lists: of each P its two buffers and its flag; the full ones; how many empty ones. -/
structure Pl where
  ps : List (List Int × List Int × Bool)
  full : List (List Int)
  e : Nat
def absX (con : Nat → List Int) (x : PoP) : List Int × List Int × Bool := (con x.o, con x.t, x.f)
def absS (s : PoS) : Pl := ⟨s.ps.map (absX s.con), s.full.map s.con, s.emp.length⟩
def Good (s : PoS) : Prop := (allB s).Nodup ∧ ∀ g ∈ s.emp, s.con g = []
def RepL (B : Nat) (w0 w : World) (W : Nat) (P : Pl) : Prop := ∃ s, Rep B w0 w W s ∧ Good s ∧ absS s = P

section
variable {B : Nat} {w0 w w' : World} {W : Nat} {s s' : PoS} {A C : List PoP} {x : PoP}
theorem perm_all (A C : List PoP) (x : PoP) (F E : List Nat) (con : Nat → List Int) : (allB ⟨A ++ x :: C, F, E, con⟩).Perm (x.o :: x.t :: (bufsP A ++ (bufsP C ++ (F ++ E)))) := by
  unfold allB
  show (bufsP (A ++ x :: C) ++ (F ++ E)).Perm _
  rw [bufsP_app, List.perm_iff_count]
  intro z
  simp only [List.count_append, List.count_cons]
  omega
theorem good_all (h : Good s) (hs : s.ps = A ++ x :: C) : (x.o :: x.t :: (bufsP A ++ (bufsP C ++ (s.full ++ s.emp)))).Nodup := by
  have hp := perm_all A C x s.full s.emp s.con
  rw [← hs] at hp
  exact (hp.nodup_iff).1 h.1
theorem absX_upd {con : Nat → List Int} {g : Nat} {l : List Int} {A : List PoP} (h : g ∉ bufsP A) : A.map (absX (updC con g l)) = A.map (absX con) :=
  List.map_congr_left fun y hy => by
    have hm := bufsP_mem hy
    unfold absX
    rw [updC_ne (fun e => h (by rw [← e]; exact hm.1)), updC_ne (fun e => h (by rw [← e]; exact hm.2))]
theorem full_upd {con : Nat → List Int} {g : Nat} {l : List Int} {F : List Nat} (h : g ∉ F) : F.map (updC con g l) = F.map con :=
  List.map_congr_left fun y hy => updC_ne (fun e => h (by rw [← e]; exact hy))
theorem fresh_all (h : Good s) (hs : s.ps = A ++ x :: C) {g : Nat} {emp : List Nat} (hf : Fresh s g emp) :
    (g :: x.o :: x.t :: (bufsP A ++ (bufsP C ++ (s.full ++ emp)))).Nodup ∧ (∀ k ∈ emp, s.con k = []) ∧ emp.length = s.emp.length - 1 := by
  have hn := good_all h hs
  rcases hf with hf | ⟨h1, h2, h3⟩
  · refine ⟨?_, fun k hk => h.2 k (by rw [hf]; simp [hk]), by rw [hf]; simp⟩
    rw [hf] at hn
    refine (List.Perm.nodup_iff ?_).1 hn
    rw [List.perm_iff_count]
    intro z
    simp only [List.count_append, List.count_cons, List.count_nil]
    omega
  · refine ⟨?_, (fun k hk => by rw [h2] at hk; cases hk), by rw [h1, h2]; rfl⟩
    rw [h1] at hn
    rw [h2]
    refine List.nodup_cons.2 ⟨fun hin => h3 ?_, hn⟩
    have hp := perm_all A C x s.full s.emp s.con
    rw [← hs] at hp
    refine (hp.mem_iff).2 ?_
    rw [h1]; exact hin

def PutL (A C : List (List Int × List Int × Bool)) (o t : List Int) (f : Bool) (full : List (List Int)) (e : Nat) (v : Int) (P : Pl) : Prop :=
  (o.length < 32 ∧ P = ⟨A ++ (o ++ [v], t, f) :: C, full, e⟩) ∨ (o.length = 32 ∧ t.length < 32 ∧ P = ⟨A ++ (t ++ [v], o, f) :: C, full, e⟩) ∨ (o.length = 32 ∧ t.length = 32 ∧ P = ⟨A ++ ([v], o, true) :: C, full ++ [t], e - 1⟩)
theorem put_abs (h : Good s) (hs : s.ps = A ++ x :: C) {v : Int} (hp : PutS s A x C v s') : Good s' ∧ PutL (A.map (absX s.con)) (C.map (absX s.con)) (s.con x.o) (s.con x.t) x.f (s.full.map s.con) s.emp.length v (absS s') := by
  have hn := good_all h hs
  have hn' := hn
  simp only [List.nodup_cons, List.mem_cons, List.mem_append, not_or] at hn'
  obtain ⟨⟨n1, n2, n3, n4, n5⟩, ⟨m2, m3, m4, m5⟩, _⟩ := hn'
  rcases hp with ⟨h1, rfl⟩ | ⟨h1, h2, rfl⟩ | ⟨h1, h2, g, emp, hf, rfl⟩
  · refine ⟨⟨h.1, fun k hk => by show updC s.con x.o _ k = []; rw [updC_ne (fun e => n5 (by rw [← e]; exact hk))]; exact h.2 k hk⟩, .inl ⟨h1, ?_⟩⟩
    show Pl.mk (s.ps.map (absX (updC s.con x.o _))) (s.full.map (updC s.con x.o _)) _ = _
    rw [hs, List.map_append, List.map_cons, absX_upd n2, absX_upd n3, full_upd n4]
    congr 3
    unfold absX
    rw [updC_at, updC_ne (fun e => n1 e.symm)]
  · refine ⟨⟨?_, fun k hk => by show updC s.con x.t _ k = []; rw [updC_ne (fun e => m5 (by rw [← e]; exact hk))]; exact h.2 k hk⟩, .inr (.inl ⟨h1, h2, ?_⟩)⟩
    · refine (perm_all A C { x with o := x.t, t := x.o } s.full s.emp _).nodup_iff.2 ?_
      refine (List.Perm.nodup_iff ?_).1 hn
      exact List.Perm.swap _ _ _
    · show Pl.mk ((A ++ { x with o := x.t, t := x.o } :: C).map (absX (updC s.con x.t _))) (s.full.map (updC s.con x.t _)) _ = _
      rw [List.map_append, List.map_cons, absX_upd m2, absX_upd m3, full_upd m4]
      congr 3
      unfold absX
      show (updC s.con x.t _ x.t, updC s.con x.t _ x.o, _) = _
      rw [updC_at, updC_ne n1]
  · obtain ⟨hN, hE, hl⟩ := fresh_all h hs hf
    have hN' := hN
    simp only [List.nodup_cons, List.mem_cons, List.mem_append, not_or] at hN'
    obtain ⟨⟨g1, g2, g3, g4, g5, g6⟩, _⟩ := hN'
    refine ⟨⟨?_, fun k hk => by show updC s.con g _ k = []; rw [updC_ne (fun e => g6 (by rw [← e]; exact hk))]; exact hE k hk⟩, .inr (.inr ⟨h1, h2, ?_⟩)⟩
    · refine (perm_all A C ⟨x.a, g, x.o, true⟩ (s.full ++ [x.t]) emp _).nodup_iff.2 ?_
      refine (List.Perm.nodup_iff ?_).1 hN
      rw [List.perm_iff_count]
      intro z
      simp only [List.count_append, List.count_cons, List.count_nil]
      omega
    · show Pl.mk ((A ++ ⟨x.a, g, x.o, true⟩ :: C).map (absX (updC s.con g _))) ((s.full ++ [x.t]).map (updC s.con g _)) emp.length = _
      rw [List.map_append, List.map_cons, absX_upd g3, absX_upd g4, List.map_append, full_upd g5, hl]
      congr 1
      · congr 2
        unfold absX
        show (updC s.con g _ g, updC s.con g _ x.o, true) = _
        rw [updC_at, updC_ne (fun e => g1 e.symm)]
      · congr 1
        show [updC s.con g _ x.t] = _
        rw [updC_ne (fun e => g2 e.symm)]

def GetL (A C : List (List Int × List Int × Bool)) (o t : List Int) (f : Bool) (full : List (List Int)) (e : Nat) (v : Int) (ok : Bool) (P : Pl) : Prop :=
  (0 < o.length ∧ v = lastL o ∧ ok = true ∧ P = ⟨A ++ (o.dropLast, t, f) :: C, full, e⟩) ∨
  (o = [] ∧ 0 < t.length ∧ v = lastL t ∧ ok = true ∧ P = ⟨A ++ (t.dropLast, [], f) :: C, full, e⟩) ∨
  (o = [] ∧ t = [] ∧ full = [] ∧ ok = false ∧ P = ⟨A ++ ([], [], f) :: C, [], e⟩) ∨
  (o = [] ∧ t = [] ∧ ∃ F l, full = F ++ [l] ∧ v = lastL l ∧ ok = decide (0 < l.length) ∧ P = ⟨A ++ (l.dropLast, [], f) :: C, F, e + 1⟩)
theorem get_abs (h : Good s) (hs : s.ps = A ++ x :: C) {v : Int} {ok : Bool} (hp : GetS s A x C v ok s') : Good s' ∧ GetL (A.map (absX s.con)) (C.map (absX s.con)) (s.con x.o) (s.con x.t) x.f (s.full.map s.con) s.emp.length v ok (absS s') := by
  have hn := good_all h hs
  have hn' := hn
  simp only [List.nodup_cons, List.mem_cons, List.mem_append, not_or] at hn'
  obtain ⟨⟨n1, n2, n3, n4, n5⟩, ⟨m2, m3, m4, m5⟩, hU⟩ := hn'
  have swap : (allB { s with ps := A ++ { x with o := x.t, t := x.o } :: C }).Nodup := by
    refine (perm_all A C { x with o := x.t, t := x.o } s.full s.emp _).nodup_iff.2 ?_
    refine (List.Perm.nodup_iff ?_).1 hn
    exact List.Perm.swap _ _ _
  rcases hp with ⟨h1, h2, h3, rfl⟩ | ⟨h1, h2, h3, h4, rfl⟩ | ⟨h1, h2, h3, h4, rfl⟩ | ⟨h1, h2, F, f, hf, h3, h4, rfl⟩
  · refine ⟨⟨h.1, fun k hk => by show updC s.con x.o _ k = []; rw [updC_ne (fun e => n5 (by rw [← e]; exact hk))]; exact h.2 k hk⟩, .inl ⟨h1, h2, h3, ?_⟩⟩
    show Pl.mk (s.ps.map (absX (updC s.con x.o _))) (s.full.map (updC s.con x.o _)) _ = _
    rw [hs, List.map_append, List.map_cons, absX_upd n2, absX_upd n3, full_upd n4]
    congr 3
    unfold absX
    rw [updC_at, updC_ne (fun e => n1 e.symm)]
  · refine ⟨⟨swap, fun k hk => by show updC s.con x.t _ k = []; rw [updC_ne (fun e => m5 (by rw [← e]; exact hk))]; exact h.2 k hk⟩, .inr (.inl ⟨h1, h2, h3, h4, ?_⟩)⟩
    show Pl.mk ((A ++ { x with o := x.t, t := x.o } :: C).map (absX (updC s.con x.t _))) (s.full.map (updC s.con x.t _)) _ = _
    rw [List.map_append, List.map_cons, absX_upd m2, absX_upd m3, full_upd m4]
    congr 3
    unfold absX
    show (updC s.con x.t _ x.t, updC s.con x.t _ x.o, _) = _
    rw [updC_at, updC_ne n1, h1]
  · refine ⟨⟨swap, fun k hk => by show updC s.con x.t _ k = []; rw [updC_ne (fun e => m5 (by rw [← e]; exact hk))]; exact h.2 k hk⟩, .inr (.inr (.inl ⟨h1, h2, by rw [h3]; rfl, h4, ?_⟩))⟩
    show Pl.mk ((A ++ { x with o := x.t, t := x.o } :: C).map (absX (updC s.con x.t _))) (s.full.map (updC s.con x.t _)) _ = _
    rw [List.map_append, List.map_cons, absX_upd m2, absX_upd m3, h3]
    congr 3
    unfold absX
    show (updC s.con x.t _ x.t, updC s.con x.t _ x.o, _) = _
    rw [updC_at, updC_ne n1, h1]
  · have hN : (f :: x.o :: x.t :: (bufsP A ++ (bufsP C ++ (F ++ s.emp)))).Nodup := by
      rw [hf] at hn
      refine (List.Perm.nodup_iff ?_).1 hn
      rw [List.perm_iff_count]
      intro z
      simp only [List.count_append, List.count_cons, List.count_nil]
      omega
    have hN' := hN
    simp only [List.nodup_cons, List.mem_cons, List.mem_append, not_or] at hN'
    obtain ⟨⟨g1, g2, g3, g4, g5, g6⟩, _⟩ := hN'
    refine ⟨⟨?_, fun k hk => ?_⟩, .inr (.inr (.inr ⟨h1, h2, F.map s.con, s.con f, by rw [hf]; simp, h3, h4, ?_⟩))⟩
    · refine (perm_all A C ⟨x.a, f, x.o, x.f⟩ F (s.emp ++ [x.t]) _).nodup_iff.2 ?_
      refine (List.Perm.nodup_iff ?_).1 hN
      rw [List.perm_iff_count]
      intro z
      simp only [List.count_append, List.count_cons, List.count_nil]
      omega
    · show updC s.con f _ k = []
      rcases List.mem_append.1 hk with hk | hk
      · rw [updC_ne (fun e => g6 (by rw [← e]; exact hk))]; exact h.2 k hk
      · rw [List.mem_singleton.1 hk, updC_ne (fun e => g2 e.symm)]; exact h2
    · show Pl.mk ((A ++ ⟨x.a, f, x.o, x.f⟩ :: C).map (absX (updC s.con f _))) (F.map (updC s.con f _)) (s.emp ++ [x.t]).length = _
      rw [List.map_append, List.map_cons, absX_upd g3, absX_upd g4, full_upd g5]
      congr 1
      · congr 2
        unfold absX
        show (updC s.con f _ f, updC s.con f _ x.o, _) = _
        rw [updC_at, updC_ne (fun e => g1 e.symm), h1]
      · simp
end
end Go.Proofs.Ytbcleeifkmjlmaa
