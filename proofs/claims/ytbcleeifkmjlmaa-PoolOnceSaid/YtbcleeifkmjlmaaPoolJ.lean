/-
  The pool: what lies in it, all together; contracts over that.
-/
import Derived.Test.YtbcleeifkmjlmaaPoolV
namespace Go.Proofs.Ytbcleeifkmjlmaa
open Go.RowKit
set_option maxRecDepth 100000
set_option maxHeartbeats 1000000

def oneTo (m : Nat) : List Int := (List.range m).map fun (i : Nat) => (i : Int) + 1
theorem oneTo_succ (m : Nat) : oneTo (m + 1) = oneTo m ++ [(m : Int) + 1] := by simp [oneTo, List.range_succ]
theorem oneTo_len (m : Nat) : (oneTo m).length = m := by simp [oneTo]
theorem oneTo_mem {m : Nat} {v : Int} (h : v ∈ oneTo m) : 1 ≤ v ∧ v ≤ m := by
  obtain ⟨i, hi, rfl⟩ := List.mem_map.1 h
  have := List.mem_range.1 hi
  omega
theorem oneTo_nodup (m : Nat) : (oneTo m).Nodup := by
  unfold oneTo List.Nodup
  rw [List.pairwise_map]
  refine List.Pairwise.imp ?_ List.nodup_range
  intro a b h
  omega

def GvL (A C : List (List Int × List Int × Bool)) (o t : List Int) (f : Bool) (full : List (List Int)) (e : Nat) (P : Pl) : Prop :=
  (0 < t.length ∧ P = ⟨A ++ (o, [], true) :: C, full ++ [t], e - 1⟩) ∨ (∃ n, n < o.length ∧ P = ⟨A ++ (o.take n, t, true) :: C, full ++ [o.drop n], e⟩) ∨ P = ⟨A ++ (o, t, f) :: C, full, e⟩
section
variable {B : Nat} {w0 w w' : World} {W : Nat} {s s' : PoS} {A C : List PoP} {x x' : PoP} {A' C' : List (List Int × List Int × Bool)} {o t : List Int} {f : Bool} {full : List (List Int)} {e : Nat}
theorem gv_abs (h : Good s) (v : View s A x C A' o t f C' full e) (hp : GvS s A x C s') : Good s' ∧ GvL A' C' o t f full e (absS s') := by
  rcases hp with ⟨h1, g, emp, hf, rfl⟩ | ⟨b, n, hb, hn, rfl⟩ | rfl
  · obtain ⟨g1, v1⟩ := flt_abs h v (.inr ⟨h1, g, emp, hf, rfl, rfl⟩)
    rw [v.t] at h1
    have v2 := v1.abs
    rw [if_pos h1] at v2
    refine ⟨g1, .inl ⟨h1, ?_⟩⟩
    rw [v2, decide_eq_true h1, Bool.or_true]
    unfold nz
    rw [if_pos h1]
  · have hn0 := good_all h v.ps
    have hbn : b ∉ x.o :: x.t :: (bufsP A ++ (bufsP C ++ (s.full ++ s.emp))) := fun hin => hb (by
      have hp := perm_all A C x s.full s.emp s.con
      rw [← v.ps] at hp
      exact (hp.mem_iff).2 hin)
    have hN := List.nodup_cons.2 ⟨hbn, hn0⟩
    have hN' := hN
    simp only [List.nodup_cons, List.mem_cons, List.mem_append, not_or] at hN'
    obtain ⟨⟨b1, b2, b3, b4, b5, b6⟩, ⟨n1, n2, n3, n4, n5⟩, _⟩ := hN'
    refine ⟨⟨?_, fun k hk => ?_⟩, .inr (.inl ⟨n, by rw [← v.o]; exact hn, ?_⟩)⟩
    · refine (perm_all A C { x with f := true } (s.full ++ [b]) s.emp _).nodup_iff.2 ?_
      refine (List.Perm.nodup_iff ?_).1 hN
      rw [List.perm_iff_count]
      intro z
      simp only [List.count_append, List.count_cons, List.count_nil]
      omega
    · show updC (updC s.con x.o _) b _ k = []
      rw [updC_ne (fun e => b6 (by rw [← e]; exact hk)), updC_ne (fun e => n5 (by rw [← e]; exact hk))]
      exact h.2 k hk
    · show Pl.mk ((A ++ { x with f := true } :: C).map (absX (updC (updC s.con x.o _) b _))) ((s.full ++ [b]).map (updC (updC s.con x.o _) b _)) s.emp.length = _
      rw [List.map_append, List.map_cons, absX_upd b3, absX_upd b4, absX_upd n2, absX_upd n3, v.A, v.C, List.map_append, full_upd b5, full_upd n4, v.full, v.e]
      congr 1
      · congr 2
        unfold absX
        show (updC (updC s.con x.o _) b _ x.o, updC (updC s.con x.o _) b _ x.t, true) = _
        rw [updC_ne (fun e => b1 e.symm), updC_ne (fun e => b2 e.symm), updC_at, updC_ne (fun e => n1 e.symm), v.o, v.t]
      · congr 1
        show [updC (updC s.con x.o _) b _ b] = _
        rw [updC_at, v.o]
  · exact ⟨h, .inr (.inr v.abs)⟩
theorem give_L (h : RepL B w0 w W ⟨A' ++ (o, t, f) :: C', full, e⟩) (hn : A'.length + C'.length < 64) (he : e ≤ 100000) (hf : full.length ≤ 100000) :
    Calls Try.prog 28 #[ptr W, .int .i64 (A'.length : Int)] w fun r w' => ∃ ok, r = .returned (.bool ok) ∧ ∃ P, RepL B w0 w' W P ∧ GvL A' C' o t f full e P := by
  obtain ⟨s, h1, h2, h3⟩ := h
  obtain ⟨A, x, C, hv', hl⟩ := view_of h3
  rw [← hl]
  refine (pool_gv h1 hv'.ps (view_len hv' hn) h2.2 (by rw [hv'.e]; omega) (by have := congrArg List.length hv'.full; rw [List.length_map] at this; omega)).mono ?_
  rintro r w' ⟨ok, s', rfl, h4, h5⟩
  obtain ⟨h6, h7⟩ := gv_abs h2 hv' h5
  exact ⟨ok, rfl, _, ⟨s', h4, h6, rfl⟩, h7⟩
end

/-- All that lies in a pool. -/
def two (x : List Int × List Int × Bool) : List Int := x.1 ++ x.2.1
def itm (P : Pl) : List Int := P.ps.flatMap two ++ P.full.flatten
def ri (A C : List (List Int × List Int × Bool)) : List Int := A.flatMap two ++ C.flatMap two
section
variable {A C : List (List Int × List Int × Bool)} {o t : List Int} {f ok : Bool} {full : List (List Int)} {e : Nat} {v : Int} {P : Pl}
theorem itm_cnt (A C : List (List Int × List Int × Bool)) (o t : List Int) (f : Bool) (full : List (List Int)) (e : Nat) (z : Int) : (itm ⟨A ++ (o, t, f) :: C, full, e⟩).count z = o.count z + t.count z + full.flatten.count z + (ri A C).count z := by
  unfold itm ri
  show (List.flatMap two (A ++ (o, t, f) :: C) ++ full.flatten).count z = _
  rw [List.flatMap_append, List.flatMap_cons]
  simp only [List.count_append]
  have : (two (o, t, f)).count z = o.count z + t.count z := by unfold two; simp
  omega
theorem sum_two (ps : List (List Int × List Int × Bool)) : (ps.map fun x => x.1.length + x.2.1.length).sum = (ps.flatMap two).length := by
  rw [List.length_flatMap]
  congr 1
  refine List.map_congr_left fun x _ => ?_
  unfold two
  simp
theorem lenL_itm (P : Pl) : lenL P = (itm P).length := by
  unfold lenL itm
  rw [sum_two, List.length_append, List.length_flatten]
theorem flat_len : ∀ {full : List (List Int)}, (∀ l ∈ full, 0 < l.length) → full.length ≤ full.flatten.length
  | [], _ => Nat.le_refl _
  | a :: full, h => by
    have h1 := flat_len fun l hl => h l (List.mem_cons_of_mem _ hl)
    have h2 := h a (by simp)
    simp only [List.flatten_cons, List.length_append, List.length_cons]
    omega
theorem full_len (h : ∀ l ∈ P.full, 0 < l.length) : P.full.length ≤ (itm P).length := by
  have := flat_len h
  unfold itm
  rw [List.length_append]
  omega
theorem split_ps {P : Pl} {q : Nat} (h : q < P.ps.length) : ∃ A o t f C, P = ⟨A ++ (o, t, f) :: C, P.full, P.e⟩ ∧ A.length = q ∧ A = P.ps.take q ∧ A.length + C.length + 1 = P.ps.length := by
  obtain ⟨ps, full, e⟩ := P
  have h' : q < ps.length := h
  refine ⟨ps.take q, (ps[q]'h').1, (ps[q]'h').2.1, (ps[q]'h').2.2, ps.drop (q + 1), ?_, by simp; omega, rfl, ?_⟩
  · show Pl.mk ps full e = _
    congr 1
    show ps = ps.take q ++ ps[q]'h' :: ps.drop (q + 1)
    rw [← List.drop_eq_getElem_cons h', List.take_append_drop]
  · show (ps.take q).length + (ps.drop (q + 1)).length + 1 = ps.length
    rw [List.length_take, List.length_drop]; omega
/-- While there are no empty ones. -/
structure PJ (p : Nat) (P : Pl) : Prop where
  len : P.ps.length = p
  e : P.e = 0
  pos : ∀ l ∈ P.full, 0 < l.length
theorem PutL.pj {p : Nat} (h : PJ p ⟨A ++ (o, t, f) :: C, full, e⟩) (hp : PutL A C o t f full e v P) : PJ p P ∧ (itm P).Perm (v :: itm ⟨A ++ (o, t, f) :: C, full, e⟩) := by
  obtain ⟨h1, h2, h3⟩ := h
  have h2' : e = 0 := h2
  subst h2'
  have hl : ∀ y : List Int × List Int × Bool, (A ++ y :: C).length = p := fun y => by rw [← h1]; simp
  rcases hp with ⟨_, rfl⟩ | ⟨_, _, rfl⟩ | ⟨_, h5, rfl⟩
  · refine ⟨⟨hl _, rfl, h3⟩, List.perm_iff_count.2 fun z => ?_⟩
    rw [List.count_cons, itm_cnt, itm_cnt]
    simp only [List.count_append, List.count_cons, List.count_nil]
    omega
  · refine ⟨⟨hl _, rfl, h3⟩, List.perm_iff_count.2 fun z => ?_⟩
    rw [List.count_cons, itm_cnt, itm_cnt]
    simp only [List.count_append, List.count_cons, List.count_nil]
    omega
  · refine ⟨⟨hl _, rfl, fun l hl => ?_⟩, List.perm_iff_count.2 fun z => ?_⟩
    · rcases List.mem_append.1 hl with hl | hl
      · exact h3 l hl
      · rw [List.mem_singleton.1 hl]; omega
    · rw [List.count_cons, itm_cnt, itm_cnt]
      simp only [List.flatten_append, List.flatten_cons, List.flatten_nil, List.append_nil, List.count_append, List.count_cons, List.count_nil]
      omega
theorem GvL.pj {p : Nat} (h : PJ p ⟨A ++ (o, t, f) :: C, full, e⟩) (hp : GvL A C o t f full e P) : PJ p P ∧ (itm P).Perm (itm ⟨A ++ (o, t, f) :: C, full, e⟩) := by
  obtain ⟨h1, h2, h3⟩ := h
  have h2' : e = 0 := h2
  subst h2'
  have hl : ∀ y : List Int × List Int × Bool, (A ++ y :: C).length = p := fun y => by rw [← h1]; simp
  rcases hp with ⟨h5, rfl⟩ | ⟨n, hn, rfl⟩ | rfl
  · refine ⟨⟨hl _, rfl, fun l hl => ?_⟩, List.perm_iff_count.2 fun z => ?_⟩
    · rcases List.mem_append.1 hl with hl | hl
      · exact h3 l hl
      · rw [List.mem_singleton.1 hl]; omega
    · rw [itm_cnt, itm_cnt]
      simp only [List.flatten_append, List.flatten_cons, List.flatten_nil, List.append_nil, List.count_append, List.count_nil]
      omega
  · refine ⟨⟨hl _, rfl, fun l hl => ?_⟩, List.perm_iff_count.2 fun z => ?_⟩
    · rcases List.mem_append.1 hl with hl | hl
      · exact h3 l hl
      · rw [List.mem_singleton.1 hl, List.length_drop]; omega
    · have hs : o.count z = (o.take n).count z + (o.drop n).count z := by rw [← List.count_append, List.take_append_drop]
      rw [itm_cnt, itm_cnt]
      simp only [List.flatten_append, List.flatten_cons, List.flatten_nil, List.append_nil, List.count_append]
      omega
  · exact ⟨⟨h1, rfl, h3⟩, List.Perm.refl _⟩
theorem nz_cnt (o : List Int) (z : Int) : (nz o).flatten.count z = o.count z := by
  unfold nz
  split
  · simp
  · have : o = [] := List.eq_nil_of_length_eq_zero (by omega)
    subst this; rfl
theorem flush_pj {p : Nat} {f' : Bool} (h : PJ p ⟨A ++ (o, t, f) :: C, full, e⟩) : PJ p ⟨A ++ ([], [], f') :: C, full ++ (nz o ++ nz t), 0⟩ ∧ (itm ⟨A ++ ([], [], f') :: C, full ++ (nz o ++ nz t), 0⟩).Perm (itm ⟨A ++ (o, t, f) :: C, full, e⟩) := by
  obtain ⟨h1, h2, h3⟩ := h
  refine ⟨⟨by rw [← h1]; simp, rfl, fun l hl => ?_⟩, List.perm_iff_count.2 fun z => ?_⟩
  · rcases List.mem_append.1 hl with hl | hl
    · exact h3 l hl
    · rcases List.mem_append.1 hl with hl | hl
      · unfold nz at hl
        split at hl
        · rw [List.mem_singleton.1 hl]; assumption
        · cases hl
      · unfold nz at hl
        split at hl
        · rw [List.mem_singleton.1 hl]; assumption
        · cases hl
  · rw [itm_cnt, itm_cnt]
    simp only [List.flatten_append, List.count_append, nz_cnt, List.count_nil]
    omega
/-- The first q hold nothing. -/
def Emp (q : Nat) (P : Pl) : Prop := ∀ x ∈ P.ps.take q, x.1 = [] ∧ x.2.1 = []
/-- While the last one gets. -/
structure PG (p : Nat) (P : Pl) : Prop where
  len : P.ps.length = p + 1
  emp : Emp p P
  two : ∀ x ∈ P.ps, x.2.1 = []
  pos : ∀ l ∈ P.full, 0 < l.length
  few : P.full.length + P.e ≤ 1000
theorem last_perm {l : List Int} (h : 0 < l.length) (z : Int) : l.count z = l.dropLast.count z + if lastL l == z then 1 else 0 := by
  have hne : l ≠ [] := fun e => by rw [e] at h; exact absurd h (by decide)
  have e1 : lastL l = l.getLast hne := by unfold lastL; rw [List.getLastD_eq_getLast?, List.getLast?_eq_some_getLast hne]; rfl
  have e2 := List.dropLast_concat_getLast hne
  rw [e1]
  conv => lhs; rw [← e2]
  rw [List.count_append, List.count_singleton]
theorem GetL.pg {p : Nat} (hA : A.length = p) (h : PG p ⟨A ++ (o, t, f) :: C, full, e⟩) (hne : 0 < (itm ⟨A ++ (o, t, f) :: C, full, e⟩).length) (hp : GetL A C o t f full e v ok P) : ok = true ∧ PG p P ∧ (itm ⟨A ++ (o, t, f) :: C, full, e⟩).Perm (v :: itm P) := by
  obtain ⟨h1, h2, h3, h4, h5⟩ := h
  have hC : C = [] := by
    have : (A ++ (o, t, f) :: C).length = p + 1 := h1
    simp at this
    exact List.eq_nil_of_length_eq_zero (by omega)
  subst hC
  have ht : t = [] := h3 (o, t, f) (by simp)
  subst ht
  have h2A : ∀ x ∈ A, x.1 = [] ∧ x.2.1 = [] := fun x hx => h2 x (by
    show x ∈ (A ++ _).take p
    rw [← hA, List.take_left]; exact hx)
  have hl : ∀ y : List Int × List Int × Bool, (A ++ [y]).length = p + 1 := fun y => by simp; exact hA
  have hE : ∀ (y : List Int × List Int × Bool) F E, Emp p ⟨A ++ [y], F, E⟩ := fun y F E x hx => h2A x (by
    have hx' : x ∈ (A ++ [y]).take p := hx
    rw [← hA, List.take_left] at hx'; exact hx')
  have hT : ∀ (o' : List Int) (f' : Bool), ∀ x ∈ A ++ [(o', [], f')], x.2.1 = [] := fun o' f' x hx => by
    rcases List.mem_append.1 hx with hx | hx
    · exact (h2A x hx).2
    · rw [List.mem_singleton.1 hx]
  have hri : ri A [] = [] := by
    unfold ri
    rw [List.flatMap_nil, List.append_nil, List.flatMap_eq_nil_iff]
    intro x hx
    unfold two
    rw [(h2A x hx).1, (h2A x hx).2]; rfl
  rcases hp with ⟨q1, rfl, q3, rfl⟩ | ⟨_, q2, _⟩ | ⟨q1, q2, q3, _⟩ | ⟨q1, q2, F, l, q3, rfl, q5, rfl⟩
  · refine ⟨q3, ⟨hl _, hE _ _ _, hT _ _, h4, h5⟩, List.perm_iff_count.2 fun z => ?_⟩
    rw [List.count_cons, itm_cnt, itm_cnt, last_perm q1 z]
    omega
  · exact absurd q2 (by decide)
  · subst q1 q3
    exfalso
    have : itm ⟨A ++ [([], [], f)], [], e⟩ = [] := by
      unfold itm
      unfold ri at hri
      simp only [List.flatMap_nil, List.append_nil] at hri
      simp [List.flatMap_append, hri, two]
    rw [this] at hne
    exact absurd hne (by decide)
  · subst q1 q3
    have hlp : 0 < l.length := h4 l (by simp)
    refine ⟨by rw [q5]; exact decide_eq_true hlp, ⟨hl _, hE _ _ _, hT _ _, fun m hm => h4 m (by simp [hm]), ?_⟩, List.perm_iff_count.2 fun z => ?_⟩
    · have h5' : (F ++ [l]).length + e ≤ 1000 := h5
      simp at h5'
      show F.length + (e + 1) ≤ 1000
      omega
    · rw [List.count_cons, itm_cnt, itm_cnt]
      simp only [List.flatten_append, List.flatten_cons, List.flatten_nil, List.append_nil, List.count_append, List.count_nil]
      rw [last_perm hlp z]
      omega
/-- An empty pool gives nothing. -/
theorem GetL.none (hi : itm ⟨A ++ (o, t, f) :: C, full, e⟩ = []) (hpos : ∀ l ∈ full, 0 < l.length) (hp : GetL A C o t f full e v ok P) : ok = false ∧ P = ⟨A ++ (o, t, f) :: C, full, e⟩ := by
  have hc := itm_cnt A C o t f full e
  rw [hi] at hc
  have hlen : o.length + t.length + full.flatten.length = 0 := by
    have h1 : itm ⟨A ++ (o, t, f) :: C, full, e⟩ = List.flatMap two (A ++ (o, t, f) :: C) ++ full.flatten := rfl
    rw [hi, List.flatMap_append, List.flatMap_cons] at h1
    have h2 := congrArg List.length h1
    unfold two at h2
    simp only [List.length_append, List.length_nil] at h2
    omega
  have ho : o = [] := List.eq_nil_of_length_eq_zero (by omega)
  have ht : t = [] := List.eq_nil_of_length_eq_zero (by omega)
  have hf : full = [] := List.eq_nil_of_length_eq_zero (by have := flat_len hpos; omega)
  subst ho ht hf
  rcases hp with ⟨q1, _⟩ | ⟨_, q2, _⟩ | ⟨_, _, _, q4, q5⟩ | ⟨_, _, F, l, q3, _⟩
  · exact absurd q1 (by decide)
  · exact absurd q2 (by decide)
  · exact ⟨q4, q5⟩
  · exact absurd (congrArg List.length q3) (by simp)
end
section
variable {B : Nat} {w0 w w' : World} {W p q : Nat} {P : Pl}
theorem put_J (h : RepL B w0 w W P) (J : PJ p P) (hp : p ≤ 64) (hq : q < p) (hl : (itm P).length ≤ 1000) (v : Int) (hv : v ≠ 0) :
    Calls Try.prog 21 #[ptr W, .int .i64 (q : Int), .int .i64 v] w fun r w' => r = .returned (.int .i64 0) ∧ ∃ P', RepL B w0 w' W P' ∧ PJ p P' ∧ (itm P').Perm (v :: itm P) := by
  have hfl := full_len J.pos
  obtain ⟨A, o, t, f, C, hP, hA, _, hAC⟩ := split_ps (P := P) (q := q) (by rw [J.len]; exact hq)
  have he := J.e
  have hlen := J.len
  rw [hP] at h J ⊢
  subst hA
  refine (put_L h (by omega) (by omega) (by omega) v hv).mono ?_
  rintro r w' ⟨rfl, P', h1, h2⟩
  exact ⟨rfl, P', h1, h2.pj J⟩
theorem give_J (h : RepL B w0 w W P) (J : PJ p P) (hp : p ≤ 64) (hq : q < p) (hl : (itm P).length ≤ 1000) :
    Calls Try.prog 28 #[ptr W, .int .i64 (q : Int)] w fun r w' => ∃ ok, r = .returned (.bool ok) ∧ ∃ P', RepL B w0 w' W P' ∧ PJ p P' ∧ (itm P').Perm (itm P) := by
  have hfl := full_len J.pos
  obtain ⟨A, o, t, f, C, hP, hA, _, hAC⟩ := split_ps (P := P) (q := q) (by rw [J.len]; exact hq)
  have he := J.e
  have hlen := J.len
  rw [hP] at h J ⊢
  subst hA
  refine (give_L h (by omega) (by omega) (by omega)).mono ?_
  rintro r w' ⟨ok, rfl, P', h1, h2⟩
  exact ⟨ok, rfl, P', h1, h2.pj J⟩
theorem len_J (h : RepL B w0 w W P) (J : PJ p P) (hp : p ≤ 64) (hl : (itm P).length ≤ 1000) :
    Calls Try.prog 29 #[ptr W] w fun r w' => r = .returned (.int .i64 ((itm P).length : Int)) ∧ Below w.heap.size w w' := by
  have hfl := full_len J.pos
  rw [← lenL_itm]
  exact len_L h (by rw [J.len]; exact hp) (by omega)
theorem flush_J (h : RepL B w0 w W P) (J : PJ p P) (hp : p ≤ 64) (hq : q < p) (hl : (itm P).length ≤ 1000) (hE : Emp q P) :
    Calls Try.prog 26 #[ptr W, .int .i64 (q : Int)] w fun r w' => (∃ v, r = .returned v) ∧ ∃ P', RepL B w0 w' W P' ∧ PJ p P' ∧ (itm P').Perm (itm P) ∧ Emp (q + 1) P' := by
  have hfl := full_len J.pos
  obtain ⟨A, o, t, f, C, hP, hA, hA2, hAC⟩ := split_ps (P := P) (q := q) (by rw [J.len]; exact hq)
  have he := J.e
  have hlen := J.len
  have hAE : ∀ x ∈ A, x.1 = [] ∧ x.2.1 = [] := fun x hx => hE x (by rw [← hA2]; exact hx)
  clear hE hA2
  rw [hP] at h J ⊢
  subst hA
  refine (flush_L h (by omega) (by omega) (by omega)).mono ?_
  rintro r w' ⟨hr, e', _, he', h1⟩
  obtain rfl := he' he
  obtain ⟨k1, k2⟩ := flush_pj (f' := f || (decide (0 < o.length) || decide (0 < t.length))) J
  refine ⟨hr, _, h1, k1, k2, fun x hx => ?_⟩
  have hx' : x ∈ (A ++ ([], [], f || (decide (0 < o.length) || decide (0 < t.length))) :: C).take (A.length + 1) := hx
  rw [List.take_length_add_append] at hx'
  rcases List.mem_append.1 hx' with hx | hx
  · exact hAE x hx
  · have : x = ([], [], f || (decide (0 < o.length) || decide (0 < t.length))) := by simpa using hx
    rw [this]
    exact ⟨rfl, rfl⟩
theorem local_J (h : RepL B w0 w W P) (J : PJ p P) (hp : p ≤ 64) (hq : q < p) (hE : Emp (q + 1) P) :
    Calls Try.prog 25 #[ptr W, .int .i64 (q : Int)] w fun r w' => r = .returned (.int .i64 0) ∧ Below w.heap.size w w' := by
  obtain ⟨A, o, t, f, C, hP, hA, hA2, hAC⟩ := split_ps (P := P) (q := q) (by rw [J.len]; exact hq)
  have hlen := J.len
  rw [hP] at h hE
  subst hA
  obtain ⟨h1, h2⟩ := hE (o, t, f) (by
    show _ ∈ (A ++ (o, t, f) :: C).take (A.length + 1)
    rw [List.take_length_add_append]
    simp)
  have h1' : o = [] := h1
  have h2' : t = [] := h2
  subst h1' h2'
  exact local_L h (by omega)
theorem PJ.pg {p : Nat} (J : PJ (p + 1) P) (hE : Emp (p + 1) P) (hl : (itm P).length ≤ 1000) : PG p P := by
  have hfl := full_len J.pos
  have hall : ∀ x ∈ P.ps, x.1 = [] ∧ x.2.1 = [] := fun x hx => hE x (by rw [← J.len, List.take_length]; exact hx)
  exact ⟨J.len, fun x hx => hall x (List.mem_of_mem_take hx), fun x hx => (hall x hx).2, J.pos, by rw [J.e]; omega⟩
theorem get_G (h : RepL B w0 w W P) (G : PG p P) (hp : p < 64) (hne : 0 < (itm P).length) :
    Calls Try.prog 24 #[ptr W, .int .i64 (p : Int)] w fun r w' => ∃ v, r = .returned (.tuple #[.int .i64 v, .bool true]) ∧ ∃ P', RepL B w0 w' W P' ∧ PG p P' ∧ (itm P).Perm (v :: itm P') := by
  have hfew := G.few
  obtain ⟨A, o, t, f, C, hP, hA, hA2, hAC⟩ := split_ps (P := P) (q := p) (by rw [G.len]; omega)
  have hlen := G.len
  rw [hP] at h G hne ⊢
  clear hA2
  subst hA
  refine (get_L h (by omega) (by omega) (by omega)).mono ?_
  rintro r w' ⟨v, ok, rfl, P', h1, h2⟩
  obtain ⟨rfl, k1, k2⟩ := h2.pg rfl G hne
  exact ⟨v, rfl, P', h1, k1, k2⟩
theorem get_no (h : RepL B w0 w W P) (G : PG p P) (hp : p < 64) (hq : q < p + 1) (hi : itm P = []) :
    Calls Try.prog 24 #[ptr W, .int .i64 (q : Int)] w fun r w' => ∃ v, r = .returned (.tuple #[.int .i64 v, .bool false]) ∧ RepL B w0 w' W P := by
  have hfew := G.few
  have hpos := G.pos
  obtain ⟨A, o, t, f, C, hP, hA, hA2, hAC⟩ := split_ps (P := P) (q := q) (by rw [G.len]; omega)
  have hlen := G.len
  rw [hP] at h hi ⊢
  clear hA2
  subst hA
  refine (get_L h (by omega) (by omega) (by omega)).mono ?_
  rintro r w' ⟨v, ok, rfl, P', h1, h2⟩
  obtain ⟨rfl, rfl⟩ := h2.none hi hpos
  exact ⟨v, rfl, h1⟩
theorem len_G (h : RepL B w0 w W P) (G : PG p P) (hp : p < 64) :
    Calls Try.prog 29 #[ptr W] w fun r w' => r = .returned (.int .i64 ((itm P).length : Int)) ∧ Below w.heap.size w w' := by
  have hfew := G.few
  rw [← lenL_itm]
  exact len_L h (by rw [G.len]; omega) (by omega)
end
end Go.Proofs.Ytbcleeifkmjlmaa
