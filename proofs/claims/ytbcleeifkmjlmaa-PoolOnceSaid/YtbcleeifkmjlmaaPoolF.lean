/-
  The pool: Flush: a contract over addresses.
-/
import Derived.Test.YtbcleeifkmjlmaaPoolL
namespace Go.Proofs.Ytbcleeifkmjlmaa
open Go.RowKit
set_option maxRecDepth 100000
set_option maxHeartbeats 2000000

section
variable {B : Nat} {w0 w w' : World} {W : Nat} {s : PoS} {A C : List PoP} {x : PoP}
theorem fresh_con {ps : List PoP} {full emp0 emp : List Nat} {con : Nat → List Int} {g : Nat} (hE : ∀ k ∈ emp0, con k = []) (hfr : emp0 = emp ++ [g] ∨ (emp0 = [] ∧ emp = [] ∧ g ∉ allB ⟨ps, full, emp0, con⟩)) : ∀ k ∈ allB ⟨ps, full, emp, con⟩, updC con g [] k = con k := fun k hk => by
  by_cases e : k = g
  · subst e
    rw [updC_at]
    rcases hfr with hfr | ⟨h10, h11, h12⟩
    · exact (hE k (by rw [hfr]; simp)).symm
    · refine absurd ?_ h12
      rw [h11] at hk
      rw [h10]
      exact hk
  · exact updC_ne e
/-- The first buffer given away; the second one. -/
def FlO (s : PoS) (A : List PoP) (x : PoP) (C : List PoP) (s' : PoS) (x' : PoP) : Prop :=
  (s.con x.o = [] ∧ s' = s ∧ x' = x) ∨ (0 < (s.con x.o).length ∧ ∃ g emp, Fresh s g emp ∧ x' = ⟨x.a, g, x.t, true⟩ ∧ s' = ⟨A ++ ⟨x.a, g, x.t, true⟩ :: C, s.full ++ [x.o], emp, updC s.con g []⟩)
def FlT (s : PoS) (A : List PoP) (x : PoP) (C : List PoP) (s' : PoS) (x' : PoP) : Prop :=
  (s.con x.t = [] ∧ s' = s ∧ x' = x) ∨ (0 < (s.con x.t).length ∧ ∃ g emp, Fresh s g emp ∧ x' = ⟨x.a, x.o, g, true⟩ ∧ s' = ⟨A ++ ⟨x.a, x.o, g, true⟩ :: C, s.full ++ [x.t], emp, updC s.con g []⟩)
/-- .. as far as they are gone through. -/
def FlI (i : Nat) (s : PoS) (A : List PoP) (x : PoP) (C : List PoP) (s1 : PoS) (x1 : PoP) : Prop :=
  s1.ps = A ++ x1 :: C ∧ x1.a = x.a ∧ (∀ g ∈ s1.emp, s1.con g = []) ∧ s1.emp.length ≤ s.emp.length ∧ s1.full.length ≤ s.full.length + i ∧
    ((i = 0 ∧ s1 = s ∧ x1 = x) ∨ (i = 1 ∧ FlO s A x C s1 x1) ∨ (i = 2 ∧ ∃ s2 x2, FlO s A x C s2 x2 ∧ FlT s2 A x2 C s1 x1))
def FlushR (B : Nat) (w0 : World) (W : Nat) (s : PoS) (A : List PoP) (x : PoP) (C : List PoP) (e : Ending) (w' : World) : Prop :=
  (∃ v, e = .returned v) ∧ ∃ s2 x2 s1 x1, Rep B w0 w' W s1 ∧ s1.ps = A ++ x1 :: C ∧ FlO s A x C s2 x2 ∧ FlT s2 A x2 C s1 x1
theorem pool_flush (h : Rep B w0 w W s) (hs : s.ps = A ++ x :: C) (hn : s.ps.length ≤ 64) (hE : ∀ g ∈ s.emp, s.con g = []) (hle : s.emp.length ≤ 100000) (hlf : s.full.length ≤ 100000) :
    Calls Try.prog 26 #[ptr W, .int .i64 (A.length : Int)] w (FlushR B w0 W s A x C) := by
  have HS := Lib.hid (And.intro h (And.intro hs (And.intro hn (And.intro hle hlf))))
  have HE := Lib.hid hE
  clear h hs hn hE hle hlf
  go_enter Try.func26, Try.ntmps26
  go_wp2_with fail
  refine (pool_at HS.out.1 HS.out.2.1 HS.out.2.2.1).mono ?_
  rintro e w' ⟨rfl, rfl⟩
  unfold ptr
  go_upto_region 2 with fail
  refine wp_region_planZ [seg0 [0, 1, 2, 3, 4, 5, 8] [6], seg0 [7] []] (by kernel_rfl) (by kernel_rfl) (fun _ _ _ _ _ h => h) ?_
  refine planZ_seg0 ?_
  show wpQuiet _ _ _ _ (List.filterMap _ _) _
  simp only [List.filterMap_cons, List.filterMap_nil, List.getElem?_toArray, List.getElem?_cons_zero, List.getElem?_cons_succ]
  show wpQuiet _ _ _ _ [_, _, _, _, _, _, _] _
  repeat (go_big_quiet_step (fail))
  refine wpQuiet_nil ?_
  have hb2 : Below w.heap.size w w.drew := (Below.refl _ _).drew
  have h2 := HS.out.1.step hb2
  generalize w.drew = w2 at h2 ⊢
  clear hb2
  refine planZ_op (o := ⟨_, _, _, _, _, _⟩) rfl rfl fun K hK => ?_
  go_simp
  refine hK _ _ (fun _ => ⟨⟨_, trivial⟩, rfl⟩) ?_
  clear hK K
  refine planZ_seg0 ?_
  show wpQuiet _ _ _ _ (List.filterMap _ _) _
  simp only [List.filterMap_cons, List.filterMap_nil, List.getElem?_toArray, List.getElem?_cons_zero, List.getElem?_cons_succ]
  show wpQuiet _ _ _ _ [_] _
  repeat (go_big_quiet_step (fail))
  refine wpQuiet_nil ?_
  unfold ChainZ PlanZ
  have hbk := Cel.born w2 67 #[.pointer (some ⟨x.a, 0, none⟩), .pointer (some ⟨x.a, 1, none⟩)]
  have h3 := h2.step ((Below.refl w2.heap.size w2).alloc (Nat.le_refl _) (.cells #[.pointer (some ⟨x.a, 0, none⟩), .pointer (some ⟨x.a, 1, none⟩)] 67))
  obtain ⟨bk, hk⟩ : ∃ bk, bk = w2.heap.size := ⟨_, rfl⟩
  rw [← hk] at hbk ⊢
  clear hk h2
  generalize w2.alloc (.cells #[.pointer (some ⟨x.a, 0, none⟩), .pointer (some ⟨x.a, 1, none⟩)] 67) = w3 at hbk h3 ⊢
  go_wp2_with fail
  go_loopg [20] 2 (fun q s20 ws => ∃ (i : Nat) (s1 : PoS) (x1 : PoP), s20 = .int .i64 i ∧ i ≤ 2 ∧ 2 - i ≤ q ∧ Rep B w0 ws W s1 ∧ Cel ws bk 67 #[.pointer (some ⟨x.a, 0, none⟩), .pointer (some ⟨x.a, 1, none⟩)] ∧ Hid (FlI i s A x C s1 x1))
  case atStart => exact ⟨0, s, x, rfl, by omega, by omega, h3, hbk, ⟨HS.out.2.1, rfl, HE.out, Nat.le_refl _, Nat.le_refl _, .inl ⟨rfl, rfl, rfl⟩⟩⟩
  case round =>
    clear h3 hbk
    obtain ⟨i, s1, ⟨a1, o1, t1, f1⟩, rfl, hi, hq, h1, hbk, hF⟩ := hrel
    have hF' := hF.out
    obtain ⟨F1, F2, F3, F4, F5, F6⟩ := hF'
    clear hF
    have F2' : a1 = x.a := F2
    subst F2'
    have hi3 : i = 0 ∨ i = 1 ∨ i = 2 := by omega
    rcases hi3 with rfl | rfl | rfl
    · have F7 : s1 = s ∧ (⟨x.a, o1, t1, f1⟩ : PoP) = x := by
        rcases F6 with ⟨_, e1, e2⟩ | ⟨e, _⟩ | ⟨e, _⟩
        · exact ⟨e1, e2⟩
        · omega
        · omega
      obtain ⟨rfl, hx0⟩ := F7
      have HF := Lib.hid (And.intro F1 (And.intro F3 (And.intro F4 F5)))
      clear F1 F2 F3 F4 F5 F6
      obtain ⟨xa, xo, xt, xf⟩ := x
      injection hx0 with _ e2 e3 e4
      subst e2 e3 e4
      have hin1 := h1.in (x := ⟨xa, o1, t1, f1⟩) HF.out.1
      have hx1 := h1.pairs _ hin1.1
      have ce : wr.cell? ⟨bk, 0, none⟩ = some (.pointer (some ⟨xa, 0, none⟩)) := hbk.cell 0
      have cx : wr.cell? ⟨xa, 0, none⟩ = some (ptr o1) := hx1.cell 0
      have hb1 := h1.bufs o1 hin1.2.1
      obtain ⟨ln, hln⟩ : ∃ ln, ln = (s1.con o1).length := ⟨_, rfl⟩
      have hl32 : ln ≤ 32 := by rw [hln]; exact hb1.le
      have HL := Lib.hid hln
      have HI := Lib.hid (And.intro h1 (And.intro hin1 (And.intro hbk hb1)))
      unfold ptr at cx
      clear h1 hin1 hx1 hbk hb1 hln
      go_wp2_with fail
      refine (blen_any _ o1 _ HI.out.2.2.2).mono ?_
      rintro e w' ⟨rfl, rfl⟩
      rw [← HL.out]
      by_cases hpos : 0 < ln
      · have g0 : 0 < (ln : Int) := by omega
        go_wp2_with fail
        refine (pool_give (x := ⟨xa, o1, t1, f1⟩) (b := o1) HI.out.1 HF.out.1 HI.out.2.2.2 (HI.out.1.gB _ HI.out.2.1.2.1) (by have := HF.out.2.2.2; have := HS.out.2.2.2.2; omega)).mono ?_
        rintro e w7 ⟨⟨v7, rfl⟩, h7, k7⟩
        have hbk7 := k7 _ _ _ HI.out.2.2.1 (by decide) (by decide) (by decide) (by decide)
        have H7 := Lib.hid (And.intro h7 hbk7)
        clear h7 k7 hbk7 ce cx
        go_wp2_with fail
        refine (pool_fresh H7.out.1 HF.out.2.1 (by have := HF.out.2.2.1; have := HS.out.2.2.2.1; show s1.emp.length ≤ _; omega)).mono ?_
        rintro e w8 ⟨g, emp, rfl, hb8, hgB, h8, k8, _, hfr⟩
        have hbk8 := k8 _ _ _ H7.out.2 (by decide) (by decide) (by decide) (by decide)
        have hfr' : s1.emp = emp ++ [g] ∨ (s1.emp = [] ∧ emp = [] ∧ g ∉ allB ⟨A ++ ⟨xa, o1, t1, true⟩ :: C, s1.full ++ [o1], s1.emp, s1.con⟩) := by
          rcases hfr with hfr | ⟨h10, h11, h12⟩
          · exact .inl hfr
          · refine .inr ⟨h10, h11, fun hin => ?_⟩
            have := (H7.out.1.bufs g hin).lt
            omega
        have h8' := h8.con (con := updC s1.con g []) (fresh_con HF.out.2.1 hfr')
        have hb8' : BufAt w8 g (updC s1.con g [] g) ∧ B ≤ g := ⟨by rw [updC_at]; exact hb8, hgB⟩
        have h9 := h8'.setO (x := ⟨xa, o1, t1, true⟩) rfl hb8'
        have hxx := h8'.pairs ⟨xa, o1, t1, true⟩ (by show _ ∈ A ++ _ :: C; simp)
        have e1 : w8.frozen? ⟨xa, 0, none⟩ = false := hxx.free 0
        have f2 : w8.cell? ⟨xa, 0, none⟩ = some (ptr o1) := hxx.cell 0
        have hbk9 : Cel (w8.setCell ⟨xa, 0, none⟩ (ptr g)) bk 67 #[.pointer (some ⟨xa, 0, none⟩), .pointer (some ⟨xa, 1, none⟩)] := Upd.cel ((Upd.refl (· = xa) w8).sc (fun _ => rfl) 0 (ptr g)) hbk8 (fun e => hbk8.ne hxx (by decide) e)
        have hfre : Fresh s1 g emp := by
          rcases hfr' with hfr | ⟨h10, h11, h12⟩
          · exact .inl hfr
          · refine .inr ⟨h10, h11, fun hin => h12 ?_⟩
            unfold allB at hin ⊢
            rw [HF.out.1] at hin
            rw [bufsP_app] at hin ⊢
            simp only [List.mem_append, List.mem_cons] at hin ⊢
            rcases hin with hin | hin | hin
            · exact .inl hin
            · exact .inr (.inl (.inl hin))
            · exact .inr (.inr hin)
        have H9 := Lib.hid (And.intro h9 (And.intro hbk9 hfre))
        have hE9 : Hid ((∀ k ∈ emp, updC s1.con g [] k = []) ∧ emp.length ≤ s1.emp.length) := by
          rcases hfre with hfre | ⟨q1, q2, _⟩
          · refine ⟨fun k hk => ?_, by rw [hfre]; simp⟩
            unfold updC
            split
            · rfl
            · exact HF.out.2.1 k (by rw [hfre]; simp [hk])
          · rw [q2]; exact ⟨(fun k hk => by cases hk), by simp⟩
        clear h8 hb8 hgB k8 hbk8 hfr hfr' h8' hb8' h9 hxx hbk9 hfre H7
        unfold ptr at e1 f2
        go_wp2_with fail
        go_roundg 1
        case measure => omega
        case rel => exact ⟨1, _, ⟨xa, g, t1, true⟩, rfl, by omega, by omega, H9.out.1, H9.out.2.1, ⟨rfl, rfl, hE9.out.1, by have := hE9.out.2; have := HF.out.2.2.1; show emp.length ≤ _; omega, by have := HF.out.2.2.2; show (s1.full ++ [_]).length ≤ _; simp only [List.length_append, List.length_singleton]; omega, .inr (.inl ⟨rfl, .inr ⟨by show 0 < (s1.con o1).length; have := HL.out; omega, g, emp, H9.out.2.2, rfl, rfl⟩⟩)⟩⟩
      · obtain rfl : ln = 0 := by omega
        go_wp2_with fail
        go_roundg 1
        case measure => omega
        case rel => exact ⟨1, s1, ⟨xa, o1, t1, f1⟩, rfl, by omega, by omega, HI.out.1, HI.out.2.2.1, ⟨HF.out.1, rfl, HF.out.2.1, HF.out.2.2.1, by have := HF.out.2.2.2; omega, .inr (.inl ⟨rfl, .inl ⟨List.eq_nil_of_length_eq_zero (by show (s1.con o1).length = 0; have := HL.out; omega), rfl, rfl⟩⟩)⟩⟩
    · have F7 : FlO s A x C s1 ⟨x.a, o1, t1, f1⟩ := by
        rcases F6 with ⟨e, _⟩ | ⟨_, e1⟩ | ⟨e, _⟩
        · omega
        · exact e1
        · omega
      have HF := Lib.hid (And.intro F1 (And.intro F3 (And.intro F4 (And.intro F5 F7))))
      clear F1 F2 F3 F4 F5 F6 F7
      have hin1 := h1.in (x := ⟨x.a, o1, t1, f1⟩) HF.out.1
      have hx1 := h1.pairs _ hin1.1
      have ce : wr.cell? ⟨bk, 1, none⟩ = some (.pointer (some ⟨x.a, 1, none⟩)) := hbk.cell 1
      have cx : wr.cell? ⟨x.a, 1, none⟩ = some (ptr t1) := hx1.cell 1
      have hb1 := h1.bufs t1 hin1.2.2
      obtain ⟨ln, hln⟩ : ∃ ln, ln = (s1.con t1).length := ⟨_, rfl⟩
      have hl32 : ln ≤ 32 := by rw [hln]; exact hb1.le
      have HL := Lib.hid hln
      have HI := Lib.hid (And.intro h1 (And.intro hin1 (And.intro hbk hb1)))
      unfold ptr at cx
      clear h1 hin1 hx1 hbk hb1 hln
      go_wp2_with fail
      refine (blen_any _ t1 _ HI.out.2.2.2).mono ?_
      rintro e w' ⟨rfl, rfl⟩
      rw [← HL.out]
      by_cases hpos : 0 < ln
      · have g0 : 0 < (ln : Int) := by omega
        go_wp2_with fail
        refine (pool_give (x := ⟨x.a, o1, t1, f1⟩) (b := t1) HI.out.1 HF.out.1 HI.out.2.2.2 (HI.out.1.gB _ HI.out.2.1.2.2) (by have := HF.out.2.2.2.1; have := HS.out.2.2.2.2; omega)).mono ?_
        rintro e w7 ⟨⟨v7, rfl⟩, h7, k7⟩
        have hbk7 := k7 _ _ _ HI.out.2.2.1 (by decide) (by decide) (by decide) (by decide)
        have H7 := Lib.hid (And.intro h7 hbk7)
        clear h7 k7 hbk7 ce cx
        go_wp2_with fail
        refine (pool_fresh H7.out.1 HF.out.2.1 (by have := HF.out.2.2.1; have := HS.out.2.2.2.1; show s1.emp.length ≤ _; omega)).mono ?_
        rintro e w8 ⟨g, emp, rfl, hb8, hgB, h8, k8, _, hfr⟩
        have hbk8 := k8 _ _ _ H7.out.2 (by decide) (by decide) (by decide) (by decide)
        have hfr' : s1.emp = emp ++ [g] ∨ (s1.emp = [] ∧ emp = [] ∧ g ∉ allB ⟨A ++ ⟨x.a, o1, t1, true⟩ :: C, s1.full ++ [t1], s1.emp, s1.con⟩) := by
          rcases hfr with hfr | ⟨h10, h11, h12⟩
          · exact .inl hfr
          · refine .inr ⟨h10, h11, fun hin => ?_⟩
            have := (H7.out.1.bufs g hin).lt
            omega
        have h8' := h8.con (con := updC s1.con g []) (fresh_con HF.out.2.1 hfr')
        have hb8' : BufAt w8 g (updC s1.con g [] g) ∧ B ≤ g := ⟨by rw [updC_at]; exact hb8, hgB⟩
        have h9 := h8'.setT (x := ⟨x.a, o1, t1, true⟩) rfl hb8'
        have hxx := h8'.pairs ⟨x.a, o1, t1, true⟩ (by show _ ∈ A ++ _ :: C; simp)
        have e1 : w8.frozen? ⟨x.a, 1, none⟩ = false := hxx.free 1
        have f2 : w8.cell? ⟨x.a, 1, none⟩ = some (ptr t1) := hxx.cell 1
        have hbk9 : Cel (w8.setCell ⟨x.a, 1, none⟩ (ptr g)) bk 67 #[.pointer (some ⟨x.a, 0, none⟩), .pointer (some ⟨x.a, 1, none⟩)] := Upd.cel ((Upd.refl (· = x.a) w8).sc (fun _ => rfl) 1 (ptr g)) hbk8 (fun e => hbk8.ne hxx (by decide) e)
        have hfre : Fresh s1 g emp := by
          rcases hfr' with hfr | ⟨h10, h11, h12⟩
          · exact .inl hfr
          · refine .inr ⟨h10, h11, fun hin => h12 ?_⟩
            unfold allB at hin ⊢
            rw [HF.out.1] at hin
            rw [bufsP_app] at hin ⊢
            simp only [List.mem_append, List.mem_cons] at hin ⊢
            rcases hin with hin | hin | hin
            · exact .inl hin
            · exact .inr (.inl (.inl hin))
            · exact .inr (.inr hin)
        have H9 := Lib.hid (And.intro h9 (And.intro hbk9 hfre))
        have hE9 : Hid ((∀ k ∈ emp, updC s1.con g [] k = []) ∧ emp.length ≤ s1.emp.length) := by
          rcases hfre with hfre | ⟨q1, q2, _⟩
          · refine ⟨fun k hk => ?_, by rw [hfre]; simp⟩
            unfold updC
            split
            · rfl
            · exact HF.out.2.1 k (by rw [hfre]; simp [hk])
          · rw [q2]; exact ⟨(fun k hk => by cases hk), by simp⟩
        clear h8 hb8 hgB k8 hbk8 hfr hfr' h8' hb8' h9 hxx hbk9 hfre H7
        unfold ptr at e1 f2
        go_wp2_with fail
        go_roundg 0
        case measure => omega
        case rel => exact ⟨2, _, ⟨x.a, o1, g, true⟩, rfl, by omega, by omega, H9.out.1, H9.out.2.1, ⟨rfl, rfl, hE9.out.1, by have := hE9.out.2; have := HF.out.2.2.1; show emp.length ≤ _; omega, by have := HF.out.2.2.2.1; show (s1.full ++ [_]).length ≤ _; simp only [List.length_append, List.length_singleton]; omega, .inr (.inr ⟨rfl, _, _, HF.out.2.2.2.2, .inr ⟨by show 0 < (s1.con t1).length; have := HL.out; omega, g, emp, H9.out.2.2, rfl, rfl⟩⟩)⟩⟩
      · obtain rfl : ln = 0 := by omega
        go_wp2_with fail
        go_roundg 0
        case measure => omega
        case rel => exact ⟨2, s1, ⟨x.a, o1, t1, f1⟩, rfl, by omega, by omega, HI.out.1, HI.out.2.2.1, ⟨HF.out.1, rfl, HF.out.2.1, HF.out.2.2.1, by have := HF.out.2.2.2.1; omega, .inr (.inr ⟨rfl, _, _, HF.out.2.2.2.2, .inl ⟨List.eq_nil_of_length_eq_zero (by show (s1.con t1).length = 0; have := HL.out; omega), rfl, rfl⟩⟩)⟩⟩
    · have F7 : ∃ s2 x2, FlO s A x C s2 x2 ∧ FlT s2 A x2 C s1 ⟨x.a, o1, t1, f1⟩ := by
        rcases F6 with ⟨e, _⟩ | ⟨e, _⟩ | ⟨_, e1⟩
        · omega
        · omega
        · exact e1
      have HF := Lib.hid (And.intro F1 F7)
      clear F1 F2 F3 F4 F5 F6 F7 hbk
      go_wp2_with fail
      go_end0
      obtain ⟨s2, x2, k1, k2⟩ := HF.out.2
      exact ⟨⟨_, rfl⟩, s2, x2, s1, _, h1, HF.out.1, k1, k2⟩
end
end Go.Proofs.Ytbcleeifkmjlmaa
