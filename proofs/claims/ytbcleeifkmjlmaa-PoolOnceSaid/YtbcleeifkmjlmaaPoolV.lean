/-
  The pool: Give: a contract over addresses.
-/
import Derived.Test.YtbcleeifkmjlmaaPoolD
import Derived.Test.YtbcleeifkmjlmaaBufC
namespace Go.Proofs.Ytbcleeifkmjlmaa
open Go.RowKit
set_option maxRecDepth 100000
set_option maxHeartbeats 2000000

/-- What a give makes of a pool, and hands back. -/
def GvS (s : PoS) (A : List PoP) (x : PoP) (C : List PoP) (s' : PoS) : Prop :=
  (0 < (s.con x.t).length ∧ ∃ g emp, Fresh s g emp ∧ s' = ⟨A ++ ⟨x.a, x.o, g, true⟩ :: C, s.full ++ [x.t], emp, updC s.con g []⟩) ∨
  (∃ b n, b ∉ allB s ∧ n < (s.con x.o).length ∧ s' = ⟨A ++ { x with f := true } :: C, s.full ++ [b], s.emp, updC (updC s.con x.o ((s.con x.o).take n)) b ((s.con x.o).drop n)⟩) ∨
  s' = s
def GvR (B : Nat) (w0 : World) (W : Nat) (s : PoS) (A : List PoP) (x : PoP) (C : List PoP) (e : Ending) (w' : World) : Prop := ∃ ok s', e = .returned (.bool ok) ∧ Rep B w0 w' W s' ∧ GvS s A x C s'
section
variable {B : Nat} {w0 w w' : World} {W : Nat} {s : PoS} {A C : List PoP} {x : PoP}
theorem pool_gv1 (h : Rep B w0 w W s) (hs : s.ps = A ++ x :: C) (hn : s.ps.length ≤ 64) (hE : ∀ g ∈ s.emp, s.con g = []) (hle : s.emp.length ≤ 100000) (hlf : s.full.length ≤ 100000) (hpos : 0 < (s.con x.t).length) :
    Calls Try.prog 28 #[ptr W, .int .i64 (A.length : Int)] w (GvR B w0 W s A x C) := by
  have hin := h.in hs
  have c1 : w.cell? ⟨x.a, 1, none⟩ = some (ptr x.t) := (h.pairs x hin.1).cell 1
  obtain ⟨ln, hln⟩ : ∃ ln, ln = (s.con x.t).length := ⟨_, rfl⟩
  have g0 : 0 < (ln : Int) := by omega
  have H := Lib.hid (And.intro h (And.intro hs (And.intro hn (And.intro hin (And.intro hle (And.intro hlf hln))))))
  have HE := Lib.hid hE
  have HP := Lib.hid hpos
  clear h hs hn hin hE hle hlf hln hpos
  unfold ptr at c1 ⊢
  go_enter Try.func28, Try.ntmps28
  go_wp2_with fail
  refine (pool_at H.out.1 H.out.2.1 H.out.2.2.1).mono ?_
  rintro e w' ⟨rfl, rfl⟩
  unfold ptr
  go_wp2_with fail
  refine (blen_any _ x.t _ (H.out.1.bufs _ H.out.2.2.2.1.2.2)).mono ?_
  rintro e w' ⟨rfl, rfl⟩
  rw [← H.out.2.2.2.2.2.2]
  go_wp2_with fail
  refine (pool_give (b := x.t) H.out.1 H.out.2.1 (H.out.1.bufs _ H.out.2.2.2.1.2.2) (H.out.1.gB _ H.out.2.2.2.1.2.2) (by have := H.out.2.2.2.2.2.1; omega)).mono ?_
  rintro e w7 ⟨⟨v7, rfl⟩, h7, _⟩
  have H7 := Lib.hid h7
  clear h7 c1
  go_wp2_with fail
  refine (pool_fresh H7.out HE.out (by have := H.out.2.2.2.2.1; show s.emp.length ≤ _; omega)).mono ?_
  rintro e w8 ⟨g, emp, rfl, hb8, hgB, h8, k8, _, hfr⟩
  have hfr' : s.emp = emp ++ [g] ∨ (s.emp = [] ∧ emp = [] ∧ g ∉ allB ⟨A ++ ⟨x.a, x.o, x.t, true⟩ :: C, s.full ++ [x.t], s.emp, s.con⟩) := by
    rcases hfr with hfr | ⟨h10, h11, h12⟩
    · exact .inl hfr
    · refine .inr ⟨h10, h11, fun hin => ?_⟩
      have := (H7.out.bufs g hin).lt
      omega
  have h8' := h8.con (con := updC s.con g []) (fresh_con HE.out hfr')
  have hb8' : BufAt w8 g (updC s.con g [] g) ∧ B ≤ g := ⟨by rw [updC_at]; exact hb8, hgB⟩
  have h9 := h8'.setT (x := ⟨x.a, x.o, x.t, true⟩) rfl hb8'
  have hxx := h8'.pairs ⟨x.a, x.o, x.t, true⟩ (by show _ ∈ A ++ _ :: C; simp)
  have e1 : w8.frozen? ⟨x.a, 1, none⟩ = false := hxx.free 1
  have f2 : w8.cell? ⟨x.a, 1, none⟩ = some (ptr x.t) := hxx.cell 1
  have hfre : Fresh s g emp := by
    rcases hfr' with hfr | ⟨h10, h11, h12⟩
    · exact .inl hfr
    · refine .inr ⟨h10, h11, fun hin => h12 ?_⟩
      unfold allB at hin ⊢
      rw [H.out.2.1] at hin
      rw [bufsP_app] at hin ⊢
      simp only [List.mem_append, List.mem_cons] at hin ⊢
      rcases hin with hin | hin | hin
      · exact .inl hin
      · exact .inr (.inl (.inl hin))
      · exact .inr (.inr hin)
  have H9 := Lib.hid (And.intro h9 hfre)
  clear h8 hb8 hgB k8 hfr hfr' h8' hb8' h9 hxx hfre H7
  unfold ptr at e1 f2
  go_wp2_with fail
  go_ret
  exact ⟨_, _, rfl, H9.out.1, .inl ⟨HP.out, g, emp, H9.out.2, rfl⟩⟩
theorem pool_gv2 (h : Rep B w0 w W s) (hs : s.ps = A ++ x :: C) (hn : s.ps.length ≤ 64) (hlf : s.full.length ≤ 100000) (hz : s.con x.t = []) (hpos : 4 < (s.con x.o).length) :
    Calls Try.prog 28 #[ptr W, .int .i64 (A.length : Int)] w (GvR B w0 W s A x C) := by
  have hin := h.in hs
  have c1 : w.cell? ⟨x.a, 1, none⟩ = some (ptr x.t) := (h.pairs x hin.1).cell 1
  have c0 : w.cell? ⟨x.a, 0, none⟩ = some (ptr x.o) := (h.pairs x hin.1).cell 0
  obtain ⟨ln, hln⟩ : ∃ ln, ln = (s.con x.o).length := ⟨_, rfl⟩
  have g0 : 4 < (ln : Int) := by omega
  have H := Lib.hid (And.intro h (And.intro hs (And.intro hn (And.intro hin (And.intro hz (And.intro hlf hln))))))
  clear h hs hn hin hlf hln hpos hz
  unfold ptr at c1 c0 ⊢
  go_enter Try.func28, Try.ntmps28
  go_wp2_with fail
  refine (pool_at H.out.1 H.out.2.1 H.out.2.2.1).mono ?_
  rintro e w' ⟨rfl, rfl⟩
  unfold ptr
  go_wp2_with fail
  refine (blen_any _ x.t _ (H.out.1.bufs _ H.out.2.2.2.1.2.2)).mono ?_
  rintro e w' ⟨rfl, rfl⟩
  rw [H.out.2.2.2.2.1, List.length_nil]
  go_wp2_with fail
  refine (blen_any _ x.o _ (H.out.1.bufs _ H.out.2.2.2.1.2.1)).mono ?_
  rintro e w' ⟨rfl, rfl⟩
  rw [← H.out.2.2.2.2.2.2]
  clear c1
  go_wp2_with fail
  refine (bnew_any _).mono ?_
  rintro e w1 ⟨rfl, hA, hb1⟩
  obtain ⟨b, hb⟩ : ∃ b, b = w.heap.size := ⟨_, rfl⟩
  rw [← hb] at hA ⊢
  have c0 : w1.cell? ⟨x.a, 0, none⟩ = some (ptr x.o) := ((H.out.1.step hb1).pairs x H.out.2.2.2.1.1).cell 0
  have H1 := Lib.hid (And.intro hA (And.intro hb1 hb))
  clear hA hb1 hb
  unfold ptr at c0 ⊢
  go_wp2_with fail
  have hob : x.o ≠ b := by have := (H.out.1.bufs _ H.out.2.2.2.1.2.1).lt; have := H1.out.2.2; omega
  refine (bhalf_gen _ x.o b _ [] ((H.out.1.bufs _ H.out.2.2.2.1.2.1).ofBelow H1.out.2.1) H1.out.1 hob).mono ?_
  rintro e w2 ⟨rfl, k1, k2, hu2⟩
  have hnl : (s.con x.o).length - halfN (s.con x.o) [] < (s.con x.o).length := by
    have h1 := (H.out.1.bufs _ H.out.2.2.2.1.2.1).le
    have h2 := H.out.2.2.2.2.2.2
    unfold halfN
    rw [if_pos (by simp; omega)]
    omega
  generalize hnk : (s.con x.o).length - halfN (s.con x.o) [] = nk at k1 k2 hnl
  have HN := Lib.hid hnl
  have hu : Upd (· = x.o) w w2 := (Upd.ofBelow H1.out.2.1).step hu2 (fun q hq hlt => by rcases hq with hq | hq; exact hq; have := H1.out.2.2; omega)
  have h2 := H.out.1.buf (H.out.1.bufs _ H.out.2.2.2.1.2.1) k1 hu (H.out.1.gB _ H.out.2.2.2.1.2.1)
  have hbn : b ∉ allB s := fun hin => by have := (H.out.1.bufs b hin).lt; have := H1.out.2.2; omega
  have h3 := h2.con (con := updC (updC s.con x.o ((s.con x.o).take nk)) b ((s.con x.o).drop nk)) (fun g hg => updC_ne (fun e => hbn (by rw [← e]; exact hg)))
  have hbb : BufAt w2 b (updC (updC s.con x.o ((s.con x.o).take nk)) b ((s.con x.o).drop nk) b) := by rw [updC_at]; simpa using k2
  have hbB : B ≤ b := by have := H.out.1.size; have := H1.out.2.2; omega
  have H3 := Lib.hid (And.intro h3 (And.intro hbb (And.intro hbB hbn)))
  clear hnk hnl hu k1 k2 hu2 h2 hbn h3 hbb hbB hob c0
  go_wp2_with fail
  refine (pool_give (b := b) H3.out.1 H.out.2.1 H3.out.2.1 H3.out.2.2.1 (by have := H.out.2.2.2.2.2.1; show s.full.length ≤ _; omega)).mono ?_
  rintro e w7 ⟨⟨v7, rfl⟩, h7, _⟩
  have H7 := Lib.hid h7
  clear h7
  go_wp2_with fail
  go_ret
  exact ⟨_, _, rfl, H7.out, .inr (.inl ⟨b, nk, H3.out.2.2.2, HN.out, rfl⟩)⟩
theorem pool_gv3 (h : Rep B w0 w W s) (hs : s.ps = A ++ x :: C) (hn : s.ps.length ≤ 64) (hz : s.con x.t = []) (hpos : ¬ 4 < (s.con x.o).length) :
    Calls Try.prog 28 #[ptr W, .int .i64 (A.length : Int)] w (GvR B w0 W s A x C) := by
  have hin := h.in hs
  have c1 : w.cell? ⟨x.a, 1, none⟩ = some (ptr x.t) := (h.pairs x hin.1).cell 1
  have c0 : w.cell? ⟨x.a, 0, none⟩ = some (ptr x.o) := (h.pairs x hin.1).cell 0
  obtain ⟨ln, hln⟩ : ∃ ln, ln = (s.con x.o).length := ⟨_, rfl⟩
  have g0 : ¬ 4 < (ln : Int) := by omega
  have H := Lib.hid (And.intro h (And.intro hs (And.intro hn (And.intro hin (And.intro hz hln)))))
  clear h hs hn hin hln hpos hz
  unfold ptr at c1 c0 ⊢
  go_enter Try.func28, Try.ntmps28
  go_wp2_with fail
  refine (pool_at H.out.1 H.out.2.1 H.out.2.2.1).mono ?_
  rintro e w' ⟨rfl, rfl⟩
  unfold ptr
  go_wp2_with fail
  refine (blen_any _ x.t _ (H.out.1.bufs _ H.out.2.2.2.1.2.2)).mono ?_
  rintro e w' ⟨rfl, rfl⟩
  rw [H.out.2.2.2.2.1, List.length_nil]
  go_wp2_with fail
  refine (blen_any _ x.o _ (H.out.1.bufs _ H.out.2.2.2.1.2.1)).mono ?_
  rintro e w' ⟨rfl, rfl⟩
  rw [← H.out.2.2.2.2.2]
  go_wp2_with fail
  go_ret
  exact ⟨_, _, rfl, H.out.1, .inr (.inr rfl)⟩
theorem pool_gv (h : Rep B w0 w W s) (hs : s.ps = A ++ x :: C) (hn : s.ps.length ≤ 64) (hE : ∀ g ∈ s.emp, s.con g = []) (hle : s.emp.length ≤ 100000) (hlf : s.full.length ≤ 100000) :
    Calls Try.prog 28 #[ptr W, .int .i64 (A.length : Int)] w (GvR B w0 W s A x C) := by
  by_cases h1 : 0 < (s.con x.t).length
  · exact pool_gv1 h hs hn hE hle hlf h1
  · have h2 : s.con x.t = [] := List.eq_nil_of_length_eq_zero (by omega)
    by_cases h3 : 4 < (s.con x.o).length
    · exact pool_gv2 h hs hn hlf h2 h3
    · exact pool_gv3 h hs hn h2 h3
end
end Go.Proofs.Ytbcleeifkmjlmaa
