/-
  The walk of SpanFree: it returns true whatever came in. Under: the library's table.
-/
import Derived.Test.YtpbghoddemffhaaDoorSpanA
namespace Go.Proofs.YtpbghoddemffhaaDoor
open Go.RowKit
set_option maxRecDepth 100000
set_option maxHeartbeats 2000000

theorem atM_none (i : Int) : atM (fun _ => false) i = false := by unfold atM; simp
theorem next_none {n : Nat} (h : 1 ≤ n) : nextM (fun _ => false) n false (Int.toNat 0) = ((0 : Nat) : Int) := nextM_some (Nat.le_refl _) h rfl (fun t h1 h2 => by omega)
theorem free_core (class_ i : Int) (k n q : Nat) (w : World) (hT : Tab w)
    (u1 : 0 ≤ IntKind.u64.wrap class_) (hk : IntKind.u64.wrap class_ % 16 = (k : Int)) (hk16 : k < 16) (u2 : 0 ≤ IntKind.u64.wrap i) (hq : IntKind.u64.wrap i % (n : Int) = (q : Int)) (hqn : q < n)
    (hn : slN k = (n : Int)) (hn1 : 1 ≤ n) (hn2 : n ≤ 64) :
    Calls Tryd.prog 12 #[.int .i64 class_, .int .i64 i] w fun e w' => e = .returned (.bool true) ∧ Below w.heap.size w w' := by
  have HT := Lib.hid hT
  have HN := Lib.hid hn
  have HQ := Lib.hid hq
  clear hT hn hq
  go_enter Tryd.func12, Tryd.ntmps12
  go_wp2_with fail
  refine (sp_new w 9 k n hk16 (by omega) (by omega) HN.out).mono ?_
  rintro e w1 ⟨h0, hb0⟩
  obtain ⟨p, u, ku, m, km, rfl, h1⟩ := SpIn.new h0 hb0
  clear h0 hb0 u1 hk
  go_wp2_with fail
  refine (sp_mark_not _ _ _ _ _ _ _ _ _ _ _ _ h1.at_ i (atM_none i)).mono ?_
  rintro e w' ⟨rfl, rfl⟩
  go_wp2_with fail
  refine (sp_marked _ _ _ _ _ _ _ _ _ _ _ _ h1.at_ i).mono ?_
  rintro e w' ⟨rfl, rfl⟩
  rw [atM_none]
  go_wp2_with fail
  refine (sp_used _ _ _ _ _ _ _ _ _ _ _ _ h1.at_ i).mono ?_
  rintro e w' ⟨rfl, rfl⟩
  rw [atM_none]
  go_wp2_with fail
  refine (sp_full _ _ _ _ _ _ _ _ _ _ _ _ h1.at_ (h1.tab HT.out rfl)).mono ?_
  rintro e w2 ⟨rfl, hb2⟩
  have h2 := h1.step hb2
  rw [next_none hn1, show decide (((0 : Nat) : Int) < 0) = false from rfl]
  clear h1 hb2
  go_wp2_with fail
  refine (sp_sweep w2 p u ku m km n 9 k 0 _ _ h2.at_ (h2.tab HT.out rfl)).mono ?_
  rintro e w3 ⟨v3, rfl, hv3, hS3, hu3⟩
  have h3 := h2.swept hS3 hu3
  obtain ⟨va, vc, rfl⟩ := hv3.rd.form
  rw [show (elems (fun t => (fun _ => false : Nat → Bool) t && !(fun _ => false : Nat → Bool) t) n).length = 0 from congrArg List.length (elems_none n)]
  clear h2 hS3 hu3 hv3
  go_wp2_with fail
  refine (sp_live _ _ _ _ _ _ _ _ _ _ _ _ h3.at_).mono ?_
  rintro e w' ⟨rfl, rfl⟩
  rw [cnt_none]
  go_wp2_with fail
  refine (sp_alloc w3 p m km u ku n 9 k 0 _ _ h3.at_ (h3.tab HT.out rfl) false 0 (next_none hn1) (by omega) rfl).mono ?_
  rintro e w4 ⟨rfl, hS4, hu4⟩
  have h4 := h3.put hS4 hu4
  rw [if_neg Bool.false_ne_true] at h4
  clear h3 hS4 hu4
  go_wp2_with fail
  refine (sp_slots _ _ _ _ _ _ _ _ _ _ _ _ h4.at_).mono ?_
  rintro e w' ⟨rfl, rfl⟩
  have hq := HQ.out
  have wn : IntKind.u64.wrap (n : Int) = (n : Int) := by rw [IntKind.wrap_u64]; omega
  have n0 : ((n : Int) == 0) = false := by simp; omega
  go_wp2_with fail
  clear hq wn n0 u2
  by_cases h0 : q = 0
  · subst h0
    refine (sp_mark w4 p m km u ku n 9 k _ _ _ h4.at_ 0 rfl).mono ?_
    rintro e w5 ⟨rfl, hS5, hu5⟩
    have h5 := h4.mark hS5 hu5
    clear h4 hS5 hu5
    go_wp2_with fail
    refine (sp_alloc_nil _ true).mono ?_
    rintro e w6 ⟨rfl, q6, rfl⟩
    have h6 := h5.step (below_drewN q6)
    generalize World.drewN _ q6 = w6 at h6 ⊢
    clear h5
    go_wp2_with fail
    refine (sp_at_nil _ 64).mono ?_
    rintro e w' ⟨rfl, rfl⟩
    go_wp2_with fail
    refine (told6_any _ (h6.tab HT.out rfl)).mono ?_
    rintro e w7 ⟨rfl, hb7⟩
    have h7 := h6.step hb7
    clear h6 hb7
    go_wp2_with fail
    refine (sp_marked _ _ _ _ _ _ _ _ _ _ _ _ h7.at_ _).mono ?_
    rintro e w' ⟨rfl, rfl⟩
    rw [show atM (putM (fun _ => false) 0) 0 = true from rfl]
    go_wp2_with fail
    refine (sp_mark w7 p m km u ku n 9 k _ _ _ h7.at_ 0 rfl).mono ?_
    rintro e w8 ⟨rfl, hS8, hu8⟩
    have h8 := h7.mark hS8 hu8
    rw [show (!putM (fun _ => false) 0 0) = false from rfl]
    clear h7 hS8 hu8
    go_wp2_with fail
    refine (sp_full_nil _).mono ?_
    rintro e w9 ⟨rfl, q9, rfl⟩
    have h9 := h8.step (below_drewN q9)
    generalize World.drewN _ q9 = w9 at h9 ⊢
    clear h8
    go_wp2_with fail
    refine (sp_slots_nil _).mono ?_
    rintro e w' ⟨rfl, rfl⟩
    go_wp2_with fail
    refine (sp_live_nil _).mono ?_
    rintro e w' ⟨rfl, rfl⟩
    go_wp2_with fail
    refine (sp_sweep_nil _).mono ?_
    rintro e w10 ⟨rfl, hb10⟩
    have h10 := h9.step hb10
    clear h9 hb10
    go_wp2_with fail
    refine (sp_mark_nil _ 0).mono ?_
    rintro e w' ⟨rfl, rfl⟩
    go_wp2_with fail
    go_ret
    exact ⟨rfl, h10.below⟩
  · have g0 : ((q : Int) == 0) = false := by simp; omega
    have hno : atM (putM (fun _ => false) 0) (q : Int) = false := by rw [atM_nat]; unfold putM; rw [if_neg h0]
    have HNO := Lib.hid hno
    clear h0 hno
    refine (sp_mark_not _ _ _ _ _ _ _ _ _ _ _ _ h4.at_ q HNO.out).mono ?_
    rintro e w5 ⟨rfl, hw5⟩
    subst hw5
    have h5 := h4
    clear h4
    go_wp2_with fail
    refine (sp_alloc_nil _ true).mono ?_
    rintro e w6 ⟨rfl, q6, rfl⟩
    have h6 := h5.step (below_drewN q6)
    generalize World.drewN _ q6 = w6 at h6 ⊢
    clear h5
    go_wp2_with fail
    refine (sp_at_nil _ 64).mono ?_
    rintro e w' ⟨rfl, rfl⟩
    go_wp2_with fail
    refine (told6_any _ (h6.tab HT.out rfl)).mono ?_
    rintro e w7 ⟨rfl, hb7⟩
    have h7 := h6.step hb7
    clear h6 hb7
    go_wp2_with fail
    refine (sp_marked _ _ _ _ _ _ _ _ _ _ _ _ h7.at_ _).mono ?_
    rintro e w' ⟨rfl, rfl⟩
    rw [atM_none]
    go_wp2_with fail
    refine (sp_mark_not _ _ _ _ _ _ _ _ _ _ _ _ h7.at_ q HNO.out).mono ?_
    rintro e w8 ⟨rfl, hw8⟩
    subst hw8
    have h8 := h7
    clear h7
    go_wp2_with fail
    refine (sp_full_nil _).mono ?_
    rintro e w9 ⟨rfl, q9, rfl⟩
    have h9 := h8.step (below_drewN q9)
    generalize World.drewN _ q9 = w9 at h9 ⊢
    clear h8
    go_wp2_with fail
    refine (sp_slots_nil _).mono ?_
    rintro e w' ⟨rfl, rfl⟩
    go_wp2_with fail
    refine (sp_live_nil _).mono ?_
    rintro e w' ⟨rfl, rfl⟩
    go_wp2_with fail
    refine (sp_sweep_nil _).mono ?_
    rintro e w10 ⟨rfl, hb10⟩
    have h10 := h9.step hb10
    clear h9 hb10
    go_wp2_with fail
    refine (sp_mark_nil _ 0).mono ?_
    rintro e w' ⟨rfl, rfl⟩
    go_wp2_with fail
    go_ret
    exact ⟨rfl, h10.below⟩
theorem SpanFree_walk (w : World) (hT : Tab w) (class_ i : Int) :
    Calls Tryd.prog 12 #[.int .i64 class_, .int .i64 i] w fun e w' => e = .returned (.bool true) ∧ Below w.heap.size w w' := by
  have u1 : 0 ≤ IntKind.u64.wrap class_ := by rw [IntKind.wrap_u64]; exact Int.emod_nonneg _ (by omega)
  have u2 : 0 ≤ IntKind.u64.wrap i := by rw [IntKind.wrap_u64]; exact Int.emod_nonneg _ (by omega)
  have a1 : IntKind.u64.wrap class_ % 16 < 16 := Int.emod_lt_of_pos _ (by omega)
  obtain ⟨k, hk⟩ := Int.eq_ofNat_of_zero_le (show 0 ≤ IntKind.u64.wrap class_ % 16 from Int.emod_nonneg _ (by omega))
  obtain ⟨s, n, P, e1, e2, e3, s1, s2, n1, n2, p1, p2, hns⟩ := cls_nums k (by omega)
  have a2 : IntKind.u64.wrap i % (n : Int) < n := Int.emod_lt_of_pos _ (by omega)
  obtain ⟨q, hq⟩ := Int.eq_ofNat_of_zero_le (show 0 ≤ IntKind.u64.wrap i % (n : Int) from Int.emod_nonneg _ (by omega))
  exact free_core class_ i k n q w hT u1 hk (by omega) u2 hq (by omega) e2 n1 n2
end Go.Proofs.YtpbghoddemffhaaDoor
