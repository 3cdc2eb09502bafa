/-
  The laws PoolFlags and PoolLists: puts of the first of two, and what they leave.
-/
import Derived.Test.YtbcleeifkmjlmaaPoolD
namespace Go.Proofs.Ytbcleeifkmjlmaa
open Go.RowKit
set_option maxRecDepth 100000
set_option maxHeartbeats 2000000

/-- After j puts of the first of two. -/
def PI (j : Nat) (o t : List Int) (f : Bool) (full : List (List Int)) : Prop :=
  (∀ l ∈ full, l.length = 32) ∧
    ((j ≤ 32 ∧ o.length = j ∧ t = [] ∧ f = false ∧ full = []) ∨
     (32 < j ∧ t.length = 32 ∧ 1 ≤ o.length ∧ o.length ≤ 32 ∧ o.length + 32 + 32 * full.length = j ∧ f = decide (64 < j)))
theorem PI.len {j : Nat} {o t : List Int} {f : Bool} {full : List (List Int)} (h : PI j o t f full) : full.length ≤ j := by
  rcases h.2 with ⟨_, _, _, _, h5⟩ | ⟨_, _, _, _, h5, _⟩
  · rw [h5]; simp
  · omega
theorem PI.f {j : Nat} {o t : List Int} {f : Bool} {full : List (List Int)} (h : PI j o t f full) : f = decide (64 < j) := by
  rcases h.2 with ⟨h1, _, _, h4, _⟩ | ⟨_, _, _, _, _, h6⟩
  · rw [h4]; exact (decide_eq_false (by omega)).symm
  · exact h6
theorem PI.put {j : Nat} {o t : List Int} {f : Bool} {full : List (List Int)} (h : PI j o t f full) {y : List Int × List Int × Bool} {v : Int} {P : Pl} (hp : PutL [] [y] o t f full 0 v P) :
    ∃ o' t' f' full', P = ⟨[(o', t', f'), y], full', 0⟩ ∧ PI (j + 1) o' t' f' full' := by
  obtain ⟨ha, h⟩ := h
  rcases hp with ⟨p1, rfl⟩ | ⟨p1, p2, rfl⟩ | ⟨p1, p2, rfl⟩
  · refine ⟨_, _, _, _, rfl, ha, ?_⟩
    rcases h with ⟨h1, h2, h3, h4, h5⟩ | ⟨h1, h2, h3, h4, h5, h6⟩
    · exact .inl ⟨by omega, by simp; omega, h3, h4, h5⟩
    · refine .inr ⟨by omega, h2, by simp, by simp; omega, by simp; omega, ?_⟩
      rw [h6]
      exact decide_eq_decide.2 (by omega)
  · rcases h with ⟨h1, h2, h3, h4, h5⟩ | ⟨h1, h2, h3, h4, h5, h6⟩
    · subst h3 h5
      refine ⟨_, _, _, _, rfl, ha, .inr ⟨by omega, p1, by simp, by simp, by simp; omega, ?_⟩⟩
      rw [h4]
      exact (decide_eq_false (by omega)).symm
    · omega
  · rcases h with ⟨h1, h2, h3, h4, h5⟩ | ⟨h1, h2, h3, h4, h5, h6⟩
    · rw [h3] at p2; exact absurd p2 (by decide)
    · refine ⟨_, _, _, _, rfl, fun l hl => ?_, .inr ⟨by omega, p1, by simp, by simp, by simp; omega, (decide_eq_true (by omega)).symm⟩⟩
      rcases List.mem_append.1 hl with hl | hl
      · exact ha l hl
      · rw [List.mem_singleton.1 hl]; exact p2
/-- What is left of the first of two after a get. -/
theorem get_own {o t : List Int} {f ok : Bool} {full : List (List Int)} {e : Nat} {y : List Int × List Int × Bool} {v : Int} {P : Pl} (hn : o = [] → t = [] ∧ full = []) (hp : GetL [] [y] o t f full e v ok P) :
    P = ⟨[(o.dropLast, t, f), y], full, e⟩ := by
  rcases hp with ⟨_, _, _, h⟩ | ⟨h1, h2, _⟩ | ⟨h1, h2, h3, _, h⟩ | ⟨h1, h2, F, l, h3, _⟩
  · exact h
  · rw [(hn h1).1] at h2; exact absurd h2 (by decide)
  · subst h1 h2 h3; exact h
  · rw [(hn h1).2] at h3; exact absurd (congrArg List.length h3) (by simp)

theorem PoolFlags_walk (w : World) (n : Int) :
    Calls Try.prog 6 #[.int .i64 n] w fun e w' => e = .returned (.bool true) ∧ Below w.heap.size w w' := by
  have hu : 0 ≤ IntKind.u64.wrap n := by rw [IntKind.wrap_u64]; exact Int.emod_nonneg _ (by omega)
  have hm0 : 0 ≤ IntKind.u64.wrap n % 101 := Int.emod_nonneg _ (by omega)
  have hm1 : IntKind.u64.wrap n % 101 < 101 := Int.emod_lt_of_pos _ (by omega)
  obtain ⟨k, hk⟩ := Int.eq_ofNat_of_zero_le hm0
  have hk100 : k ≤ 100 := by omega
  clear hm0 hm1
  go_enter Try.func6, Try.ntmps6
  go_wp2_with fail
  refine (new2 w).mono ?_
  rintro e w1 ⟨W, rfl, h1⟩
  unfold ptr
  go_wp2_with fail
  clear hk hu
  obtain ⟨B, hB⟩ : ∃ B, B = w.heap.size := ⟨_, rfl⟩
  rw [← hB] at h1
  have HB := Lib.hid hB
  clear hB
  go_loopg [6] 101 (fun q s6 ws => ∃ (j : Nat) (o t : List Int) (f : Bool) (full : List (List Int)), s6 = .int .i64 (j + 1) ∧ j ≤ k ∧ 101 - j ≤ q ∧ RepL B w ws W ⟨[(o, t, f), ([], [], false)], full, 0⟩ ∧ Hid (PI j o t f full))
  case atStart => exact ⟨0, [], [], false, [], rfl, by omega, by omega, h1, ⟨(fun l hl => by cases hl), .inl ⟨by omega, rfl, rfl, rfl, rfl⟩⟩⟩
  case round =>
    clear h1
    obtain ⟨j, o, t, f, full, rfl, hj, hq, h1, hP⟩ := hrel
    have H1 := Lib.hid h1
    clear h1
    by_cases hlt : j < k
    · go_wp2_with fail
      refine (put20 H1.out (by omega) (by have := hP.out.len; omega) ((j : Int) + 1) (by omega)).mono ?_
      rintro e w2 ⟨rfl, P, h2, hp⟩
      obtain ⟨o', t', f', full', rfl, hP'⟩ := hP.out.put hp
      have H2 := Lib.hid h2
      have HP := Lib.hid hP'
      clear hp hP' h2 hP
      go_wp2_with fail
      go_roundg (101 - (j + 1))
      case measure => omega
      case rel => exact ⟨j + 1, o', t', f', full', by go_num, by omega, by omega, H2.out, HP⟩
    · obtain rfl : j = k := by omega
      have hf := hP.out.f
      have hne : o = [] → t = [] ∧ full = [] := fun ho => by
        rcases hP.out.2 with ⟨_, _, h3, _, h5⟩ | ⟨_, _, h3, _⟩
        · exact ⟨h3, h5⟩
        · rw [ho] at h3; exact absurd h3 (by decide)
      have hlen := hP.out.len
      have HX := Lib.hid (And.intro hne hlen)
      have l32 := H1.out.le.1 (o, t, f) (by simp)
      clear hP hne hlen
      go_wp2_with fail
      refine (flushed20 H1.out).mono ?_
      rintro e w' ⟨rfl, rfl⟩
      have c1 : (f == decide (64 < (j : Int))) = true := by
        rw [hf]; simp; omega
      go_wp2_with fail
      refine (flushed21 H1.out).mono ?_
      rintro e w' ⟨rfl, rfl⟩
      go_wp2_with fail
      refine (reset20 H1.out).mono ?_
      rintro e w2 ⟨⟨v2, rfl⟩, h2⟩
      have H2 := Lib.hid h2
      clear h2 H1
      go_wp2_with fail
      refine (flushed20 H2.out).mono ?_
      rintro e w' ⟨rfl, rfl⟩
      go_wp2_with fail
      refine (get20 H2.out (by omega) (by have := HX.out.2; omega)).mono ?_
      rintro e w3 ⟨v3, ok, rfl, P, h3, hp⟩
      obtain rfl := get_own HX.out.1 hp
      have H3 := Lib.hid h3
      clear h3 hp H2
      generalize ho' : o.dropLast = o' at H3
      have l32' : o'.length ≤ 32 := by rw [← ho']; simp; omega
      clear ho'
      go_wp2_with fail
      refine (flushed20 H3.out).mono ?_
      rintro e w' ⟨rfl, rfl⟩
      go_wp2_with fail
      refine (local20 H3.out).mono ?_
      rintro e w4 ⟨rfl, hb4⟩
      have H4 := Lib.hid (H3.out.step hb4)
      clear hb4 H3
      obtain ⟨hd, hhd⟩ : ∃ hd, hd = o'.length + t.length := ⟨_, rfl⟩
      rw [← hhd]
      have hfl : (decide (0 < o'.length) || decide (0 < t.length)) = decide (0 < (hd : Int)) := by
        rw [hhd, ← Bool.decide_or]; exact decide_eq_decide.2 (by omega)
      have HH := Lib.hid (And.intro hhd hfl)
      clear hhd hfl
      go_wp2_with fail
      refine (flush20 H4.out (by omega) (by have := HX.out.2; omega)).mono ?_
      rintro e w5 ⟨⟨v5, rfl⟩, e', _, _, h5⟩
      rw [HH.out.2, Bool.false_or] at h5
      have H5 := Lib.hid h5
      clear h5 H4
      go_wp2_with fail
      refine (told18 _).mono ?_
      rintro e w6 ⟨rfl, hb6⟩
      have H6 := Lib.hid (H5.out.step hb6)
      clear hb6 H5
      go_wp2_with fail
      refine (flushed20 H6.out).mono ?_
      rintro e w' ⟨rfl, rfl⟩
      go_wp2_with fail
      refine (local20 H6.out).mono ?_
      rintro e w7 ⟨rfl, hb7⟩
      have H7 := Lib.hid (H6.out.step hb7)
      clear hb7 H6
      go_wp2_with fail
      go_ret
      exact ⟨by simp, HB.out ▸ H7.out.below⟩
end Go.Proofs.Ytbcleeifkmjlmaa
