/-
  The walk of the reference's Ints: are two lists one? No condition but that the lengths are numbers.
-/
import Derived.Test.YtbcleeifkmjlmaaInts
namespace Go.Proofs.Ytbcleeifkmjlmaa
open Go.RowKit
set_option maxRecDepth 100000
set_option maxHeartbeats 400000

theorem list_eq_of {l m : List Int} (hl : l.length = m.length) (h : ∀ i, i < l.length → l.getD i 0 = m.getD i 0) : l = m := by
  apply List.ext_getElem hl
  intro i h1 h2
  have := h i h1
  rwa [List.getD_eq_getElem?_getD, List.getD_eq_getElem?_getD, List.getElem?_eq_getElem h1, List.getElem?_eq_getElem h2] at this

theorem ints_core (w : World) (b off c b' off' c' n : Nat) (l m : List Int) (hl : l.length = n) (hm : m.length = n) (hn : n ≤ 9223372036854775807)
    (hc : ∀ j, j < n → w.cell? ⟨b, off + j, none⟩ = some (.int .i64 (l.getD j 0))) (hc' : ∀ j, j < n → w.cell? ⟨b', off' + j, none⟩ = some (.int .i64 (m.getD j 0))) :
    Calls Try.prog 18 #[.slice (some ⟨b, off, none⟩) n c, .slice (some ⟨b', off', none⟩) n c'] w fun e w' => e = .returned (.bool (decide (l = m))) ∧ ∃ n, w' = w.drewN n := by
  have HC := Lib.hid hc
  have HC' := Lib.hid hc'
  have HN := Lib.hid (And.intro hl hm)
  clear hc hc' hl hm
  go_enter Try.func18, Try.ntmps18
  go_wp2
  go_loopw [5] (fun p wr => ∃ i : Nat, i ≤ n ∧ p = .int .i64 i ∧ (∃ k, wr = w.drewN k) ∧ Hid (∀ j, j < i → l.getD j 0 = m.getD j 0)) (fun p _ => n - (intOf p).toNat)
  case atStart => exact ⟨0, by omega, rfl, ⟨0, rfl⟩, fun j hj => absurd hj (by omega)⟩
  case round =>
    obtain ⟨i, hi, rfl, ⟨q, rfl⟩, he⟩ := hrel
    by_cases hlt : i < n
    · have c1 := HC.out i hlt
      have c2 := HC'.out i hlt
      generalize hx : l.getD i 0 = x at c1
      generalize hy : m.getD i 0 = y at c2
      have HX := Lib.hid (And.intro hx hy)
      clear hx hy
      have i1 : (0 : Int) ≤ (i : Int) := by omega
      have i2 : (i : Int) < (n : Int) := by omega
      by_cases hxy : x = y
      · subst hxy
        go_wp2
        go_quiet (fail)
        go_wp2
        go_roundw
        case rel =>
          refine ⟨i + 1, by omega, by go_num, ⟨q + nq, by first | rfl | exact World.drewN_drewN _ _ _⟩, fun j hj => ?_⟩
          by_cases e : j = i
          · subst e; rw [HX.out.1, HX.out.2]
          · exact he.out j (by omega)
        case measure => simp [intOf]; omega
      · have d1 : (x == y) = false := by simpa using hxy
        have hd : decide (l = m) = false := by
          rw [decide_eq_false_iff_not]
          intro e
          exact hxy (by rw [← HX.out.1, ← HX.out.2, e])
        have HD := Lib.hid hd
        clear hd
        go_wp2
        go_quiet (fail)
        go_wp2
        go_ret
        exact ⟨by rw [HD.out]; rfl, q + nq, by first | rfl | exact World.drewN_drewN _ _ _⟩
    · have hd : decide (l = m) = true := by
        rw [decide_eq_true_eq]
        exact list_eq_of (by have := HN.out; omega) (fun j hj => he.out j (by have := HN.out; omega))
      have HD := Lib.hid hd
      clear hd
      go_wp2
      go_ret
      exact ⟨by rw [HD.out]; rfl, _, rfl⟩
theorem ints_any (w : World) (va vb : Value) (l m : List Int) (ha : Rd w va l) (hb : Rd w vb m) (hl : l.length ≤ 9223372036854775807) :
    Calls Try.prog 18 #[va, vb] w fun e w' => e = .returned (.bool (decide (l = m))) ∧ ∃ n, w' = w.drewN n := by
  by_cases hlen : l.length = m.length
  · by_cases h0 : 0 < l.length
    · obtain ⟨b, off, c, rfl, hc⟩ := ha.at h0
      obtain ⟨b', off', c', rfl, hc'⟩ := hb.at (by omega)
      have hc2 := hc'
      rw [← hlen] at hc2 ⊢
      exact ints_core w b off c b' off' c' l.length l m rfl hlen.symm hl hc hc2
    · obtain rfl : l = [] := List.eq_nil_of_length_eq_zero (by omega)
      obtain rfl : m = [] := List.eq_nil_of_length_eq_zero (by simpa using hlen.symm)
      obtain ⟨a, c, rfl⟩ := ha.form
      obtain ⟨a', c', rfl⟩ := hb.form
      simp only [List.length_nil]
      go_enter Try.func18, Try.ntmps18
      go_wp2
      go_loop [5] (fun p => p = .int .i64 0) (fun _ => 0)
      case atStart => exact rfl
      case round =>
        subst hrel
        go_wp2
        go_ret
        exact ⟨rfl, 0, rfl⟩
  · obtain ⟨a, c, rfl⟩ := ha.form
    obtain ⟨a', c', rfl⟩ := hb.form
    have hd : decide (l = m) = false := by
      rw [decide_eq_false_iff_not]
      intro e
      exact hlen (by rw [e])
    have HD := Lib.hid hd
    clear hd
    have d1 : ((l.length : Int) == (m.length : Int)) = false := by simp; omega
    go_enter Try.func18, Try.ntmps18
    go_wp2
    go_ret
    exact ⟨by rw [HD.out]; rfl, 0, rfl⟩
end Go.Proofs.Ytbcleeifkmjlmaa
