/-
  Plain laws for spans through sweeps: what is used, marked, gone; lists and numbers only, no program in sight.
-/
import Derived.Test.YtpbghoddemffhaaDoorSpanF
namespace Go.Proofs.YtpbghoddemffhaaDoor
open Go.RowKit

/-- Is place t black or marked? -/
def mrk (b m : Nat) : Nat → Bool := fun t => decide (t % b = 0) || decide (t % m = 0)
def mrkI (b m i : Nat) : Nat → Bool := fun t => decide (t < i) && mrk b m t
def gon (b m : Nat) : Nat → Bool := fun t => !mrk b m t

theorem mrkI_zero (b m : Nat) : mrkI b m 0 = fun _ => false := by funext t; unfold mrkI; simp
theorem mrkI_succ (b m i : Nat) : mrkI b m (i + 1) = if mrk b m i = true then putM (mrkI b m i) i else mrkI b m i := by
  funext t
  by_cases h : mrk b m i = true
  · rw [if_pos h]
    unfold mrkI putM
    by_cases e : t = i
    · subst e; rw [if_pos rfl, h, decide_eq_true (by omega)]; rfl
    · rw [if_neg e]
      show (decide (t < i + 1) && mrk b m t) = (decide (t < i) && mrk b m t)
      by_cases h2 : t < i
      · rw [decide_eq_true h2, decide_eq_true (by omega)]
      · rw [decide_eq_false h2, decide_eq_false (by omega)]
  · rw [if_neg h]
    unfold mrkI
    by_cases e : t = i
    · subst e
      have h' : mrk b m t = false := by simpa using h
      rw [h']; simp
    · by_cases h2 : t < i
      · rw [decide_eq_true h2, decide_eq_true (by omega)]
      · rw [decide_eq_false h2, decide_eq_false (by omega)]
theorem mrkI_at (b m i : Nat) : mrkI b m i i = false := by unfold mrkI; simp
theorem put_put (M : Nat → Bool) (i : Nat) : putM (putM M i) i = putM M i := by
  funext t; unfold putM; split <;> simp_all

theorem elemsF_snoc {M : Nat → Bool} : ∀ (f i : Nat), elemsF M (f + 1) i = elemsF M f i ++ (if M (i + f) = true then [((i + f : Nat) : Int)] else [])
  | 0, i => by simp [elemsF]
  | f + 1, i => by
    rw [elemsF_succ M (f + 1) i, elemsF_succ M f i, elemsF_snoc f (i + 1), show i + 1 + f = i + (f + 1) by omega]
    split <;> simp
theorem elems_snoc (M : Nat → Bool) (i : Nat) : elems M (i + 1) = if M i = true then elems M i ++ [(i : Int)] else elems M i := by
  unfold elems
  rw [elemsF_snoc, Nat.zero_add]
  split <;> simp
theorem elemsF_nil {M : Nat → Bool} : ∀ (f i : Nat), (∀ t, i ≤ t → t < i + f → M t = false) → elemsF M f i = []
  | 0, _, _ => rfl
  | f + 1, i, h => by
    rw [elemsF_succ, h i (Nat.le_refl _) (by omega), if_neg Bool.false_ne_true]
    exact elemsF_nil f (i + 1) (fun t h1 h2 => h t (by omega) (by omega))
theorem elems_trim {M : Nat → Bool} (k : Nat) : ∀ n, k ≤ n → (∀ t, k ≤ t → M t = false) → elems M n = elems M k
  | 0, h, _ => by
    obtain rfl : k = 0 := by omega
    rfl
  | n + 1, h, hM => by
    by_cases e : k = n + 1
    · rw [e]
    · rw [elems_snoc, hM n (by omega), if_neg Bool.false_ne_true]
      exact elems_trim k n (by omega) hM
/-- What a sweep tells, and what is left. -/
theorem keeps_gone (b m k n : Nat) (h : k ≤ n) : elems (fun t => ltM k t && !mrkI b m k t) n = elems (gon b m) k := by
  rw [elems_trim k n h (fun t ht => by unfold ltM; rw [decide_eq_false (by omega)]; rfl)]
  refine elemsF_congr k 0 fun t _ h2 => ?_
  unfold ltM mrkI gon
  rw [decide_eq_true (by omega), Bool.true_and, Bool.true_and]
theorem cnt_congr {M M' : Nat → Bool} : ∀ n, (∀ t, t < n → M t = M' t) → cnt M n = cnt M' n
  | 0, _ => rfl
  | n + 1, h => by
    unfold cnt
    rw [cnt_congr n (fun t ht => h t (by omega)), h n (by omega)]
theorem keeps_live (b m k n : Nat) (h : k ≤ n) : cnt (mrkI b m k) n + (elems (gon b m) k).length = k := by
  rw [elems_len]
  have e1 : cnt (mrkI b m k) n = cnt (mrkI b m k) k := cnt_gap (M := mrkI b m k) (p := k) n h (fun t h1 _ => by unfold mrkI; rw [decide_eq_false (by omega)]; rfl)
  have e2 : cnt (mrkI b m k) k = cnt (mrk b m) k := cnt_congr k (fun t ht => by unfold mrkI; rw [decide_eq_true ht]; rfl)
  have e3 := cnt_not (mrk b m) k
  rw [e1, e2]
  exact e3

/-- Used while the gone places come again: up to p. -/
def agn (K : Nat → Bool) (k p : Nat) : Nat → Bool := fun t => decide (t < k) && (K t || decide (t < p))
theorem agn_zero (b m k : Nat) : agn (mrkI b m k) k 0 = mrkI b m k := by
  funext t; unfold agn mrkI
  by_cases h : t < k
  · rw [decide_eq_true h]; simp
  · rw [decide_eq_false h]; rfl
theorem agn_next {b m k n p j fr : Nat} (hk : k ≤ n) (hf : fr ≤ p) (h1 : p ≤ j) (h2 : j < k) (hj : gon b m j = true) (hno : ∀ t, p ≤ t → t < j → gon b m t = false) :
    nextM (agn (mrkI b m k) k p) n false fr = (j : Int) ∧ agn (mrkI b m k) k p j = false ∧ putM (agn (mrkI b m k) k p) j = agn (mrkI b m k) k (j + 1) := by
  have hin : ∀ t, p ≤ t → t < j → mrkI b m k t = true := fun t a c => by
    have := hno t a c
    unfold gon at this
    unfold mrkI
    rw [decide_eq_true (by omega), Bool.true_and]
    simpa using this
  have hat : agn (mrkI b m k) k p j = false := by
    unfold agn mrkI
    unfold gon at hj
    rw [show mrk b m j = false by simpa using hj, decide_eq_false (show ¬ j < p by omega)]
    simp
  refine ⟨nextM_some (by omega) (by omega) hat (fun t a c => ?_), hat, ?_⟩
  · unfold agn
    rw [decide_eq_true (show t < k by omega), Bool.true_and]
    by_cases e : t < p
    · rw [decide_eq_true e]; simp
    · rw [hin t (by omega) c]; simp
  · funext t
    unfold putM agn
    by_cases e : t = j
    · subst e
      rw [if_pos rfl, decide_eq_true h2, decide_eq_true (show t < t + 1 by omega)]; simp
    · rw [if_neg e]
      by_cases hp : t < p
      · rw [decide_eq_true hp, decide_eq_true (show t < j + 1 by omega)]
      · by_cases hj2 : t < j
        · rw [hin t (by omega) hj2]; simp
        · rw [decide_eq_false hp, decide_eq_false (show ¬ t < j + 1 by omega)]
theorem agn_all {b m k p : Nat} (hno : ∀ t, p ≤ t → t < k → gon b m t = false) : agn (mrkI b m k) k p = ltM k := by
  funext t
  unfold agn ltM
  by_cases h : t < k
  · rw [decide_eq_true h, Bool.true_and]
    by_cases hp : t < p
    · rw [decide_eq_true hp]; simp
    · have := hno t (by omega) h
      unfold gon at this
      unfold mrkI
      rw [decide_eq_true h, show mrk b m t = true by simpa using this]; rfl
  · rw [decide_eq_false h]; rfl
theorem lt_next {i n fr : Nat} (hf : fr ≤ i) (hi : i < n) : nextM (ltM i) n false fr = (i : Int) :=
  nextM_some hf hi (by unfold ltM; simp) (fun t _ h2 => by unfold ltM; rw [decide_eq_true h2]; simp)
theorem lt_full {n fr : Nat} : nextM (ltM n) n false fr = -1 :=
  nextM_none (fun t _ h2 => by unfold ltM; rw [decide_eq_true h2]; simp)
theorem elemsF_empty {M : Nat → Bool} {f i : Nat} (h : elemsF M f i = []) : ∀ t, i ≤ t → t < i + f → M t = false := fun t h1 h2 => by
  cases hM : M t with
  | false => rfl
  | true =>
    have := (mem_elemsF f i (t : Int)).2 ⟨t, rfl, h1, h2, hM⟩
    rw [h] at this
    cases this
end Go.Proofs.YtpbghoddemffhaaDoor
