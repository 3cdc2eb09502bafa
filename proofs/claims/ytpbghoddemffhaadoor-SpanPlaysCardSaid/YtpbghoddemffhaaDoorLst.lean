/-
  Rising lists of numbers, and the lists of a set's numbers: what putting one in, and taking one out, makes of them. Lists and numbers only, no program in sight.
-/
import Derived.Test.YtpbghoddemffhaaDoorBitK
namespace Go.Proofs.YtpbghoddemffhaaDoor
open Go.RowKit

/-- Is x in l? -/
def hasL (l : List Int) (x : Int) : Bool := decide (x ∈ l)
/-- A rising list with a number, once. -/
def insL (x : Int) : List Int → List Int
  | [] => [x]
  | a :: l => if a < x then a :: insL x l else if a = x then a :: l else x :: a :: l
/-- A list without the first such number. -/
def delL (x : Int) : List Int → List Int
  | [] => []
  | a :: l => if a = x then l else a :: delL x l

theorem hasL_at {l : List Int} {x : Int} {i : Nat} (h : i < l.length) (e : l.getD i 0 = x) : hasL l x = true := by
  unfold hasL
  rw [decide_eq_true_eq, ← e, List.getD_eq_getElem?_getD, List.getElem?_eq_getElem h]
  exact List.getElem_mem h
theorem hasL_not {l : List Int} {x : Int} (h : ∀ i, i < l.length → l.getD i 0 ≠ x) : hasL l x = false := by
  unfold hasL
  rw [decide_eq_false_iff_not]
  intro hm
  obtain ⟨i, hi, e⟩ := List.getElem_of_mem hm
  refine h i hi ?_
  rw [List.getD_eq_getElem?_getD, List.getElem?_eq_getElem hi]
  exact e
theorem hasL_nil (x : Int) : hasL [] x = false := rfl

theorem insL_found {x : Int} : ∀ (l : List Int) (i : Nat), i < l.length → (∀ j, j < i → l.getD j 0 < x) → l.getD i 0 = x → insL x l = l
  | [], i, h, _, _ => absurd h (by simp)
  | a :: l, 0, _, _, e => by
    have e' : a = x := e
    unfold insL
    rw [if_neg (by omega), if_pos e']
  | a :: l, i + 1, h, hb, e => by
    have h0 : a < x := hb 0 (by omega)
    unfold insL
    rw [if_pos h0, insL_found l i (by simpa using h) (fun j hj => hb (j + 1) (by omega)) e]
theorem insL_new {x : Int} : ∀ (l : List Int) (i : Nat), i ≤ l.length → (∀ j, j < i → l.getD j 0 < x) → (i < l.length → x < l.getD i 0) → insL x l = l.take i ++ [x] ++ l.drop i
  | [], i, h, _, _ => by
    have : i = 0 := by simpa using h
    subst this; rfl
  | a :: l, 0, _, _, e => by
    have e' : x < a := e (by simp)
    unfold insL
    rw [if_neg (by omega), if_neg (by omega)]
    rfl
  | a :: l, i + 1, h, hb, e => by
    have h0 : a < x := hb 0 (by omega)
    unfold insL
    rw [if_pos h0, insL_new l i (by simpa using h) (fun j hj => hb (j + 1) (by omega)) (fun hi => e (by simpa using hi))]
    rfl
theorem delL_at {x : Int} : ∀ (l : List Int) (i : Nat), i < l.length → (∀ j, j < i → l.getD j 0 ≠ x) → l.getD i 0 = x → delL x l = l.take i ++ l.drop (i + 1)
  | [], i, h, _, _ => absurd h (by simp)
  | a :: l, 0, _, _, e => by
    have e' : a = x := e
    unfold delL
    rw [if_pos e']; rfl
  | a :: l, i + 1, h, hb, e => by
    have h0 : a ≠ x := hb 0 (by omega)
    unfold delL
    rw [if_neg h0, delL_at l i (by simpa using h) (fun j hj => hb (j + 1) (by omega)) e]
    rfl
theorem delL_not {x : Int} : ∀ (l : List Int), hasL l x = false → delL x l = l
  | [], _ => rfl
  | a :: l, h => by
    have h' : ¬ x ∈ a :: l := by unfold hasL at h; simpa using h
    unfold delL
    rw [if_neg (fun e => h' (by simp [e])), delL_not l (by unfold hasL; rw [decide_eq_false_iff_not]; exact fun hm => h' (List.mem_cons_of_mem _ hm))]

theorem elemsF_congr {M M' : Nat → Bool} : ∀ (f i : Nat), (∀ t, i ≤ t → t < i + f → M t = M' t) → elemsF M f i = elemsF M' f i
  | 0, _, _ => rfl
  | f + 1, i, h => by
    rw [elemsF_succ, elemsF_succ, h i (Nat.le_refl _) (by omega), elemsF_congr f (i + 1) (fun t h1 h2 => h t (by omega) (by omega))]
theorem mem_elemsF {M : Nat → Bool} : ∀ (f i : Nat) (x : Int), x ∈ elemsF M f i ↔ ∃ j : Nat, x = (j : Int) ∧ i ≤ j ∧ j < i + f ∧ M j = true
  | 0, i, x => by
    constructor
    · intro h; cases h
    · rintro ⟨j, _, h1, h2, _⟩; omega
  | f + 1, i, x => by
    rw [elemsF_succ]
    have ih := mem_elemsF (M := M) f (i + 1) x
    constructor
    · intro h
      split at h
      · rename_i hM
        rcases List.mem_cons.1 h with rfl | h
        · exact ⟨i, rfl, Nat.le_refl _, by omega, hM⟩
        · obtain ⟨j, a, b, c, d⟩ := ih.1 h
          exact ⟨j, a, by omega, by omega, d⟩
      · obtain ⟨j, a, b, c, d⟩ := ih.1 h
        exact ⟨j, a, by omega, by omega, d⟩
    · rintro ⟨j, rfl, b, c, d⟩
      by_cases e : i = j
      · subst e; rw [if_pos d]; exact List.mem_cons_self ..
      · have h := ih.2 ⟨j, rfl, by omega, by omega, d⟩
        split
        · exact List.mem_cons_of_mem _ h
        · exact h
theorem hasL_elems {M : Nat → Bool} {n : Nat} (h : ∀ i, M i = true → i < n) (x : Int) : hasL (elems M n) x = (decide (0 ≤ x) && M x.toNat) := by
  have hm := mem_elemsF (M := M) n 0 x
  unfold hasL elems
  rw [Bool.eq_iff_iff, decide_eq_true_eq, hm, Bool.and_eq_true, decide_eq_true_eq]
  constructor
  · rintro ⟨j, rfl, _, _, d⟩
    exact ⟨by omega, by rw [Int.toNat_natCast]; exact d⟩
  · rintro ⟨h0, d⟩
    exact ⟨x.toNat, by omega, by omega, by have := h _ d; omega, d⟩

theorem insL_low {x : Int} (l : List Int) (h : ∀ y, y ∈ l → x < y) : insL x l = x :: l := by
  cases l with
  | nil => rfl
  | cons a l =>
    have := h a (List.mem_cons_self ..)
    unfold insL
    rw [if_neg (by omega), if_neg (by omega)]
theorem elemsF_put {M : Nat → Bool} {j : Nat} : ∀ (f i : Nat), i ≤ j → j < i + f → insL (j : Int) (elemsF M f i) = elemsF (putM M j) f i
  | 0, i, h1, h2 => by omega
  | f + 1, i, h1, h2 => by
    rw [elemsF_succ, elemsF_succ]
    by_cases e : i = j
    · subst e
      have hc : elemsF (putM M i) f (i + 1) = elemsF M f (i + 1) := elemsF_congr _ _ (fun t a _ => by unfold putM; rw [if_neg (by omega)])
      rw [show putM M i i = true by unfold putM; simp, hc]
      by_cases hM : M i = true
      · rw [if_pos hM, if_pos rfl]
        unfold insL
        rw [if_neg (by omega), if_pos rfl]
      · rw [if_neg hM, if_pos rfl]
        exact insL_low _ (fun y hy => by obtain ⟨t, rfl, a, _⟩ := (mem_elemsF _ _ _).1 hy; omega)
    · have hp : putM M j i = M i := by unfold putM; rw [if_neg e]
      rw [hp, ← elemsF_put f (i + 1) (by omega) (by omega)]
      by_cases hM : M i = true
      · rw [if_pos hM, if_pos hM]
        show insL (j : Int) ((i : Int) :: _) = _
        rw [insL, if_pos (by omega)]
      · rw [if_neg hM, if_neg hM]
theorem elems_put (M : Nat → Bool) (n j : Nat) (h : j < n) : insL (j : Int) (elems M n) = elems (putM M j) n := elemsF_put n 0 (by omega) (by omega)
theorem delL_low {x : Int} (l : List Int) (h : ∀ y, y ∈ l → x < y) : delL x l = l :=
  delL_not l (by unfold hasL; rw [decide_eq_false_iff_not]; intro hm; have := h x hm; omega)
theorem elemsF_out {M : Nat → Bool} {j : Nat} : ∀ (f i : Nat), i ≤ j → j < i + f → delL (j : Int) (elemsF M f i) = elemsF (outM M j) f i
  | 0, i, h1, h2 => by omega
  | f + 1, i, h1, h2 => by
    rw [elemsF_succ, elemsF_succ]
    by_cases e : i = j
    · subst e
      have hc : elemsF (outM M i) f (i + 1) = elemsF M f (i + 1) := elemsF_congr _ _ (fun t a _ => by unfold outM; rw [if_neg (by omega)])
      rw [show outM M i i = false by unfold outM; simp, hc, if_neg Bool.false_ne_true]
      by_cases hM : M i = true
      · rw [if_pos hM]
        unfold delL
        rw [if_pos rfl]
      · rw [if_neg hM]
        exact delL_low _ (fun y hy => by obtain ⟨t, rfl, a, _⟩ := (mem_elemsF _ _ _).1 hy; omega)
    · have hp : outM M j i = M i := by unfold outM; rw [if_neg e]
      rw [hp, ← elemsF_out f (i + 1) (by omega) (by omega)]
      by_cases hM : M i = true
      · rw [if_pos hM, if_pos hM]
        show delL (j : Int) ((i : Int) :: _) = _
        rw [delL, if_neg (by omega)]
      · rw [if_neg hM, if_neg hM]
theorem elems_out (M : Nat → Bool) (n j : Nat) (h : j < n) : delL (j : Int) (elems M n) = elems (outM M j) n := elemsF_out n 0 (by omega) (by omega)
/-- Two sets with the same list are told alike. -/
theorem elems_inj_at {M : Nat → Bool} {n : Nat} (h : ∀ i, M i = true → i < n) (i : Nat) : M i = hasL (elems M n) (i : Int) := by
  rw [hasL_elems h, Int.toNat_natCast]; simp
theorem elems_none (n : Nat) : elems (fun _ => false) n = [] := by
  have := elems_len (fun _ => false) n
  rw [cnt_none] at this
  exact List.eq_nil_of_length_eq_zero this
end Go.Proofs.YtpbghoddemffhaaDoor
