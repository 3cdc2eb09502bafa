/-
  Plain laws for spans through many sweeps; and lists of our own beside one another.
-/
import Derived.Test.YtpbghoddemffhaaDoorSpanK
namespace Go.Proofs.YtpbghoddemffhaaDoor
open Go.RowKit

theorem elems_gap {F : Nat → Bool} {p : Nat} : ∀ j, p ≤ j → (∀ t, p ≤ t → t < j → F t = false) → elems F j = elems F p
  | 0, h, _ => by
    obtain rfl : p = 0 := by omega
    rfl
  | j + 1, h, hF => by
    by_cases e : p = j + 1
    · rw [e]
    · rw [elems_snoc, hF j (by omega) (by omega), if_neg Bool.false_ne_true]
      exact elems_gap j (by omega) (fun t a b => hF t a (by omega))
theorem elems_push {M : Nat → Bool} {n j : Nat} (h : ∀ t, j ≤ t → M t = false) (hj : j < n) : elems (putM M j) n = elems M n ++ [(j : Int)] := by
  rw [elems_trim (j + 1) n (by omega) (fun t ht => by unfold putM; rw [if_neg (by omega)]; exact h t (by omega)), elems_snoc, show putM M j j = true by unfold putM; simp, if_pos rfl,
    elems_trim j n (by omega) h]
  congr 1
  exact elemsF_congr j 0 (fun t _ h2 => by unfold putM; rw [if_neg (by omega)])
/-- What a sweep would tell. -/
def dif (U M : Nat → Bool) : Nat → Bool := fun t => U t && !M t
theorem dif_stay {U M : Nat → Bool} {p j : Nat} (hp : p ≤ j) (hno : ∀ t, p ≤ t → t < j → U t = false) : elems (dif U (putM M j)) (j + 1) = elems (dif U M) p := by
  rw [elems_snoc, show dif U (putM M j) j = false by unfold dif putM; simp, if_neg Bool.false_ne_true, elems_gap j hp (fun t a b => by unfold dif; rw [hno t a b]; rfl)]
  exact elemsF_congr p 0 (fun t _ h2 => by unfold dif putM; rw [if_neg (by omega)])
theorem dif_gone {U M : Nat → Bool} {p j : Nat} (hp : p ≤ j) (hno : ∀ t, p ≤ t → t < j → U t = false) (hU : U j = true) (hM : ∀ t, p ≤ t → M t = false) : elems (dif U M) (j + 1) = elems (dif U M) p ++ [(j : Int)] := by
  rw [elems_snoc, show dif U M j = true by unfold dif; rw [hU, hM j hp]; rfl, if_pos rfl, elems_gap j hp (fun t a b => by unfold dif; rw [hno t a b]; rfl)]
theorem cnt_full {U : Nat → Bool} : ∀ n, (∀ t, t < n → U t = true) → cnt U n = n
  | 0, _ => rfl
  | n + 1, h => by
    unfold cnt
    rw [cnt_full n (fun t ht => h t (by omega)), h n (by omega), if_pos rfl]
theorem cnt_less {U : Nat → Bool} {j : Nat} (hU : U j = false) : ∀ n, j < n → cnt U n < n
  | 0, h => by omega
  | n + 1, h => by
    have hc := cnt_le U n
    unfold cnt
    by_cases e : j = n
    · subst e; rw [hU, if_neg Bool.false_ne_true]; omega
    · have := cnt_less hU n (by omega)
      split <;> omega
/-- Walking a set's list: what comes next. -/
theorem walk_next {U : Nat → Bool} {n p t g : Nat} (hg : g = (elems U n).length) (ht : t < g) (hL : ∃ l, l.length = t ∧ l ++ elemsF U (n - p) p = elems U n) :
    ∃ j, p ≤ j ∧ j < n ∧ U j = true ∧ (∀ x, p ≤ x → x < j → U x = false) ∧ (elems U n).getD t 0 = (j : Int) ∧ ∃ l, l.length = t + 1 ∧ l ++ elemsF U (n - (j + 1)) (j + 1) = elems U n := by
  obtain ⟨l, hl1, hl2⟩ := hL
  have hne : elemsF U (n - p) p ≠ [] := fun e => by
    rw [e, List.append_nil] at hl2
    rw [← hl2] at hg
    omega
  obtain ⟨j, j1, j2, j3, j4, j5⟩ := elemsF_next (n - p) p hne
  rcases nextM_cases U n true p with ⟨j', k1, k2, k3, k4, k5⟩ | ⟨k1, _⟩
  · have e : j = j' := by
      have : nextM U n true p = (j : Int) := j1
      rw [k1] at this; omega
    subst e
    rw [j5, show p + (n - p) - (j + 1) = n - (j + 1) by omega] at hl2
    refine ⟨j, k2, k3, k4, fun x a c => by have := k5 x a c; simpa using this, ?_, l ++ [(j : Int)], by simp [hl1], by rw [← hl2]; simp⟩
    rw [← hl2, ← hl1]
    simp
  · have : nextM U n true p = (j : Int) := j1
    rw [k1] at this; omega
theorem walk_end {U : Nat → Bool} {n p g : Nat} (hg : g = (elems U n).length) (hL : ∃ l, l.length = g ∧ l ++ elemsF U (n - p) p = elems U n) : ∀ x, p ≤ x → x < n → U x = false := by
  obtain ⟨l, hl1, hl2⟩ := hL
  have hnil : elemsF U (n - p) p = [] := by
    have h0 := congrArg List.length hl2
    rw [List.length_append, ← hg, hl1] at h0
    exact List.eq_nil_of_length_eq_zero (by omega)
  exact fun x a b => elemsF_empty hnil x a (by omega)

/-- Two values whose blocks are two. -/
def Dis (v v' : Value) : Prop := ∀ b, v.ownBlock = some b → v'.ownBlock ≠ some b
theorem Dis.symm {v v' : Value} (h : Dis v v') : Dis v' v := fun b h1 h2 => h b h2 h1
theorem Dis.nil (v : Value) : Dis (.slice none 0 0) v := fun b h => by cases h
theorem Own.apart {w w' : World} {B' : Nat} {v v' nv : Value} {l' : List Int} (hv' : Own w B' v' l') (hd : Dis v v') (o : Obj) (hg : (w.alloc o).grownBy w' v.ownBlock)
    (hat : nv.ownBlock = v.ownBlock ∨ nv.ownBlock = some (w.alloc o).heap.size) : Own w' B' v' l' ∧ Dis nv v' := by
  refine ⟨(hv'.alloc o).grown hg (fun b hb e => hd b e hb), fun b hb hb' => ?_⟩
  rcases hat with e | e
  · exact hd b (e.symm.trans hb) hb'
  · have h1 : (w.alloc o).heap.size = b := Option.some.inj (e.symm.trans hb)
    have h2 := hv'.blt b hb'
    simp at h1
    omega
end Go.Proofs.YtpbghoddemffhaaDoor
