/-
  The plain tables of the size classes: size, pages, slots of a class, class of a size: lists and numbers only, no program in sight.
-/
import Derived.WalkKit
namespace Go.Proofs.YtpbghoddemffhaaDoor
open Go.RowKit

def tabL : List Int := [1, 2, 3, 4, 6, 8, 12, 16, 24, 32, 48, 64, 96, 128, 192, 256]
def pgL : List Int := [1, 1, 1, 1, 1, 1, 1, 1, 2, 1, 3, 1, 3, 2, 3, 4]
def slL : List Int := [64, 32, 21, 16, 10, 8, 5, 4, 5, 2, 4, 1, 2, 1, 1, 1]
def atL (l : List Int) (k : Int) : Int := if 0 ≤ k ∧ k ≤ 15 then l.getD k.toNat 0 else 0
def szN (k : Int) : Int := atL tabL k
def pgN (k : Int) : Int := atL pgL k
def slN (k : Int) : Int := atL slL k
/-- The least class from c on (c + fuel = 16) that holds n; -1: there is none. -/
def ofFrom (n : Int) : Nat → Nat → Int
  | 0, _ => -1
  | f + 1, c => if n ≤ tabL.getD c 0 then c else ofFrom n f (c + 1)
def ofN (n : Int) : Int := if 1 ≤ n then ofFrom n 16 0 else -1

theorem atL_nat (l : List Int) (k : Nat) (h : k < 16) : atL l (k : Int) = l.getD k 0 := by
  unfold atL
  rw [if_pos ⟨by omega, by omega⟩]
  simp
theorem atL_out (l : List Int) (k : Int) (h : k < 0 ∨ 15 < k) : atL l k = 0 := by
  unfold atL
  rw [if_neg (by omega)]

/-- What is true of each of the sixteen classes, checked one by one. -/
theorem all16 (p : Nat → Bool) (h : (List.range 16).all p = true) (k : Nat) (hk : k < 16) : p k = true :=
  List.all_eq_true.1 h k (List.mem_range.2 hk)

theorem tab_bd (k : Nat) (hk : k < 16) : 1 ≤ tabL.getD k 0 ∧ tabL.getD k 0 ≤ 256 := by
  have := all16 (fun k => decide (1 ≤ tabL.getD k 0 ∧ tabL.getD k 0 ≤ 256)) (by decide +kernel) k hk
  simpa using this
theorem pg_bd (k : Nat) (hk : k < 16) : 1 ≤ pgL.getD k 0 ∧ pgL.getD k 0 ≤ 4 := by
  have := all16 (fun k => decide (1 ≤ pgL.getD k 0 ∧ pgL.getD k 0 ≤ 4)) (by decide +kernel) k hk
  simpa using this
theorem sl_bd (k : Nat) (hk : k < 16) : 1 ≤ slL.getD k 0 ∧ slL.getD k 0 ≤ 64 := by
  have := all16 (fun k => decide (1 ≤ slL.getD k 0 ∧ slL.getD k 0 ≤ 64)) (by decide +kernel) k hk
  simpa using this
theorem sl_eq (k : Nat) (hk : k < 16) : pgL.getD k 0 * 64 / tabL.getD k 0 = slL.getD k 0 := by
  have := all16 (fun k => decide (pgL.getD k 0 * 64 / tabL.getD k 0 = slL.getD k 0)) (by decide +kernel) k hk
  simpa using this
/-- The program's test of a page number, at each p up to the pages. -/
theorem pg_test (k : Nat) (hk : k < 16) (p : Nat) (h1 : 1 ≤ p) (h2 : (p : Int) ≤ pgL.getD k 0) :
    ((p : Int) * 64 % tabL.getD k 0 * 8 ≤ (p : Int) * 64 - (p : Int) * 64 % tabL.getD k 0) ↔ (p : Int) = pgL.getD k 0 := by
  have hb := pg_bd k hk
  have h := all16 (fun k => (List.range 5).all fun p => decide (1 ≤ p → (p : Int) ≤ pgL.getD k 0 → (((p : Int) * 64 % tabL.getD k 0 * 8 ≤ (p : Int) * 64 - (p : Int) * 64 % tabL.getD k 0) ↔ (p : Int) = pgL.getD k 0))) (by decide +kernel) k hk
  have := List.all_eq_true.1 h p (List.mem_range.2 (by omega))
  exact (of_decide_eq_true this) h1 h2
/-- The reference's test of a page number. -/
theorem pg_test' (k : Nat) (hk : k < 16) (p : Nat) (h1 : 1 ≤ p) (h2 : (p : Int) ≤ pgL.getD k 0) :
    (tabL.getD k 0 ≤ (p : Int) * 64 ∧ (p : Int) * 64 % tabL.getD k 0 * 8 ≤ (p : Int) * 64) ↔ (p : Int) = pgL.getD k 0 := by
  have hb := pg_bd k hk
  have h := all16 (fun k => (List.range 5).all fun p => decide (1 ≤ p → (p : Int) ≤ pgL.getD k 0 → ((tabL.getD k 0 ≤ (p : Int) * 64 ∧ (p : Int) * 64 % tabL.getD k 0 * 8 ≤ (p : Int) * 64) ↔ (p : Int) = pgL.getD k 0))) (by decide +kernel) k hk
  have := List.all_eq_true.1 h p (List.mem_range.2 (by omega))
  exact (of_decide_eq_true this) h1 h2

theorem ofFrom_hit (n : Int) (c : Nat) (h1 : n ≤ tabL.getD c 0) : ∀ (f d : Nat), d ≤ c → c < d + f → (∀ j, d ≤ j → j < c → tabL.getD j 0 < n) → ofFrom n f d = c
  | 0, d, h2, h3, _ => by omega
  | f + 1, d, h2, h3, h4 => by
    rw [ofFrom]
    by_cases e : d = c
    · subst e; rw [if_pos h1]
    · rw [if_neg (by have := h4 d (Nat.le_refl _) (by omega); omega)]
      exact ofFrom_hit n c h1 f (d + 1) (by omega) (by omega) (fun j a b => h4 j (by omega) b)
theorem ofFrom_miss (n : Int) : ∀ (f d : Nat), (∀ j, d ≤ j → j < d + f → tabL.getD j 0 < n) → ofFrom n f d = -1
  | 0, d, _ => rfl
  | f + 1, d, h => by
    rw [ofFrom, if_neg (by have := h d (Nat.le_refl _) (by omega); omega)]
    exact ofFrom_miss n f (d + 1) (fun j a b => h j (by omega) (by omega))
theorem of_hit (n : Int) (c : Nat) (h0 : 1 ≤ n) (hc : c < 16) (h1 : n ≤ tabL.getD c 0) (h2 : ∀ j, j < c → tabL.getD j 0 < n) : ofN n = c := by
  unfold ofN
  rw [if_pos h0]
  exact ofFrom_hit n c h1 16 0 (by omega) (by omega) (fun j _ b => h2 j b)
theorem of_miss (n : Int) (h2 : ∀ j, j < 16 → tabL.getD j 0 < n) : ofN n = -1 := by
  unfold ofN
  split
  · exact ofFrom_miss n 16 0 (fun j _ b => h2 j (by omega))
  · rfl
theorem of_low (n : Int) (h : n < 1) : ofN n = -1 := by
  unfold ofN
  rw [if_neg (by omega)]
/-- What ofN says of a size from 1 to 256: checked one by one. -/
def ofGood (n : Nat) : Bool :=
  let c := (ofN n).toNat
  decide (ofN n = c ∧ c < 16 ∧ (n : Int) ≤ tabL.getD c 0 ∧ (0 < c → tabL.getD (c - 1) 0 < n) ∧ ofN (tabL.getD c 0) = c ∧ tabL.getD c 0 < 2 * n)
theorem of_good (n : Nat) (h1 : 1 ≤ n) (h2 : n ≤ 256) : ∃ c : Nat, ofN n = c ∧ c < 16 ∧ (n : Int) ≤ tabL.getD c 0 ∧ (0 < c → tabL.getD (c - 1) 0 < n) ∧ ofN (tabL.getD c 0) = c ∧ tabL.getD c 0 < 2 * n := by
  have h : (List.range 257).all (fun n => n == 0 || ofGood n) = true := by decide +kernel
  have := List.all_eq_true.1 h n (List.mem_range.2 (by omega))
  have e : (n == 0) = false := by simp; omega
  rw [e, Bool.false_or] at this
  exact ⟨_, of_decide_eq_true this⟩
theorem tab_rises (c d : Nat) (h : c < d) (hd : d < 16) : tabL.getD c 0 < tabL.getD d 0 := by
  have h' : (List.range 16).all (fun d => (List.range 16).all fun c => decide (c < d → tabL.getD c 0 < tabL.getD d 0)) = true := by decide +kernel
  have := List.all_eq_true.1 (List.all_eq_true.1 h' d (List.mem_range.2 hd)) c (List.mem_range.2 (by omega))
  exact (of_decide_eq_true this) h
/-- Two sizes, the lesser first: what the law needs of their classes. -/
theorem of_two (x y : Nat) (hxy : x ≤ y) (hy : y < 256) : ∃ k j : Nat, ofN (1 + (x : Int)) = k ∧ ofN (1 + (y : Int)) = j ∧ k < 16 ∧ j < 16 ∧ k ≤ j ∧ tabL.getD k 0 < 2 * (1 + (x : Int)) ∧ 1 + (y : Int) ≤ tabL.getD j 0 := by
  obtain ⟨k, a1, a2, a3, a4, _, a6⟩ := of_good (1 + x) (by omega) (by omega)
  obtain ⟨j, b1, b2, b3, b4, _, b6⟩ := of_good (1 + y) (by omega) (by omega)
  have e1 : ((1 + x : Nat) : Int) = 1 + (x : Int) := by omega
  have e2 : ((1 + y : Nat) : Int) = 1 + (y : Int) := by omega
  rw [e1] at a1 a3 a6
  rw [e2] at b1 b3
  refine ⟨k, j, a1, b1, a2, b2, ?_, by omega, b3⟩
  rcases Nat.lt_or_ge j k with h | h
  · exfalso
    have h4 := a4 (by omega)
    have hle : tabL.getD j 0 ≤ tabL.getD (k - 1) 0 := by
      rcases Nat.lt_or_ge j (k - 1) with h' | h'
      · exact Int.le_of_lt (tab_rises j (k - 1) h' (by omega))
      · have : j = k - 1 := by omega
        rw [this]; exact Int.le_refl _
    omega
  · exact h
end Go.Proofs.YtpbghoddemffhaaDoor
