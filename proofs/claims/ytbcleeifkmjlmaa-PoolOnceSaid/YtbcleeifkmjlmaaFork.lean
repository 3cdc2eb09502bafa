/-
  A region that draws its order: first some reads, then whatever may come up, in each order, step by step by hand.
-/
import Derived.Test.YtbcleeifkmjlmaaPlanZ
namespace Go.Proofs.Ytbcleeifkmjlmaa
open Go.RowKit

section
variable {P : Program} {ops : Array Oper} {Q : Exit → Act → World → Prop} {S : World → Prop} {zs : List Nat}
theorem wp_region_fork {id : Nat} {a : Act} {w : World} {l : List Oper} (qs zs : List Nat) (n : Nat) (S : World → Prop) (hm : P.follows .mixedOrders = true)
    (hB : (Region.noSelect l.toArray && readsOk l.toArray zs qs (Array.replicate l.length false) && decide (qs.length + n = l.length)) = true)
    (hQ : ∀ c a d v w, Q (.panic c) (a.put (some d) v) w → Q (.panic c) a w) (hS : S w.drew)
    (h : wpQuiet P l.toArray (fun w' => ∃ x : Kept S, w' = x.1) (fun a' => Till P l.toArray Q S zs n (marked (Array.replicate l.length false) qs) a' w.drew) (qs.filterMap fun i => l.toArray[i]?) a) : (Code.region id l.toArray true).wp P Q a w := by
  rw [kept_eq S] at h
  simp only [Bool.and_eq_true, decide_eq_true_eq] at hB
  obtain ⟨⟨hsel, hp⟩, hn⟩ := hB
  refine wp_region_any hm ?_
  have hsh : Shut l.toArray (Array.replicate l.length false) := fun j oj _ hl => by
    rw [Array.getD_eq_getD_getElem?, Array.getElem?_replicate] at hl
    split at hl <;> cases hl
  have := till_readsZ (zs := zs) (n := n) hsel hQ w.drew hS qs _ a hsh hp (fun a' _ h' => h') h
  rw [hn] at this
  have h2 := any_of_till _ _ _ _ this
  simpa using h2
/-- One of the operations that may come up, and what comes behind it. -/
def Then (P : Program) (ops : Array Oper) (Q : Exit → Act → World → Prop) (S : World → Prop) (zs : List Nat) (n : Nat) (L : Array Bool) (i : Nat) (a : Act) (w : World) : Prop :=
  wpOp P ops Q i (fun a' w' => (zs.contains i = false → S w') ∧ Till P ops Q S zs n (L.setIfInBounds i true) a' w') a w
theorem till_one {n i : Nat} {L : Array Bool} {a : Act} {w : World} (hr : Region.ready .any ops L = [i]) (h : Then P ops Q S zs n L i a w) : Till P ops Q S zs (n + 1) L a w :=
  ⟨fun h0 => (by rw [hr] at h0; cases h0), fun j hj => by
    rw [hr] at hj
    obtain rfl : j = i := by simpa using hj
    exact h⟩
theorem till_two {n i k : Nat} {L : Array Bool} {a : Act} {w : World} (hr : Region.ready .any ops L = [i, k]) (h : Then P ops Q S zs n L i a w) (h' : Then P ops Q S zs n L k a w) : Till P ops Q S zs (n + 1) L a w :=
  ⟨fun h0 => (by rw [hr] at h0; cases h0), fun j hj => by
    rw [hr] at hj
    rcases List.mem_cons.1 hj with rfl | hj
    · exact h
    · obtain rfl : j = k := by simpa using hj
      exact h'⟩
theorem till_end {L : Array Bool} {a : Act} {w : World} (hr : Region.ready .any ops L = []) (h : Q .normal a w) : Till P ops Q S zs 0 L a w := ⟨hr, h⟩
theorem then_op {n i : Nat} {L : Array Bool} {a : Act} {w : World} {o : Oper} (ho : ops[i]? = some o) (hg : Region.wanted o (yielded ops a.tmps) = true)
    (h : ∀ K' : Act → World → Prop, (∀ a' w', (zs.contains i = false → S w') → Till P ops Q S zs n (L.setIfInBounds i true) a' w' → K' a' w') → o.wp P a w K' Q) : Then P ops Q S zs n L i a w := by
  unfold Then wpOp
  simp only [ho, hg, if_true]
  exact .inl (h _ fun a' w' h1 h2 => ⟨h1, h2⟩)
end
end Go.Proofs.Ytbcleeifkmjlmaa
