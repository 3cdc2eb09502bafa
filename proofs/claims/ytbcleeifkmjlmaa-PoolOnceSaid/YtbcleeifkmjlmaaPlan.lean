/-
  A region that draws its order, in segments: of each, first some reads (in the order given), then some operations that may write, one behind the other.
-/
import Derived.Test.YtbcleeifkmjlmaaMix
namespace Go.Proofs.Ytbcleeifkmjlmaa
open Go.RowKit

section
variable {P : Program} {ops : Array Oper} {Q : Exit → Act → World → Prop} {S : World → Prop}

/-- Some operations, one behind the other; S holds behind each; K goes on. -/
def ChainK (P : Program) (ops : Array Oper) (Q : Exit → Act → World → Prop) (S : World → Prop) (K : Act → World → Prop) : List Nat → Act → World → Prop
  | [], a, w => K a w
  | i :: r, a, w => wpOp P ops Q i (fun a' w' => S w' ∧ ChainK P ops Q S K r a' w') a w
def chainOkK (ops : Array Oper) : List Nat → Array Bool → Bool
  | [], _ => true
  | i :: r, L => decide (Region.ready .any ops L = [i]) && chainOkK ops r (L.setIfInBounds i true)

def PlanP (P : Program) (ops : Array Oper) (Q : Exit → Act → World → Prop) (S : World → Prop) : List (List Nat × List Nat) → Act → World → Prop
  | [], a, w => Q .normal a w
  | (qs, ws) :: r, a, w => wpQuiet P ops S (fun a' => ChainK P ops Q S (PlanP P ops Q S r) ws a' w) (qs.filterMap fun i => ops[i]?) a
def planOk (ops : Array Oper) : List (List Nat × List Nat) → Array Bool → Bool
  | [], L => (Region.ready .any ops L).isEmpty
  | (qs, ws) :: r, L => readsOk ops [] qs L && chainOkK ops ws (marked L qs) && planOk ops r (marked (marked L qs) ws)
def planLen : List (List Nat × List Nat) → Nat
  | [] => 0
  | (qs, ws) :: r => qs.length + (ws.length + planLen r)

theorem till_chainK {K : Act → World → Prop} {n : Nat} : ∀ (ws : List Nat) (L : Array Bool) (a : Act) (w : World), Shut ops L → chainOkK ops ws L = true → S w →
    (∀ a' w', S w' → Shut ops (marked L ws) → K a' w' → Till P ops Q S [] n (marked L ws) a' w') → ChainK P ops Q S K ws a w → Till P ops Q S [] (ws.length + n) L a w
  | [], L, a, w, hsh, _, hS, hK, h => by rw [List.length_nil, Nat.zero_add]; exact hK a w hS hsh h
  | i :: r, L, a, w, hsh, hB, hS, hK, h => by
    simp only [chainOkK, Bool.and_eq_true, decide_eq_true_eq] at hB
    rw [List.length_cons, Nat.add_right_comm]
    refine ⟨fun h0 => (by rw [hB.1] at h0; cases h0), fun j hj => ?_⟩
    have hi : i ∈ Region.ready .any ops L := by rw [hB.1]; simp
    rw [hB.1] at hj
    obtain rfl : j = i := by simpa using hj
    exact wpOp_mono (fun a' w' h' => ⟨fun _ => h'.1, till_chainK r _ a' w' (hsh.set hi) hB.2 h'.1 hK h'.2⟩) h
theorem till_readsK (hsel : Region.noSelect ops = true) (hQ : ∀ c a d v w, Q (.panic c) (a.put (some d) v) w → Q (.panic c) a w) (w : World) (hS : S w) {K : Act → Prop} {n : Nat} :
    ∀ (qs : List Nat) (L : Array Bool) (a : Act), Shut ops L → readsOk ops [] qs L = true → (∀ a', Shut ops (marked L qs) → K a' → Till P ops Q S [] n (marked L qs) a' w) →
      wpQuiet P ops S K (qs.filterMap fun i => ops[i]?) a → Till P ops Q S [] (qs.length + n) L a w
  | [], L, a, hsh, _, hK, h => by rw [List.length_nil, Nat.zero_add]; exact hK a hsh h
  | i :: r, L, a, hsh, hB, hK, h => by
    simp only [readsOk, Bool.and_eq_true] at hB
    obtain ⟨⟨⟨⟨hr, hf⟩, hv⟩, _⟩, hrest⟩ := hB
    have hr' : i ∈ Region.ready .any ops L := by simpa using hr
    obtain ⟨_, oi, ho, _⟩ := mem_ready.1 hr'
    rw [ho] at hv
    simp only [List.filterMap_cons, ho] at h
    unfold wpQuiet at h
    rw [List.length_cons, Nat.add_right_comm]
    by_cases hw : Region.wanted oi (yielded ops a.tmps) = true
    · rw [if_pos hw] at h
      obtain ⟨v, h1, h2⟩ := h
      exact till_first (m := 0) ho hsel hQ (fun z hz => by cases hz) _ L a w hsh (Region.free_spec ho hf) hr' (.inl ⟨hw, fun w' hw' => value_of_quiet hv (h1 w' hw')⟩) hS (till_readsK hsel hQ w hS r _ _ (hsh.set hr') hrest hK h2)
    · rw [if_neg hw] at h
      exact till_first (m := 0) ho hsel hQ (fun z hz => by cases hz) _ L a w hsh (Region.free_spec ho hf) hr' (.inr ⟨by simpa using hw, rfl⟩) hS (till_readsK hsel hQ w hS r _ _ (hsh.set hr') hrest hK h)
theorem till_plan (hsel : Region.noSelect ops = true) (hQ : ∀ c a d v w, Q (.panic c) (a.put (some d) v) w → Q (.panic c) a w) :
    ∀ (pl : List (List Nat × List Nat)) (L : Array Bool) (a : Act) (w : World), Shut ops L → planOk ops pl L = true → S w → PlanP P ops Q S pl a w → Till P ops Q S [] (planLen pl) L a w
  | [], L, a, w, _, hB, _, h => ⟨by simpa [planOk] using hB, h⟩
  | (qs, ws) :: r, L, a, w, hsh, hB, hS, h => by
    simp only [planOk, Bool.and_eq_true] at hB
    refine till_readsK hsel hQ w hS qs L a hsh hB.1.1 (fun a' hsh' h' => ?_) h
    exact till_chainK ws _ a' w hsh' hB.1.2 hS (fun a'' w'' hS'' hsh'' h'' => till_plan hsel hQ r _ a'' w'' hsh'' hB.2 hS'' h'') h'

theorem wp_region_plan {id : Nat} {a : Act} {w : World} {l : List Oper} (pl : List (List Nat × List Nat)) (S : World → Prop) (hm : P.follows .mixedOrders = true)
    (hB : (Region.noSelect l.toArray && planOk l.toArray pl (Array.replicate l.length false) && decide (planLen pl = l.length)) = true)
    (hQ : ∀ c a d v w, Q (.panic c) (a.put (some d) v) w → Q (.panic c) a w) (hS : S w.drew)
    (h : PlanP P l.toArray Q S pl a w.drew) : (Code.region id l.toArray true).wp P Q a w := by
  simp only [Bool.and_eq_true, decide_eq_true_eq] at hB
  obtain ⟨⟨hsel, hp⟩, hn⟩ := hB
  refine wp_region_any hm ?_
  have hsh : Shut l.toArray (Array.replicate l.length false) := fun j oj _ hl => by
    rw [Array.getD_eq_getD_getElem?, Array.getElem?_replicate] at hl
    split at hl <;> cases hl
  have := till_plan hsel hQ pl _ a w.drew hsh hp hS h
  rw [hn] at this
  have h2 := any_of_till _ _ _ _ this
  simpa using h2
theorem plan_op {K : Act → World → Prop} {i : Nat} {r : List Nat} {a : Act} {w : World} {o : Oper} (ho : ops[i]? = some o) (hg : Region.wanted o (yielded ops a.tmps) = true)
    (h : ∀ K' : Act → World → Prop, (∀ a' w', S w' → ChainK P ops Q S K r a' w' → K' a' w') → o.wp P a w K' Q) : ChainK P ops Q S K (i :: r) a w := by
  unfold ChainK wpOp
  simp only [ho, hg, if_true]
  exact .inl (h _ fun a' w' h1 h2 => ⟨h1, h2⟩)
theorem plan_skip {K : Act → World → Prop} {i : Nat} {r : List Nat} {a : Act} {w : World} {o : Oper} (ho : ops[i]? = some o) (hg : Region.wanted o (yielded ops a.tmps) = false) (hS : S w)
    (h : ChainK P ops Q S K r (a.put o.dst undef) w) : ChainK P ops Q S K (i :: r) a w := by
  unfold ChainK wpOp
  simp only [ho, hg]
  exact ⟨hS, h⟩
end

/-- A class of worlds, as a type: what a walk of reads wants. -/
def Kept (S : World → Prop) : Type := {x : World // S x}
theorem kept_eq (S : World → Prop) : (fun w' => ∃ x : Kept S, w' = x.1) = S := funext fun w' => propext ⟨fun ⟨x, hx⟩ => hx ▸ x.2, fun h => ⟨⟨w', h⟩, rfl⟩⟩
theorem wp_region_planS {P : Program} {Q : Exit → Act → World → Prop} {id : Nat} {a : Act} {w : World} {l : List Oper} (pl : List (List Nat × List Nat)) (S : World → Prop) (hm : P.follows .mixedOrders = true)
    (hB : (Region.noSelect l.toArray && planOk l.toArray pl (Array.replicate l.length false) && decide (planLen pl = l.length)) = true)
    (hQ : ∀ c a d v w, Q (.panic c) (a.put (some d) v) w → Q (.panic c) a w) (hS : S w.drew)
    (h : PlanP P l.toArray Q (fun w' => ∃ x : Kept S, w' = x.1) pl a w.drew) : (Code.region id l.toArray true).wp P Q a w := by
  rw [kept_eq S] at h
  exact wp_region_plan pl S hm hB hQ hS h
end Go.Proofs.Ytbcleeifkmjlmaa
