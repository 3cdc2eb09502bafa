/-
  A region that draws its order, in segments, each with its own class of worlds: of each segment, first some reads (in the order given, each of one value in every world of the class), then some operations that may write, one behind the other.
-/
import Derived.Test.YtbcleeifkmjlmaaPlan
namespace Go.Proofs.Ytbcleeifkmjlmaa
open Go.RowKit

/-- S: the class; always: every world is of it; zs: operations that all wait for the segment's reads: behind them S need not hold. -/
structure Seg where
  always : Bool
  S : World → Prop
  zs : List Nat
  qs : List Nat
  ws : List Nat

section
variable {P : Program} {ops : Array Oper} {Q : Exit → Act → World → Prop} {S : World → Prop}

def ChainZ (P : Program) (ops : Array Oper) (Q : Exit → Act → World → Prop) (S : World → Prop) (zs : List Nat) (K : Act → World → Prop) : List Nat → Act → World → Prop
  | [], a, w => K a w
  | i :: r, a, w => wpOp P ops Q i (fun a' w' => (zs.contains i = false → S w') ∧ ChainZ P ops Q S zs K r a' w') a w
def PlanZ (P : Program) (ops : Array Oper) (Q : Exit → Act → World → Prop) : List Seg → Act → World → Prop
  | [], a, w => Q .normal a w
  | s :: r, a, w => s.S w ∧ (s.always = true → ∀ w, s.S w) ∧ wpQuiet P ops s.S (fun a' => ChainZ P ops Q s.S s.zs (PlanZ P ops Q r) s.ws a' w) (s.qs.filterMap fun i => ops[i]?) a
def planOkZ (ops : Array Oper) : List Seg → Array Bool → Bool
  | [], L => (Region.ready .any ops L).isEmpty
  | s :: r, L => readsOk ops s.zs s.qs L && chainOkK ops s.ws (marked L s.qs) && (s.always || (List.range ops.size).all fun j => (marked (marked L s.qs) s.ws).getD j false || s.zs.contains j) && planOkZ ops r (marked (marked L s.qs) s.ws)
def planLenZ : List Seg → Nat
  | [] => 0
  | s :: r => s.qs.length + (s.ws.length + planLenZ r)

theorem till_conv {S' : World → Prop} {zs zs' : List Nat} : ∀ (n : Nat) (L : Array Bool) (a : Act) (w : World), (∀ j, j < ops.size → L.getD j false = false → zs.contains j = true) → Till P ops Q S' zs' n L a w → Till P ops Q S zs n L a w
  | 0, _, _, _, _, h => h
  | n + 1, L, a, w, hz, h => ⟨h.1, fun i hi => wpOp_mono (fun a' w' h' => by
      obtain ⟨hun, o, ho, _⟩ := mem_ready.1 hi
      have hlt : i < ops.size := (Array.getElem?_eq_some_iff.1 ho).1
      have hL : L.getD i false = false := by
        rcases Nat.lt_or_ge i L.size with h1 | h1
        · simp [h1] at hun ⊢; exact hun
        · simp [Array.getElem?_eq_none h1]
      refine ⟨fun hc => (by rw [hz i hlt hL] at hc; cases hc), till_conv n _ a' w' (fun j hj hu => ?_) h'.2⟩
      refine hz j hj ?_
      by_cases e : i = j
      · subst e; exact hL
      · rw [getD_set_ne false e] at hu; exact hu) (h.2 i hi)⟩
theorem till_always {S' : World → Prop} {zs zs' : List Nat} (hS : ∀ w, S w) : ∀ (n : Nat) (L : Array Bool) (a : Act) (w : World), Till P ops Q S' zs' n L a w → Till P ops Q S zs n L a w
  | 0, _, _, _, h => h
  | n + 1, _, _, _, h => ⟨h.1, fun i hi => wpOp_mono (fun a' w' h' => ⟨fun _ => hS _, till_always hS n _ a' w' h'.2⟩) (h.2 i hi)⟩

theorem till_chainZ {zs : List Nat} {K : Act → World → Prop} {n : Nat} : ∀ (ws : List Nat) (L : Array Bool) (a : Act) (w : World), Shut ops L → chainOkK ops ws L = true →
    (∀ a' w', Shut ops (marked L ws) → K a' w' → Till P ops Q S zs n (marked L ws) a' w') → ChainZ P ops Q S zs K ws a w → Till P ops Q S zs (ws.length + n) L a w
  | [], L, a, w, hsh, _, hK, h => by rw [List.length_nil, Nat.zero_add]; exact hK a w hsh h
  | i :: r, L, a, w, hsh, hB, hK, h => by
    simp only [chainOkK, Bool.and_eq_true, decide_eq_true_eq] at hB
    rw [List.length_cons, Nat.add_right_comm]
    refine ⟨fun h0 => (by rw [hB.1] at h0; cases h0), fun j hj => ?_⟩
    have hi : i ∈ Region.ready .any ops L := by rw [hB.1]; simp
    rw [hB.1] at hj
    obtain rfl : j = i := by simpa using hj
    exact wpOp_mono (fun a' w' h' => ⟨h'.1, till_chainZ r _ a' w' (hsh.set hi) hB.2 hK h'.2⟩) h
theorem till_readsZ (hsel : Region.noSelect ops = true) (hQ : ∀ c a d v w, Q (.panic c) (a.put (some d) v) w → Q (.panic c) a w) (w : World) (hS : S w) {zs : List Nat} {K : Act → Prop} {n : Nat} :
    ∀ (qs : List Nat) (L : Array Bool) (a : Act), Shut ops L → readsOk ops zs qs L = true → (∀ a', Shut ops (marked L qs) → K a' → Till P ops Q S zs n (marked L qs) a' w) →
      wpQuiet P ops S K (qs.filterMap fun i => ops[i]?) a → Till P ops Q S zs (qs.length + n) L a w
  | [], L, a, hsh, _, hK, h => by rw [List.length_nil, Nat.zero_add]; exact hK a hsh h
  | i :: r, L, a, hsh, hB, hK, h => by
    simp only [readsOk, Bool.and_eq_true] at hB
    obtain ⟨⟨⟨⟨hr, hf⟩, hv⟩, hz⟩, hrest⟩ := hB
    have hr' : i ∈ Region.ready .any ops L := by simpa using hr
    obtain ⟨_, oi, ho, _⟩ := mem_ready.1 hr'
    rw [ho] at hv
    simp only [List.filterMap_cons, ho] at h
    unfold wpQuiet at h
    rw [List.length_cons, Nat.add_right_comm]
    have hz' : ∀ z ∈ zs, waitsT ops ops.size z i = true := fun z hz1 => List.all_eq_true.1 hz z hz1
    by_cases hw : Region.wanted oi (yielded ops a.tmps) = true
    · rw [if_pos hw] at h
      obtain ⟨v, h1, h2⟩ := h
      exact till_first ho hsel hQ hz' _ L a w hsh (Region.free_spec ho hf) hr' (.inl ⟨hw, fun w' hw' => value_of_quiet hv (h1 w' hw')⟩) hS (till_readsZ hsel hQ w hS r _ _ (hsh.set hr') hrest hK h2)
    · rw [if_neg hw] at h
      exact till_first ho hsel hQ hz' _ L a w hsh (Region.free_spec ho hf) hr' (.inr ⟨by simpa using hw, rfl⟩) hS (till_readsZ hsel hQ w hS r _ _ (hsh.set hr') hrest hK h)
theorem till_planZ (hsel : Region.noSelect ops = true) (hQ : ∀ c a d v w, Q (.panic c) (a.put (some d) v) w → Q (.panic c) a w) :
    ∀ (pl : List Seg) (L : Array Bool) (a : Act) (w : World), Shut ops L → planOkZ ops pl L = true → PlanZ P ops Q pl a w → ∃ S zs, Till P ops Q S zs (planLenZ pl) L a w
  | [], L, a, w, _, hB, h => ⟨fun _ => True, [], by simpa [planOkZ] using hB, h⟩
  | s :: r, L, a, w, hsh, hB, h => by
    simp only [planOkZ, Bool.and_eq_true, Bool.or_eq_true] at hB
    obtain ⟨⟨⟨h1, h2⟩, h3⟩, h4⟩ := hB
    obtain ⟨g1, g2, g3⟩ := h
    refine ⟨s.S, s.zs, till_readsZ hsel hQ w g1 s.qs L a hsh h1 (fun a' hsh' h' => ?_) g3⟩
    refine till_chainZ s.ws _ a' w hsh' h2 (fun a'' w'' hsh'' h'' => ?_) h'
    obtain ⟨S', zs', ht⟩ := till_planZ hsel hQ r _ a'' w'' hsh'' h4 h''
    rcases h3 with h3 | h3
    · exact till_always (g2 h3) _ _ _ _ ht
    · refine till_conv _ _ _ _ (fun j hj hu => ?_) ht
      have := List.all_eq_true.1 h3 j (List.mem_range.2 hj)
      rw [hu, Bool.false_or] at this
      exact this
theorem wp_region_planZ {id : Nat} {a : Act} {w : World} {l : List Oper} (pl : List Seg) (hm : P.follows .mixedOrders = true)
    (hB : (Region.noSelect l.toArray && planOkZ l.toArray pl (Array.replicate l.length false) && decide (planLenZ pl = l.length)) = true)
    (hQ : ∀ c a d v w, Q (.panic c) (a.put (some d) v) w → Q (.panic c) a w) (h : PlanZ P l.toArray Q pl a w.drew) : (Code.region id l.toArray true).wp P Q a w := by
  simp only [Bool.and_eq_true, decide_eq_true_eq] at hB
  obtain ⟨⟨hsel, hp⟩, hn⟩ := hB
  refine wp_region_any hm ?_
  have hsh : Shut l.toArray (Array.replicate l.length false) := fun j oj _ hl => by
    rw [Array.getD_eq_getD_getElem?, Array.getElem?_replicate] at hl
    split at hl <;> cases hl
  obtain ⟨S', zs', this⟩ := till_planZ hsel hQ pl _ a w.drew hsh hp h
  rw [hn] at this
  have h2 := any_of_till _ _ _ _ this
  simpa using h2
theorem planZ_op {zs : List Nat} {K : Act → World → Prop} {i : Nat} {r : List Nat} {a : Act} {w : World} {o : Oper} (ho : ops[i]? = some o) (hg : Region.wanted o (yielded ops a.tmps) = true)
    (h : ∀ K' : Act → World → Prop, (∀ a' w', (zs.contains i = false → S w') → ChainZ P ops Q S zs K r a' w' → K' a' w') → o.wp P a w K' Q) : ChainZ P ops Q S zs K (i :: r) a w := by
  unfold ChainZ wpOp
  simp only [ho, hg, if_true]
  exact .inl (h _ fun a' w' h1 h2 => ⟨h1, h2⟩)
end

/-- A segment whose class is that of the worlds that meet S, as a walk of reads wants it. -/
def seg (S : World → Prop) (zs qs ws : List Nat) : Seg := ⟨false, fun w' => ∃ x : Kept S, w' = x.1, zs, qs, ws⟩
/-- A segment whose reads look at no world. -/
def seg0 (qs ws : List Nat) : Seg := ⟨true, fun w' => ∃ x : Kept (fun _ => True), w' = x.1, [], qs, ws⟩
instance : Nonempty (Kept (fun _ => True)) := ⟨⟨default, trivial⟩⟩
theorem planZ_seg {P : Program} {ops : Array Oper} {Q : Exit → Act → World → Prop} {S : World → Prop} {zs qs ws : List Nat} {r : List Seg} {a : Act} {w : World} (hS : S w)
    (h : wpQuiet P ops (fun w' => ∃ x : Kept S, w' = x.1) (fun a' => ChainZ P ops Q (fun w' => ∃ x : Kept S, w' = x.1) zs (PlanZ P ops Q r) ws a' w) (qs.filterMap fun i => ops[i]?) a) : PlanZ P ops Q (seg S zs qs ws :: r) a w :=
  ⟨⟨⟨w, hS⟩, rfl⟩, fun h => (by cases h), h⟩
theorem planZ_seg0 {P : Program} {ops : Array Oper} {Q : Exit → Act → World → Prop} {qs ws : List Nat} {r : List Seg} {a : Act} {w : World}
    (h : wpQuiet P ops (fun w' => ∃ x : Kept (fun _ => True), w' = x.1) (fun a' => ChainZ P ops Q (fun w' => ∃ x : Kept (fun _ => True), w' = x.1) [] (PlanZ P ops Q r) ws a' w) (qs.filterMap fun i => ops[i]?) a) : PlanZ P ops Q (seg0 qs ws :: r) a w :=
  ⟨⟨⟨w, trivial⟩, rfl⟩, fun _ w' => ⟨⟨w', trivial⟩, rfl⟩, h⟩
end Go.Proofs.Ytbcleeifkmjlmaa
