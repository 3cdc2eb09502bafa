/-
  A region that draws its order and holds reads, a few operations that write, in one forced order, and stores at its end: the reads may be taken first, in the order of the text; then the others, one behind the other.
-/
import Derived.Test.YtbcleeifkmjlmaaHp
import Derived.Deep.RegionHeld3
namespace Go.Proofs.Ytbcleeifkmjlmaa
open Go.RowKit

/-- An operation that gives a value, or nothing. -/
def valOp (o : Oper) : Bool :=
  match o.op with
  | .move _ | .assign _ | .pick .. | .load .. | .nilCheck _ | .binOp .. | .unOp .. | .convert .. | .slice .. | .fieldAddr .. | .indexAddr .. | .index .. => true
  | .call c => match c.callee with
    | .builtin .len => true
    | _ => false
  | _ => false
theorem nil_no {P : Program} {w w' : World} {n : Next} : (runtimePanic .nilDeref : Sem Next).run P w ≠ .ok n w' := by
  unfold runtimePanic
  simp [goPanic, Sem.run, Result.andThen]
theorem then_val {P : Program} {s : Sem Value} {w w' : World} {n : Next} (h : (do pure (Next.value (← s)) : Sem Next).run P w = .ok n w') : ∃ u, n = .value u := by
  simp only [Sem.run_bind, Result.andThen] at h
  split at h
  · simp only [Sem.run_pure, Result.ok.injEq] at h
    exact ⟨_, h.1.symm⟩
  · cases h
theorem val_run {P : Program} {o : Oper} (h : valOp o = true) {ρ : Operand → Value} {w w' : World} {n : Next} (hr : (execOp ρ o).run P w = .ok n w') : ∃ u, n = .value u := by
  obtain ⟨dst, op, type, pos, after, guard⟩ := o
  cases op
  case move x => exact ⟨_, (Result.ok.inj hr).1.symm⟩
  case assign x => exact ⟨_, (Result.ok.inj hr).1.symm⟩
  case pick c a b =>
    simp only [execOp, Sem.run_bind, Result.andThen] at hr
    split at hr
    · exact ⟨_, (Result.ok.inj hr).1.symm⟩
    · cases hr
  case call c =>
    obtain ⟨callee, args, argTypes⟩ := c
    cases callee
    case builtin b =>
      cases b
      case len => exact then_val hr
      all_goals (simp [valOp] at h)
    all_goals (simp [valOp] at h)
  case nilCheck x =>
    simp only [execOp] at hr
    split at hr
    · exact absurd hr nil_no
    · exact absurd hr nil_no
    · exact absurd hr nil_no
    · split at hr
      · exact absurd hr nil_no
      · simp only [Sem.run_bind, Result.andThen] at hr
        (repeat' split at hr) <;> first | (cases hr; done) | skip
        all_goals exact ⟨_, (Result.ok.inj hr).1.symm⟩
      · exact ⟨_, (Result.ok.inj hr).1.symm⟩
    · exact ⟨_, (Result.ok.inj hr).1.symm⟩
  all_goals first
    | (simp [valOp] at h; done)
    | exact then_val hr

section
variable {P : Program} {ops : Array Oper} {Q : Exit → Act → World → Prop} {S : World → Prop}

theorem value_of_quiet {o : Oper} {a : Act} {w : World} {v : Value} (hv : valOp o = true) (h : o.quietAt P a S w v) : (execOp a.eval o).run P w = .ok (.value v) w := by
  unfold Oper.quietAt at h
  generalize hr : (execOp a.eval o).run P w = r at *
  cases r with
  | halt x w' => simp only [Oper.quietUpon] at h
  | ok n w' =>
    obtain ⟨u, rfl⟩ := val_run hv hr
    simp only [Oper.quietUpon] at h
    rw [h.1, h.2]

/-- Whatever order is picked; S holds behind every operation but those that zs names. -/
def Till (P : Program) (ops : Array Oper) (Q : Exit → Act → World → Prop) (S : World → Prop) (zs : List Nat) : Nat → Array Bool → Act → World → Prop
  | 0, L, a, w => Region.ready .any ops L = [] ∧ Q .normal a w
  | n + 1, L, a, w => (Region.ready .any ops L = [] → Q .normal a w) ∧
    ∀ i ∈ Region.ready .any ops L, wpOp P ops Q i (fun a' w' => (zs.contains i = false → S w') ∧ Till P ops Q S zs n (L.setIfInBounds i true) a' w') a w

theorem any_of_till {zs : List Nat} : ∀ (n : Nat) (L : Array Bool) (a : Act) (w : World), Till P ops Q S zs n L a w → wpAny P .any ops Q n L a w
  | 0, _, _, _, h => h
  | n + 1, _, _, _, h => ⟨h.1, fun i hi => wpOp_mono (fun a' w' h' => any_of_till n _ a' w' h'.2) (h.2 i hi)⟩

/-- What has come up has come up behind all that it waits for. -/
def Shut (ops : Array Oper) (L : Array Bool) : Prop := ∀ (j : Nat) (oj : Oper), ops[j]? = some oj → L.getD j false = true → ∀ e ∈ oj.after, Region.binds .any e = true → L.getD e.on false = true
theorem Shut.set {L : Array Bool} {i : Nat} (h : Shut ops L) (hi : i ∈ Region.ready .any ops L) : Shut ops (L.setIfInBounds i true) := by
  intro j oj hj hl e he hb
  by_cases hij : i = j
  · subst hij
    obtain ⟨_, o, ho, hall⟩ := mem_ready.1 hi
    rw [hj] at ho
    injection ho with ho
    subst ho
    exact getD_set_true (hall e he hb)
  · rw [getD_set_ne false hij] at hl
    exact getD_set_true (h j oj hj hl e he hb)
/-- z waits for i, be it through others. -/
def waitsT (ops : Array Oper) : Nat → Nat → Nat → Bool
  | 0, _, _ => false
  | n + 1, z, i => match ops[z]? with
    | none => false
    | some oz => oz.after.any fun e => Region.binds .any e && (e.on == i || waitsT ops n e.on i)
theorem waitsT_listed {L : Array Bool} (h : Shut ops L) : ∀ (n z i : Nat), waitsT ops n z i = true → L.getD z false = true → L.getD i false = true
  | 0, _, _, hw, _ => by simp [waitsT] at hw
  | n + 1, z, i, hw, hz => by
    unfold waitsT at hw
    split at hw
    · cases hw
    · rename_i oz ho
      obtain ⟨e, he, hb⟩ := Array.any_eq_true'.1 hw
      simp only [Bool.and_eq_true, Bool.or_eq_true, beq_iff_eq] at hb
      have hl := h z oz ho hz e he hb.1
      rcases hb.2 with rfl | hb2
      · exact hl
      · exact waitsT_listed h n e.on i hb2 hl
theorem waitsT_ready {L : Array Bool} (h : Shut ops L) {n z i : Nat} (hw : waitsT ops n z i = true) (hz : z ∈ Region.ready .any ops L) : L.getD i false = true := by
  cases n with
  | zero => simp [waitsT] at hw
  | succ n =>
    unfold waitsT at hw
    obtain ⟨_, oz, ho, hall⟩ := mem_ready.1 hz
    rw [ho] at hw
    obtain ⟨e, he, hb⟩ := Array.any_eq_true'.1 hw
    simp only [Bool.and_eq_true, Bool.or_eq_true, beq_iff_eq] at hb
    have hl := hall e he hb.1
    rcases hb.2 with rfl | hb2
    · exact hl
    · exact waitsT_listed h n e.on i hb2 hl

/-- An operation that may come up now, that gives its value in every world of S, and for which all of zs wait, may be taken first. -/
theorem till_first {zs : List Nat} {i m : Nat} {oi : Oper} {v : Value} (hi : ops[i]? = some oi) (hsel : Region.noSelect ops = true) (hQ : ∀ c a d v w, Q (.panic c) (a.put (some d) v) w → Q (.panic c) a w)
    (hz : ∀ z ∈ zs, waitsT ops m z i = true) :
    ∀ (n : Nat) (L : Array Bool) (a : Act) (w : World), Shut ops L →
      (∀ j oj, ops[j]? = some oj → j ≠ i → L.getD j true = false → (∀ e ∈ oj.after, Region.binds .any e = true → e.on ≠ i) → oi.apart ops oj = true) →
      i ∈ Region.ready .any ops L → YieldsIf P ops S oi v a → S w →
      Till P ops Q S zs n (L.setIfInBounds i true) (a.put oi.dst v) w → Till P ops Q S zs (n + 1) L a w := by
  intro n
  induction n with
  | zero =>
    intro L a w hsh _ hr hy hS H
    refine ⟨fun h => (by rw [h] at hr; cases hr), fun j hj => ?_⟩
    by_cases hji : j = i
    · subst hji; exact hy.wpOp hi hS ⟨fun _ => hS, H⟩
    · have := ready_mono hj hji
      rw [H.1] at this
      cases this
  | succ n ih =>
    intro L a w hsh hfree hr hy hS H
    refine ⟨fun h => (by rw [h] at hr; cases hr), fun j hj => ?_⟩
    by_cases hji : j = i
    · subst hji; exact hy.wpOp hi hS ⟨fun _ => hS, H⟩
    · have h1 := H.2 j (ready_mono hj hji)
      obtain ⟨hjun, oj, hoj, hall⟩ := mem_ready.1 hj
      have hiun := (mem_ready.1 hr).1
      have hiun' : L.getD i false = false := by
        rcases Nat.lt_or_ge i L.size with h' | h'
        · simp [h'] at hiun ⊢; exact hiun
        · simp [Array.getElem?_eq_none h']
      have hnot : ∀ e ∈ oj.after, Region.binds .any e = true → e.on ≠ i := fun e he hb heq => by
        have h2 := hall e he hb
        rw [heq, hiun'] at h2
        cases h2
      have hjz : zs.contains j = false := by
        cases hc : zs.contains j with
        | false => rfl
        | true =>
          have := waitsT_ready hsh (hz j (by simpa using hc)) hj
          rw [hiun'] at this
          cases this
      have h2 := wpOp_putIf hoj (hfree j oj hoj hji hjun hnot) (fun cs b => Region.noSelect_spec hsel i oi cs b hi) (fun cs b => Region.noSelect_spec hsel j oj cs b hoj) (fun c a w => by cases hd : oi.dst with
        | none => exact fun h => h
        | some d => exact hQ c a d v w) hy h1
      have hfree' : ∀ k ok, ops[k]? = some ok → k ≠ i → (L.setIfInBounds j true).getD k true = false → (∀ e ∈ ok.after, Region.binds .any e = true → e.on ≠ i) → oi.apart ops ok = true := fun k ok hk hki hun hno => by
        refine hfree k ok hk hki ?_ hno
        by_cases hjk : j = k
        · subst hjk; exact hjun
        · rw [getD_set_ne true hjk] at hun; exact hun
      refine wpOp_mono (fun a' w' h3 => ⟨h3.2.1, ih (L.setIfInBounds j true) a' w' (hsh.set hj) hfree' (ready_mono hr (Ne.symm hji)) h3.1 (h3.2.1 hjz) ?_⟩) h2
      rw [Array.setIfInBounds_comm _ _ hji]
      exact h3.2.2

/-- The others, one behind the other. -/
def Chain (P : Program) (ops : Array Oper) (Q : Exit → Act → World → Prop) (S : World → Prop) (zs : List Nat) : List Nat → Act → World → Prop
  | [], a, w => Q .normal a w
  | i :: r, a, w => wpOp P ops Q i (fun a' w' => (zs.contains i = false → S w') ∧ Chain P ops Q S zs r a' w') a w

def marked (L : Array Bool) (is : List Nat) : Array Bool := is.foldl (fun L i => L.setIfInBounds i true) L
def chainOk (ops : Array Oper) : List Nat → Array Bool → Bool
  | [], L => (Region.ready .any ops L).isEmpty
  | i :: r, L => decide (Region.ready .any ops L = [i]) && chainOk ops r (L.setIfInBounds i true)
def readsOk (ops : Array Oper) (zs : List Nat) : List Nat → Array Bool → Bool
  | [], _ => true
  | i :: r, L => (Region.ready .any ops L).contains i && Region.free .any ops L i && (match ops[i]? with
    | some o => valOp o
    | none => false) && (zs.all fun z => waitsT ops ops.size z i) && readsOk ops zs r (L.setIfInBounds i true)

theorem till_chain {zs : List Nat} : ∀ (ws : List Nat) (L : Array Bool) (a : Act) (w : World), chainOk ops ws L = true → Chain P ops Q S zs ws a w → Till P ops Q S zs ws.length L a w
  | [], L, a, w, hB, h => ⟨by simpa [chainOk] using hB, h⟩
  | i :: r, L, a, w, hB, h => by
    simp only [chainOk, Bool.and_eq_true, decide_eq_true_eq] at hB
    refine ⟨fun h0 => (by rw [hB.1] at h0; cases h0), fun j hj => ?_⟩
    rw [hB.1] at hj
    obtain rfl : j = i := by simpa using hj
    exact wpOp_mono (fun a' w' h' => ⟨h'.1, till_chain r _ a' w' hB.2 h'.2⟩) h
theorem till_reads {zs : List Nat} (hsel : Region.noSelect ops = true) (hQ : ∀ c a d v w, Q (.panic c) (a.put (some d) v) w → Q (.panic c) a w) (ws : List Nat) (w : World) (hS : S w) :
    ∀ (qs : List Nat) (L : Array Bool) (a : Act), Shut ops L → readsOk ops zs qs L = true → chainOk ops ws (marked L qs) = true →
      wpQuiet P ops S (fun a' => Chain P ops Q S zs ws a' w) (qs.filterMap fun i => ops[i]?) a → Till P ops Q S zs (qs.length + ws.length) L a w
  | [], L, a, _, _, hc, h => by simpa using till_chain ws L a w hc h
  | i :: r, L, a, hsh, hB, hc, h => by
    simp only [readsOk, Bool.and_eq_true] at hB
    obtain ⟨⟨⟨⟨hr, hf⟩, hv⟩, hz⟩, hrest⟩ := hB
    have hr' : i ∈ Region.ready .any ops L := by simpa using hr
    obtain ⟨_, oi, ho, _⟩ := mem_ready.1 hr'
    rw [ho] at hv
    simp only [List.filterMap_cons, ho] at h
    unfold wpQuiet at h
    rw [List.length_cons, Nat.add_right_comm]
    have hz' : ∀ z ∈ zs, waitsT ops ops.size z i = true := fun z hz1 => List.all_eq_true.1 hz z hz1
    by_cases hw : Region.wanted oi (yielded ops a.tmps) = true
    · rw [if_pos hw] at h
      obtain ⟨v, h1, h2⟩ := h
      exact till_first ho hsel hQ hz' _ L a w hsh (Region.free_spec ho hf) hr' (.inl ⟨hw, fun w' hw' => value_of_quiet hv (h1 w' hw')⟩) hS (till_reads hsel hQ ws w hS r _ _ (hsh.set hr') hrest hc h2)
    · rw [if_neg hw] at h
      exact till_first ho hsel hQ hz' _ L a w hsh (Region.free_spec ho hf) hr' (.inr ⟨by simpa using hw, rfl⟩) hS (till_reads hsel hQ ws w hS r _ _ (hsh.set hr') hrest hc h)

/-- The region: qs are read first, in this order; ws come behind, in this order; behind those of zs, which all wait for the reads, S need not hold. -/
theorem wp_region_mix {id : Nat} {a : Act} {w : World} {l : List Oper} (qs ws zs : List Nat) (S : World → Prop) (hm : P.follows .mixedOrders = true)
    (hB : (Region.noSelect l.toArray && readsOk l.toArray zs qs (Array.replicate l.length false) && chainOk l.toArray ws (marked (Array.replicate l.length false) qs) && decide (qs.length + ws.length = l.length)) = true)
    (hQ : ∀ c a d v w, Q (.panic c) (a.put (some d) v) w → Q (.panic c) a w) (hS : S w.drew)
    (h : wpQuiet P l.toArray S (fun a' => Chain P l.toArray Q S zs ws a' w.drew) (qs.filterMap fun i => l.toArray[i]?) a) : (Code.region id l.toArray true).wp P Q a w := by
  simp only [Bool.and_eq_true, decide_eq_true_eq] at hB
  obtain ⟨⟨⟨hsel, hr⟩, hc⟩, hn⟩ := hB
  refine wp_region_any hm ?_
  have hsh : Shut l.toArray (Array.replicate l.length false) := fun j oj _ hl => by
    rw [Array.getD_eq_getD_getElem?, Array.getElem?_replicate] at hl
    split at hl <;> cases hl
  have := till_reads hsel hQ ws w.drew hS qs _ a hsh hr hc h
  rw [hn] at this
  have h2 := any_of_till _ _ _ _ this
  simpa using h2
theorem chain_op {zs : List Nat} {i : Nat} {r : List Nat} {a : Act} {w : World} {o : Oper} (ho : ops[i]? = some o) (hg : o.guard = none)
    (h : ∀ K : Act → World → Prop, (∀ a' w', (zs.contains i = false → S w') → Chain P ops Q S zs r a' w' → K a' w') → o.wp P a w K Q) : Chain P ops Q S zs (i :: r) a w := by
  unfold Chain wpOp
  simp only [ho, Region.wanted, hg, if_true]
  exact .inl (h _ fun a' w' h1 h2 => ⟨h1, h2⟩)
end

/-- The same, at the class of the worlds in which no block of w0 has turned. -/
theorem wp_region_held0 {P : Program} {Q : Exit → Act → World → Prop} {id : Nat} {a : Act} {w : World} {l : List Oper} (qs ws zs : List Nat) (w0 : World) (hm : P.follows .mixedOrders = true)
    (hB : (Region.noSelect l.toArray && readsOk l.toArray zs qs (Array.replicate l.length false) && chainOk l.toArray ws (marked (Array.replicate l.length false) qs) && decide (qs.length + ws.length = l.length)) = true)
    (hQ : ∀ c a d v w, Q (.panic c) (a.put (some d) v) w → Q (.panic c) a w) (hS : Upd (fun _ => False) w0 w)
    (h : wpQuiet P l.toArray (fun w' => ∃ x : Held w0, w' = x.1) (fun a' => Chain P l.toArray Q (Upd (fun _ => False) w0) zs ws a' w.drew) (qs.filterMap fun i => l.toArray[i]?) a) : (Code.region id l.toArray true).wp P Q a w := by
  have e : (fun w' => ∃ x : Held w0, w' = x.1) = Upd (fun _ => False) w0 := funext fun w' => propext ⟨fun ⟨x, hx⟩ => hx ▸ x.2, fun h => ⟨⟨w', h⟩, rfl⟩⟩
  rw [e] at h
  exact wp_region_mix qs ws zs _ hm hB hQ hS.drew h
end Go.Proofs.Ytbcleeifkmjlmaa
