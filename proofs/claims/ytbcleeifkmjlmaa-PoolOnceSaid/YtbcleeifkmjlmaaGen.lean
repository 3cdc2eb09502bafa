/-
  Small general tools for this seat's walks: 'Below' handed on, a region that draws its order while its callees make new blocks alone, and the last step of a law's row.
-/
import Derived.Test.YtbcleeifkmjlmaaRows
import Derived.WalkKit
import Derived.WalkSpells
import Derived.WalkLawsBesides
import Derived.Deep.QuietTactic
import Derived.BigQuiet
import Derived.Lib.Hide
import Derived.ProofKit
import Derived.OpenShut
import Derived.StillTailTactics
namespace Go.Proofs.Ytbcleeifkmjlmaa
open Go.RowKit Go.ChangeShapes Go.WideShapes

theorem bstep {B : Nat} {a b c : World} (h : Below B a b) (k : Below b.heap.size b c) (hB : B ≤ b.heap.size) : Below B a c := h.trans (k.mono hB)
theorem bx {a b c : World} (h : Below a.heap.size a b) (k : Below b.heap.size b c) : Below a.heap.size a c := bstep h k h.size

/-- A world that comes behind w: what lay below B is as it was. -/
def After (B : Nat) (w : World) : Type := {x : World // Below B w x}
instance (B : Nat) (w : World) : Nonempty (After B w) := ⟨⟨w, Below.refl _ _⟩⟩
/-- A region that draws its order, each of whose operations gives one value in every world behind w and leaves such a world: one walk, in the order of the text. -/
theorem wp_region_after {P : Program} (B : Nat) (w0 : World) {id : Nat} {Q : Exit → Act → World → Prop} {a : Act} {w : World} {l : List Oper} (hm : P.follows .mixedOrders = true) (hB : Region.lexB .any l.toArray = true)
    (hC : Below B w0 w) (h : wpQuiet P l.toArray (fun w' => ∃ x : After B w0, w' = x.1) (fun a' => ∀ w', Below B w0 w' → Q .normal a' w') l a) : (Code.region id l.toArray true).wp P Q a w :=
  wp_region_quiet (C := fun w' => ∃ x : After B w0, w' = x.1) hm hB ⟨⟨_, hC.drew⟩, rfl⟩ (by
    have e : (fun a' : Act => ∀ w', (∃ x : After B w0, w' = x.1) → Q .normal a' w') = (fun a' => ∀ w', Below B w0 w' → Q .normal a' w') :=
      funext fun a' => propext ⟨fun h w' hw' => h w' ⟨⟨w', hw'⟩, rfl⟩, fun h w' ⟨x, hx⟩ => hx ▸ h _ x.2⟩
    rw [e]; simpa using h)
theorem after_call {P : Program} {f : FuncId} {args : Array Value} {w : World} {x : After w.heap.size w} {v : Value}
    (h : Calls P f args x.1 fun e w' => e = .returned v ∧ Below x.1.heap.size x.1 w') : Calls P f args x.1 fun e w'' => e = .returned v ∧ ∃ y : After w.heap.size w, w'' = y.1 :=
  h.mono fun _ w' ⟨he, hb⟩ => ⟨he, ⟨w', bx x.2 hb⟩, rfl⟩

/-- A region that draws its order, whose last operations stand in one forced order behind all others, which only read: one walk, in the order of the text. -/
theorem still_of_quiet {P : Program} {o : Oper} {a : Act} {w : World} {K : Act → Prop} (h : o.quiet P a (fun w' => w' = w) K) : o.still P a w K := by
  obtain ⟨v, h1, h2⟩ := h
  have h3 := h1 w rfl
  unfold Oper.quietAt at h3
  unfold Oper.still
  generalize (execOp a.eval o).run P w = r at *
  cases r with
  | ok n w' =>
    cases n <;> simp only [Oper.quietUpon] at h3 <;> simp only [Oper.stillUpon]
    case value u =>
      obtain ⟨e1, e2⟩ := h3
      subst e2
      exact ⟨e1, h2⟩
    case skip =>
      obtain ⟨e1, e2⟩ := h3
      subst e2
      exact ⟨e1, h2⟩
    case enter f args =>
      obtain ⟨e1, hc⟩ := h3
      exact ⟨e1, v, hc, h2⟩
  | halt x w' => simp only [Oper.quietUpon] at h3
theorem wpStill_of_quiet {P : Program} {ops : Array Oper} {w : World} {Q : Act → Prop} : ∀ (l : List Oper) (a : Act), wpQuiet P ops (fun w' => w' = w) Q l a → wpStill P ops w Q l a
  | [], _, h => h
  | o :: l, a, h => by
    unfold wpQuiet at h
    unfold wpStill
    split
    · rename_i hw
      rw [if_pos hw] at h
      exact Oper.still_mono (fun a' h' => wpStill_of_quiet l a' h') (still_of_quiet h)
    · rename_i hw
      rw [if_neg hw] at h
      exact wpStill_of_quiet l _ h
theorem wp_region_tail {P : Program} {id : Nat} {Q : Exit → Act → World → Prop} {a : Act} {w : World} {l : List Oper} (n : Nat) (hm : P.follows .mixedOrders = true) (hB : Region.lexTailB .any l.toArray n = true)
    (h : wpQuiet P l.toArray (fun w' => w' = w.drew) (fun a' => wpList P l.toArray Q (l.drop n) a' w.drew) (l.take n) a) : (Code.region id l.toArray true).wp P Q a w :=
  wp_region_still_tail n hm hB (wpStill_of_quiet _ _ h)

/-! ### The row's last step: a law whose call returns true and turns nothing that was there. -/
section
variable {H : Type} {enc : TypeId × Value → H} {P : Program}
theorem args_below {W W' : World} (hl : laidOutB P = true) (hb : Below W.heap.size W W') : ∀ (ts : List TypeId) (vs : List Value) (ds : List (DataW H)) (ps : List MemPlace),
    (∀ t ∈ ts, P.readableRec t = true ∧ t < P.types.size) → DataW.TrodAll enc P W 0 (fun _ => true) true ts vs ds ps → (∀ x ∈ ps, x.block < W.heap.size) →
    DataW.TrodAll enc P W' 0 (fun b => decide (b < W.heap.size)) true ts vs ds ps
  | [], vs, ds, ps, _, h, _ => by
    obtain ⟨rfl, rfl, rfl⟩ := trodAll_nil h
    exact trodAll_mk0
  | t :: ts, vs, ds, ps, hr, h, hp => by
    obtain ⟨v, vs', d, ds', p, q, rfl, rfl, rfl, h0, h1⟩ := trodAll_cons h
    have hrt := hr t (List.mem_cons_self ..)
    exact trodAll_cons_mk (Below.trod hl hrt.1 hrt.2 h0 hb (fun x hx => hp x (List.mem_append_left _ hx)))
      (args_below hl hb ts vs' ds' q (fun t' ht' => hr t' (List.mem_cons_of_mem _ ht')) h1 (fun x hx => hp x (List.mem_append_right _ hx)))

theorem law_post {f : Func} {s : ChangeSpec} {W W' : World} {args : Array Value} {ds : List (DataW H)} {before p : List MemPlace} {tb : TypeId}
    (hl : laidOutB P = true) (hr : ∀ t ∈ f.params.toList, P.readableRec t = true ∧ t < P.types.size) (ht : P.underlying tb = some .bool) (hres : f.resultTypes = #[tb]) (hv : s.vars = [])
    (hW : DataW.Whole enc P f.params.toList s.vars false W args.toList ds [] before) (hA : DataW.TrodAll enc P W 0 (fun _ => true) true f.params.toList args.toList ds p) (hp : before = p)
    (hb : Below W.heap.size W W') (h1 : (s.fn H ds).results = [.lit (.bool true)]) (h2 : (s.fn H ds).args = ds) (h3 : (s.fn H ds).vars = []) :
    s.post enc P f false true false false W args (.bool true) W' := by
  subst hp
  refine ⟨ds, [], before, [], before, [], hW, ?_, ?_, ?_, hb.frame _, fun h => by cases h⟩
  · rw [List.append_nil, h1, hres]
    exact trodAll_mk1 (shut_bool ht _)
  · rw [List.append_nil, h2]
    exact args_below hl hb _ _ _ _ hr hA hW.lt
  · rw [List.append_nil, h3, hv]
    rfl
end
end Go.Proofs.Ytbcleeifkmjlmaa
