/-
  Blocks that are known whole, and what a call leaves of the memory: 'Upd F w w'': the blocks that F names may have turned, new ones may have come, all else is as it was.
-/
import Derived.Test.YtbcleeifkmjlmaaGen
import Derived.LaidEqlPtr
import Derived.Laws.CopyOwn
import Derived.Maps.AppendAt
namespace Go.Proofs.Ytbcleeifkmjlmaa
open Go.RowKit

/-- Block g is a row of just these cells, none of them frozen. -/
def Cel (w : World) (g : Nat) (t : TypeId) (cs : Array Value) : Prop := w.heap[g]? = some (.cells cs t (0, 0))

section
variable {w w' : World} {g : Nat} {t : TypeId} {cs : Array Value}
theorem Cel.lt (h : Cel w g t cs) : g < w.heap.size := (Array.getElem?_eq_some_iff.1 h).1
theorem Cel.cell (h : Cel w g t cs) (i : Nat) : w.cell? ⟨g, i, none⟩ = cs[i]? := cell_of_row w g i cs t (0, 0) h
theorem Cel.free (h : Cel w g t cs) (i : Nat) : w.frozen? ⟨g, i, none⟩ = false := by
  have h' : w.heap[g]? = some (.cells cs t (0, 0)) := h
  simp [World.frozen?, h']
theorem Cel.born (w : World) (t : TypeId) (cs : Array Value) : Cel (w.alloc (.cells cs t)) w.heap.size t cs := heap_alloc_new w _
theorem Cel.drew (h : Cel w g t cs) : Cel w.drew g t cs := h
theorem Cel.drewN (h : Cel w g t cs) (n : Nat) : Cel (w.drewN n) g t cs := h
theorem Cel.alloc (h : Cel w g t cs) (o : Obj) : Cel (w.alloc o) g t cs := (Below.heap_alloc w o g h.lt).trans h
theorem Cel.put (h : Cel w g t cs) (i : Nat) (u : Value) : Cel (w.setCell ⟨g, i, none⟩ u) g t (cs.setIfInBounds i u) := by
  have h' : w.heap[g]? = some (.cells cs t (0, 0)) := h
  show (w.setCell ⟨g, i, none⟩ u).heap[g]? = _
  simp [World.setCell, Array.getElem?_modify, h']
theorem Cel.far (h : Cel w g t cs) {p : Addr} (hp : g ≠ p.block) (u : Value) : Cel (w.setCell p u) g t cs := (Below.heap_setCell w p u g hp).trans h
theorem Cel.row (h : Cel w g t cs) (ds : Array Value) : Cel (w.setRow g ds) g t ds := setRow_heap w g cs ds t (0, 0) h
theorem Cel.farRow (h : Cel w g t cs) {k : Nat} (hk : g ≠ k) (ds : Array Value) : Cel (w.setRow k ds) g t cs := (setRow_other w k g ds hk).trans h
theorem Cel.below {B : Nat} (h : Cel w g t cs) (hb : Below B w w') (hg : g < B) : Cel w' g t cs := (hb.block g hg).trans h
theorem Cel.grown {row : Option Nat} (h : Cel w g t cs) (hb : w.grownBy w' row) (hg : some g ≠ row) : Cel w' g t cs := (hb.block g h.lt hg).trans h
/-- Blocks of unlike element types are two. -/
theorem Cel.ne {k : Nat} {t' : TypeId} {cs' : Array Value} (h : Cel w g t cs) (h' : Cel w k t' cs') (hne : t ≠ t') : g ≠ k := by
  rintro rfl
  have e : some (Obj.cells cs t (0, 0)) = some (Obj.cells cs' t' (0, 0)) := (show w.heap[g]? = _ from h).symm.trans h'
  injection e with e
  injection e with _ e
  exact hne e
theorem Cel.same {cs' : Array Value} {t' : TypeId} (h : Cel w g t cs) (h' : Cel w g t' cs') : cs = cs' := by
  have e : some (Obj.cells cs t (0, 0)) = some (Obj.cells cs' t' (0, 0)) := (show w.heap[g]? = _ from h).symm.trans h'
  injection e with e
  injection e
end

/-- The blocks that F names may have turned, new ones may have come; all else is as it was. -/
structure Upd (F : Nat → Prop) (w w' : World) : Prop where
  os : w'.os = w.os
  tape : w'.tape = w.tape
  output : w'.output = w.output
  size : w.heap.size ≤ w'.heap.size
  block : ∀ k, k < w.heap.size → ¬ F k → w'.heap[k]? = w.heap[k]?

section
variable {F G : Nat → Prop} {a w w' : World}
theorem Upd.refl (F : Nat → Prop) (w : World) : Upd F w w := ⟨rfl, rfl, rfl, Nat.le_refl _, fun _ _ _ => rfl⟩
theorem Upd.trans (h : Upd F a w) (k : Upd F w w') : Upd F a w' :=
  ⟨k.os.trans h.os, k.tape.trans h.tape, k.output.trans h.output, Nat.le_trans h.size k.size, fun i hi hF => (k.block i (Nat.lt_of_lt_of_le hi h.size) hF).trans (h.block i hi hF)⟩
theorem Upd.mono (h : Upd F w w') (hs : ∀ k, F k → k < w.heap.size → G k) : Upd G w w' := ⟨h.os, h.tape, h.output, h.size, fun k hk hG => h.block k hk fun hF => hG (hs k hF hk)⟩
/-- What F names besides the new blocks. -/
theorem Upd.step (h : Upd F a w) (k : Upd G w w') (hs : ∀ k, G k → k < a.heap.size → F k) : Upd F a w' :=
  ⟨k.os.trans h.os, k.tape.trans h.tape, k.output.trans h.output, Nat.le_trans h.size k.size, fun i hi hF => (k.block i (Nat.lt_of_lt_of_le hi h.size) (fun hG => hF (hs i hG hi))).trans (h.block i hi hF)⟩
theorem Upd.drew (h : Upd F a w) : Upd F a w.drew := ⟨h.os, h.tape, h.output, h.size, h.block⟩
theorem Upd.drewN (h : Upd F a w) (n : Nat) : Upd F a (w.drewN n) := ⟨h.os, h.tape, h.output, h.size, h.block⟩
theorem Upd.alloc (h : Upd F a w) (o : Obj) : Upd F a (w.alloc o) :=
  ⟨h.os, h.tape, h.output, Nat.le_trans h.size (by simp), fun i hi hF => (Below.heap_alloc w o i (Nat.lt_of_lt_of_le hi h.size)).trans (h.block i hi hF)⟩
theorem Upd.setCell (h : Upd F a w) {p : Addr} (hp : p.block < a.heap.size → F p.block) (u : Value) : Upd F a (w.setCell p u) :=
  ⟨h.os, h.tape, h.output, by simpa [World.setCell] using h.size, fun i hi hF => (Below.heap_setCell w p u i (by rintro rfl; exact hF (hp hi))).trans (h.block i hi hF)⟩
theorem Upd.sc (h : Upd F a w) {g : Nat} (hg : g < a.heap.size → F g) (i : Nat) (u : Value) : Upd F a (w.setCell ⟨g, i, none⟩ u) := h.setCell (p := ⟨g, i, none⟩) hg u
theorem Upd.setRow (h : Upd F a w) {g : Nat} (hp : g < a.heap.size → F g) (cs : Array Value) : Upd F a (w.setRow g cs) :=
  ⟨h.os, h.tape, h.output, by simpa [World.setRow] using h.size, fun i hi hF => (setRow_other w g i cs (by rintro rfl; exact hF (hp hi))).trans (h.block i hi hF)⟩
theorem Upd.grown {row : Option Nat} (h : Upd F a w) (hg : w.grownBy w' row) (hr : ∀ k, row = some k → k < a.heap.size → F k) : Upd F a w' :=
  ⟨hg.os.trans h.os, hg.tape.trans h.tape, hg.output.trans h.output, Nat.le_trans h.size hg.size, fun i hi hF =>
    (hg.block i (Nat.lt_of_lt_of_le hi h.size) (fun e => hF (hr i e.symm hi))).trans (h.block i hi hF)⟩
theorem Upd.ofBelow (h : Below w.heap.size w w') : Upd F w w' := ⟨h.os, h.tape, h.output, h.size, fun k hk _ => h.block k hk⟩
theorem Upd.toBelow {B : Nat} (h : Upd F w w') (hB : B ≤ w.heap.size) (hF : ∀ k, F k → B ≤ k) : Below B w w' :=
  ⟨h.os, h.tape, h.output, h.size, fun k hk => h.block k (Nat.lt_of_lt_of_le hk hB) (fun hf => by have := hF k hf; omega)⟩
theorem Upd.cel {g : Nat} {t : TypeId} {cs : Array Value} (h : Upd F w w') (hc : Cel w g t cs) (hF : ¬ F g) : Cel w' g t cs := (h.block g hc.lt hF).trans hc
/-- A call that turns only what F names, behind a Below. -/
theorem below_upd {B : Nat} (h : Below B a w) (k : Upd F w w') (hB : B ≤ w.heap.size) (hF : ∀ k, F k → B ≤ k) : Below B a w' := h.trans (k.toBelow hB hF)
end
/-- A world that comes behind w: no block of w has turned. -/
def Held (w : World) : Type := {x : World // Upd (fun _ => False) w x}
instance (w : World) : Nonempty (Held w) := ⟨⟨w, Upd.refl _ _⟩⟩
theorem Held.cell {w : World} {a : Addr} {v : Value} (hc : w.cell? a = some v) (x : Held w) : x.1.cell? a = some v := by
  have hlt : a.block < w.heap.size := World.block_lt_of_cell? w a hc
  exact (World.cell?_of_block (x.2.block a.block hlt (fun h => h))).trans hc
end Go.Proofs.Ytbcleeifkmjlmaa
