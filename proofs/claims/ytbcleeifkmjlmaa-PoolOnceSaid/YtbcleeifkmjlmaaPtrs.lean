/-
  Slices of pointers of our own: what they hold, append of one, the last one taken away.
-/
import Derived.Test.YtbcleeifkmjlmaaBufG
import Derived.Test.YtbcleeifkmjlmaaFork
import Derived.Deep.LoopGhost
import Derived.Deep.CutRange
import Derived.Deep.CutBlock
import Derived.Deep.DeepCutAuto
namespace Go.Proofs.Ytbcleeifkmjlmaa
open Go.RowKit
set_option maxRecDepth 100000
set_option maxHeartbeats 1000000

/-- The slice v, of pointers of type t, holds those to the blocks of l; it lies in memory of our own, from B on. -/
def OwnP (w : World) (B : Nat) (t : TypeId) (v : Value) (l : List Nat) : Prop := w.ownsRow B t 1 v l.length (l.map ptr)
section
variable {w w' : World} {B : Nat} {t : TypeId} {v : Value} {l : List Nat}
theorem OwnP.nil (w : World) (B : Nat) (t : TypeId) : OwnP w B t (.slice none 0 0) [] := World.ownsRow_nil _ _ _ _
theorem OwnP.blk (h : OwnP w B t v l) : (v = .slice none 0 0 ∧ l = []) ∨ ∃ g cap cs, v = .slice (some ⟨g, 0, none⟩) l.length cap ∧ B ≤ g ∧ Cel w g t cs ∧ l.length ≤ cap ∧ cap ≤ maxLen ∧ cs.size = cap ∧ ∀ i, i < l.length → cs[i]? = some (ptr (l.getD i 0)) := by
  rcases h.2 with ⟨rfl, h0⟩ | ⟨g, cap, cs, rfl, hB, hg, hn, hm, hs, ht⟩
  · exact .inl ⟨rfl, List.eq_nil_of_length_eq_zero h0⟩
  · refine .inr ⟨g, cap, cs, rfl, hB, hg, hn, hm, by simpa using hs, fun i hi => ?_⟩
    have : (cs.toList.take (l.length * 1))[i]? = (l.map ptr)[i]? := by rw [ht]
    rw [List.getElem?_take, if_pos (by omega), List.getElem?_map, List.getElem?_eq_getElem hi] at this
    rw [List.getD_eq_getElem?_getD, List.getElem?_eq_getElem hi]
    simpa using this
theorem OwnP.of_blk {g cap : Nat} {cs : Array Value} (hB : B ≤ g) (hg : Cel w g t cs) (hn : l.length ≤ cap) (hm : cap ≤ maxLen) (hs : cs.size = cap) (hx : ∀ i, i < l.length → cs[i]? = some (ptr (l.getD i 0))) :
    OwnP w B t (.slice (some ⟨g, 0, none⟩) l.length cap) l := by
  refine ⟨by simp, .inr ⟨g, cap, cs, rfl, hB, hg, hn, hm, by omega, ?_⟩⟩
  apply List.ext_getElem?
  intro i
  rw [List.getElem?_take, List.getElem?_map]
  by_cases hi : i < l.length
  · rw [if_pos (by omega), List.getElem?_eq_getElem hi]
    have := hx i hi
    rw [List.getD_eq_getElem?_getD, List.getElem?_eq_getElem hi] at this
    simpa using this
  · rw [if_neg (by omega), List.getElem?_eq_none (by omega)]
    rfl
theorem OwnP.form (h : OwnP w B t v l) : ∃ a c, v = .slice a l.length c ∧ l.length ≤ c := by
  rcases h.blk with ⟨rfl, rfl⟩ | ⟨g, cap, cs, rfl, _, _, hn, _⟩
  · exact ⟨_, _, rfl, Nat.le_refl _⟩
  · exact ⟨_, _, rfl, hn⟩
theorem OwnP.ge (h : OwnP w B t v l) : ∀ b, v.ownBlock = some b → B ≤ b ∧ b < w.heap.size := fun b hb => World.ownsRow.lt h b hb
theorem OwnP.upd {F : Nat → Prop} (h : OwnP w B t v l) (hu : Upd F w w') (hv : ∀ b, v.ownBlock = some b → ¬ F b) : OwnP w' B t v l := by
  rcases h.blk with ⟨rfl, rfl⟩ | ⟨g, cap, cs, rfl, hB, hg, hn, hm, hs, hx⟩
  · exact OwnP.nil _ _ _
  · exact OwnP.of_blk hB (hu.cel hg (hv g rfl)) hn hm hs hx
theorem OwnP.typed {g : Nat} {t' : TypeId} {cs : Array Value} (h : OwnP w B t v l) (hc : Cel w g t' cs) (ht : t' ≠ t) : ∀ b, v.ownBlock = some b → b ≠ g := by
  rcases h.blk with ⟨rfl, rfl⟩ | ⟨k, cap, cs', rfl, _, hk, _⟩
  · intro b hb; cases hb
  · intro b hb
    obtain rfl : k = b := by simpa [Value.ownBlock] using hb
    exact hk.ne hc (Ne.symm ht)
theorem OwnP.alloc (h : OwnP w B t v l) (o : Obj) : OwnP (w.alloc o) B t v l := h.upd (F := fun _ => False) ((Upd.refl _ _).alloc o) (fun _ _ h => h)
theorem OwnP.ofBelow (h : OwnP w B t v l) (hb : Below w.heap.size w w') : OwnP w' B t v l := h.upd (F := fun _ => False) (Upd.ofBelow hb) (fun _ _ h => h)
theorem OwnP.grown {row : Option Nat} (h : OwnP w B t v l) (hg : w.grownBy w' row) (hne : ∀ b, v.ownBlock = some b → row ≠ some b) : OwnP w' B t v l :=
  h.upd (F := fun k => row = some k) ((Upd.refl _ _).grown hg (fun _ e _ => e)) hne
theorem OwnP.heap {w0 : World} (h : OwnP w0 B t v l) (he : w.heap = w0.heap) : OwnP w B t v l := by
  unfold OwnP World.ownsRow at *
  rw [he]
  exact h
theorem OwnP.take (h : OwnP w B t v l) (n : Nat) (hn : n ≤ l.length) (a : Option Addr) (c : Nat) (hv : v = .slice a l.length c) : OwnP w B t (.slice a n c) (l.take n) := by
  rcases h.blk with ⟨rfl, rfl⟩ | ⟨k, cap, cs', rfl, hB, hk, h1, h2, h3, h4⟩
  · obtain rfl : n = 0 := by simpa using hn
    injection hv with e1 e2 e3
    subst e1 e3
    exact OwnP.nil _ _ _
  · injection hv with e1 e2 e3
    subst e1 e3
    have hl : (l.take n).length = n := by simp; omega
    have := OwnP.of_blk (w := w) (B := B) (t := t) (l := l.take n) (cap := cap) hB hk (by omega) h2 h3 (fun i hi => by
      rw [hl] at hi
      rw [h4 i (by omega), List.getD_eq_getElem?_getD, List.getD_eq_getElem?_getD, List.getElem?_take, if_pos hi])
    rw [hl] at this
    exact this
theorem OwnP.at (h : OwnP w B t v l) (hl : 0 < l.length) : ∃ b c, v = .slice (some ⟨b, 0, none⟩) l.length c ∧ l.length ≤ c ∧ ∀ j, j < l.length → w.cell? ⟨b, j, none⟩ = some (ptr (l.getD j 0)) := by
  rcases h.blk with ⟨rfl, rfl⟩ | ⟨g, cap, cs, rfl, _, hg, hn, _, _, hx⟩
  · simp at hl
  · exact ⟨g, cap, rfl, hn, fun j hj => (hg.cell j).trans (hx j hj)⟩
end
theorem info_buf_ptr : (Try.prog.info? 23).map (fun i => (i.zero, i.size, i.bytes)) = some (some (.pointer none), 1, 8) := by kernel_rfl
theorem info_pair_ptr : (Try.prog.info? 62).map (fun i => (i.zero, i.size, i.bytes)) = some (some (.pointer none), 1, 8) := by kernel_rfl
/-- The builtin append of one pointer. -/
theorem run_append_ptr {w : World} {B : Nat} {t st : TypeId} {v : Value} {l : List Nat} {g k : Nat} (ht : Try.prog.underlying st = some (.slice t)) (hinfo : (Try.prog.info? t).map (fun i => (i.zero, i.size, i.bytes)) = some (some (.pointer none), 1, 8))
    (hv : OwnP w B t v l) (hx : w.cell? ⟨k, 0, none⟩ = some (ptr g)) (hB : B ≤ w.heap.size) (hlim : l.length ≤ 1000000) (ty : TypeId) :
    ∃ a c w', (Builtin.append_ #[st, st] ty #[v, .slice (some ⟨k, 0, none⟩) 1 1]).run Try.prog w = .ok (.slice a (l.length + 1) c) w' ∧ OwnP w' B t (.slice a (l.length + 1) c) (l ++ [g]) ∧ w.grownBy w' v.ownBlock ∧ (Value.ownBlock (.slice a (l.length + 1) c) = v.ownBlock ∨ Value.ownBlock (.slice a (l.length + 1) c) = some w.heap.size) := by
  obtain ⟨i0, hi, hz0, hz1, hz2⟩ := info_parts hinfo
  obtain ⟨v', w', h1, h2, h3, h4, h5⟩ := run_append_own_at (P := Try.prog) w B st ty t i0 (.pointer none) 1 8 ht hi hz0 hz1 hz2 rfl (by decide) v l.length _ hv ⟨k, 0, none⟩ 1 1 [ptr g] rfl
    (fun j u hu => by
      match j, hu with
      | 0, hu =>
        have e : ptr g = u := by simpa using hu
        rw [← e]; exact hx
      | j + 1, hu => simp at hu)
    (fun u hu => by
      have e : u = ptr g := by simpa using hu
      rw [e]; rfl) (by simp only [maxLen]; omega) (by omega) hB
  have h2' : OwnP w' B t v' (l ++ [g]) := by
    unfold OwnP
    simpa using h2
  obtain ⟨a, c, rfl, _⟩ := h2'.form
  have e : (l ++ [g]).length = l.length + 1 := by simp
  rw [e] at h1 h2' h5
  exact ⟨a, c, w', h1, h2', h3, h5⟩
theorem wpList_append_ptr {w : World} {ops : Array Oper} {rest : List Oper} {o : Oper} {a : Act} {Q : Exit → Act → World → Prop} {t st : TypeId} (hgd : o.guard = none) (s x : Operand)
    (ho : o.op = .call { callee := .builtin .append, args := #[s, x], argTypes := #[st, st] }) {B k g n : Nat} {vs : Value} {l : List Nat} (hs : a.eval s = vs) (hx : a.eval x = .slice (some ⟨k, 0, none⟩) 1 1)
    (ht : Try.prog.underlying st = some (.slice t)) (hinfo : (Try.prog.info? t).map (fun i => (i.zero, i.size, i.bytes)) = some (some (.pointer none), 1, 8))
    (hv : OwnP w B t vs l) (hr : w.cell? ⟨k, 0, none⟩ = some (ptr g)) (hB : B ≤ w.heap.size) (hn : l.length = n) (hlim : n ≤ 1000000)
    (h : ∀ ad c w', OwnP w' B t (.slice ad (n + 1) c) (l ++ [g]) → w.grownBy w' vs.ownBlock → (Value.ownBlock (.slice ad (n + 1) c) = vs.ownBlock ∨ Value.ownBlock (.slice ad (n + 1) c) = some w.heap.size) → wpList Try.prog ops Q rest (a.put o.dst (.slice ad (n + 1) c)) w') : wpList Try.prog ops Q (o :: rest) a w := by
  subst hn
  refine wpList_plain hgd fun K hK => ?_
  obtain ⟨ad, c, w', hrun, h1, h2, h3⟩ := run_append_ptr ht hinfo hv hr hB hlim o.type
  unfold Oper.wp execOp
  simp only [ho, resolve, invoke, builtin, Sem.run_bind, Sem.run_pure, Result.andThen_ok, List.map_toArray, List.map_cons, List.map_nil, hs, hx, hrun]
  exact hK _ _ (h ad c w' h1 h2 h3)
theorem wp_append_ptr {w : World} {o : Oper} {a : Act} {K : Act → World → Prop} {Q : Exit → Act → World → Prop} {t st : TypeId} (s x : Operand)
    (ho : o.op = .call { callee := .builtin .append, args := #[s, x], argTypes := #[st, st] }) {B k g n : Nat} {vs : Value} {l : List Nat} (hs : a.eval s = vs) (hx : a.eval x = .slice (some ⟨k, 0, none⟩) 1 1)
    (ht : Try.prog.underlying st = some (.slice t)) (hinfo : (Try.prog.info? t).map (fun i => (i.zero, i.size, i.bytes)) = some (some (.pointer none), 1, 8))
    (hv : OwnP w B t vs l) (hr : w.cell? ⟨k, 0, none⟩ = some (ptr g)) (hB : B ≤ w.heap.size) (hn : l.length = n) (hlim : n ≤ 1000000)
    (h : ∀ ad c w', OwnP w' B t (.slice ad (n + 1) c) (l ++ [g]) → w.grownBy w' vs.ownBlock → (Value.ownBlock (.slice ad (n + 1) c) = vs.ownBlock ∨ Value.ownBlock (.slice ad (n + 1) c) = some w.heap.size) → K (a.put o.dst (.slice ad (n + 1) c)) w') : o.wp Try.prog a w K Q := by
  subst hn
  obtain ⟨ad, c, w', hrun, h1, h2, h3⟩ := run_append_ptr ht hinfo hv hr hB hlim o.type
  unfold Oper.wp execOp
  simp only [ho, resolve, invoke, builtin, Sem.run_bind, Sem.run_pure, Result.andThen_ok, List.map_toArray, List.map_cons, List.map_nil, hs, hx, hrun]
  exact h ad c w' h1 h2 h3
theorem Cel.ofBelow {w w' : World} {q : Nat} {t : TypeId} {cs : Array Value} (hc : Cel w q t cs) (h : Below w.heap.size w w') : Cel w' q t cs := hc.below h hc.lt
theorem below_drewN {w : World} (q : Nat) : Below w.heap.size w (w.drewN q) := Upd.toBelow (F := fun _ => False) ((Upd.refl _ w).drewN q) (Nat.le_refl _) (fun _ h => h.elim)
/-- Two values whose blocks are two. -/
def Dis (v v' : Value) : Prop := ∀ b, v.ownBlock = some b → v'.ownBlock ≠ some b
theorem Dis.symm {v v' : Value} (h : Dis v v') : Dis v' v := fun b h1 h2 => h b h2 h1
theorem Dis.nil (v : Value) : Dis (.slice none 0 0) v := fun b h => by cases h
end Go.Proofs.Ytbcleeifkmjlmaa
