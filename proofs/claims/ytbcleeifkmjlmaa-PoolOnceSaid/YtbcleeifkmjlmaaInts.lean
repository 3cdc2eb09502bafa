/-
  Slices of ints that read as lists of numbers, own ones among them; append onto an own one; and the reference's Ints.
-/
import Derived.Test.YtbcleeifkmjlmaaHp
namespace Go.Proofs.Ytbcleeifkmjlmaa
open Go.RowKit
set_option maxRecDepth 100000
set_option maxHeartbeats 400000

/-- The slice value v reads as the list l. -/
def Rd (w : World) (v : Value) (l : List Int) : Prop :=
  (v = .slice none 0 0 ∧ l = []) ∨ ∃ (ad : Addr) (c : Nat), v = .slice (some ad) l.length c ∧ ∀ j, j < l.length → w.cell? (ad.add j) = some (.int .i64 (l.getD j 0))
/-- .. and lies in memory of our own, from block B on. -/
def Own (w : World) (B : Nat) (v : Value) (l : List Int) : Prop := w.ownsRow B 3 1 v l.length (l.map (Value.int .i64))

section
variable {w w' : World} {B : Nat} {v : Value} {l : List Int}
theorem Rd.nil (w : World) : Rd w (.slice none 0 0) [] := .inl ⟨rfl, rfl⟩
theorem Rd.form (h : Rd w v l) : ∃ a c, v = .slice a l.length c := by
  rcases h with ⟨rfl, rfl⟩ | ⟨ad, c, rfl, _⟩
  · exact ⟨_, _, rfl⟩
  · exact ⟨_, _, rfl⟩
theorem Rd.at (h : Rd w v l) (hl : 0 < l.length) : ∃ b off c, v = .slice (some ⟨b, off, none⟩) l.length c ∧ ∀ j, j < l.length → w.cell? ⟨b, off + j, none⟩ = some (.int .i64 (l.getD j 0)) := by
  rcases h with ⟨rfl, rfl⟩ | ⟨ad, c, rfl, hc⟩
  · simp at hl
  · obtain ⟨b, off, rfl, h⟩ := ints_at hc hl
    exact ⟨b, off, c, rfl, h⟩
theorem Rd.keep (h : Rd w v l) (hk : ∀ b off u, v.ownBlock = some b → w.cell? ⟨b, off, none⟩ = some u → w'.cell? ⟨b, off, none⟩ = some u) : Rd w' v l := by
  rcases h with ⟨rfl, rfl⟩ | ⟨ad, c, rfl, hc⟩
  · exact .inl ⟨rfl, rfl⟩
  · refine .inr ⟨ad, c, rfl, fun j hj => ?_⟩
    obtain ⟨b, off, rfl, h⟩ := ints_at hc (by omega)
    rw [Go.WideShapes.add_plain]
    exact hk b _ _ rfl (h j hj)
theorem Rd.below {K : Nat} (h : Rd w v l) (hb : Below K w w') (hv : ∀ b, v.ownBlock = some b → b < K) : Rd w' v l :=
  h.keep fun b _ _ e hc => (hb.cell (p := ⟨b, _, none⟩) (hv b e)).trans hc
theorem Rd.upd {F : Nat → Prop} (h : Rd w v l) (hu : Upd F w w') (hv : ∀ b, v.ownBlock = some b → ¬ F b) : Rd w' v l :=
  h.keep fun b off u e hc => by
    have hlt : b < w.heap.size := World.block_lt_of_cell? w ⟨b, off, none⟩ hc
    exact (World.cell?_of_block (a := ⟨b, off, none⟩) (hu.block b hlt (hv b e))).trans hc
theorem Own.nil (w : World) (B : Nat) : Own w B (.slice none 0 0) [] := World.ownsRow_nil _ _ _ _
theorem Own.blk (h : Own w B v l) : (v = .slice none 0 0 ∧ l = []) ∨ ∃ g cap cs, v = .slice (some ⟨g, 0, none⟩) l.length cap ∧ B ≤ g ∧ Cel w g 3 cs ∧ l.length ≤ cap ∧ cap ≤ maxLen ∧ cs.size = cap ∧ ∀ i, i < l.length → cs[i]? = some (.int .i64 (l.getD i 0)) := by
  rcases h.2 with ⟨rfl, h0⟩ | ⟨g, cap, cs, rfl, hB, hg, hn, hm, hs, ht⟩
  · exact .inl ⟨rfl, List.eq_nil_of_length_eq_zero h0⟩
  · refine .inr ⟨g, cap, cs, rfl, hB, hg, hn, hm, by simpa using hs, fun i hi => ?_⟩
    have : (cs.toList.take (l.length * 1))[i]? = (l.map (Value.int .i64))[i]? := by rw [ht]
    rw [List.getElem?_take, if_pos (by omega), List.getElem?_map, List.getElem?_eq_getElem hi] at this
    rw [List.getD_eq_getElem?_getD, List.getElem?_eq_getElem hi]
    simpa using this
theorem Own.rd (h : Own w B v l) : Rd w v l := by
  rcases h.blk with ⟨rfl, rfl⟩ | ⟨g, cap, cs, rfl, _, hg, _, _, _, hx⟩
  · exact .inl ⟨rfl, rfl⟩
  · exact .inr ⟨_, cap, rfl, fun j hj => by rw [Go.WideShapes.add_plain, hg.cell]; simpa using hx j hj⟩
theorem Own.of_blk {g cap : Nat} {cs : Array Value} (hB : B ≤ g) (hg : Cel w g 3 cs) (hn : l.length ≤ cap) (hm : cap ≤ maxLen) (hs : cs.size = cap) (hx : ∀ i, i < l.length → cs[i]? = some (.int .i64 (l.getD i 0))) :
    Own w B (.slice (some ⟨g, 0, none⟩) l.length cap) l := by
  refine ⟨by simp, .inr ⟨g, cap, cs, rfl, hB, hg, hn, hm, by omega, ?_⟩⟩
  apply List.ext_getElem?
  intro i
  rw [List.getElem?_take, List.getElem?_map]
  by_cases hi : i < l.length
  · rw [if_pos (by omega), List.getElem?_eq_getElem hi]
    have := hx i hi
    rw [List.getD_eq_getElem?_getD, List.getElem?_eq_getElem hi] at this
    simpa using this
  · rw [if_neg (by omega), List.getElem?_eq_none (by omega)]
    rfl
theorem Own.ge (h : Own w B v l) : ∀ b, v.ownBlock = some b → B ≤ b ∧ b < w.heap.size := fun b hb => World.ownsRow.lt h b hb
theorem Own.upd {F : Nat → Prop} (h : Own w B v l) (hu : Upd F w w') (hv : ∀ b, v.ownBlock = some b → ¬ F b) : Own w' B v l := by
  rcases h.blk with ⟨rfl, rfl⟩ | ⟨g, cap, cs, rfl, hB, hg, hn, hm, hs, hx⟩
  · exact Own.nil _ _
  · exact Own.of_blk hB (hu.cel hg (hv g rfl)) hn hm hs hx
/-- The empty slice that '[]int{}' makes. -/
theorem Own.empty (w : World) (B : Nat) (hB : B ≤ w.heap.size) : Own (w.alloc (.cells #[] 3)) B (.slice (some ⟨w.heap.size, 0, none⟩) 0 0) [] :=
  Own.of_blk (l := []) (cs := #[]) hB (Cel.born _ _ _) (by simp) (by simp [maxLen]) rfl (fun i hi => by simp at hi)
/-- One number, in a slice of its own. -/
theorem Rd.one (w : World) (x : Int) : Rd (w.alloc (.cells #[.int .i64 x] 3)) (.slice (some ⟨w.heap.size, 0, none⟩) 1 1) [x] :=
  .inr ⟨_, 1, rfl, fun j hj => by
    obtain rfl : j = 0 := by simpa using hj
    exact ((Cel.born w 3 #[.int .i64 x]).cell 0)⟩
theorem Rd.alloc (h : Rd w v l) (o : Obj) : Rd (w.alloc o) v l := h.upd (F := fun _ => False) ((Upd.refl _ _).alloc o) (fun _ _ h => h)
theorem Rd.drew (h : Rd w v l) : Rd w.drew v l := h.upd (F := fun _ => False) ((Upd.refl _ _).drew) (fun _ _ h => h)
theorem Own.alloc (h : Own w B v l) (o : Obj) : Own (w.alloc o) B v l := h.upd (F := fun _ => False) ((Upd.refl _ _).alloc o) (fun _ _ h => h)
theorem Own.drew (h : Own w B v l) : Own w.drew B v l := h.upd (F := fun _ => False) ((Upd.refl _ _).drew) (fun _ _ h => h)
theorem Own.grown {row : Option Nat} (h : Own w B v l) (hg : w.grownBy w' row) (hne : ∀ b, v.ownBlock = some b → row ≠ some b) : Own w' B v l :=
  h.upd (F := fun k => row = some k) ((Upd.refl _ _).grown hg (fun _ e _ => e)) hne
theorem Rd.grown {row : Option Nat} (h : Rd w v l) (hg : w.grownBy w' row) (hne : ∀ b, v.ownBlock = some b → row ≠ some b) : Rd w' v l :=
  h.upd (F := fun k => row = some k) ((Upd.refl _ _).grown hg (fun _ e _ => e)) hne
theorem Own.typed {g : Nat} {t : TypeId} {cs : Array Value} (h : Own w B v l) (hc : Cel w g t cs) (ht : t ≠ 3) : ∀ b, v.ownBlock = some b → b ≠ g := by
  rcases h.blk with ⟨rfl, rfl⟩ | ⟨k, cap, cs', rfl, _, hk, _⟩
  · intro b hb; cases hb
  · intro b hb
    obtain rfl : k = b := by simpa [Value.ownBlock] using hb
    exact hk.ne hc (Ne.symm ht)
theorem Own.take (h : Own w B v l) (n : Nat) (hn : n ≤ l.length) (a : Option Addr) (c : Nat) (hv : v = .slice a l.length c) : Own w B (.slice a n c) (l.take n) := by
  rcases h.blk with ⟨rfl, rfl⟩ | ⟨k, cap, cs', rfl, hB, hk, h1, h2, h3, h4⟩
  · obtain rfl : n = 0 := by simpa using hn
    injection hv with e1 e2 e3
    subst e1 e3
    exact Own.nil _ _
  · injection hv with e1 e2 e3
    subst e1 e3
    have hl : (l.take n).length = n := by simp; omega
    have := Own.of_blk (w := w) (B := B) (l := l.take n) (cap := cap) hB hk (by omega) h2 h3 (fun i hi => by
      rw [hl] at hi
      rw [h4 i (by omega), List.getD_eq_getElem?_getD, List.getD_eq_getElem?_getD, List.getElem?_take, if_pos hi])
    rw [hl] at this
    exact this
/-- A slice cut at its head. -/
theorem Rd.cut {a : Option Addr} {n c : Nat} (h : Rd w (.slice a n c) l) (hn : l.length = n) (hc : n ≤ c) (lo : Nat) (hlo : lo ≤ n) : Rd w (sliced a lo n c 1) (l.drop lo) := by
  have hl : (l.drop lo).length = n - lo := by simp; omega
  rcases h with ⟨e, rfl⟩ | ⟨ad, c', e, hx⟩
  · injection e with e1 e2 e3
    subst e1 e2 e3
    obtain rfl : lo = 0 := by omega
    exact .inl ⟨rfl, rfl⟩
  · injection e with e1 e2 e3
    subst e1 e2 e3
    unfold sliced
    by_cases hcl : c = lo
    · rw [if_pos hcl]
      exact .inr ⟨ad, c - lo, by rw [hl], fun j hj => by omega⟩
    · rw [if_neg hcl]
      refine .inr ⟨ad.add (lo * 1), c - lo, by rw [hl]; rfl, fun j hj => ?_⟩
      have : (ad.add (lo * 1)).add j = ad.add (lo + j) := by
        unfold Addr.add
        by_cases h1 : lo = 0 <;> by_cases h2 : j = 0 <;> simp [h1, h2, Nat.add_assoc]
      rw [this, hx _ (by omega), List.getD_eq_getElem?_getD, List.getD_eq_getElem?_getD, List.getElem?_drop]
/-- Of heaps alone. -/
theorem Rd.heap {w0 : World} (h : Rd w0 v l) (he : w.heap = w0.heap) : Rd w v l :=
  h.keep fun b off u _ hc => by rw [← hc]; simp [World.cell?, he]
theorem Own.heap {w0 : World} (h : Own w0 B v l) (he : w.heap = w0.heap) : Own w B v l := by
  unfold Own World.ownsRow at *
  rw [he]
  exact h
end

theorem info_int : (Try.prog.info? 3).map (fun i => (i.zero, i.size, i.bytes)) = some (some (.int .i64 0), 1, 8) := by kernel_rfl
/-- The builtin append onto an own slice of ints. -/
theorem run_append_rd {w : World} {B : Nat} {v x : Value} {l m : List Int} (hv : Own w B v l) (hx : Rd w x m) (hB : B ≤ w.heap.size) (hlim : (l.length + m.length) * 8 ≤ 140737488355328) (ty : TypeId) :
    ∃ v' w', (Builtin.append_ #[26, 26] ty #[v, x]).run Try.prog w = .ok v' w' ∧ Own w' B v' (l ++ m) ∧ w.grownBy w' v.ownBlock ∧ (v'.ownBlock = v.ownBlock ∨ v'.ownBlock = some w.heap.size) ∧ (v' = .slice none 0 0 ↔ v = .slice none 0 0 ∧ m = []) := by
  obtain ⟨i0, hi, hz0, hz1, hz2⟩ := info_parts info_int
  rcases hx with ⟨rfl, rfl⟩ | ⟨ad, c, rfl, hc⟩
  · refine ⟨v, w, run_append_owned_none (P := Try.prog) (w := w) B 26 ty 3 i0 1 Try.underlying26 hi v l.length _ hv, by simpa using hv, World.grownBy.refl w _, .inl rfl, by simp⟩
  · obtain ⟨v', w', h1, h2, h3, h4, h5⟩ := run_append_own_at (P := Try.prog) w B 26 ty 3 i0 (.int .i64 0) 1 8 Try.underlying26 hi hz0 hz1 hz2 rfl (by decide) v l.length _ hv ad m.length c (m.map (Value.int .i64)) (by simp)
      (fun j u hu => by
        rw [List.getElem?_map] at hu
        obtain ⟨z, hz, rfl⟩ := Option.map_eq_some_iff.1 hu
        have hj : j < m.length := (List.getElem?_eq_some_iff.1 hz).1
        rw [hc j hj, List.getD_eq_getElem?_getD, hz]; rfl)
      (fun u hu => by obtain ⟨z, _, rfl⟩ := List.mem_map.1 hu; rfl) (by simp only [maxLen]; omega) hlim hB
    refine ⟨v', w', h1, ?_, h3, h5, ?_⟩
    · unfold Own
      simpa using h2
    · rw [h4]
      constructor
      · exact fun ⟨a, b⟩ => ⟨a, List.eq_nil_of_length_eq_zero b⟩
      · exact fun ⟨a, b⟩ => ⟨a, by rw [b]; rfl⟩
/-- .. the new value written out: its address and its room are letters. -/
theorem run_append_at {w : World} {B : Nat} {v x : Value} {l m : List Int} (hv : Own w B v l) (hx : Rd w x m) (hB : B ≤ w.heap.size) (n : Nat) (hn : l.length + m.length = n) (hlim : n * 8 ≤ 140737488355328) (ty : TypeId) :
    ∃ a c w', (Builtin.append_ #[26, 26] ty #[v, x]).run Try.prog w = .ok (.slice a n c) w' ∧ Own w' B (.slice a n c) (l ++ m) ∧ w.grownBy w' v.ownBlock ∧ (Value.ownBlock (.slice a n c) = v.ownBlock ∨ Value.ownBlock (.slice a n c) = some w.heap.size) := by
  obtain ⟨v', w', h1, h2, h3, h4, _⟩ := run_append_rd hv hx hB (by omega) ty
  obtain ⟨a, c, rfl⟩ := h2.rd.form
  have e : (l ++ m).length = n := by simp; omega
  rw [e] at h1 h2 h4
  exact ⟨a, c, w', h1, h2, h3, h4⟩
/-- .. as a law for the walk. -/
theorem wpList_append_rd {w : World} {ops : Array Oper} {rest : List Oper} {o : Oper} {a : Act} {Q : Exit → Act → World → Prop} (hgd : o.guard = none) (s x : Operand)
    (ho : o.op = .call { callee := .builtin .append, args := #[s, x], argTypes := #[26, 26] }) {B : Nat} {vs vx : Value} {l m : List Int} (hs : a.eval s = vs) (hx : a.eval x = vx)
    (hv : Own w B vs l) (hr : Rd w vx m) (hB : B ≤ w.heap.size) (n : Nat) (hn : l.length + m.length = n) (hlim : n * 8 ≤ 140737488355328)
    (h : ∀ ad c w', Own w' B (.slice ad n c) (l ++ m) → w.grownBy w' vs.ownBlock → (Value.ownBlock (.slice ad n c) = vs.ownBlock ∨ Value.ownBlock (.slice ad n c) = some w.heap.size) → wpList Try.prog ops Q rest (a.put o.dst (.slice ad n c)) w') : wpList Try.prog ops Q (o :: rest) a w := by
  refine wpList_plain hgd fun K hK => ?_
  obtain ⟨ad, c, w', hrun, h1, h2, h3⟩ := run_append_at hv hr hB n hn hlim o.type
  unfold Oper.wp execOp
  simp only [ho, resolve, invoke, builtin, Sem.run_bind, Sem.run_pure, Result.andThen_ok, List.map_toArray, List.map_cons, List.map_nil, hs, hx, hrun]
  exact hK _ _ (h ad c w' h1 h2 h3)
/-- .. as one operation. -/
theorem wp_append_rd {w : World} {o : Oper} {a : Act} {K : Act → World → Prop} {Q : Exit → Act → World → Prop} (s x : Operand)
    (ho : o.op = .call { callee := .builtin .append, args := #[s, x], argTypes := #[26, 26] }) {B : Nat} {vs vx : Value} {l m : List Int} (hs : a.eval s = vs) (hx : a.eval x = vx)
    (hv : Own w B vs l) (hr : Rd w vx m) (hB : B ≤ w.heap.size) (n : Nat) (hn : l.length + m.length = n) (hlim : n * 8 ≤ 140737488355328)
    (h : ∀ ad c w', Own w' B (.slice ad n c) (l ++ m) → w.grownBy w' vs.ownBlock → (Value.ownBlock (.slice ad n c) = vs.ownBlock ∨ Value.ownBlock (.slice ad n c) = some w.heap.size) → K (a.put o.dst (.slice ad n c)) w') : Oper.wp Try.prog o a w K Q := by
  obtain ⟨ad, c, w', hrun, h1, h2, h3⟩ := run_append_at hv hr hB n hn hlim o.type
  unfold Oper.wp execOp
  simp only [ho, resolve, invoke, builtin, Sem.run_bind, Sem.run_pure, Result.andThen_ok, List.map_toArray, List.map_cons, List.map_nil, hs, hx, hrun]
  exact h ad c w' h1 h2 h3
/-- .. where the operation is guarded, and wanted. -/
theorem wpList_append_rdg {w : World} {ops : Array Oper} {rest : List Oper} {o : Oper} {a : Act} {Q : Exit → Act → World → Prop} (hgd : Region.wanted o (yielded ops a.tmps) = true) (s x : Operand)
    (ho : o.op = .call { callee := .builtin .append, args := #[s, x], argTypes := #[26, 26] }) {B : Nat} {vs vx : Value} {l m : List Int} (hs : a.eval s = vs) (hx : a.eval x = vx)
    (hv : Own w B vs l) (hr : Rd w vx m) (hB : B ≤ w.heap.size) (n : Nat) (hn : l.length + m.length = n) (hlim : n * 8 ≤ 140737488355328)
    (h : ∀ ad c w', Own w' B (.slice ad n c) (l ++ m) → w.grownBy w' vs.ownBlock → (Value.ownBlock (.slice ad n c) = vs.ownBlock ∨ Value.ownBlock (.slice ad n c) = some w.heap.size) → wpList Try.prog ops Q rest (a.put o.dst (.slice ad n c)) w') : wpList Try.prog ops Q (o :: rest) a w := by
  refine wpList_step fun K hK => ?_
  rw [if_pos hgd]
  exact wp_append_rd s x ho hs hx hv hr hB n hn hlim fun ad c w' h1 h2 h3 => hK _ _ (h ad c w' h1 h2 h3)

/-! ### An argument that is a slice of ints. -/
open Go.ChangeShapes Go.WideShapes in
theorem rd_of_trod {H : Type} {enc : TypeId × Value → H} {W : World} {a : Option Addr} {n c : Nat} {d : DataW H} {p : List MemPlace}
    (h : DataW.Trod enc Try.prog W 0 (fun _ => true) true 26 (.slice a n c) d p) : ∃ l, Rd W (.slice a n c) l ∧ l.length ≤ 9223372036854775807 := by
  obtain ⟨fuel, hf⟩ := h
  rcases open_ints Try.underlying26 Try.underlying3 (by kernel_rfl) hf with ⟨hcs, _⟩ | ⟨x, l, c', zs, hcs, _, hl, hm, hz, _, hcell, hwz⟩
  · simp [Value.cells] at hcs
    obtain ⟨rfl, rfl, rfl⟩ := hcs
    exact ⟨[], Rd.nil _, by simp⟩
  · simp [Value.cells] at hcs
    obtain ⟨rfl, rfl, rfl⟩ := hcs
    have hz' : zs.length = c := by simpa using hz
    have hlen : (zs.take n).length = n := by simp; omega
    refine ⟨zs.take n, .inr ⟨x, c, by rw [hlen], fun j hj => ?_⟩, by rw [hlen]; simp only [maxLen] at hm; omega⟩
    rw [hcell j (by omega), List.getD_eq_getElem?_getD, List.getD_eq_getElem?_getD, List.getElem?_take, if_pos (by omega)]
/-- .. as a walk wants it: the address is a plain one where there is an element at all. -/
theorem Rd.plain {w : World} {a : Option Addr} {n c : Nat} {l : List Int} (h : Rd w (.slice a n c) l) : l.length = n ∧ ∃ b off, (0 < n → a = some ⟨b, off, none⟩) ∧ ∀ j, j < n → w.cell? ⟨b, off + j, none⟩ = some (.int .i64 (l.getD j 0)) := by
  obtain ⟨a', c', e⟩ := h.form
  injection e with e1 e2 e3
  subst e2
  refine ⟨rfl, ?_⟩
  by_cases h0 : 0 < l.length
  · obtain ⟨b, off, c2, e, hc⟩ := h.at h0
    injection e with e1 _ _
    exact ⟨b, off, fun _ => e1, hc⟩
  · exact ⟨0, 0, fun h => absurd h h0, fun j hj => by omega⟩
end Go.Proofs.Ytbcleeifkmjlmaa
