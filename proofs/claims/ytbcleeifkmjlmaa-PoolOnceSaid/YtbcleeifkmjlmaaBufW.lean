/-
  The walks of the buffer's functions of the program, each with its contract over lists. No condition.
-/
import Derived.Test.YtbcleeifkmjlmaaHp
import Derived.StillTailTactics
namespace Go.Proofs.Ytbcleeifkmjlmaa
open Go.RowKit
set_option maxRecDepth 100000
set_option maxHeartbeats 400000

/-- A buffer's block: 32 places and the count; l are the numbers in it. -/
def BufAt (w : World) (g : Nat) (l : List Int) : Prop :=
  ∃ cs : Array Value, Cel w g 56 cs ∧ cs.size = 33 ∧ l.length ≤ 32 ∧ cs[32]? = some (.int .i64 l.length) ∧ ∀ i, i < l.length → cs[i]? = some (.int .i64 (l.getD i 0))
abbrev ptr (g : Nat) : Value := .pointer (some ⟨g, 0, none⟩)

theorem BufAt.le {w : World} {g : Nat} {l : List Int} (h : BufAt w g l) : l.length ≤ 32 := by
  obtain ⟨_, _, _, h, _⟩ := h
  exact h
theorem BufAt.lt {w : World} {g : Nat} {l : List Int} (h : BufAt w g l) : g < w.heap.size := by
  obtain ⟨_, h, _⟩ := h
  exact h.lt
theorem BufAt.upd {w w' : World} {F : Nat → Prop} {g : Nat} {l : List Int} (h : BufAt w g l) (hu : Upd F w w') (hF : ¬ F g) : BufAt w' g l := by
  obtain ⟨cs, h1, h2⟩ := h
  exact ⟨cs, hu.cel h1 hF, h2⟩

theorem bnew_any (w : World) :
    Calls Try.prog 9 #[] w fun e w' => e = .returned (ptr w.heap.size) ∧ BufAt w' w.heap.size [] ∧ Below w.heap.size w w' := by
  go_enter Try.func9, Try.ntmps9
  go_wp2
  go_ret
  refine ⟨rfl, ⟨_, Cel.born _ _ _, rfl, by simp, rfl, fun i hi => by simp at hi⟩, (Below.refl _ _).alloc (Nat.le_refl _) _⟩

theorem blen_nil (w : World) :
    Calls Try.prog 16 #[.pointer none] w fun e w' => e = .returned (.int .i64 0) ∧ w = w' := by
  go_enter Try.func16, Try.ntmps16
  go_wp2
  go_ret
  exact ⟨rfl, rfl⟩
theorem blen_any (w : World) (g : Nat) (l : List Int) (h : BufAt w g l) :
    Calls Try.prog 16 #[ptr g] w fun e w' => e = .returned (.int .i64 l.length) ∧ w = w' := by
  obtain ⟨cs, hc, hs, hl, hn, hx⟩ := h
  have c32 : w.cell? ⟨g, 32, none⟩ = some (.int .i64 l.length) := (hc.cell 32).trans hn
  clear hx hn
  unfold ptr
  go_enter Try.func16, Try.ntmps16
  go_wp2
  go_ret
  exact ⟨rfl, rfl⟩

theorem bput_nil (w : World) (v : Int) :
    Calls Try.prog 10 #[.pointer none, .int .i64 v] w fun e w' => e = .returned (.bool false) ∧ w = w' := by
  go_enter Try.func10, Try.ntmps10
  go_wp2
  go_ret
  exact ⟨rfl, rfl⟩
theorem bput_full (w : World) (g : Nat) (l : List Int) (v : Int) (h : BufAt w g l) (hf : l.length = 32) :
    Calls Try.prog 10 #[ptr g, .int .i64 v] w fun e w' => e = .returned (.bool false) ∧ w = w' := by
  obtain ⟨cs, hc, hs, hl, hn, hx⟩ := h
  have c32 : w.cell? ⟨g, 32, none⟩ = some (.int .i64 32) := by rw [hc.cell 32, hn, hf]; rfl
  clear hx hn hl hf
  unfold ptr
  go_enter Try.func10, Try.ntmps10
  go_wp2
  go_ret
  exact ⟨rfl, rfl⟩
theorem getD_snoc (l : List Int) (v : Int) (i : Nat) : (l ++ [v]).getD i 0 = if i = l.length then v else l.getD i 0 := by
  rw [List.getD_eq_getElem?_getD, List.getD_eq_getElem?_getD, List.getElem?_append]
  split
  · rw [if_neg (by omega)]
  · rename_i h
    split
    · rename_i e; subst e; simp
    · rename_i e
      rw [List.getElem?_eq_none (by simp; omega), List.getElem?_eq_none (by omega)]
theorem buf_push {w : World} {g : Nat} {l : List Int} {cs : Array Value} {n : Nat} (v : Int) (hc : Cel w g 56 cs) (hs : cs.size = 33) (hx : ∀ i, i < l.length → cs[i]? = some (.int .i64 (l.getD i 0))) (hn : n = l.length) (hf : n < 32) :
    BufAt ((w.setCell ⟨g, n, none⟩ (.int .i64 v)).setCell ⟨g, 32, none⟩ (.int .i64 (n + 1))) g (l ++ [v]) := by
  refine ⟨_, (hc.put n _).put 32 _, by simpa using hs, by simp; omega, ?_, fun i hi => ?_⟩
  · rw [Array.getElem?_setIfInBounds_self_of_lt (by simp; omega)]
    simp [hn]
  · simp only [List.length_append, List.length_cons, List.length_nil] at hi
    rw [Array.getElem?_setIfInBounds_ne (by omega), getD_snoc]
    by_cases e : i = l.length
    · subst e; subst hn
      rw [Array.getElem?_setIfInBounds_self_of_lt (by omega), if_pos rfl]
    · rw [Array.getElem?_setIfInBounds_ne (by omega), if_neg e]
      exact hx i (by omega)
theorem upd_two {w : World} {g : Nat} (i j : Nat) (u v : Value) : Upd (· = g) w ((w.setCell ⟨g, i, none⟩ u).setCell ⟨g, j, none⟩ v) :=
  ((Upd.refl (· = g) w).sc (fun _ => rfl) _ _).sc (fun _ => rfl) _ _
theorem bput_room (w : World) (g : Nat) (l : List Int) (v : Int) (h : BufAt w g l) (hf : l.length < 32) :
    Calls Try.prog 10 #[ptr g, .int .i64 v] w fun e w' => e = .returned (.bool true) ∧ BufAt w' g (l ++ [v]) ∧ Upd (· = g) w w' := by
  obtain ⟨cs, hc, hs, hl, hn, hx⟩ := h
  obtain ⟨n, hnl⟩ : ∃ n, n = l.length := ⟨_, rfl⟩
  rw [← hnl] at hf hn
  have c32 : w.cell? ⟨g, 32, none⟩ = some (.int .i64 n) := (hc.cell 32).trans hn
  obtain ⟨u, hu⟩ : ∃ u, cs[n]? = some u := ⟨_, Array.getElem?_eq_getElem (by omega)⟩
  have cn : w.cell? ⟨g, n, none⟩ = some u := (hc.cell n).trans hu
  have f32 := hc.free 32
  have fn := hc.free n
  have hne : n ≠ 32 := by omega
  have H := Lib.hid (And.intro hc (And.intro hs (And.intro hx hnl)))
  clear hx hn hl hc hs hnl hu
  unfold ptr
  go_enter Try.func10, Try.ntmps10
  go_wp2
  go_region
  go_wp2
  go_ret
  obtain ⟨hc, hs, hx, hnl⟩ := H.out
  exact ⟨rfl, (buf_push v hc hs hx hnl hf), (upd_two _ _ _ _).drew⟩

theorem bget_nil (w : World) :
    Calls Try.prog 12 #[.pointer none] w fun e w' => e = .returned (.tuple #[.int .i64 0, .bool false]) ∧ w = w' := by
  go_enter Try.func12, Try.ntmps12
  go_wp2_with (go_at_call 16; refine (blen_nil _).mono ?_; rintro e w' ⟨rfl, rfl⟩)
  go_ret2
  exact ⟨rfl, rfl⟩
theorem bget_none (w : World) (g : Nat) (h : BufAt w g []) :
    Calls Try.prog 12 #[ptr g] w fun e w' => e = .returned (.tuple #[.int .i64 0, .bool false]) ∧ w = w' := by
  go_enter Try.func12, Try.ntmps12
  go_wp2_with (go_at_call 16; refine (blen_any _ _ _ h).mono ?_; rintro e w' ⟨rfl, rfl⟩)
  go_ret2
  exact ⟨rfl, rfl⟩
theorem buf_pop {w : World} {g : Nat} {l : List Int} {cs : Array Value} {v : Int} (hc : Cel w g 56 cs) (hs : cs.size = 33) (hl : (l ++ [v]).length ≤ 32) (hx : ∀ i, i < (l ++ [v]).length → cs[i]? = some (.int .i64 ((l ++ [v]).getD i 0))) :
    BufAt (w.setCell ⟨g, 32, none⟩ (.int .i64 l.length)) g l := by
  simp only [List.length_append, List.length_cons, List.length_nil] at hl
  refine ⟨_, hc.put 32 _, by simpa using hs, by omega, ?_, fun i hi => ?_⟩
  · rw [Array.getElem?_setIfInBounds_self_of_lt (by omega)]
  · rw [Array.getElem?_setIfInBounds_ne (by omega), hx i (by simp; omega), getD_snoc, if_neg (by omega)]
theorem bget_some (w : World) (g : Nat) (l : List Int) (v : Int) (h : BufAt w g (l ++ [v])) :
    Calls Try.prog 12 #[ptr g] w fun e w' => e = .returned (.tuple #[.int .i64 v, .bool true]) ∧ BufAt w' g l ∧ Upd (· = g) w w' := by
  have hlen := Lib.hid (blen_any w g _ h)
  obtain ⟨cs, hc, hs, hl, hn, hx⟩ := h
  obtain ⟨n, hnl⟩ : ∃ n, n = l.length := ⟨_, rfl⟩
  have hln : (l ++ [v]).length = n + 1 := by simp [hnl]
  rw [hln] at hn
  have hl32 : n < 32 := by omega
  have c32 : w.cell? ⟨g, 32, none⟩ = some (.int .i64 (n + 1)) := (hc.cell 32).trans hn
  have cn : w.cell? ⟨g, n, none⟩ = some (.int .i64 v) := by
    rw [hc.cell n, hx n (by omega), getD_snoc, if_pos hnl]
  have f32 := hc.free 32
  have hne : n ≠ 32 := by omega
  have H := Lib.hid (And.intro hc (And.intro hs (And.intro hl (And.intro hx hnl))))
  have hlv := Lib.hid (show ((l ++ [v]).length : Int) = (n : Int) + 1 by omega)
  clear hx hn hl hc hs hnl hln
  go_enter Try.func12, Try.ntmps12
  go_wp2_with (go_at_call 16; refine hlen.out.mono ?_; rintro e w' ⟨rfl, rfl⟩; rw [hlv.out])
  go_region
  go_wp2
  go_ret2
  obtain ⟨hc, hs, hl, hx, hnl⟩ := H.out
  subst hnl
  exact ⟨rfl, (buf_pop hc hs hl hx).upd (Upd.refl (fun _ => False) _).drew (fun h => h), ((Upd.refl (· = g) w).sc (fun _ => rfl) _ _).drew⟩

/-! ### Half -/
theorem bhalf_nil (w : World) (k : Value) (hk : k = .pointer none ∨ ∃ g, k = ptr g) :
    Calls Try.prog 14 #[.pointer none, k] w fun e w' => e = .returned (.int .i64 0) ∧ w = w' := by
  rcases hk with rfl | ⟨g, rfl⟩
  all_goals
    go_enter Try.func14, Try.ntmps14
    go_wp2_with (go_at_call 16; refine (blen_nil _).mono ?_; rintro e w' ⟨rfl, rfl⟩)
    go_ret
    exact ⟨rfl, rfl⟩
theorem info_buf : (Try.prog.info? 56).map (·.size) = some 33 := by kernel_rfl
/-- Too many for the other one: nothing goes over. -/
theorem bhalf_much (w : World) (g k : Nat) (l m : List Int) (h : BufAt w g l) (h' : BufAt w k m) (hgk : g ≠ k) (hf : 32 < l.length / 2 + m.length) :
    Calls Try.prog 14 #[ptr g, ptr k] w fun e w' => e = .returned (.int .i64 0) ∧ w = w' := by
  have hlen := Lib.hid (blen_any w g _ h)
  have hl := h.le
  obtain ⟨cs, hc, hs, _, hn, hx⟩ := h
  obtain ⟨cs', hc', hs', hl', hn', hx'⟩ := h'
  obtain ⟨j, hj, hj0⟩ := Option.map_eq_some_iff.1 info_buf
  have heq := fun W : World => fun (e1 : W.heap[g]? = some (.cells cs 56 (0, 0))) (e2 : W.heap[k]? = some (.cells cs' 56 (0, 0))) => run_eql_ptr_other (P := Try.prog) W (a := ⟨g, 0, none⟩) (b := ⟨k, 0, none⟩) Try.underlying23 hj (by omega) (fun e => hgk (congrArg Addr.block e)) e1 e2
  have heq := heq w hc hc'
  have c32' : w.cell? ⟨k, 32, none⟩ = some (.int .i64 m.length) := (hc'.cell 32).trans hn'
  clear hx hn hx' hn' hc hc' hj hs hs' hj0
  generalize l.length = ln at *
  generalize m.length = mn at *
  go_enter Try.func14, Try.ntmps14
  go_wp2_with (go_at_call 16; refine hlen.out.mono ?_; rintro e w' ⟨rfl, rfl⟩)
  go_ret
  exact ⟨rfl, rfl⟩

theorem info_int1 : (Try.prog.info? 3).map (·.size) = some 1 := by kernel_rfl
theorem len_arr : Try.prog.arrayLen 54 = 32 := by kernel_rfl
theorem size_arr (w : World) : (sizeOf (Try.prog.elem 54)).run Try.prog w = .ok 1 w := by kernel_rfl
theorem addr_at (k o n : Nat) : (⟨k, o, none⟩ : Addr).add n = ⟨k, o + n, none⟩ := by
  unfold Addr.add
  by_cases h : n = 0 <;> simp [h]
theorem over_at (cs : Array Value) (xs : List Value) (m i : Nat) (h : m ≤ cs.size) :
    ((cs.toList.take m ++ (xs ++ cs.toList.drop (m + xs.length))).toArray)[i]? = if i < m then cs[i]? else if i < m + xs.length then xs[i - m]? else cs[i]? := by
  have hm : (cs.toList.take m).length = m := by simp; omega
  rw [List.getElem?_toArray, List.getElem?_append, hm]
  split
  · rename_i hi
    rw [List.getElem?_take, if_pos hi]; simp
  · rename_i hi
    rw [List.getElem?_append]
    by_cases h2 : i < m + xs.length
    · rw [if_pos (by omega), if_pos h2]
    · rw [if_neg (by omega), if_neg h2, List.getElem?_drop, show m + xs.length + (i - m - xs.length) = i by omega]; simp
theorem addr_add (k n : Nat) : (⟨k, 0, none⟩ : Addr).add n = ⟨k, n, none⟩ := by
  unfold Addr.add
  by_cases h : n = 0 <;> simp [h]
theorem slice_from (k mn : Nat) (h : mn < 32) (w : World) :
    (Instr.sliceAt 54 (.pointer (some ⟨k, 0, none⟩)) (some (.int .i64 (mn : Int))) none none).run Try.prog w = .ok (.slice (some ⟨k, mn, none⟩) (32 - mn) (32 - mn)) w := by
  rw [run_sliceAt_array_l _ _ _ (by kernel_rfl) _ _ (by omega) (by rw [len_arr]; omega), len_arr, size_arr]
  simp only [Result.andThen, slicedAt, Int.toNat_natCast, Nat.mul_one]
  rw [if_neg (by omega), addr_add]
theorem slice_last (g ln : Nat) (h : ln ≤ 32) (h2 : 0 < ln / 2) (w : World) :
    (Instr.sliceAt 54 (.pointer (some ⟨g, 0, none⟩)) (some (.int .i64 ((ln : Int) - (ln : Int) / 2))) (some (.int .i64 (ln : Int))) none).run Try.prog w =
      .ok (.slice (some ⟨g, ln - ln / 2, none⟩) (ln / 2) (32 - (ln - ln / 2))) w := by
  rw [run_sliceAt_array_lh _ _ _ (by kernel_rfl) _ _ _ _ (by omega) (by omega) (by rw [len_arr]; omega), len_arr, size_arr]
  have e1 : ((ln : Int) - (ln : Int) / 2).toNat = ln - ln / 2 := by omega
  simp only [Result.andThen, slicedAt, Int.toNat_natCast, Nat.mul_one, e1]
  rw [if_neg (by omega), addr_add, show ln - (ln - ln / 2) = ln / 2 by omega]
theorem bhalf_core (w : World) (g k ln mn : Nat) (cs cs' : Array Value) (hc : Cel w g 56 cs) (hc' : Cel w k 56 cs') (hgk : g ≠ k) (hf : ln / 2 + mn ≤ 32) (hl : ln ≤ 32) (hpos : 0 < ln / 2)
    (hn : cs[32]? = some (.int .i64 ln)) (hn' : cs'[32]? = some (.int .i64 mn)) (hs : cs.size = 33) (hs' : cs'.size = 33)
    (hlen : Calls Try.prog 16 #[ptr g] w fun e w' => e = .returned (.int .i64 ln) ∧ w = w')
    (xs : List Value) (hxl : xs.length = ln / 2) (hx : ∀ j v, xs[j]? = some v → cs[ln - ln / 2 + j]? = some v) (hx1 : ∀ v ∈ xs, v.oneCell' = true) :
    Calls Try.prog 14 #[ptr g, ptr k] w fun e w' => e = .returned (.int .i64 (ln / 2 : Nat)) ∧ Cel w' g 56 (cs.setIfInBounds 32 (.int .i64 (ln - (ln / 2 : Nat)))) ∧
      Cel w' k 56 ((cs'.toList.take mn ++ (xs ++ cs'.toList.drop (mn + xs.length))).toArray.setIfInBounds 32 (.int .i64 (mn + (ln / 2 : Nat)))) ∧ Upd (fun b => b = g ∨ b = k) w w' := by
  obtain ⟨j, hj, hj0⟩ := Option.map_eq_some_iff.1 info_buf
  have heq := run_eql_ptr_other (P := Try.prog) w (a := ⟨g, 0, none⟩) (b := ⟨k, 0, none⟩) Try.underlying23 hj (by omega) (fun e => hgk (congrArg Addr.block e)) hc hc'
  have c32 : w.cell? ⟨g, 32, none⟩ = some (.int .i64 ln) := (hc.cell 32).trans hn
  have c32' : w.cell? ⟨k, 32, none⟩ = some (.int .i64 mn) := (hc'.cell 32).trans hn'
  have H := Lib.hid (And.intro hc (And.intro hc' (And.intro hn (And.intro hn' (And.intro hs (And.intro hs' (And.intro hxl (And.intro hx hx1))))))))
  have HL := Lib.hid hlen
  clear hx hn hn' hc hc' hj hj0 hs hs' hxl hx1 hlen
  have b1 : (0 : Int) ≤ (mn : Int) := by omega
  have b2 : (mn : Int) < 32 := by omega
  have b3 : (0 : Int) ≤ (ln : Int) - (ln : Int) / 2 := by omega
  have b4 : (ln : Int) - (ln : Int) / 2 < 32 := by omega
  go_enter Try.func14, Try.ntmps14
  go_wp2_with (go_at_call 16; refine HL.out.mono ?_; rintro e w' ⟨rfl, rfl⟩)
  have s1 := slice_from k mn (by omega)
  have s2 := slice_last g ln hl hpos
  refine wp_region_tail 22 (by kernel_rfl) (by kernel_rfl) ?_
  simp only [List.take_succ_cons, List.take_zero, List.drop_succ_cons, List.drop_zero]
  repeat (go_big_quiet_step (fail))
  refine wpQuiet_nil ?_
  show wpList _ _ _ _ _ _
  obtain ⟨hc, hc', hn, hn', hs, hs', hxl, hx, hx1⟩ := H.out
  refine wpList_copy_own rfl (.tmp 36) (.tmp 50) 26 26 rfl 3 Try.underlying26 info_int1 k mn (32 - mn) (32 - mn) ⟨g, ln - ln / 2, none⟩ (ln / 2) (32 - (ln - ln / 2)) rfl rfl
    cs' 56 hc'.drew xs (by rw [hxl]; simp only [Nat.min_def]; split <;> omega) (fun j v hv => by rw [addr_at]; exact (hc.drew.cell _).trans (hx j v hv)) (by omega) hx1 ?_
  have k1 := hc.drew.farRow hgk (cs'.toList.take mn ++ (xs ++ cs'.toList.drop (mn + xs.length))).toArray
  have k2 := hc'.drew.row (cs'.toList.take mn ++ (xs ++ cs'.toList.drop (mn + xs.length))).toArray
  have k3 := (Upd.refl (fun b => b = g ∨ b = k) w).drew.setRow (fun _ => .inr rfl) (g := k) (cs'.toList.take mn ++ (xs ++ cs'.toList.drop (mn + xs.length))).toArray
  generalize w.drew.setRow k (cs'.toList.take mn ++ (xs ++ cs'.toList.drop (mn + xs.length))).toArray = W at k1 k2 k3 ⊢
  have q1 : W.cell? ⟨g, 32, none⟩ = some (.int .i64 ln) := (k1.cell 32).trans hn
  have q2 : W.cell? ⟨k, 32, none⟩ = some (.int .i64 mn) := by
    rw [k2.cell 32, over_at _ _ _ _ (by omega), if_neg (by omega), if_neg (by omega)]
    exact hn'
  have f1 := k1.free 32
  have f2 := k2.free 32
  have K := Lib.hid (And.intro k1 (And.intro k2 k3))
  clear hx hx1 hn hn' hc hc' c32 c32' heq k1 k2 k3 s1 s2 hs hs' hxl
  have w1 : IntKind.i64.wrap ((ln : Int) - (ln : Int) / 2) = (ln : Int) - (ln : Int) / 2 := IntWalk.i64_in _ (by omega)
  have w2 : IntKind.i64.wrap ((mn : Int) + (ln : Int) / 2) = (mn : Int) + (ln : Int) / 2 := IntWalk.i64_in _ (by omega)
  go_wp2
  go_region
  all_goals go_wp2
  all_goals go_ret
  all_goals
    obtain ⟨k1, k2, k3⟩ := K.out
    have e : ((ln / 2 : Nat) : Int) = (ln : Int) / 2 := by omega
    rw [e]
    exact ⟨rfl, ((k1.put 32 _).far (p := ⟨k, 32, none⟩) hgk _).drew, ((k2.far (p := ⟨g, 32, none⟩) (Ne.symm hgk) _).put 32 _).drew, ((k3.sc (fun _ => .inl rfl) _ _).sc (fun _ => .inr rfl) _ _).drew⟩

theorem slice_any (k mn : Nat) (h : mn ≤ 32) : ∃ A : Addr,
    ∀ w, (Instr.sliceAt 54 (.pointer (some ⟨k, 0, none⟩)) (some (.int .i64 (mn : Int))) none none).run Try.prog w = .ok (.slice (some A) (32 - mn) (32 - mn)) w := by
  refine ⟨if 32 = mn then ⟨k, 0, none⟩ else (⟨k, 0, none⟩ : Addr).add mn, fun w => ?_⟩
  rw [run_sliceAt_array_l _ _ _ (by kernel_rfl) _ _ (by omega) (by rw [len_arr]; omega), len_arr, size_arr]
  simp only [Result.andThen, slicedAt, Int.toNat_natCast, Nat.mul_one]
theorem bhalf_none (w : World) (g k mn : Nat) (ln : Int) (cs cs' : Array Value) (hc : Cel w g 56 cs) (hc' : Cel w k 56 cs') (hgk : g ≠ k) (hl : ln = 0 ∨ ln = 1) (hm : mn ≤ 32)
    (hn : cs[32]? = some (.int .i64 ln)) (hn' : cs'[32]? = some (.int .i64 mn))
    (hlen : Calls Try.prog 16 #[ptr g] w fun e w' => e = .returned (.int .i64 ln) ∧ w = w') :
    Calls Try.prog 14 #[ptr g, ptr k] w fun e w' => e = .returned (.int .i64 0) ∧ Cel w' g 56 (cs.setIfInBounds 32 (.int .i64 ln)) ∧
      Cel w' k 56 (cs'.setIfInBounds 32 (.int .i64 mn)) ∧ Upd (fun b => b = g ∨ b = k) w w' := by
  obtain ⟨j, hj, hj0⟩ := Option.map_eq_some_iff.1 info_buf
  have heq := run_eql_ptr_other (P := Try.prog) w (a := ⟨g, 0, none⟩) (b := ⟨k, 0, none⟩) Try.underlying23 hj (by omega) (fun e => hgk (congrArg Addr.block e)) hc hc'
  have c32 : w.cell? ⟨g, 32, none⟩ = some (.int .i64 ln) := (hc.cell 32).trans hn
  have c32' : w.cell? ⟨k, 32, none⟩ = some (.int .i64 mn) := (hc'.cell 32).trans hn'
  obtain ⟨A1, s1⟩ := slice_any k mn hm
  have f1 := hc.free 32
  have f2 := hc'.free 32
  have H := Lib.hid (And.intro hc hc')
  have HL := Lib.hid hlen
  clear hn hn' hc hc' hj hj0 hlen
  have w2 : IntKind.i64.wrap (mn : Int) = (mn : Int) := IntWalk.i64_in _ (by omega)
  have w1 : IntKind.i64.wrap 1 = 1 := by decide
  rcases hl with rfl | rfl
  all_goals
    go_enter Try.func14, Try.ntmps14
    go_wp2_with (go_at_call 16; refine HL.out.mono ?_; rintro e w' ⟨rfl, rfl⟩)
    refine wp_region_tail 22 (by kernel_rfl) (by kernel_rfl) ?_
    simp only [List.take_succ_cons, List.take_zero, List.drop_succ_cons, List.drop_zero]
    repeat (go_big_quiet_step (fail))
    refine wpQuiet_nil ?_
    show wpList _ _ _ _ _ _
    refine wpList_copy_nothing rfl (.tmp 36) (.tmp 50) 26 26 rfl 3 Try.underlying26 info_int1 (some A1) _ (32 - mn) (32 - mn) 0 _ rfl rfl (Nat.min_eq_left (Nat.zero_le _)) ?_
    clear heq s1
    go_wp2
    go_region
    all_goals go_wp2
    all_goals go_ret
    all_goals
      obtain ⟨k1, k2⟩ := H.out
      exact ⟨rfl, ((k1.put 32 _).far (p := ⟨k, 32, none⟩) hgk _).drew.drew, ((k2.far (p := ⟨g, 32, none⟩) (Ne.symm hgk) _).put 32 _).drew.drew, (((Upd.refl (fun b => b = g ∨ b = k) w).sc (fun _ => .inl rfl) _ _).sc (fun _ => .inr rfl) _ _).drew.drew⟩

/-- What goes over: the last half. -/
theorem bhalf_any (w : World) (g k : Nat) (l m : List Int) (h : BufAt w g l) (h' : BufAt w k m) (hgk : g ≠ k) (hf : l.length / 2 + m.length ≤ 32) :
    Calls Try.prog 14 #[ptr g, ptr k] w fun e w' => e = .returned (.int .i64 (l.length / 2 : Nat)) ∧ BufAt w' g (l.take (l.length - l.length / 2)) ∧ BufAt w' k (m ++ l.drop (l.length - l.length / 2)) ∧ Upd (fun b => b = g ∨ b = k) w w' := by
  have hlen := blen_any w g _ h
  obtain ⟨cs, hc, hs, hl, hn, hx⟩ := h
  obtain ⟨cs', hc', hs', hl', hn', hx'⟩ := h'
  by_cases h0 : 0 < l.length / 2
  · obtain ⟨xs, hxs⟩ : ∃ xs, xs = (l.drop (l.length - l.length / 2)).map (Value.int .i64) := ⟨_, rfl⟩
    have hxl : xs.length = l.length / 2 := by rw [hxs]; simp; omega
    refine (bhalf_core w g k l.length m.length cs cs' hc hc' hgk hf hl h0 hn hn' hs hs' hlen xs hxl ?_ ?_).mono fun e w' ⟨he, k1, k2, k3⟩ => ⟨he, ?_, ?_, k3⟩
    · intro j v hv
      have hj : j < xs.length := (List.getElem?_eq_some_iff.1 hv).1
      rw [hxs, List.getElem?_map, List.getElem?_drop] at hv
      rw [hx _ (by omega), List.getD_eq_getElem?_getD]
      rw [List.getElem?_eq_getElem (by omega)] at hv ⊢
      simpa using hv
    · intro v hv
      rw [hxs] at hv
      obtain ⟨z, _, rfl⟩ := List.mem_map.1 hv
      rfl
    · refine ⟨_, k1, by simpa using hs, by simp; omega, ?_, fun i hi => ?_⟩
      · rw [Array.getElem?_setIfInBounds_self_of_lt (by omega)]
        simp; omega
      · simp only [List.length_take] at hi
        rw [Array.getElem?_setIfInBounds_ne (by omega), hx i (by omega), List.getD_eq_getElem?_getD, List.getD_eq_getElem?_getD, List.getElem?_take, if_pos (by omega)]
    · refine ⟨_, k2, by simp; omega, by simp; omega, ?_, fun i hi => ?_⟩
      · rw [Array.getElem?_setIfInBounds_self_of_lt (by simp; omega)]
        simp; omega
      · simp only [List.length_append, List.length_drop] at hi
        rw [Array.getElem?_setIfInBounds_ne (by omega), over_at _ _ _ _ (by omega)]
        by_cases c1 : i < m.length
        · rw [if_pos c1, hx' i c1, List.getD_eq_getElem?_getD, List.getD_eq_getElem?_getD, List.getElem?_append_left c1]
        · rw [if_neg c1, if_pos (by omega), hxs, List.getElem?_map, List.getD_eq_getElem?_getD, List.getElem?_append_right (by omega)]
          rw [List.getElem?_eq_getElem (by simp; omega)]
          simp
  · have hl2 : l.length / 2 = 0 := by omega
    have hll : l.length = 0 ∨ l.length = 1 := by omega
    refine (bhalf_none w g k m.length l.length cs cs' hc hc' hgk (by omega) hl' hn hn' hlen).mono fun e w' ⟨he, k1, k2, k3⟩ => ⟨by rw [he, hl2]; rfl, ?_, ?_, k3⟩
    · rw [hl2, Nat.sub_zero, List.take_length]
      refine ⟨_, k1, by simpa using hs, hl, ?_, fun i hi => ?_⟩
      · rw [Array.getElem?_setIfInBounds_self_of_lt (by omega)]
      · rw [Array.getElem?_setIfInBounds_ne (by omega)]
        exact hx i hi
    · rw [hl2, Nat.sub_zero, List.drop_length, List.append_nil]
      refine ⟨_, k2, by simpa using hs', hl', ?_, fun i hi => ?_⟩
      · rw [Array.getElem?_setIfInBounds_self_of_lt (by omega)]
      · rw [Array.getElem?_setIfInBounds_ne (by omega)]
        exact hx' i hi
end Go.Proofs.Ytbcleeifkmjlmaa
