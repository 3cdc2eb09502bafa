/-
  The reference's span, over plain lists of truth values: its form in memory, and a contract for each of its functions.
-/
import Derived.Test.YtpbghoddemffhaaDoorSpCP
namespace Go.Proofs.YtpbghoddemffhaaDoor
open Go.RowKit
set_option maxRecDepth 100000
set_option maxHeartbeats 2000000

/-- The reference's span at g: its list of used places at r, of marked ones at s. -/
def RSp (w : World) (g r s n : Nat) (first k fr : Int) (U M : Nat → Bool) : Prop :=
  ∃ c1 c2 cs1 cs2, Cel w g 37 #[.int .i64 first, .int .i64 k, .slice (some ⟨r, 0, none⟩) n c1, .slice (some ⟨s, 0, none⟩) n c2, .int .i64 fr] ∧ Cel w r 4 cs1 ∧ Cel w s 4 cs2 ∧
    (∀ i, i < n → cs1[i]? = some (.bool (U i))) ∧ (∀ i, i < n → cs2[i]? = some (.bool (M i))) ∧ r ≠ s
def setB (M : Nat → Bool) (i : Nat) (b : Bool) : Nat → Bool := fun t => if t = i then b else M t
section
variable {w w' : World} {g r s n : Nat} {first k fr : Int} {U M U' M' : Nat → Bool}
theorem RSp.congr (h : RSp w g r s n first k fr U M) (hU : ∀ i, i < n → U i = U' i) (hM : ∀ i, i < n → M i = M' i) : RSp w g r s n first k fr U' M' := by
  obtain ⟨c1, c2, cs1, cs2, a1, a2, a3, a4, a5, a6⟩ := h
  exact ⟨c1, c2, cs1, cs2, a1, a2, a3, fun i hi => by rw [← hU i hi]; exact a4 i hi, fun i hi => by rw [← hM i hi]; exact a5 i hi, a6⟩
theorem RSp.upd {F : Nat → Prop} (h : RSp w g r s n first k fr U M) (hu : Upd F w w') (h1 : ¬ F g) (h2 : ¬ F r) (h3 : ¬ F s) : RSp w' g r s n first k fr U M := by
  obtain ⟨c1, c2, cs1, cs2, a1, a2, a3, a4⟩ := h
  exact ⟨c1, c2, cs1, cs2, hu.cel a1 h1, hu.cel a2 h2, hu.cel a3 h3, a4⟩
theorem RSp.below (h : RSp w g r s n first k fr U M) (hb : Below w.heap.size w w') : RSp w' g r s n first k fr U M := h.upd (F := fun _ => False) (Upd.ofBelow hb) (fun h => h) (fun h => h) (fun h => h)
theorem RSp.putU (h : RSp w g r s n first k fr U M) (i : Nat) (b : Bool) : RSp (w.setCell ⟨r, i, none⟩ (.bool b)) g r s n first k fr (setB U i b) M := by
  obtain ⟨c1, c2, cs1, cs2, a1, a2, a3, a4, a5, a6⟩ := h
  refine ⟨c1, c2, _, cs2, a1.far (p := ⟨r, i, none⟩) (a1.ne a2 (by decide)) _, a2.put i _, a3.far (p := ⟨r, i, none⟩) a6.symm _, fun j hj => ?_, a5, a6⟩
  have hj4 := a4 j hj
  unfold setB
  rw [Array.getElem?_setIfInBounds]
  have hlt : j < cs1.size := (Array.getElem?_eq_some_iff.1 hj4).1
  by_cases e : i = j
  · subst e; rw [if_pos rfl, if_pos hlt, if_pos rfl]
  · rw [if_neg e, if_neg (fun e' => e e'.symm)]; exact hj4
theorem RSp.putM (h : RSp w g r s n first k fr U M) (i : Nat) (b : Bool) : RSp (w.setCell ⟨s, i, none⟩ (.bool b)) g r s n first k fr U (setB M i b) := by
  obtain ⟨c1, c2, cs1, cs2, a1, a2, a3, a4, a5, a6⟩ := h
  refine ⟨c1, c2, cs1, _, a1.far (p := ⟨s, i, none⟩) (a1.ne a3 (by decide)) _, a2.far (p := ⟨s, i, none⟩) a6 _, a3.put i _, a4, fun j hj => ?_, a6⟩
  have hj4 := a5 j hj
  unfold setB
  rw [Array.getElem?_setIfInBounds]
  have hlt : j < cs2.size := (Array.getElem?_eq_some_iff.1 hj4).1
  by_cases e : i = j
  · subst e; rw [if_pos rfl, if_pos hlt, if_pos rfl]
  · rw [if_neg e, if_neg (fun e' => e e'.symm)]; exact hj4
theorem RSp.putF (h : RSp w g r s n first k fr U M) (x : Int) : RSp (w.setCell ⟨g, 4, none⟩ (.int .i64 x)) g r s n first k x U M := by
  obtain ⟨c1, c2, cs1, cs2, a1, a2, a3, a4, a5, a6⟩ := h
  exact ⟨c1, c2, cs1, cs2, a1.put 4 _, a2.far (p := ⟨g, 4, none⟩) (a1.ne a2 (by decide)).symm _, a3.far (p := ⟨g, 4, none⟩) (a1.ne a3 (by decide)).symm _, a4, a5, a6⟩
/-- What a walk asks of it. -/
theorem RSp.cells (h : RSp w g r s n first k fr U M) : ∃ c1 c2, w.cell? ⟨g, 0, none⟩ = some (.int .i64 first) ∧ w.cell? ⟨g, 1, none⟩ = some (.int .i64 k) ∧ w.cell? ⟨g, 2, none⟩ = some (.slice (some ⟨r, 0, none⟩) n c1) ∧ w.cell? ⟨g, 3, none⟩ = some (.slice (some ⟨s, 0, none⟩) n c2) ∧ w.cell? ⟨g, 4, none⟩ = some (.int .i64 fr) ∧
    (∀ i, i < n → w.cell? ⟨r, i, none⟩ = some (.bool (U i))) ∧ (∀ i, i < n → w.cell? ⟨s, i, none⟩ = some (.bool (M i))) ∧ (∀ i, w.frozen? ⟨g, i, none⟩ = false) ∧ (∀ i, w.frozen? ⟨r, i, none⟩ = false) ∧ ∀ i, w.frozen? ⟨s, i, none⟩ = false := by
  obtain ⟨c1, c2, cs1, cs2, a1, a2, a3, a4, a5, a6⟩ := h
  exact ⟨c1, c2, a1.cell 0, a1.cell 1, a1.cell 2, a1.cell 3, a1.cell 4, fun i hi => (a2.cell i).trans (a4 i hi), fun i hi => (a3.cell i).trans (a5 i hi), a1.free, a2.free, a3.free⟩
end

theorem rs_new_not (w : World) (first k : Int) (h : (k < 0 ∨ 15 < k) ∨ first < 1 ∨ 262144 < first) :
    Calls Tryd.prog 20 #[.int .i64 first, .int .i64 k] w fun e w' => e = .returned (.pointer none) ∧ Below w.heap.size w w' := by
  by_cases hk : k < 0 ∨ 15 < k
  · have E := Lib.hid (show slN k = 0 from atL_out _ _ hk)
    clear h hk
    go_enter Tryd.func20, Tryd.ntmps20
    go_wp2_with (go_at_call 54; refine (rslots_any _ _).mono ?_; rintro e w1 ⟨rfl, hb⟩; rw [E.out])
    go_ret
    exact ⟨rfl, hb⟩
  · obtain ⟨q, rfl⟩ := Int.eq_ofNat_of_zero_le (show 0 ≤ k by omega)
    have hz : 1 ≤ slN q := by unfold slN; rw [atL_nat _ _ (by omega)]; exact (sl_bd q (by omega)).1
    have hf : first < 1 ∨ (¬ first < 1 ∧ 262144 < first) := by omega
    have hsz := fun w => rslots_any (q : Int) w
    clear h hk
    generalize slN q = z at hz hsz
    have hz0 : (z == 0) = false := by simp; omega
    have hz1 : ¬ z = 0 := by omega
    rcases hf with hf | ⟨hf, hf2⟩
    all_goals
      go_enter Tryd.func20, Tryd.ntmps20
      go_wp2_with (go_at_call 54; refine (hsz _).mono ?_; rintro e w1 ⟨rfl, hb⟩)
      go_ret
      exact ⟨rfl, hb⟩

theorem rs_live (w : World) (g r s n : Nat) (first k fr : Int) (U M : Nat → Bool) (h : RSp w g r s n first k fr U M) (hn : n ≤ 64) :
    Calls Tryd.prog 33 #[ptr g] w fun e w' => e = .returned (.int .i64 (cnt U n)) ∧ w = w' := by
  obtain ⟨c1, c2, _, _, q2, _, _, hU, _⟩ := h.cells
  have HU := Lib.hid hU
  unfold ptr
  clear hU h
  go_enter Tryd.func33, Tryd.ntmps33
  go_wp2
  go_loopg [3, 4] n (fun q s3 s4 ws => ws = w ∧ ∃ i c : Nat, s4 = .int .i64 i ∧ s3 = .int .i64 c ∧ c ≤ i ∧ i ≤ n ∧ n - i ≤ q ∧ Hid (c = cnt U i))
  case atStart => exact ⟨rfl, 0, 0, rfl, rfl, by omega, by omega, by omega, rfl⟩
  case round =>
    obtain ⟨rfl, i, c, rfl, rfl, hci, hi, hq, hc⟩ := hrel
    by_cases hlt : i < n
    · have c3 := HU.out i hlt
      have HS := Lib.hid (show cnt U (i + 1) = cnt U i + (if U i then 1 else 0) from rfl)
      cases hUi : U i with
      | true =>
        rw [hUi] at c3
        have HUi := Lib.hid hUi
        clear hUi
        go_wp2
        go_roundg (n - (i + 1))
        case measure => omega
        case rel => exact ⟨rfl, i + 1, c + 1, by go_num, by go_num, by omega, by omega, Nat.le_refl _, by show c + 1 = cnt U (i + 1); rw [HS.out, HUi.out, ← hc.out]; rfl⟩
      | false =>
        rw [hUi] at c3
        have HUi := Lib.hid hUi
        clear hUi
        go_wp2
        go_roundg (n - (i + 1))
        case measure => omega
        case rel => exact ⟨rfl, i + 1, c, by go_num, rfl, by omega, by omega, Nat.le_refl _, by show c = cnt U (i + 1); rw [HS.out, HUi.out, ← hc.out]; rfl⟩
    · obtain rfl : i = n := by omega
      go_wp2
      go_ret
      exact ⟨by rw [← hc.out]; rfl, rfl⟩
theorem rs_full (w : World) (g r s n fr : Nat) (first k : Int) (U M : Nat → Bool) (h : RSp w g r s n first k fr U M) (hn : n ≤ 64) (hf : fr ≤ n) :
    Calls Tryd.prog 35 #[ptr g] w fun e w' => e = .returned (.bool (decide (nextM U n false fr < 0))) ∧ w = w' := by
  obtain ⟨c1, c2, _, _, q2, _, q4, hU, _⟩ := h.cells
  have HU := Lib.hid hU
  unfold ptr
  clear hU h
  go_enter Tryd.func35, Tryd.ntmps35
  go_wp2
  go_loopg [3] n (fun q s3 ws => ws = w ∧ ∃ i : Nat, s3 = .int .i64 i ∧ fr ≤ i ∧ i ≤ n ∧ n - i ≤ q ∧ Hid (∀ t, fr ≤ t → t < i → U t ≠ false))
  case atStart => exact ⟨rfl, fr, rfl, Nat.le_refl _, hf, by omega, fun t h1 h2 => by omega⟩
  case round =>
    obtain ⟨rfl, i, rfl, hfi, hi, hq, hno⟩ := hrel
    by_cases hlt : i < n
    · have c3 := HU.out i hlt
      cases hUi : U i with
      | true =>
        rw [hUi] at c3
        have HUi := Lib.hid hUi
        clear hUi
        go_wp2
        go_roundg (n - (i + 1))
        case measure => omega
        case rel =>
          refine ⟨rfl, i + 1, by go_num, by omega, by omega, Nat.le_refl _, fun t h1 h2 => ?_⟩
          by_cases e : t = i
          · rw [e, HUi.out]; simp
          · exact hno.out t h1 (by omega)
      | false =>
        rw [hUi] at c3
        have hd := Lib.hid (show decide (nextM U n false fr < 0) = false by rw [nextM_some hfi hlt hUi hno.out]; simp)
        clear hUi
        go_wp2
        go_ret
        exact ⟨by rw [hd.out]; rfl, rfl⟩
    · have hd := Lib.hid (show decide (nextM U n false fr < 0) = true by rw [nextM_none (fun t a b => hno.out t a (by omega))]; rfl)
      have hlt' : ¬ (i : Int) < (n : Int) := by omega
      go_wp2
      go_ret
      exact ⟨by rw [hd.out]; rfl, rfl⟩

theorem info_bool : (Tryd.prog.info? 4).map (fun i => (i.zero, i.size, i.bytes)) = some (some (.bool false), 1, 1) := by kernel_rfl
theorem wp_make_bools {w : World} {o : Oper} {a : Act} {K : Act → World → Prop} {Q : Exit → Act → World → Prop} (l c : Operand) (hop : o.op = Op.makeSlice 35 l c) (n : Nat) (hl : a.eval l = .int .i64 n) (hc : a.eval c = .int .i64 n) (hn : n ≤ 64)
    (h : ∀ w' cs, Cel w' w.heap.size 4 cs → (∀ i, i < n → cs[i]? = some (.bool false)) → Below w.heap.size w w' → w.heap.size < w'.heap.size → K (a.put o.dst (.slice (some ⟨w.heap.size, 0, none⟩) n n)) w') : o.wp Tryd.prog a w K Q := by
  obtain ⟨i0, hi, hz0, hz1, hz2⟩ := info_parts info_bool
  obtain ⟨w', hrun, hown, hg⟩ := run_make_full (P := Tryd.prog) w w.heap.size 35 4 i0 (.bool false) 1 Tryd.underlying35 hi hz0 hz1 .i64 .i64 n (by rw [hz2]; omega) (by simp only [maxLen]; omega) (Nat.le_refl _)
  unfold Oper.wp
  simp [execOp, hop, hl, hc, hrun, Result.andThen]
  rcases hown.2 with ⟨e, h0⟩ | ⟨g, cap, cur, e, hB, hgk, hcn, hcm, hcs, ht⟩
  · cases e
  injection e with e1 e2 e3
  injection e1 with e1
  injection e1 with e1
  subst e1
  have hc : Cel w' w.heap.size 4 cur := hgk
  refine h w' cur hc (fun j hj => ?_) ((Below.refl _ _).grown hg (Nat.le_refl _) (fun k h => by cases h)) hc.lt
  have h1 : (cur.toList.take (n * 1))[j]? = some (.bool false) := by
    rw [ht, show (Value.bool false).cells = #[.bool false] from rfl, toList_madeCells_one, List.getElem?_replicate, if_pos (by omega)]
  rw [List.getElem?_take, if_pos (by omega)] at h1
  simpa using h1
/-- What a new one is. -/
def NewRS (B n : Nat) (first k : Int) (e : Ending) (w' : World) : Prop :=
  ∃ g r s, e = .returned (ptr g) ∧ RSp w' g r s n first k 0 (fun _ => false) (fun _ => false) ∧ B ≤ g ∧ B ≤ r ∧ B ≤ s
theorem rs_new (w : World) (first : Int) (k n : Nat) (hk : k < 16) (hf1 : 1 ≤ first) (hf2 : first ≤ 262144) (hn' : slN (k : Int) = (n : Int)) :
    Calls Tryd.prog 20 #[.int .i64 first, .int .i64 (k : Int)] w fun e w' => NewRS w.heap.size n first k e w' ∧ Below w.heap.size w w' := by
  have hn1 : 1 ≤ n ∧ n ≤ 64 := by
    have := sl_bd k hk
    unfold slN at hn'; rw [atL_nat _ _ hk] at hn'; omega
  obtain ⟨hn1, hn⟩ := hn1
  have i1 : ¬ first < 1 := by omega
  have i2 : ¬ 262144 < first := by omega
  have HN := Lib.hid hn'
  clear hn'
  have n0 : ((n : Int) == 0) = false := by simp; omega
  have n1 : ¬ (n : Int) = 0 := by omega
  go_enter Tryd.func20, Tryd.ntmps20
  go_wp2_with fail
  refine (rslots_any _ _).mono ?_
  rintro e w0 ⟨rfl, hb0⟩
  rw [HN.out]
  go_upto_region 4 with fail
  have hne : Nonempty (Kept (fun _ => True)) := ⟨⟨w0, trivial⟩⟩
  refine wp_region_fork [0, 1, 2, 4] [] 5 (fun _ => True) (by kernel_rfl) (by kernel_rfl) (fun _ _ _ _ _ h => h) trivial ?_
  show wpQuiet _ _ _ _ (List.filterMap _ _) _
  simp only [List.filterMap_cons, List.filterMap_nil, List.getElem?_toArray, List.getElem?_cons_zero, List.getElem?_cons_succ]
  show wpQuiet _ _ _ _ [_, _, _, _] _
  repeat (go_big_quiet_step (fail))
  refine wpQuiet_nil ?_
  have hb0 : Below w.heap.size w w0.drew := hb0.drew
  generalize w0.drew = w0 at hb0 ⊢
  refine till_two (i := 3) (k := 5) (by kernel_rfl) ?_ ?_
  · refine then_op (o := ⟨_, _, _, _, _, _⟩) rfl rfl fun K hK => ?_
    refine wp_make_bools (.tmp 20) (.tmp 20) rfl n rfl rfl hn ?_
    intro w1 cs1 hc1 hx1 hb1 hlt1
    refine hK _ _ (fun _ => trivial) ?_
    clear hK K
    refine till_one (i := 5) (by kernel_rfl) ?_
    refine then_op (o := ⟨_, _, _, _, _, _⟩) rfl rfl fun K hK => ?_
    refine wp_make_bools (.tmp 22) (.tmp 22) rfl n rfl rfl hn ?_
    intro w2 cs2 hc2 hx2 hb2 hlt2
    have hc1' := hc1.ofBelow hb2
    have hB2 := bx (bx hb0 hb1) hb2
    have hz0 : w.heap.size ≤ w0.heap.size := hb0.size
    refine hK _ _ (fun _ => trivial) ?_
    clear hK K hc1 hb1 hb2
    refine till_one (i := 6) (by kernel_rfl) ?_
    refine then_op (o := ⟨_, _, _, _, _, _⟩) rfl rfl fun K hK => ?_
    go_simp
    refine hK _ _ (fun _ => trivial) ?_
    clear hK K
    refine till_one (i := 7) (by kernel_rfl) ?_
    refine then_op (o := ⟨_, _, _, _, _, _⟩) rfl rfl fun K hK => ?_
    go_simp
    refine hK _ _ (fun _ => trivial) ?_
    clear hK K
    refine till_one (i := 8) (by kernel_rfl) ?_
    refine then_op (o := ⟨_, _, _, _, _, _⟩) rfl rfl fun K hK => ?_
    go_simp
    refine hK _ _ (fun _ => trivial) ?_
    clear hK K
    refine till_end (by kernel_rfl) ?_
    have HF := Lib.hid (And.intro hc1' (And.intro hc2 (And.intro hx1 (And.intro hx2 (And.intro hB2 (And.intro hlt1 (And.intro hlt2 hz0)))))))
    clear hc1' hc2 hx1 hx2 hB2 hlt1 hlt2 hz0
    go_wp2
    go_ret
    obtain ⟨hc1, hc2, hx1, hx2, hB2, hlt1, hlt2, hz0⟩ := HF.out
    refine ⟨⟨w2.heap.size, _, _, rfl, ⟨n, n, _, _, Cel.born _ _ _, hc1.alloc _, hc2.alloc _, hx1, hx2, ?_⟩, Nat.le_trans hB2.size (Nat.le_refl _), by omega, by omega⟩, hB2.alloc hB2.size _⟩
    omega
  · refine then_op (o := ⟨_, _, _, _, _, _⟩) rfl rfl fun K hK => ?_
    refine wp_make_bools (.tmp 22) (.tmp 22) rfl n rfl rfl hn ?_
    intro w1 cs1 hc1 hx1 hb1 hlt1
    refine hK _ _ (fun _ => trivial) ?_
    clear hK K
    refine till_one (i := 3) (by kernel_rfl) ?_
    refine then_op (o := ⟨_, _, _, _, _, _⟩) rfl rfl fun K hK => ?_
    refine wp_make_bools (.tmp 20) (.tmp 20) rfl n rfl rfl hn ?_
    intro w2 cs2 hc2 hx2 hb2 hlt2
    have hc1' := hc1.ofBelow hb2
    have hB2 := bx (bx hb0 hb1) hb2
    have hz0 : w.heap.size ≤ w0.heap.size := hb0.size
    refine hK _ _ (fun _ => trivial) ?_
    clear hK K hc1 hb1 hb2
    refine till_one (i := 6) (by kernel_rfl) ?_
    refine then_op (o := ⟨_, _, _, _, _, _⟩) rfl rfl fun K hK => ?_
    go_simp
    refine hK _ _ (fun _ => trivial) ?_
    clear hK K
    refine till_one (i := 7) (by kernel_rfl) ?_
    refine then_op (o := ⟨_, _, _, _, _, _⟩) rfl rfl fun K hK => ?_
    go_simp
    refine hK _ _ (fun _ => trivial) ?_
    clear hK K
    refine till_one (i := 8) (by kernel_rfl) ?_
    refine then_op (o := ⟨_, _, _, _, _, _⟩) rfl rfl fun K hK => ?_
    go_simp
    refine hK _ _ (fun _ => trivial) ?_
    clear hK K
    refine till_end (by kernel_rfl) ?_
    have HF := Lib.hid (And.intro hc1' (And.intro hc2 (And.intro hx1 (And.intro hx2 (And.intro hB2 (And.intro hlt1 (And.intro hlt2 hz0)))))))
    clear hc1' hc2 hx1 hx2 hB2 hlt1 hlt2 hz0
    go_wp2
    go_ret
    obtain ⟨hc1, hc2, hx1, hx2, hB2, hlt1, hlt2, hz0⟩ := HF.out
    refine ⟨⟨w2.heap.size, _, _, rfl, ⟨n, n, _, _, Cel.born _ _ _, hc2.alloc _, hc1.alloc _, hx2, hx1, ?_⟩, Nat.le_trans hB2.size (Nat.le_refl _), by omega, by omega⟩, hB2.alloc hB2.size _⟩
    omega

theorem rs_alloc (w : World) (g r s n fr : Nat) (first k : Int) (U M : Nat → Bool) (h : RSp w g r s n first k fr U M) (hn : n ≤ 64) (b : Bool) (j : Nat) (hfj : fr ≤ j) (hjn : j < n) (hUj : U j = false) (hno : ∀ t, fr ≤ t → t < j → U t = true) :
    Calls Tryd.prog 24 #[ptr g, .bool b] w fun e w' => e = .returned (.tuple #[.int .i64 j, .bool true]) ∧ RSp w' g r s n first k j (setB U j true) (setB M j b) ∧ Upd (fun x => x = g ∨ x = r ∨ x = s) w w' := by
  obtain ⟨c1, c2, _, _, q2, _, q4, hU, _⟩ := h.cells
  have HU := Lib.hid (And.intro hU (And.intro hUj hno))
  have H := Lib.hid h
  unfold ptr
  clear hU h hUj hno
  go_enter Tryd.func24, Tryd.ntmps24
  go_wp2
  go_loopg [6] (j - fr) (fun q s6 ws => ws = w ∧ ∃ i : Nat, s6 = .int .i64 i ∧ fr ≤ i ∧ i ≤ j ∧ j - i ≤ q)
  case atStart => exact ⟨rfl, fr, rfl, Nat.le_refl _, hfj, Nat.le_refl _⟩
  case round =>
    obtain ⟨rfl, i, rfl, hfi, hi, hq⟩ := hrel
    have c3 := HU.out.1 i (by omega)
    by_cases hlt : i < j
    · rw [HU.out.2.2 i hfi hlt] at c3
      have i1 : (i : Int) < (n : Int) := by omega
      go_wp2
      go_roundg (j - (i + 1))
      case measure => omega
      case rel => exact ⟨rfl, i + 1, by go_num, by omega, by omega, Nat.le_refl _⟩
    · obtain rfl : i = j := by omega
      rw [HU.out.2.1] at c3
      have i1 : (i : Int) < (n : Int) := by omega
      go_upto_region 5 with fail
      have f0 := H.out
      have f1 := f0.putU i true
      have f2 := f1.putM i b
      have f3 := f2.putF (i : Int)
      have hu : Upd (fun x => x = g ∨ x = r ∨ x = s) wr (((wr.setCell ⟨r, i, none⟩ (.bool true)).setCell ⟨s, i, none⟩ (.bool b)).setCell ⟨g, 4, none⟩ (.int .i64 i)) :=
        (((Upd.refl _ wr).sc (g := r) (fun _ => .inr (.inl rfl)) _ _).sc (g := s) (fun _ => .inr (.inr rfl)) _ _).sc (g := g) (fun _ => .inl rfl) _ _
      obtain ⟨_, _, _, _, _, _, _, x2, x3, x4, x5, x6⟩ := f0.cells
      obtain ⟨a1, a2, _, _, _, y1, _, y2, y3, y4, y5, y6⟩ := f1.cells
      obtain ⟨_, _, _, _, _, _, z1, z2, z3, z4, z5, z6⟩ := f2.cells
      have e1 := x5 i
      have e2 := y3 i hjn
      have e3 := y6 i
      have e4 := z4 4
      have HF := Lib.hid (And.intro f3 hu)
      clear f0 f1 f2 f3 hu x2 x3 x4 x5 x6 y2 y3 y4 y5 y6 z2 z3 z4 z5 z6
      go_wp2
      go_ret2
      exact ⟨rfl, HF.out.1, HF.out.2⟩
theorem rs_alloc_full (w : World) (g r s n fr : Nat) (first k : Int) (U M : Nat → Bool) (h : RSp w g r s n first k fr U M) (hn : n ≤ 64) (hf : fr ≤ n) (b : Bool) (hno : ∀ t, fr ≤ t → t < n → U t = true) :
    Calls Tryd.prog 24 #[ptr g, .bool b] w fun e w' => e = .returned (.tuple #[.int .i64 0, .bool false]) ∧ RSp w' g r s n first k n U M ∧ Upd (fun x => x = g ∨ x = r ∨ x = s) w w' := by
  obtain ⟨c1, c2, _, _, q2, _, q4, hU, _, hz, _⟩ := h.cells
  have HU := Lib.hid (And.intro hU hno)
  have e4 := hz 4
  have H := Lib.hid h
  unfold ptr
  clear hU h hno hz
  go_enter Tryd.func24, Tryd.ntmps24
  go_wp2
  go_loopg [6] (n - fr) (fun q s6 ws => ws = w ∧ ∃ i : Nat, s6 = .int .i64 i ∧ fr ≤ i ∧ i ≤ n ∧ n - i ≤ q)
  case atStart => exact ⟨rfl, fr, rfl, Nat.le_refl _, hf, Nat.le_refl _⟩
  case round =>
    obtain ⟨rfl, i, rfl, hfi, hi, hq⟩ := hrel
    by_cases hlt : i < n
    · have c3 := HU.out.1 i (by omega)
      rw [HU.out.2 i hfi hlt] at c3
      have i1 : (i : Int) < (n : Int) := by omega
      go_wp2
      go_roundg (n - (i + 1))
      case measure => omega
      case rel => exact ⟨rfl, i + 1, by go_num, by omega, by omega, Nat.le_refl _⟩
    · have i1 : ¬ (i : Int) < (n : Int) := by omega
      go_wp2
      go_ret2
      exact ⟨rfl, H.out.putF (n : Int), (Upd.refl _ wr).sc (g := g) (fun _ => .inl rfl) _ _⟩

theorem rs_set_out (w : World) (g r s n fr : Nat) (first k : Int) (U M : Nat → Bool) (h : RSp w g r s n first k fr U M) (x : Int) (hx : inB n x = false) :
    Calls Tryd.prog 26 #[ptr g, .int .i64 x] w fun e w' => e = .returned (.bool false) ∧ w = w' := by
  obtain ⟨c1, c2, _, _, q2, _⟩ := h.cells
  have hx' := of_decide_eq_false hx
  unfold ptr
  clear h hx
  by_cases h0 : x < 0
  · go_enter Tryd.func26, Tryd.ntmps26
    go_wp2
    go_ret
    exact ⟨rfl, rfl⟩
  · have h1 : (n : Int) ≤ x := by omega
    clear hx'
    go_enter Tryd.func26, Tryd.ntmps26
    go_wp2
    go_ret
    exact ⟨rfl, rfl⟩
theorem rs_set (w : World) (g r s n fr : Nat) (first k : Int) (U M : Nat → Bool) (h : RSp w g r s n first k fr U M) (i : Nat) (hi : i < n) :
    Calls Tryd.prog 26 #[ptr g, .int .i64 i] w fun e w' => e = .returned (.bool (U i && !M i)) ∧ RSp w' g r s n first k fr U (if U i then putM M i else M) ∧ Upd (fun x => x = g ∨ x = r ∨ x = s) w w' := by
  obtain ⟨c1, c2, _, _, q2, q3, _, hU, hM, _, _, hz⟩ := h.cells
  have d1 := hU i hi
  have d2 := hM i hi
  have e1 := hz i
  have h2 := h.putM i true
  have hu : Upd (fun x => x = g ∨ x = r ∨ x = s) w (w.setCell ⟨s, i, none⟩ (.bool true)) := (Upd.refl _ w).sc (g := s) (fun _ => .inr (.inr rfl)) _ _
  have HI := Lib.hid (And.intro h (And.intro h2 hu))
  have i0 : ¬ (i : Int) < 0 := by omega
  have i1 : ¬ (n : Int) ≤ (i : Int) := by omega
  have hput : setB M i true = putM M i := rfl
  unfold ptr
  clear h hU hM hz h2 hu
  cases hUi : U i with
  | false =>
    rw [hUi] at d1
    clear hUi
    go_enter Tryd.func26, Tryd.ntmps26
    go_wp2
    go_ret
    exact ⟨rfl, HI.out.1, Upd.refl _ _⟩
  | true =>
    rw [hUi] at d1
    clear hUi
    cases hMi : M i with
    | true =>
      have HP := Lib.hid (put_same hMi)
      rw [hMi] at d2
      clear hMi
      go_enter Tryd.func26, Tryd.ntmps26
      go_wp2
      go_ret
      exact ⟨rfl, by rw [HP.out]; exact HI.out.1, Upd.refl _ _⟩
    | false =>
      rw [hMi] at d2
      have HP := Lib.hid hput
      clear hMi hput
      go_enter Tryd.func26, Tryd.ntmps26
      go_wp2
      go_ret
      exact ⟨rfl, by rw [← HP.out]; exact HI.out.2.1, HI.out.2.2⟩

def swU (U M : Nat → Bool) (i : Nat) : Nat → Bool := fun t => if t < i then U t && M t else U t
def swM (M : Nat → Bool) (i : Nat) : Nat → Bool := fun t => if t < i then false else M t
theorem swU_gone {U M : Nat → Bool} {i : Nat} (hM : M i = false) : setB (swU U M i) i false = swU U M (i + 1) := by
  funext t; unfold setB swU
  by_cases e : t = i
  · subst e; rw [if_pos rfl, if_pos (by omega), hM]; simp
  · rw [if_neg e]
    by_cases h : t < i
    · rw [if_pos h, if_pos (by omega)]
    · rw [if_neg h, if_neg (by omega)]
theorem swU_stay {U M : Nat → Bool} {i : Nat} (h : (U i && M i) = U i) : swU U M i = swU U M (i + 1) := by
  funext t; unfold swU
  by_cases e : t = i
  · subst e; rw [if_neg (by omega), if_pos (by omega), h]
  · by_cases h : t < i
    · rw [if_pos h, if_pos (by omega)]
    · rw [if_neg h, if_neg (by omega)]
theorem swM_next {M : Nat → Bool} {i : Nat} : setB (swM M i) i false = swM M (i + 1) := by
  funext t; unfold setB swM
  by_cases e : t = i
  · subst e; rw [if_pos rfl, if_pos (by omega)]
  · rw [if_neg e]
    by_cases h : t < i
    · rw [if_pos h, if_pos (by omega)]
    · rw [if_neg h, if_neg (by omega)]
section
variable {w w' : World} {g r s n B : Nat} {first k fr : Int} {U M : Nat → Bool} {v : Value} {l : List Int}
theorem RSp.own (h : RSp w g r s n first k fr U M) (hO : Own w B v l) (hu : Upd (fun x => x = g ∨ x = r ∨ x = s) w w') : Own w' B v l := by
  obtain ⟨c1, c2, cs1, cs2, a1, a2, a3, _⟩ := h
  refine hO.upd hu (fun q hq e => ?_)
  rcases e with e | e | e
  · exact hO.typed a1 (by decide) q hq e
  · exact hO.typed a2 (by decide) q hq e
  · exact hO.typed a3 (by decide) q hq e
theorem RSp.append (h : RSp w g r s n first k fr U M) (hO : Own w B v l) (o : Obj) (hg : (w.alloc o).grownBy w' v.ownBlock) : RSp w' g r s n first k fr U M := by
  have hu : Upd (fun b => v.ownBlock = some b) w w' := ((Upd.refl _ w).alloc o).grown hg (fun q hq _ => hq.symm ▸ rfl)
  have h' := h
  obtain ⟨c1, c2, cs1, cs2, a1, a2, a3, _⟩ := h'
  exact h.upd hu (fun e => hO.typed a1 (by decide) _ e rfl) (fun e => hO.typed a2 (by decide) _ e rfl) (fun e => hO.typed a3 (by decide) _ e rfl)
end
theorem not_gone {a b : Bool} (h : ¬ (a = true ∧ b = false)) : (a && b) = a ∧ (a && !b) = false ∧ (a = false ∨ (a = true ∧ b = true)) := by
  revert h; cases a <;> cases b <;> decide
/-- What a sweep hands back. -/
def RswR (w : World) (g r s n : Nat) (first k : Int) (U M : Nat → Bool) (e : Ending) (w' : World) : Prop :=
  ∃ v, e = .returned v ∧ Own w' w.heap.size v (elems (dif U M) n) ∧ RSp w' g r s n first k 0 (fun t => U t && M t) (fun _ => false) ∧ Upd (fun x => x = g ∨ x = r ∨ x = s) w w'
theorem rs_sweep (w : World) (g r s n fr : Nat) (first k : Int) (U M : Nat → Bool) (h : RSp w g r s n first k fr U M) (hn : n ≤ 64) :
    Calls Tryd.prog 29 #[ptr g] w (RswR w g r s n first k U M) := by
  have h0 : RSp w g r s n first k fr (swU U M 0) (swM M 0) := h.congr (fun i _ => by unfold swU; rw [if_neg (by omega)]) (fun i _ => by unfold swM; rw [if_neg (by omega)])
  clear h
  unfold ptr
  go_enter Tryd.func29, Tryd.ntmps29
  go_wp2
  go_loopg [3, 4] n (fun q s3 s4 ws => ∃ i : Nat, s4 = .int .i64 i ∧ i ≤ n ∧ n - i ≤ q ∧ RSp ws g r s n first k fr (swU U M i) (swM M i) ∧ Own ws w.heap.size s3 (elems (dif U M) i) ∧ Upd (fun x => x = g ∨ x = r ∨ x = s) w ws)
  case atStart => exact ⟨0, rfl, by omega, by omega, h0, Own.nil _ _, Upd.refl _ _⟩
  case round =>
    clear h0
    obtain ⟨i, rfl, hi, hq, h1, hO, hU⟩ := hrel
    obtain ⟨c1, c2, _, _, q2, q3, q4, xU, xM, xg, xr, xs⟩ := h1.cells
    by_cases hlt : i < n
    · have i1 : (i : Int) < (n : Int) := by omega
      have d1 := xU i hlt
      have d2 := xM i hlt
      rw [show swU U M i i = U i by unfold swU; rw [if_neg (by omega)]] at d1
      rw [show swM M i i = M i by unfold swM; rw [if_neg (by omega)]] at d2
      have e1 := xr i
      have e2 := xs i
      clear xU xM xg xr xs
      by_cases hg : U i = true ∧ M i = false
      · obtain ⟨hUi, hMi⟩ := hg
        rw [hUi] at d1
        rw [hMi] at d2
        have h2 := h1.putU i false
        rw [swU_gone hMi] at h2
        have hu2 : Upd (fun x => x = g ∨ x = r ∨ x = s) wr (wr.setCell ⟨r, i, none⟩ (.bool false)) := (Upd.refl _ wr).sc (g := r) (fun _ => .inr (.inl rfl)) _ _
        have hO2 := h1.own hO hu2
        have hU2 := hU.trans hu2
        have HE := Lib.hid (show elems (dif U M) (i + 1) = elems (dif U M) i ++ [(i : Int)] by rw [elems_snoc, show dif U M i = true by unfold dif; rw [hUi, hMi]; rfl, if_pos rfl])
        clear hUi hMi h1 hO hU hu2
        go_upto_region 7 with fail
        generalize wr.setCell ⟨r, i, none⟩ (.bool false) = w1 at h2 hO2 hU2 ⊢
        obtain ⟨a3, c3, hs3⟩ := hO2.rd.form
        obtain ⟨ol, hol⟩ : ∃ ol, ol = (elems (dif U M) i).length := ⟨_, rfl⟩
        have hle : ol ≤ 64 := by rw [hol, elems_len]; have := cnt_le (dif U M) i; omega
        rw [← hol] at hs3
        subst hs3
        have HOL := Lib.hid hol
        have H2 := Lib.hid (And.intro h2 (And.intro hO2 hU2))
        clear hol h2 hO2 hU2 d1 d2 e1 e2 q2 q3 q4
        go_wp2_with (at_builtin; go_loud (refine wpList_append_rd rfl (.tmp 37) (.tmp 39) rfl rfl rfl (l := elems (dif U M) i) (m := [(i : Int)]) (H2.out.2.1.alloc _) (Rd.one _ _) (by have := H2.out.2.2.size; simp at this ⊢; omega) (ol + 1) (by rw [← HOL.out]; rfl) (by omega) ?_; intro a5 c5 w5 hown5 hg5 hat5; have h5 := H2.out.1.append H2.out.2.1 _ hg5; have hU5 := (H2.out.2.2.alloc _).own (H2.out.2.1.alloc _) hg5; obtain ⟨c15, c25, _, _, _, q35, _, _, xM5, _, _, xs5⟩ := h5.cells; have e25 := xs5 i; have d25 := xM5 i hlt; have H5 := Lib.hid (And.intro h5 (And.intro hown5 hU5)); clear h5 hown5 hU5 xM5 xs5 hg5 hat5))
        have h6 := H5.out.1.putM i false
        have hu6 : Upd (fun x => x = g ∨ x = r ∨ x = s) w5 (w5.setCell ⟨s, i, none⟩ (.bool false)) := (Upd.refl _ w5).sc (g := s) (fun _ => .inr (.inr rfl)) _ _
        have hO6 := H5.out.1.own H5.out.2.1 hu6
        have hU6 := H5.out.2.2.trans hu6
        rw [swM_next] at h6
        go_roundg (n - (i + 1))
        case measure => omega
        case rel => exact ⟨i + 1, by go_num, by omega, Nat.le_refl _, h6, by rw [HE.out]; exact hO6, hU6⟩
      · have h2 := h1.putM i false
        obtain ⟨hst, hst2, hcase⟩ := not_gone hg
        rw [swM_next, swU_stay hst] at h2
        have hu2 : Upd (fun x => x = g ∨ x = r ∨ x = s) wr (wr.setCell ⟨s, i, none⟩ (.bool false)) := (Upd.refl _ wr).sc (g := s) (fun _ => .inr (.inr rfl)) _ _
        have hO2 := h1.own hO hu2
        have hU2 := hU.trans hu2
        have HE := Lib.hid (show elems (dif U M) (i + 1) = elems (dif U M) i by rw [elems_snoc, show dif U M i = false from hst2, if_neg Bool.false_ne_true])
        have H2 := Lib.hid (And.intro h2 (And.intro hO2 hU2))
        clear h1 hO hU h2 hu2 hO2 hU2 hst hst2 hg
        rcases hcase with hUi | ⟨hUi, hMi⟩
        · rw [hUi] at d1
          clear hUi
          go_wp2
          go_roundg (n - (i + 1))
          case measure => omega
          case rel => exact ⟨i + 1, by go_num, by omega, Nat.le_refl _, H2.out.1, by rw [HE.out]; exact H2.out.2.1, H2.out.2.2⟩
        · rw [hUi] at d1
          rw [hMi] at d2
          clear hUi hMi
          go_wp2
          go_roundg (n - (i + 1))
          case measure => omega
          case rel => exact ⟨i + 1, by go_num, by omega, Nat.le_refl _, H2.out.1, by rw [HE.out]; exact H2.out.2.1, H2.out.2.2⟩
    · obtain rfl : i = n := by omega
      have h2 := h1.putF 0
      have hu2 : Upd (fun x => x = g ∨ x = r ∨ x = s) wr (wr.setCell ⟨g, 4, none⟩ (.int .i64 0)) := (Upd.refl _ wr).sc (g := g) (fun _ => .inl rfl) _ _
      have hO2 := h1.own hO hu2
      have hU2 := hU.trans hu2
      have h3 := h2.congr (U' := fun t => U t && M t) (M' := fun _ => false) (fun t ht => by unfold swU; rw [if_pos ht]) (fun t ht => by unfold swM; rw [if_pos ht])
      have e4 := xg 4
      have H3 := Lib.hid (And.intro h3 (And.intro hO2 hU2))
      clear h1 h2 hO hU hu2 hO2 hU2 h3 xU xM xg xr xs
      go_wp2
      go_ret
      exact ⟨_, rfl, H3.out.2.1, H3.out.1, H3.out.2.2⟩

theorem rs_addr_out (w : World) (g r s n fr : Nat) (first k : Int) (U M : Nat → Bool) (h : RSp w g r s n first k fr U M) (x : Int) (hx : inB n x = false) :
    Calls Tryd.prog 36 #[ptr g, .int .i64 x] w fun e w' => e = .returned (.int .i64 0) ∧ w = w' := by
  obtain ⟨c1, c2, _, _, q2, _⟩ := h.cells
  have hx' := of_decide_eq_false hx
  unfold ptr
  clear h hx
  by_cases h0 : x < 0
  · go_enter Tryd.func36, Tryd.ntmps36
    go_wp2
    go_ret
    exact ⟨rfl, rfl⟩
  · have h1 : (n : Int) ≤ x := by omega
    clear hx'
    go_enter Tryd.func36, Tryd.ntmps36
    go_wp2
    go_ret
    exact ⟨rfl, rfl⟩
theorem rs_addr (w : World) (g r s n fr : Nat) (first : Int) (k : Nat) (U M : Nat → Bool) (h : RSp w g r s n first k fr U M) (i : Nat) (hi : i < n) (hn64 : n ≤ 64) (hk : k < 16) (hf : 1 ≤ first ∧ first ≤ 262144) :
    Calls Tryd.prog 36 #[ptr g, .int .i64 i] w fun e w' => e = .returned (.int .i64 (first * 64 + i * szN k)) ∧ Below w.heap.size w w' := by
  obtain ⟨c1, c2, _, _, q2, _⟩ := h.cells
  have x0 : ∀ x : After w.heap.size w, x.1.cell? ⟨g, 0, none⟩ = some (.int .i64 first) := fun x => by obtain ⟨_, _, y, _⟩ := (h.below x.2).cells; exact y
  have x1 : ∀ x : After w.heap.size w, x.1.cell? ⟨g, 1, none⟩ = some (.int .i64 k) := fun x => by obtain ⟨_, _, _, y, _⟩ := (h.below x.2).cells; exact y
  have hz : 0 ≤ szN k ∧ szN k ≤ 256 := by
    unfold szN; rw [atL_nat _ _ hk]
    have := tab_bd k hk
    omega
  clear h
  have i0 : ¬ (i : Int) < 0 := by omega
  have i1 : ¬ (n : Int) ≤ (i : Int) := by omega
  obtain ⟨z, hzz⟩ : ∃ z, z = szN k := ⟨_, rfl⟩
  rw [← hzz] at hz ⊢
  have HZ := Lib.hid hzz
  clear hzz
  have hm : 0 ≤ (i : Int) * z ∧ (i : Int) * z ≤ 16384 := by
    obtain ⟨y, rfl⟩ := Int.eq_ofNat_of_zero_le hz.1
    have : i * y ≤ 64 * 256 := Nat.mul_le_mul (by omega) (by omega)
    constructor
    · exact Int.mul_nonneg (by omega) (by omega)
    · have e : ((i * y : Nat) : Int) ≤ 16384 := by omega
      rw [Int.natCast_mul] at e
      exact e
  have w0 : IntKind.i64.wrap (first * 64) = first * 64 := IntWalk.i64_in _ (by omega)
  have w1 : IntKind.i64.wrap ((i : Int) * z) = (i : Int) * z := IntWalk.i64_in _ (by omega)
  have w2 : IntKind.i64.wrap (first * 64 + (i : Int) * z) = first * 64 + (i : Int) * z := IntWalk.i64_in _ (by omega)
  unfold ptr
  go_enter Tryd.func36, Tryd.ntmps36
  go_upto_region 3 with fail
  refine wp_region_after w.heap.size w (by kernel_rfl) (by kernel_rfl) (Below.refl _ _) ?_
  repeat (go_big_quiet_step ((go_at_call 14; exact after_call (v := .int .i64 z) (by rw [HZ.out]; exact rsize_any _ _))))
  refine wpQuiet_nil ?_
  clear x0 x1
  intro w' hb
  go_wp2
  go_ret
  exact ⟨rfl, hb⟩
end Go.Proofs.YtpbghoddemffhaaDoor
