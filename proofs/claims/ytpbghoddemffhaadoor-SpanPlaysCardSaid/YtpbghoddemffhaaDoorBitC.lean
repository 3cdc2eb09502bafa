/-
  Sets of numbers (bits): Copy.
-/
import Derived.Test.YtpbghoddemffhaaDoorBitK
import Derived.Test.YtpbghoddemffhaaDoorPlanZ
import Derived.Lib.SliceRun
namespace Go.Proofs.YtpbghoddemffhaaDoor
open Go.RowKit
set_option maxRecDepth 100000
set_option maxHeartbeats 1000000

/-- The words of a slice, copied behind an empty slice of its own. -/
theorem run_append_w64 {w : World} {B : Nat} {v : Value} (hv : w.ownsRow B 70 1 v 0 []) (hnn : v ≠ .slice none 0 0) (k m cap : Nat) (cs : Array Value) (hc : Cel w k 70 cs) (hm : m ≤ cs.size) (hx1 : ∀ j, j < m → ∃ x : Nat, cs[j]? = some (.int .u64 x)) (hB : B ≤ w.heap.size) (hlim : m * 8 ≤ 140737488355328) (ty : TypeId) :
    ∃ v' w', (Builtin.append_ #[66, 66] ty #[v, .slice (some ⟨k, 0, none⟩) m cap]).run Tryd.prog w = .ok v' w' ∧ w.grownBy w' v.ownBlock ∧
      ∃ K cap' cs', v' = .slice (some ⟨K, 0, none⟩) m cap' ∧ B ≤ K ∧ Cel w' K 70 cs' ∧ m ≤ cap' ∧ m ≤ cs'.size ∧ ∀ j, j < m → cs'[j]? = cs[j]? := by
  obtain ⟨i0, hi, hz0, hz1, hz2⟩ := info_parts info_u64
  have hlen : (cs.toList.take m).length = m := by simp; omega
  obtain ⟨v', w', h1, h2, h3, h4, h5⟩ := run_append_own_at (P := Tryd.prog) w B 66 ty 70 i0 (.int .u64 0) 1 8 Tryd.underlying66 hi hz0 hz1 hz2 rfl (by decide) v 0 _ hv ⟨k, 0, none⟩ m cap (cs.toList.take m) (by rw [hlen, Nat.mul_one])
      (fun j u hu => by
        rw [List.getElem?_take] at hu
        split at hu
        · rw [Go.WideShapes.add_plain, hc.cell]; simpa using hu
        · cases hu)
      (fun u hu => by
        obtain ⟨j, hj⟩ := List.mem_iff_getElem?.1 hu
        rw [List.getElem?_take] at hj
        split at hj
        · rename_i hjm
          obtain ⟨x, hx⟩ := hx1 j hjm
          have : cs[j]? = some u := by simpa using hj
          rw [hx] at this
          cases this; rfl
        · cases hj)
      (by simp only [maxLen]; omega) (by omega) hB
  refine ⟨v', w', h1, h3, ?_⟩
  rcases h2.2 with ⟨e, _⟩ | ⟨K, cap', cur, e, hBK, hK, hn, hmx, hsz, ht⟩
  · exact absurd (h4.1 e).1 hnn
  · rw [Nat.zero_add] at e hn ht
    refine ⟨K, cap', cur, e, hBK, hK, hn, by omega, fun j hj => ?_⟩
    have := congrArg (·[j]?) ht
    simp only [Nat.mul_one, List.nil_append, List.getElem?_take, hj, if_true] at this
    simpa using this

theorem wpList_append_run {t : TypeId} {w w' : World} {ops : Array Oper} {rest : List Oper} {o : Oper} {a : Act} {Q : Exit → Act → World → Prop} (hgd : o.guard = none) (s x : Operand)
    (ho : o.op = .call { callee := .builtin .append, args := #[s, x], argTypes := #[t, t] }) {vs vx v' : Value} (hs : a.eval s = vs) (hx : a.eval x = vx)
    (hrun : (Builtin.append_ #[t, t] o.type #[vs, vx]).run Tryd.prog w = .ok v' w') (h : wpList Tryd.prog ops Q rest (a.put o.dst v') w') : wpList Tryd.prog ops Q (o :: rest) a w := by
  refine wpList_plain hgd fun K hK => ?_
  unfold Oper.wp execOp
  simp only [ho, resolve, invoke, builtin, Sem.run_bind, Sem.run_pure, Result.andThen_ok, List.map_toArray, List.map_cons, List.map_nil, hs, hx, hrun]
  exact hK _ _ h
theorem clone64 (w : World) (k m cap : Nat) (cs : Array Value) (hc : Cel w k 70 cs) (hm : m ≤ cs.size) (hx1 : ∀ j, j < m → ∃ x : Nat, cs[j]? = some (.int .u64 x)) (hlim : m * 8 ≤ 140737488355328) :
    Calls Tryd.prog 58 #[.slice (some ⟨k, 0, none⟩) m cap] w fun e w' => ∃ K cap' cs', e = .returned (.slice (some ⟨K, 0, none⟩) m cap') ∧ w.heap.size ≤ K ∧ Cel w' K 70 cs' ∧ m ≤ cap' ∧ m ≤ cs'.size ∧ (∀ j, j < m → cs'[j]? = cs[j]?) ∧ Below w.heap.size w w' := by
  have heq := Lib.run_eql_slice_nil (P := Tryd.prog) w 66 70 (some ⟨k, 0, none⟩) m cap 0 0 Tryd.underlying66
  have hown : (w.alloc (.cells #[] 70)).ownsRow w.heap.size 70 1 (.slice (some ⟨w.heap.size, 0, none⟩) 0 0) 0 [] :=
    ⟨rfl, .inr ⟨w.heap.size, 0, #[], rfl, Nat.le_refl _, heap_alloc_new w _, Nat.le_refl _, by simp [maxLen], rfl, rfl⟩⟩
  obtain ⟨v', w', hrun, hg, K, cap', cs', rfl, h1, h2, h3, h4, h5⟩ := run_append_w64 (w := w.alloc (.cells #[] 70)) hown (by simp) k m cap cs (hc.alloc _) hm hx1 (by simp) hlim 66
  have HR := Lib.hid (And.intro hg (And.intro h1 (And.intro h2 (And.intro h3 (And.intro h4 h5)))))
  have HN := Lib.hid hrun
  clear hg h1 h2 h3 h4 h5 hown hrun
  go_enter Tryd.func58, Tryd.ntmps58
  go_wp2_with (at_builtin; refine wpList_append_run rfl (.tmp 5) (.tmp 6) rfl rfl rfl HN.out ?_)
  go_ret
  obtain ⟨hg, h1, h2, h3, h4, h5⟩ := HR.out
  exact ⟨K, cap', cs', rfl, h1, h2, h3, h4, h5, ((Below.refl _ _).alloc (Nat.le_refl _) _).grown hg (by simp) (fun q hq => Nat.le_of_eq (Option.some.inj hq))⟩
theorem set_copy_other (w : World) (g k n g' k' n' : Nat) (M M' : Nat → Bool) (h : SetAt w g k n M) (h' : SetAt w g' k' n' M') (hne : n ≠ n') :
    Calls Tryd.prog 50 #[ptr g, ptr g'] w fun e w' => e = .returned (.bool false) ∧ ∃ q, w' = w.drewN q := by
  obtain ⟨cap, cs, hc, _⟩ := h
  obtain ⟨cap', cs', hc', _⟩ := h'
  have c0 : w.cell? ⟨g, 0, none⟩ = some (.int .i64 n) := hc.cell 0
  have c0' : w.cell? ⟨g', 0, none⟩ = some (.int .i64 n') := hc'.cell 0
  have d1 : ((n : Int) != (n' : Int)) = true := by simp; omega
  clear hc hc' hne
  unfold ptr
  go_enter Tryd.func50, Tryd.ntmps50
  go_wp2
  go_quiet (fail)
  go_wp2
  go_ret
  exact ⟨rfl, nq, rfl⟩
theorem set_copy (w : World) (g k n g' k' : Nat) (M M' : Nat → Bool) (h : SetAt w g k n M) (h' : SetAt w g' k' n M') :
    Calls Tryd.prog 50 #[ptr g, ptr g'] w fun e w' => ∃ K, e = .returned (.bool true) ∧ SetAt w' g K n M' ∧ w.heap.size ≤ K ∧ Upd (· = g) w w' := by
  obtain ⟨cap, cs, hc, _⟩ := h
  obtain ⟨cap', cs', hc', hk', h1, h2, h3, h4, h5⟩ := h'
  have c0 : w.cell? ⟨g, 0, none⟩ = some (.int .i64 n) := hc.cell 0
  have c0' : w.cell? ⟨g', 0, none⟩ = some (.int .i64 n) := hc'.cell 0
  have H := Lib.hid (And.intro hc (And.intro hc' (And.intro hk' (And.intro h1 (And.intro h3 (And.intro h4 h5))))))
  clear hc hc' hk' h1 h2 h3 h4 h5
  unfold ptr
  go_enter Tryd.func50, Tryd.ntmps50
  go_wp2
  go_quiet (fail)
  go_wp2
  have q1 : w.cell? ⟨g', 1, none⟩ = some (.slice (some ⟨k', 0, none⟩) ((n + 63) / 64) cap') := H.out.2.1.cell 1
  have q2 : w.cell? ⟨g', 2, none⟩ = some (.int .i64 (cnt M' n)) := H.out.2.1.cell 2
  have hq1 : ∀ x : Kept (Upd (fun _ => False) w), x.1.cell? ⟨g', 1, none⟩ = some (.slice (some ⟨k', 0, none⟩) ((n + 63) / 64) cap') := fun x => (x.2.cel H.out.2.1 (fun h => h)).cell 1
  have hq2 : ∀ x : Kept (Upd (fun _ => False) w), x.1.cell? ⟨g', 2, none⟩ = some (.int .i64 (cnt M' n)) := fun x => (x.2.cel H.out.2.1 (fun h => h)).cell 2
  have hne : Nonempty (Kept (Upd (fun _ => False) w)) := ⟨⟨w, Upd.refl _ w⟩⟩
  clear q1 q2 c0 c0'
  refine wp_region_planZ [seg0 [1] [], seg (Upd (fun _ => False) w) [11, 12, 13, 14, 15, 16] [0, 2, 3, 4, 5, 7, 8, 9, 10] [6], seg0 [11, 12] [13], seg0 [14, 15] [16]] (by kernel_rfl) (by kernel_rfl) (fun _ _ _ _ _ h => h) ?_
  refine planZ_seg0 ?_
  show wpQuiet _ _ _ _ (List.filterMap _ _) _
  simp only [List.filterMap_cons, List.filterMap_nil, List.getElem?_toArray, List.getElem?_cons_zero, List.getElem?_cons_succ]
  show wpQuiet _ _ _ _ [_] _
  repeat (go_big_quiet_step (fail))
  refine wpQuiet_nil ?_
  refine planZ_seg ((Upd.refl _ w).drewN nq).drew ?_
  show wpQuiet _ _ _ _ (List.filterMap _ _) _
  simp only [List.filterMap_cons, List.filterMap_nil, List.getElem?_toArray, List.getElem?_cons_zero, List.getElem?_cons_succ]
  show wpQuiet _ _ _ _ [_, _, _, _, _, _, _, _, _] _
  repeat (go_big_quiet_step (fail))
  refine wpQuiet_nil ?_
  refine planZ_op (o := ⟨_, _, _, _, _, _⟩) rfl rfl fun K hK => ?_
  go_simp
  go_at_call 58
  obtain ⟨hc, hc', hk', h1, h3, h4, h5⟩ := H.out
  have u0 : Upd (fun _ => False) w (w.drewN nq).drew := ((Upd.refl _ w).drewN nq).drew
  refine (clone64 _ k' _ cap' cs' (u0.cel hk' (fun h => h)) h1 (fun j hj => by obtain ⟨x, hx, _⟩ := h4 j hj; exact ⟨x, hx⟩) (by omega)).mono ?_
  rintro e w5 ⟨K1, cap1, cs1, rfl, hK1, hcK, hm1, hm2, hsame, hb5⟩
  have u5 : Upd (fun _ => False) w w5 := u0.trans (Upd.ofBelow hb5)
  refine hK _ _ (fun _ => ⟨⟨_, u5⟩, rfl⟩) ?_
  clear hK K
  have d1 := u5.cel hc (fun h => h)
  have e1 := d1.free 1
  have e0 : w5.cell? ⟨g, 1, none⟩ = some (.slice (some ⟨k, 0, none⟩) ((n + 63) / 64) cap) := d1.cell 1
  have f1 := d1.put 1 (.slice (some ⟨K1, 0, none⟩) ((n + 63) / 64) cap1)
  have e2 := f1.free 2
  have e3 : (w5.setCell ⟨g, 1, none⟩ (.slice (some ⟨K1, 0, none⟩) ((n + 63) / 64) cap1)).cell? ⟨g, 2, none⟩ = some (.int .i64 (cnt M n)) := f1.cell 2
  have hgK : g ≠ K1 := d1.ne hcK (by decide)
  have hKw : w.heap.size ≤ K1 := Nat.le_trans u0.size hK1
  have D := Lib.hid (And.intro d1 (And.intro hcK (And.intro u5 (And.intro hm1 (And.intro hm2 (And.intro hsame (And.intro hgK (And.intro hKw (And.intro f1 (And.intro h3 (And.intro h4 h5)))))))))))
  clear d1 hcK u5 hm1 hm2 hsame hgK hKw f1 h1 h3 h4 h5 hc hc' hk' u0 hb5 hK1 hq1 hq2
  refine planZ_seg0 ?_
  show wpQuiet _ _ _ _ (List.filterMap _ _) _
  simp only [List.filterMap_cons, List.filterMap_nil, List.getElem?_toArray, List.getElem?_cons_zero, List.getElem?_cons_succ]
  show wpQuiet _ _ _ _ [_, _] _
  repeat (go_big_quiet_step (fail))
  refine wpQuiet_nil ?_
  refine planZ_op (o := ⟨_, _, _, _, _, _⟩) rfl rfl fun K hK => ?_
  go_simp
  refine hK _ _ (fun _ => ⟨⟨_, trivial⟩, rfl⟩) ?_
  clear hK K
  refine planZ_seg0 ?_
  show wpQuiet _ _ _ _ (List.filterMap _ _) _
  simp only [List.filterMap_cons, List.filterMap_nil, List.getElem?_toArray, List.getElem?_cons_zero, List.getElem?_cons_succ]
  show wpQuiet _ _ _ _ [_, _] _
  repeat (go_big_quiet_step (fail))
  refine wpQuiet_nil ?_
  refine planZ_op (o := ⟨_, _, _, _, _, _⟩) rfl rfl fun K hK => ?_
  go_simp
  refine hK _ _ (fun _ => ⟨⟨_, trivial⟩, rfl⟩) ?_
  clear hK K
  unfold ChainZ PlanZ
  go_wp2
  go_ret
  obtain ⟨d1, hcK, u5, hm1, hm2, hsame, hgK, hKw, f1, h3, h4, h5⟩ := D.out
  refine ⟨K1, rfl, ⟨cap1, cs1, f1.put 2 _, (hcK.far (p := ⟨g, 1, none⟩) hgK.symm _).far (p := ⟨g, 2, none⟩) hgK.symm _, hm2, hm1, h3, fun j hj => ?_, h5⟩, hKw, ?_⟩
  · obtain ⟨x, hx, hx2⟩ := h4 j hj
    exact ⟨x, by rw [hsame j hj]; exact hx, hx2⟩
  · exact ((u5.mono (G := (· = g)) (fun _ h _ => h.elim)).sc (fun _ => rfl) _ _).sc (fun _ => rfl) _ _
end Go.Proofs.YtpbghoddemffhaaDoor
