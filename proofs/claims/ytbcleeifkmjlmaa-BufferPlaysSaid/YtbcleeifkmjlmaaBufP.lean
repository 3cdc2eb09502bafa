/-
  The walk of BufferPlays: it returns true whatever came in. No condition.
-/
import Derived.Test.YtbcleeifkmjlmaaBufG
import Derived.Deep.LoopGhost
import Derived.Deep.CutRange
import Derived.Deep.CutBlock
import Derived.Deep.DeepCutAuto
import Derived.Deep.SlicePairs
namespace Go.Proofs.Ytbcleeifkmjlmaa
open Go.RowKit Go.ChangeShapes Go.WideShapes Go.Deep
set_option maxRecDepth 100000
set_option maxHeartbeats 2000000

/-- A slice of two numbers each, as a walk wants it. -/
def Prs (w : World) (a : Option Addr) (n : Nat) (f g : Nat → Int) : Prop :=
  ∃ b off, (0 < n → a = some ⟨b, off, none⟩) ∧ ∀ j, j < n → w.cell? ⟨b, off + j * 2, none⟩ = some (.int .i64 (f j)) ∧ w.cell? ⟨b, off + j * 2 + 1, none⟩ = some (.int .i64 (g j))

theorem prs_of_trod {H : Type} {enc : TypeId × Value → H} {W : World} {a : Option Addr} {n c : Nat} {d : DataW H} {p : List MemPlace}
    (h : DataW.Trod enc Try.prog W 0 (fun _ => true) true 22 (.slice a n c) d p) : ∃ f g, Prs W a n f g ∧ n ≤ 9223372036854775807 := by
  obtain ⟨fuel, hf⟩ := h
  rcases open_slice_pairs Try.underlying22 Try.underlying30 (by kernel_rfl) rfl rfl (by kernel_rfl) (by kernel_rfl) hf with ⟨hcs, _⟩ | ⟨x, len, cap, m, k, V0, V1, D0, D1, P0, P1, hcs, _, hl, hm, hmm, _, hx⟩
  · simp [Value.cells] at hcs
    obtain ⟨rfl, rfl, rfl⟩ := hcs
    exact ⟨fun _ => 0, fun _ => 0, ⟨0, 0, fun h => absurd h (by omega), fun j hj => by omega⟩, by omega⟩
  · simp [Value.cells] at hcs
    obtain ⟨rfl, rfl, rfl⟩ := hcs
    have hmc : m = c := by simpa using hmm
    subst hmc
    have hint : ∀ i, i < m → ∃ u v, W.cell? (x.add (i * 2)) = some (.int .i64 u) ∧ W.cell? (x.add (i * 2 + 1)) = some (.int .i64 v) := fun i hi => by
      obtain ⟨h1, h2, h3, h4⟩ := hx i hi
      obtain ⟨u, hu, _⟩ := DataW.trod_int Try.underlying3 h3
      obtain ⟨v, hv, _⟩ := DataW.trod_int Try.underlying3 h4
      simp at hu hv
      exact ⟨u, v, by rw [h1, hu], by rw [h2, hv]⟩
    refine ⟨fun i => match W.cell? (x.add (i * 2)) with | some (.int _ u) => u | _ => 0, fun i => match W.cell? (x.add (i * 2 + 1)) with | some (.int _ u) => u | _ => 0, ?_, by simp only [maxLen] at hm; omega⟩
    by_cases h0 : 0 < n
    · obtain ⟨b, off, spot⟩ := x
      obtain ⟨u0, v0, e0, _⟩ := hint 0 (by omega)
      have hspot : spot = none := by simpa [Addr.add] using World.cell?_spot e0
      subst hspot
      refine ⟨b, off, fun _ => rfl, fun j hj => ?_⟩
      obtain ⟨u, v, e1, e2⟩ := hint j (by omega)
      have d1 := e1
      have d2 := e2
      rw [Go.WideShapes.add_plain] at d1 d2
      exact ⟨d1.trans (by simp only [e1]), by rw [Nat.add_assoc]; exact d2.trans (by simp only [e2])⟩
    · exact ⟨0, 0, fun h => absurd h h0, fun j hj => by omega⟩

theorem blen_after {w : World} {g : Nat} {l : List Int} (h : BufAt w g l) (x : After w.heap.size w) :
    Calls Try.prog 16 #[ptr g] x.1 fun e w'' => e = .returned (.int .i64 l.length) ∧ ∃ y : After w.heap.size w, w'' = y.1 :=
  (blen_any _ _ _ (h.below x.2)).mono fun _ _ ⟨he, hw⟩ => ⟨he, x, hw.symm⟩

theorem plays_core (b off n c : Nat) (a : Option Addr) (f g : Nat → Int) (w : World) (hn : n ≤ 9223372036854775807) (ha : 0 < n → a = some ⟨b, off, none⟩)
    (hcell : ∀ j, j < n → w.cell? ⟨b, off + j * 2, none⟩ = some (.int .i64 (f j)) ∧ w.cell? ⟨b, off + j * 2 + 1, none⟩ = some (.int .i64 (g j))) :
    Calls Try.prog 3 #[.slice a n c] w fun e w' => e = .returned (.bool true) ∧ Below w.heap.size w w' := by
  have HC : Hid (∀ j, j < n → ∀ wr, Below w.heap.size w wr → wr.cell? ⟨b, off + j * 2, none⟩ = some (.int .i64 (f j)) ∧ wr.cell? ⟨b, off + j * 2 + 1, none⟩ = some (.int .i64 (g j))) :=
    fun j hj wr hb => ⟨(hb.cell (p := ⟨b, off + j * 2, none⟩) (World.block_lt_of_cell? w ⟨b, off + j * 2, none⟩ (hcell j hj).1)).trans (hcell j hj).1,
      (hb.cell (p := ⟨b, off + j * 2 + 1, none⟩) (World.block_lt_of_cell? w ⟨b, off + j * 2 + 1, none⟩ (hcell j hj).2)).trans (hcell j hj).2⟩
  have HA := Lib.hid ha
  clear hcell ha
  go_enter Try.func3, Try.ntmps3
  go_wp2_with fail
  refine (bnew_any _).mono ?_
  rintro e w1 ⟨rfl, hA, hb⟩
  go_wp2_with fail
  refine (bnew_any _).mono ?_
  rintro e w2 ⟨rfl, hN', hb2⟩
  have hA2 := hA.below hb2
  have hB2 := bx hb hb2
  have hgn : w.heap.size ≠ w1.heap.size := by have := hA.lt; omega
  have hkb : w.heap.size ≤ w1.heap.size := hb.size
  have hgs2 : w.heap.size ≤ w2.heap.size := Nat.le_trans hkb hb2.size
  obtain ⟨B, hB⟩ : ∃ B, w.heap.size = B := ⟨_, rfl⟩
  rw [hB] at hA2 hB2 hgn HC hgs2 hkb ⊢
  obtain ⟨k, hk⟩ : ∃ k, w1.heap.size = k := ⟨_, rfl⟩
  rw [hk] at hN' hgn hkb ⊢
  have HG := Lib.hid hB
  have hgw : B ≤ w.heap.size := Nat.le_of_eq hB.symm
  clear hB hk hA hb hb2
  go_wp2_with fail
  have hT : Two B w ((w2.alloc (.cells #[.slice none 0 0] 28)).alloc (.cells #[.slice none 0 0] 28)) B k w2.heap.size (w2.heap.size + 1) [] [] [] [] := by
    have u : Upd (fun _ => False) w2 ((w2.alloc (.cells #[.slice none 0 0] 28)).alloc (.cells #[.slice none 0 0] 28)) := ((Upd.refl _ _).alloc _).alloc _
    have c1 := (Cel.born w2 28 #[.slice none 0 0]).alloc (.cells #[.slice none 0 0] 28)
    have c2 := Cel.born (w2.alloc (.cells #[.slice none 0 0] 28)) 28 #[.slice none 0 0]
    rw [World.size_alloc] at c2
    exact ⟨hA2.upd u (fun h => h), hN'.upd u (fun h => h), ⟨_, c1, Own.nil _ _⟩, ⟨_, c2, Own.nil _ _⟩, hgn, by omega, Nat.le_refl _, hkb, hgs2, by omega, hgw, below_upd hB2 u hgs2 (fun _ h => h.elim)⟩
  generalize hz : (w2.alloc (.cells #[.slice none 0 0] 28)).alloc (.cells #[.slice none 0 0] 28) = w3 at hT ⊢
  generalize hz2 : w2.heap.size + 1 = h2 at hT ⊢
  generalize hz3 : w2.heap.size = h1 at hT ⊢
  clear hz hz2 hz3 hA2 hN' hB2 hgn hkb hgs2
  go_loopg [3, 4, 5, 6, 7] n (fun q s3 s4 s5 s6 s7 ws => ∃ (ga gb ha hb : Nat) (la lb : List Int) (j : Nat), s3 = ptr ga ∧ s4 = ptr gb ∧ s5 = ptr ha ∧ s6 = ptr hb ∧ s7 = .int .i64 j ∧ j ≤ n ∧ n - j ≤ q ∧ la.length ≤ 32 ∧ lb.length ≤ 32 ∧ Two B w ws ga gb ha hb la lb la lb)
  case atStart => exact ⟨_, _, _, _, _, _, 0, rfl, rfl, rfl, rfl, rfl, by omega, by omega, by simp, by simp, hT⟩
  case round =>
    clear hT
    obtain ⟨ga, gb, ha, hb, la, lb, j, rfl, rfl, rfl, rfl, rfl, hj, hq, hla, hlb, hT⟩ := hrel
    by_cases hlt : j < n ∧ j < 60
    · obtain ⟨hlt, h60⟩ := hlt
      obtain rfl := HA.out (by omega)
      have c1 := (HC.out j hlt _ hT.below).1
      have c2 := (HC.out j hlt _ hT.below).2
      generalize hx : f j = x at c1
      generalize hy : g j = y at c2
      clear hx hy
      have i1 : (0 : Int) ≤ (j : Int) := by omega
      have i2 : (j : Int) < (n : Int) := by omega
      have i3 : (j : Int) < 60 := by omega
      go_upto_region 9 with fail
      have hO := Cel.born wr 30 #[.int .i64 x, .int .i64 y]
      have hT2 := hT.ofBelow ((Below.refl wr.heap.size wr).alloc (Nat.le_refl _) (.cells #[.int .i64 x, .int .i64 y] 30))
      generalize hk : wr.heap.size = kb at hO ⊢
      generalize wr.alloc (.cells #[.int .i64 x, .int .i64 y] 30) = w4 at hO hT2 ⊢
      have q0 : w4.cell? ⟨kb, 0, none⟩ = some (.int .i64 x) := hO.cell 0
      have q1 : w4.cell? ⟨kb, 1, none⟩ = some (.int .i64 y) := hO.cell 1
      clear hT c1 c2 hk
      go_upto_block 2 with fail
      generalize (wrap64 (x.tmod 7 + 7)).tmod 7 = z
      go_cut [3, 4, 5, 6, 9] (fun s3 s4 s5 s6 s9 wx => ∃ (ga gb ha hb : Nat) (la lb : List Int), s3 = ptr ga ∧ s4 = ptr gb ∧ s5 = ptr ha ∧ s6 = ptr hb ∧ s9 = .bool true ∧ la.length ≤ 32 ∧ lb.length ≤ 32 ∧ Two B w wx ga gb ha hb la lb la lb)
      case first =>
        have hz : (z = 0 ∨ z = 1 ∨ z = 2) ∨ z = 3 ∨ z = 4 ∨ z = 5 ∨ (z ≠ 0 ∧ z ≠ 1 ∧ z ≠ 2 ∧ z ≠ 3 ∧ z ≠ 4 ∧ z ≠ 5) := by omega
        rcases hz with hz | rfl | rfl | rfl | hz
        · have H18 : Hid (Two B w w4.drew ga gb ha hb la lb la lb) := hT2.ofBelow (Below.refl _ _).drew
          rcases hz with rfl | rfl | rfl
          all_goals
            go_upto_region 18 with fail
            have hne : Nonempty (Kept (fun w' => Cel w' kb 30 #[.int .i64 x, .int .i64 y])) := ⟨⟨_, hO⟩⟩
            have hq : ∀ x : Kept (fun w' => Cel w' kb 30 #[.int .i64 x, .int .i64 y]), x.1.cell? ⟨kb, 1, none⟩ = some (.int .i64 y) := fun x => x.2.cell 1
            refine wp_region_planS [([0, 1, 2, 4, 5, 6], [3, 7]), ([8, 9], [])] (fun w' => Cel w' kb 30 #[.int .i64 x, .int .i64 y]) (by kernel_rfl) (by kernel_rfl) (fun _ _ _ _ _ h => h) hO.drew ?_
            show wpQuiet _ _ _ _ (List.filterMap _ _) _
            simp only [List.filterMap_cons, List.filterMap_nil, List.getElem?_toArray, List.getElem?_cons_zero, List.getElem?_cons_succ]
            show wpQuiet _ _ _ _ [_, _, _, _, _, _] _
            repeat (go_big_quiet_step (fail))
            refine wpQuiet_nil ?_
            refine plan_op (o := ⟨_, _, _, _, _, _⟩) rfl rfl fun K hK => ?_
            go_simp
            go_at_call 10
            refine (bput_gen _ _ _ _ H18.out.a).mono ?_
            rintro e w5 ⟨rfl, hA5, hu5⟩
            have hT5 := H18.out.putA hu5 hA5
            refine hK _ _ ⟨⟨_, H18.out.celA hO.drew (by decide) hu5⟩, rfl⟩ ?_
            clear hK K
            refine plan_op (o := ⟨_, _, _, _, _, _⟩) rfl rfl fun K hK => ?_
            go_simp
            go_at_call 11
            refine (rput_gen _ _ _ _ _ hT5.x hla hT5.size).mono ?_
            rintro e w6 ⟨rfl, hX6, hu6⟩
            have hT6 := hT5.putX hu6 hX6
            refine hK _ _ ⟨⟨_, hT5.celX (H18.out.celA hO.drew (by decide) hu5) (by decide) hu6⟩, rfl⟩ ?_
            clear hK K
            show wpQuiet _ _ _ _ (List.filterMap _ _) _
            simp only [List.filterMap_cons, List.filterMap_nil, List.getElem?_toArray, List.getElem?_cons_zero, List.getElem?_cons_succ]
            show wpQuiet _ _ _ _ [_, _] _
            repeat (go_big_quiet_step (fail))
            refine wpQuiet_nil ?_
            unfold ChainK PlanP
            go_wp2_with fail
            go_meet
            case rel => exact ⟨ga, gb, ha, hb, putL la y, lb, rfl, rfl, rfl, rfl, rfl, putL_le hla, hlb, hT6⟩
        · go_wp2_with fail
          refine (bget_gen _ _ _ hT2.a).mono ?_
          rintro e w5 ⟨rfl, hA5, hu5⟩
          have hT5 := hT2.putA hu5 hA5
          clear hT2 q0 q1 hO hA5 hu5
          go_wp2_with fail
          refine (rget_gen _ _ _ _ hT5.x hla).mono ?_
          rintro e w6 ⟨rfl, hX6, hu6⟩
          have hT6 := hT5.putX hu6 hX6
          clear hT5 hX6 hu6
          go_wp2_with fail
          all_goals go_meet
          all_goals exact ⟨ga, gb, ha, hb, la.dropLast, lb, rfl, rfl, rfl, rfl, rfl, by simp; omega, hlb, hT6⟩
        · go_wp2_with fail
          refine (bhalf_gen _ _ _ _ _ hT2.a hT2.b hT2.ab).mono ?_
          rintro e w5 ⟨rfl, hA5, hB5, hu5⟩
          have hT5 := hT2.putAB hu5 hA5 hB5
          have hb5 := hB5.le
          clear hT2 q0 q1 hO hA5 hB5 hu5
          go_wp2_with fail
          refine (rhalf_gen _ _ _ _ _ _ hT5.x hT5.y hT5.xy hla hlb hT5.size).mono ?_
          rintro e w6 ⟨rfl, hX6, hY6, hu6⟩
          have hT6 := hT5.putXY hu6 hX6 hY6
          clear hT5 hX6 hY6 hu6
          go_wp2_with fail
          go_meet
          case rel => exact ⟨ga, gb, ha, hb, _, _, rfl, rfl, rfl, rfl, rfl, by simp; omega, hb5, hT6⟩
        · clear q0 q1 hO
          go_wp2_with fail
          go_meet
          case rel => exact ⟨gb, ga, hb, ha, lb, la, rfl, rfl, rfl, rfl, rfl, hlb, hla, hT2.swap⟩
        · have z0 : (z == 0) = false := by simp; omega
          have z1 : (z == 1) = false := by simp; omega
          have z2 : (z == 2) = false := by simp; omega
          have z3 : (z == 3) = false := by simp; omega
          have z4 : (z == 4) = false := by simp; omega
          have z5 : (z == 5) = false := by simp; omega
          clear hz
          go_wp2_with fail
          have hu : 0 ≤ IntKind.u64.wrap y := by rw [IntKind.wrap_u64]; exact Int.emod_nonneg _ (by omega)
          have hm0 : 0 ≤ IntKind.u64.wrap y % 40 := Int.emod_nonneg _ (by omega)
          have hm1 : IntKind.u64.wrap y % 40 < 40 := Int.emod_lt_of_pos _ (by omega)
          obtain ⟨m, hm⟩ := Int.eq_ofNat_of_zero_le hm0
          have hm40 : m < 40 := by omega
          have HM := Lib.hid (And.intro hu hm)
          clear hm0 hm1 hu hm q0 q1
          go_loopg [9, 14] m (fun q s9 s14 ws => ∃ (lz : List Int) (t : Nat), s9 = .bool true ∧ s14 = .int .i64 t ∧ t ≤ m ∧ m - t ≤ q ∧ lz.length ≤ 32 ∧ Two B w ws ga gb ha hb lz lb lz lb ∧ Cel ws kb 30 #[.int .i64 x, .int .i64 y])
          case atStart => exact ⟨la, 0, rfl, rfl, by omega, by omega, hla, hT2, hO⟩
          case round =>
            clear hT2 hO hla
            obtain ⟨lz, t, rfl, rfl, ht, hq2, hlz, hT3, hO⟩ := hrel
            have q1 : wr.cell? ⟨kb, 1, none⟩ = some (.int .i64 y) := hO.cell 1
            obtain ⟨hu, hm⟩ := HM.out
            by_cases hlt2 : t < m
            · go_wp2_with fail
              clear hu hm q1
              refine (bput_gen _ _ _ _ hT3.a).mono ?_
              rintro e w5 ⟨rfl, hA5, hu5⟩
              have hT5 := hT3.putA hu5 hA5
              have hO5 := hT3.celA hO (by decide) hu5
              clear hT3 hO hA5 hu5
              go_wp2_with fail
              refine (rput_gen _ _ _ _ _ hT5.x hlz hT5.size).mono ?_
              rintro e w6 ⟨rfl, hX6, hu6⟩
              have hT6 := hT5.putX hu6 hX6
              have hO6 := hT5.celX hO5 (by decide) hu6
              clear hT5 hX6 hu6 hO5
              go_wp2_with fail
              go_roundg (m - (t + 1))
              case measure => omega
              case rel => exact ⟨_, t + 1, rfl, by go_num, by omega, by omega, putL_le hlz, hT6, hO6⟩
            · obtain rfl : t = m := by omega
              go_wp2_with fail
              clear hu hm q1
              go_meet
              case rel => exact ⟨ga, gb, ha, hb, _, lb, rfl, rfl, rfl, rfl, rfl, hlz, hlb, hT3⟩
      case rest =>
        clear hT2 q0 q1 hO hla hlb
        obtain ⟨ga, gb, ha, hb, la, lb, rfl, rfl, rfl, rfl, rfl, hla, hlb, hT⟩ := hcut
        go_upto_region 28 with fail
        obtain ⟨v1, d1, o1⟩ := hT.x
        obtain ⟨v2, d2, o2⟩ := hT.y
        obtain ⟨a1, c1, rfl⟩ := o1.rd.form
        obtain ⟨a2, c2, rfl⟩ := o2.rd.form
        have r1 : ∀ x : After wc.heap.size wc, x.1.cell? ⟨ha, 0, none⟩ = some (.slice a1 la.length c1) := fun x => ((Upd.ofBelow (F := fun _ => False) x.2).cel d1 (fun h => h)).cell 0
        have r2 : ∀ x : After wc.heap.size wc, x.1.cell? ⟨hb, 0, none⟩ = some (.slice a2 lb.length c2) := fun x => ((Upd.ofBelow (F := fun _ => False) x.2).cel d2 (fun h => h)).cell 0
        have H28 := Lib.hid hT
        clear d1 d2 o1 o2
        refine wp_region_after wc.heap.size wc (by kernel_rfl) (by kernel_rfl) (Below.refl _ _) ?_
        repeat (go_big_quiet_step ((go_at_call 16; first | exact blen_after H28.out.a _ | exact blen_after H28.out.b _)))
        refine wpQuiet_nil ?_
        clear r1 r2
        intro w5 hb5
        have hT5 := H28.out.ofBelow hb5
        clear hT hb5 H28
        go_wp2_with fail
        go_roundg (n - (j + 1))
        case measure => omega
        case rel => exact ⟨_, _, _, _, _, _, j + 1, rfl, rfl, rfl, rfl, by go_num, by omega, by omega, hla, hlb, hT5⟩
    · have hlt' : (j : Int) < (n : Int) ∧ ¬ (j : Int) < 60 ∨ ¬ (j : Int) < (n : Int) := by omega
      have hend : Hid (Two B w wr ga gb ha hb la lb la lb) := hT
      rcases hlt' with ⟨hl1, hl2⟩ | hl1
      all_goals
        go_upto_region 30 with fail
        obtain ⟨v1, d1, o1⟩ := hT.x
        obtain ⟨v2, d2, o2⟩ := hT.y
        obtain ⟨a1, c1, rfl⟩ := o1.rd.form
        obtain ⟨a2, c2, rfl⟩ := o2.rd.form
        have hne : Nonempty (Kept (Below wr.heap.size wr)) := ⟨⟨_, Below.refl _ _⟩⟩
        have r1 : ∀ x : Kept (Below wr.heap.size wr), x.1.cell? ⟨ha, 0, none⟩ = some (.slice a1 la.length c1) := fun x => ((Upd.ofBelow (F := fun _ => False) x.2).cel d1 (fun h => h)).cell 0
        have r2 : ∀ x : Kept (Below wr.heap.size wr), x.1.cell? ⟨hb, 0, none⟩ = some (.slice a2 lb.length c2) := fun x => ((Upd.ofBelow (F := fun _ => False) x.2).cel d2 (fun h => h)).cell 0
        have H30 := Lib.hid (And.intro hT (And.intro o1 o2))
        clear d1 d2 o1 o2
        refine wp_region_planS [([], [0]), ([1, 2, 4, 5, 6, 7], [3, 8]), ([9, 10, 11, 13, 14, 15, 16], [12, 17]), ([18, 19], [])] (Below wr.heap.size wr) (by kernel_rfl) (by kernel_rfl) (fun _ _ _ _ _ h => h) (Below.refl _ _).drew ?_
        refine wpQuiet_nil ?_
        refine plan_op (o := ⟨_, _, _, _, _, _⟩) rfl rfl fun K hK => ?_
        go_simp
        go_at_call 17
        refine (told17_any _).mono ?_
        rintro e w5 ⟨rfl, hb5⟩
        have hB5 : Below wr.heap.size wr w5 := bx (Below.refl _ _).drew hb5
        refine hK _ _ ⟨⟨_, hB5⟩, rfl⟩ ?_
        clear hK K
        show wpQuiet _ _ _ _ (List.filterMap _ _) _
        simp only [List.filterMap_cons, List.filterMap_nil, List.getElem?_toArray, List.getElem?_cons_zero, List.getElem?_cons_succ]
        show wpQuiet _ _ _ _ [_, _, _, _, _, _] _
        repeat (go_big_quiet_step (fail))
        refine wpQuiet_nil ?_
        refine plan_op (o := ⟨_, _, _, _, _, _⟩) rfl rfl fun K hK => ?_
        go_simp
        go_at_call 19
        refine (ball_any _ _ _ (H30.out.1.a.below hB5)).mono ?_
        rintro e w6 ⟨vv1, rfl, hv1, hb1⟩
        have hB6 : Below wr.heap.size wr w6 := bx hB5 hb1
        refine hK _ _ ⟨⟨_, hB6⟩, rfl⟩ ?_
        clear hK K
        refine plan_op (o := ⟨_, _, _, _, _, _⟩) rfl rfl fun K hK => ?_
        go_simp
        go_at_call 18
        refine (ints_any _ _ _ la la hv1.rd (H30.out.2.1.below hB6).rd (by omega)).mono ?_
        rintro e w7 ⟨rfl, nd1, rfl⟩
        rw [decide_eq_true (rfl : la = la)]
        have hB7 : Below wr.heap.size wr (w6.drewN nd1) := Upd.toBelow (F := fun _ => False) ((Upd.ofBelow hB6).drewN nd1) (Nat.le_refl _) (fun _ h => h.elim)
        refine hK _ _ ⟨⟨_, hB7⟩, rfl⟩ ?_
        clear hK K
        show wpQuiet _ _ _ _ (List.filterMap _ _) _
        simp only [List.filterMap_cons, List.filterMap_nil, List.getElem?_toArray, List.getElem?_cons_zero, List.getElem?_cons_succ]
        show wpQuiet _ _ _ _ [_, _, _, _, _, _, _] _
        repeat (go_big_quiet_step (fail))
        refine wpQuiet_nil ?_
        refine plan_op (o := ⟨_, _, _, _, _, _⟩) rfl rfl fun K hK => ?_
        go_simp
        go_at_call 19
        refine (ball_any _ _ _ (H30.out.1.b.below hB7)).mono ?_
        rintro e w8 ⟨vv2, rfl, hv2, hb2⟩
        have hB8 : Below wr.heap.size wr w8 := bx hB7 hb2
        refine hK _ _ ⟨⟨_, hB8⟩, rfl⟩ ?_
        clear hK K
        refine plan_op (o := ⟨_, _, _, _, _, _⟩) rfl rfl fun K hK => ?_
        go_simp
        go_at_call 18
        refine (ints_any _ _ _ lb lb hv2.rd (H30.out.2.2.below hB8).rd (by omega)).mono ?_
        rintro e w9 ⟨rfl, nd2, rfl⟩
        rw [decide_eq_true (rfl : lb = lb)]
        have hB9 : Below wr.heap.size wr (w8.drewN nd2) := Upd.toBelow (F := fun _ => False) ((Upd.ofBelow hB8).drewN nd2) (Nat.le_refl _) (fun _ h => h.elim)
        refine hK _ _ ⟨⟨_, hB9⟩, rfl⟩ ?_
        clear hK K
        show wpQuiet _ _ _ _ (List.filterMap _ _) _
        simp only [List.filterMap_cons, List.filterMap_nil, List.getElem?_toArray, List.getElem?_cons_zero, List.getElem?_cons_succ]
        show wpQuiet _ _ _ _ [_, _] _
        repeat (go_big_quiet_step (fail))
        refine wpQuiet_nil ?_
        unfold ChainK PlanP
        go_wp2_with fail
        go_ret
        rw [HG.out]
        refine ⟨rfl, ?_⟩
        exact bstep H30.out.1.below hB9 H30.out.1.size
theorem BufferPlays_walk (w : World) (a : Option Addr) (n c : Nat) (f g : Nat → Int) (h : Prs w a n f g) (hn : n ≤ 9223372036854775807) :
    Calls Try.prog 3 #[.slice a n c] w fun e w' => e = .returned (.bool true) ∧ Below w.heap.size w w' := by
  obtain ⟨b, off, ha, hc⟩ := h
  exact plays_core b off n c a f g w hn ha hc
end Go.Proofs.Ytbcleeifkmjlmaa
