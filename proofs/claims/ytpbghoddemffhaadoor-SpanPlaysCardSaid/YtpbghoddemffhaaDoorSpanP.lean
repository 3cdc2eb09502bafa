/-
  The walk of SpanPlays: it returns true whatever came in. Under: the library's table.
-/
import Derived.Test.YtpbghoddemffhaaDoorSpanT
namespace Go.Proofs.YtpbghoddemffhaaDoor
open Go.RowKit
set_option maxRecDepth 100000
set_option maxHeartbeats 4000000

theorem splays_not (ln c : Nat) (a : Option Addr) (first class_ : Int) (w : World) (hT : Tab w) (hno : (class_ < 0 ∨ 15 < class_) ∨ first < 1 ∨ 262144 < first) :
    Calls Tryd.prog 4 #[.int .i64 first, .int .i64 class_, .slice a ln c] w fun e w' => e = .returned (.bool true) ∧ Below w.heap.size w w' := by
  have HT := Lib.hid hT
  have HN := Lib.hid hno
  clear hT hno
  go_enter Tryd.func4, Tryd.ntmps4
  go_wp2_with fail
  refine (sp_new_not w first class_ HN.out).mono ?_
  rintro e w1 ⟨rfl, hb1⟩
  go_wp2_with fail
  refine (rs_new_not w1 first class_ HN.out).mono ?_
  rintro e w2 ⟨rfl, hb2⟩
  have hB2 := bx hb1 hb2
  clear hb1 hb2
  go_wp2_with fail
  refine (told6_any _ (HT.out.ofBelow hB2)).mono ?_
  rintro e w3 ⟨rfl, hb3⟩
  have hB3 := bx hB2 hb3
  clear hB2 hb3
  go_wp2_with fail
  go_ret
  exact ⟨rfl, hB3⟩

theorem splays_core (b off ln c k n sz : Nat) (a : Option Addr) (f g_ : Nat → Int) (hz : Nat → Bool) (first : Int) (w : World) (hT : Tab w) (hln : ln ≤ 9223372036854775807) (ha : 0 < ln → a = some ⟨b, off, none⟩)
    (hcell : ∀ j, j < ln → w.cell? ⟨b, off + j * 3, none⟩ = some (.int .i64 (f j)) ∧ w.cell? ⟨b, off + j * 3 + 1, none⟩ = some (.int .i64 (g_ j)) ∧ w.cell? ⟨b, off + j * 3 + 2, none⟩ = some (.bool (hz j)))
    (hk : k < 16) (hf1 : 1 ≤ first) (hf2 : first ≤ 262144) (hn : slN k = (n : Int)) (hn1 : 1 ≤ n) (hn64 : n ≤ 64) (hs : szN k = (sz : Int)) (hs1 : 1 ≤ sz) (hs2 : sz ≤ 256) :
    Calls Tryd.prog 4 #[.int .i64 first, .int .i64 (k : Int), .slice a ln c] w fun e w' => e = .returned (.bool true) ∧ Below w.heap.size w w' := by
  have HC : Hid (∀ j, j < ln → ∀ wr, Below w.heap.size w wr → wr.cell? ⟨b, off + j * 3, none⟩ = some (.int .i64 (f j)) ∧ wr.cell? ⟨b, off + j * 3 + 1, none⟩ = some (.int .i64 (g_ j)) ∧ wr.cell? ⟨b, off + j * 3 + 2, none⟩ = some (.bool (hz j))) :=
    fun j hj wr hb => ⟨(hb.cell (p := ⟨b, off + j * 3, none⟩) (World.block_lt_of_cell? w ⟨b, off + j * 3, none⟩ (hcell j hj).1)).trans (hcell j hj).1,
      (hb.cell (p := ⟨b, off + j * 3 + 1, none⟩) (World.block_lt_of_cell? w ⟨b, off + j * 3 + 1, none⟩ (hcell j hj).2.1)).trans (hcell j hj).2.1,
      (hb.cell (p := ⟨b, off + j * 3 + 2, none⟩) (World.block_lt_of_cell? w ⟨b, off + j * 3 + 2, none⟩ (hcell j hj).2.2)).trans (hcell j hj).2.2⟩
  have HA := Lib.hid ha
  have HT := Lib.hid hT
  have HN := Lib.hid (And.intro hn hs)
  clear hcell ha hT hn hs
  go_enter Tryd.func4, Tryd.ntmps4
  go_wp2_with fail
  refine (sp_new w first k n hk hf1 hf2 HN.out.1).mono ?_
  rintro e w1 ⟨h0, hb0⟩
  obtain ⟨p, u, ku, m, km, rfl, h1⟩ := SpIn.new h0 hb0
  clear h0 hb0
  go_wp2_with fail
  refine (rs_new w1 first k n hk hf1 hf2 HN.out.1).mono ?_
  rintro e w2 ⟨⟨g, r, s, rfl, hR, hg, hr, hs⟩, hb2⟩
  have hTw : Twin w.heap.size w w2 p u ku m km g r s n first k 0 0 (fun _ => false) (fun _ => false) :=
    ⟨h1.step hb2, hR, Nat.le_trans h1.size hg, Nat.le_trans h1.size hr, Nat.le_trans h1.size hs, fun _ h => h, rfl, by omega⟩
  have gB := hTw.gB
  have rB := hTw.rB
  have sB := hTw.sB
  clear h1 hR hg hr hs hb2
  go_upto_region 5 with fail
  have wf : IntKind.i64.wrap (first * 64) = first * 64 := IntWalk.i64_in _ (by omega)
  have q2 : ∃ c1, ∀ x : After w2.heap.size w2, x.1.cell? ⟨g, 2, none⟩ = some (.slice (some ⟨r, 0, none⟩) n c1) := by
    obtain ⟨c1, _, _, _, y, _⟩ := hTw.b.cells
    exact ⟨c1, fun x => (x.2.cell (p := ⟨g, 2, none⟩) (World.block_lt_of_cell? w2 ⟨g, 2, none⟩ y)).trans y⟩
  obtain ⟨c1, q2⟩ := q2
  have H5 := Lib.hid hTw
  clear hTw
  refine wp_region_after w2.heap.size w2 (by kernel_rfl) (by kernel_rfl) (Below.refl _ _) ?_
  repeat (go_big_quiet_step (first
    | (go_at_call 16; exact after_call (((sp_slots _ p u ku m km n first k 0 _ _ (H5.out.step (Subtype.property _)).a.at_).mono fun _ _ ⟨he, hw⟩ => ⟨he, hw ▸ Below.refl _ _⟩)))
    | (go_at_call 21; exact after_call (((sp_base _ p u ku m km n first k 0 _ _ (H5.out.step (Subtype.property _)).a.at_).mono fun _ _ ⟨he, hw⟩ => ⟨he, hw ▸ Below.refl _ _⟩)))
    | (go_at_call 22; exact after_call (((sp_class _ p u ku m km n first k 0 _ _ (H5.out.step (Subtype.property _)).a.at_).mono fun _ _ ⟨he, hw⟩ => ⟨he, hw ▸ Below.refl _ _⟩)))))
  refine wpQuiet_nil ?_
  clear q2 wf
  intro w3 hb3
  have hTw := H5.out.step hb3
  clear H5 hb3
  go_wp2_with fail
  go_loopg [10] ln (fun q s10 ws => ∃ (i fr f2 u ku m km : Nat) (U M : Nat → Bool), s10 = .int .i64 i ∧ i ≤ ln ∧ ln - i ≤ q ∧ Twin w.heap.size w ws p u ku m km g r s n first k fr f2 U M)
  case atStart => exact ⟨0, 0, 0, u, ku, m, km, _, _, rfl, by omega, by omega, hTw⟩
  case round =>
    clear hTw
    obtain ⟨i, fr, f2, u, ku, m, km, U, M, rfl, hi, hq, hTw⟩ := hrel
    by_cases hlt : i < ln ∧ i < 100
    · obtain ⟨hlt, h60⟩ := hlt
      obtain rfl := HA.out (by omega)
      obtain ⟨c1, c2, c3⟩ := HC.out i hlt _ hTw.a.below
      generalize hx : f i = x at c1
      generalize hy : g_ i = y at c2
      generalize hz : hz i = z at c3
      clear hx hy hz
      have i1 : (0 : Int) ≤ (i : Int) := by omega
      have i2 : (i : Int) < (ln : Int) := by omega
      have i3 : (i : Int) < 100 := by omega
      go_upto_region 11 with fail
      have hO := Cel.born wr 39 #[.int .i64 x, .int .i64 y, .bool z]
      have hB2 := hTw.step ((Below.refl wr.heap.size wr).alloc (Nat.le_refl _) (.cells #[.int .i64 x, .int .i64 y, .bool z] 39))
      generalize hk : wr.heap.size = kb at hO ⊢
      generalize wr.alloc (.cells #[.int .i64 x, .int .i64 y, .bool z] 39) = w4 at hO hB2 ⊢
      have q0 : w4.cell? ⟨kb, 0, none⟩ = some (.int .i64 x) := hO.cell 0
      have q1 : w4.cell? ⟨kb, 1, none⟩ = some (.int .i64 y) := hO.cell 1
      have q2 : w4.cell? ⟨kb, 2, none⟩ = some (.bool z) := hO.cell 2
      clear hTw c1 c2 c3 hk
      go_upto_block 2 with fail
      generalize (wrap64 (x.tmod 6 + 6)).tmod 6 = zk
      go_cut [] (fun wx => ∃ (fr f2 u ku m km : Nat) (U M : Nat → Bool), Twin w.heap.size w wx p u ku m km g r s n first k fr f2 U M ∧ Cel wx kb 39 #[.int .i64 x, .int .i64 y, .bool z])
      case first =>
        obtain ⟨b3, hb3⟩ : ∃ b3, b3 = decide (zk = 0 ∨ zk = 1 ∨ zk = 2) := ⟨_, rfl⟩
        have HB3 := Lib.hid hb3
        clear hb3
        refine wp_block ?_
        refine wp_seq_k fun Kz hKz => ?_
        go_cut [86, 87] (fun s86 s87 wx => s86 = .int .i64 zk ∧ s87 = .bool b3 ∧ w4 = wx)
        case first =>
          have hz : zk = 0 ∨ zk = 1 ∨ zk = 2 ∨ (zk ≠ 0 ∧ zk ≠ 1 ∧ zk ≠ 2) := by omega
          rcases hz with rfl | rfl | rfl | hz
          · go_wp2_with fail
            go_meet
            case rel => exact ⟨rfl, by rw [HB3.out]; rfl, rfl⟩
          · go_wp2_with fail
            go_meet
            case rel => exact ⟨rfl, by rw [HB3.out]; rfl, rfl⟩
          · go_wp2_with fail
            go_meet
            case rel => exact ⟨rfl, by rw [HB3.out]; rfl, rfl⟩
          · have z0 : (zk == 0) = false := by simp; omega
            have z1 : (zk == 1) = false := by simp; omega
            have z2 : (zk == 2) = false := by simp; omega
            have hd := Lib.hid (show decide (zk = 0 ∨ zk = 1 ∨ zk = 2) = false from decide_eq_false (by omega))
            clear hz
            go_wp2_with fail
            go_meet
            case rel => exact ⟨rfl, by rw [HB3.out, hd.out], rfl⟩
        case rest =>
          obtain ⟨rfl, rfl, rfl⟩ := hcut
          cases b3 with
          | true =>
            rcases nextM_cases U n false f2 with ⟨j, k1, k2, k3, k4, k5⟩ | ⟨k1, k5⟩
            · have hMj : M j = false := by
                cases hc : M j with
                | false => rfl
                | true => have := hB2.sub j hc; rw [k4] at this; cases this
              have HK := Lib.hid (And.intro (hB2.next.trans k1) (And.intro k4 (And.intro hMj (fun t a c => by have := k5 t a c; simpa using this))))
              clear k1 k4 k5 hMj
              go_wp2_with fail
              refine (sp_alloc w4 p u ku m km n first k fr U M hB2.a.at_ (hB2.a.tab HT.out rfl) z j HK.out.1 k3 HK.out.2.1).mono ?_
              rintro e w5 ⟨rfl, hS5, hu5⟩
              have ha5 := hB2.a.put hS5 hu5
              have hb5 := hB2.b.far hu5 hB2.a.kinds
              have hO5 := hB2.a.cel hO (by decide) (by decide) (by decide) hu5
              have HB := Lib.hid (And.intro hB2.sub hB2.f2n)
              clear hB2 hO hS5 hu5 q0 q1 q2
              have q2 : w5.cell? ⟨kb, 2, none⟩ = some (.bool z) := hO5.cell 2
              go_wp2_with fail
              refine (rs_alloc w5 g r s n f2 first k U M hb5 hn64 z j k2 k3 HK.out.2.1 HK.out.2.2.2).mono ?_
              rintro e w6 ⟨rfl, hR6, hu6⟩
              have ha6 := ha5.beside hb5 gB rB sB hu6
              have hO6 := hb5.cel hO5 (by decide) (by decide) hu6
              have hR6' := hR6.congr (U' := putM U j) (M' := if z = true then putM M j else M) (fun t _ => rfl) (fun t _ => by
                cases z
                · rw [if_neg Bool.false_ne_true]
                  unfold setB
                  split
                  · rename_i e; rw [e]; exact HK.out.2.2.1.symm
                  · rfl
                · rw [if_pos rfl]; rfl)
              have hTw : Twin w.heap.size w w6 p u ku m km g r s n first k j j (putM U j) (if z = true then putM M j else M) :=
                ⟨ha6, hR6', gB, rB, sB, fun t ht => by
                  unfold putM
                  split
                  · rfl
                  · rename_i hne
                    refine HB.out.1 t ?_
                    cases z
                    · rw [if_neg Bool.false_ne_true] at ht; exact ht
                    · rw [if_pos rfl] at ht; unfold putM at ht; rw [if_neg hne] at ht; exact ht, rfl, by omega⟩
              clear ha5 hb5 hO5 ha6 hR6 hR6' hu6 q2
              go_wp2_with fail
              go_meet
              case rel => exact ⟨_, _, _, _, _, _, _, _, hTw, hO6⟩
            · have HK := Lib.hid (And.intro (hB2.next.trans k1) (fun t a c => by have := k5 t a c; simpa using this))
              clear k1 k5
              go_wp2_with fail
              refine (sp_alloc_full w4 p u ku m km n first k fr U M hB2.a.at_ (hB2.a.tab HT.out rfl) z HK.out.1).mono ?_
              rintro e w5 ⟨rfl, hb5⟩
              have hB5 := hB2.step hb5
              have hO5 := hO.ofBelow hb5
              clear hB2 hO hb5 q0 q1 q2
              have q2 : w5.cell? ⟨kb, 2, none⟩ = some (.bool z) := hO5.cell 2
              go_wp2_with fail
              refine (rs_alloc_full w5 g r s n f2 first k U M hB5.b hn64 hB5.f2n z HK.out.2).mono ?_
              rintro e w6 ⟨rfl, hR6, hu6⟩
              have hO6 := hB5.b.cel hO5 (by decide) (by decide) hu6
              have hTw : Twin w.heap.size w w6 p u ku m km g r s n first k fr n U M :=
                ⟨hB5.a.beside hB5.b gB rB sB hu6, hR6, gB, rB, sB, hB5.sub, by rw [HK.out.1]; exact (nextM_none (fun t a c => by omega)).symm, Nat.le_refl _⟩
              clear hB5 hO5 hR6 hu6 q2
              go_wp2_with fail
              go_meet
              case rel => exact ⟨_, _, _, _, _, _, _, _, hTw, hO6⟩
          | false =>
            have h012 := of_decide_eq_false HB3.out.symm
            have hz : zk = 3 ∨ zk = 4 ∨ (zk ≠ 3 ∧ zk ≠ 4) := by omega
            clear h012
            rcases hz with rfl | rfl | hz
            · obtain ⟨bv, hbv⟩ : ∃ bv, bv = (atM U y && !atM M y) := ⟨_, rfl⟩
              have HBV := Lib.hid hbv
              have hne : Nonempty (Kept (fun w' => Cel w' kb 39 #[.int .i64 x, .int .i64 y, .bool z])) := ⟨⟨_, hO⟩⟩
              have hq : ∀ x2 : Kept (fun w' => Cel w' kb 39 #[.int .i64 x, .int .i64 y, .bool z]), x2.1.cell? ⟨kb, 1, none⟩ = some (.int .i64 y) := fun x2 => x2.2.cell 1
              have H20 := Lib.hid hB2
              clear hbv hB2 q0 q1 q2
              go_upto_region 20 with fail
              refine wp_region_planS [([0, 1, 2, 4, 5, 6], [3, 7]), ([8], [])] (fun w' => Cel w' kb 39 #[.int .i64 x, .int .i64 y, .bool z]) (by kernel_rfl) (by kernel_rfl) (fun _ _ _ _ _ h => h) hO.drew ?_
              show wpQuiet _ _ _ _ (List.filterMap _ _) _
              simp only [List.filterMap_cons, List.filterMap_nil, List.getElem?_toArray, List.getElem?_cons_zero, List.getElem?_cons_succ]
              show wpQuiet _ _ _ _ [_, _, _, _, _, _] _
              repeat (go_big_quiet_step (fail))
              refine wpQuiet_nil ?_
              refine plan_op (o := ⟨_, _, _, _, _, _⟩) rfl rfl fun K hK => ?_
              go_simp
              go_at_call 25
              have hB5 := H20.out.step (Below.refl w4.heap.size w4).drew
              have hO5 := hO.ofBelow (Below.refl w4.heap.size w4).drew
              refine (sp_mark_int hB5.a.at_ y).mono ?_
              rintro e w6 ⟨rfl, hS6, hu6⟩
              rw [← HBV.out]
              have hu6' := hu6.mono (G := fun y => y = p ∨ y = u ∨ y = ku ∨ y = m ∨ y = km) (fun y hy _ => by rcases hy with hy | hy <;> simp [hy])
              have ha6 := hB5.a.mark hS6 hu6
              have hb6 := hB5.b.far hu6' hB5.a.kinds
              have hO6 := hB5.a.cel hO5 (by decide) (by decide) (by decide) hu6'
              refine hK _ _ ⟨⟨_, hO6⟩, rfl⟩ ?_
              clear hK K
              refine plan_op (o := ⟨_, _, _, _, _, _⟩) rfl rfl fun K hK => ?_
              go_simp
              go_at_call 26
              refine (rs_set_int hb6 hB5.a.at_.us.in y).mono ?_
              rintro e w7 ⟨rfl, hR7, hu7⟩
              rw [← HBV.out]
              have hO7 := hb6.cel hO6 (by decide) (by decide) hu7
              have hTw : Twin w.heap.size w w7 p u ku m km g r s n first k fr f2 U (mkM U M y) :=
                ⟨ha6.beside hb6 gB rB sB hu7, hR7, gB, rB, sB, mkM_sub hB5.sub, hB5.next, hB5.f2n⟩
              refine hK _ _ ⟨⟨_, hO7⟩, rfl⟩ ?_
              clear hK K
              show wpQuiet _ _ _ _ (List.filterMap _ _) _
              simp only [List.filterMap_cons, List.filterMap_nil, List.getElem?_toArray, List.getElem?_cons_zero, List.getElem?_cons_succ]
              show wpQuiet _ _ _ _ [_] _
              repeat (go_big_quiet_step (fail))
              refine wpQuiet_nil ?_
              unfold ChainK PlanP
              clear hB5 hO5 hS6 hu6 hu6' ha6 hb6 hO6 hR7 hu7 hq hO
              go_wp2_with fail
              go_meet
              case rel => exact ⟨_, _, _, _, _, _, _, _, hTw, hO7⟩
            · clear q0 q1 q2
              go_wp2_with fail
              refine (sp_sweep w4 p u ku m km n first k fr U M hB2.a.at_ (hB2.a.tab HT.out rfl)).mono ?_
              rintro e w5 ⟨v5, rfl, hv5, hS5, hu5⟩
              have hu5' := hu5.mono (G := fun y => y = p ∨ y = u ∨ y = ku ∨ y = m ∨ y = km) (fun y hy _ => by rcases hy with hy | hy | hy <;> simp [hy])
              have ha5 := hB2.a.swept hS5 hu5
              have hb5 := hB2.b.far hu5' hB2.a.kinds
              have hO5 := hB2.a.cel hO (by decide) (by decide) (by decide) hu5'
              have HB := Lib.hid hB2.sub
              clear hB2 hO hS5 hu5 hu5'
              go_wp2_with fail
              refine (rs_sweep w5 g r s n f2 first k U M hb5 hn64).mono ?_
              rintro e w6 ⟨v6, rfl, hv6, hR6, hu6⟩
              have hv5' := hb5.own hv5 hu6
              have ha6 := ha5.beside hb5 gB rB sB hu6
              have hO6 := hb5.cel hO5 (by decide) (by decide) hu6
              have hR6' := hR6.congr (U' := M) (M' := fun _ => false) (fun t _ => by
                cases hc : M t with
                | false => simp
                | true => rw [HB.out t hc]; rfl) (fun t _ => rfl)
              have hTw : Twin w.heap.size w w6 p m km u ku g r s n first k 0 0 M (fun _ => false) := ⟨ha6, hR6', gB, rB, sB, (fun t ht => by cases ht), rfl, by omega⟩
              clear ha5 hb5 hO5 ha6 hR6 hR6' hu6 hv5
              go_wp2_with fail
              refine (ints_any _ _ _ _ _ hv5'.rd hv6.rd (by rw [elems_len]; have := cnt_le (fun t => U t && !M t) n; omega)).mono ?_
              rintro e w7 ⟨rfl, q7, rfl⟩
              rw [decide_eq_true (show elems (fun t => U t && !M t) n = elems (dif U M) n from rfl)]
              have hTw7 := hTw.step (below_drewN q7)
              have hO7 := hO6.ofBelow (below_drewN q7)
              generalize w6.drewN q7 = w7 at hTw7 hO7 ⊢
              clear hTw hO6 hv5' hv6
              go_wp2_with fail
              go_meet
              case rel => exact ⟨_, _, _, _, _, _, _, _, hTw7, hO7⟩
            · skip
              have z3 : (zk == 3) = false := by simp; omega
              have z4 : (zk == 4) = false := by simp; omega
              clear hz q0 q1 q2
              go_wp2_with fail
              go_meet
              case rel => exact ⟨_, _, _, _, _, _, _, _, hB2, hO⟩
      case rest => as_aux_lemma =>
        clear hB2 hO
        try clear q0 q1 q2
        obtain ⟨fr, f2, u, ku, m, km, U, M, hTw, hO⟩ := hcut
        obtain ⟨bi, hbi⟩ : ∃ bi, bi = inB n y := ⟨_, rfl⟩
        have HI := Lib.hid hbi
        clear hbi
        go_upto_region 25 with fail
        have H25 := Lib.hid (And.intro hTw hO)
        clear hTw hO
        go_cut [16] (fun s16 wx => s16 = .bool bi ∧ Twin w.heap.size w wx p u ku m km g r s n first k fr f2 U M ∧ Cel wx kb 39 #[.int .i64 x, .int .i64 y, .bool z])
        case first =>
          have hways : (0 ≤ y ∧ y < (n : Int)) ∨ (0 ≤ y ∧ ¬ y < (n : Int)) ∨ ¬ 0 ≤ y := by omega
          rcases hways with ⟨y0, y1⟩ | ⟨y0, y1⟩ | y0
          · have hin := Lib.hid (inB_in y0 y1)
            have q1 : ∀ x2 : After wc.heap.size wc, x2.1.cell? ⟨kb, 1, none⟩ = some (.int .i64 y) := fun x2 => (H25.out.2.ofBelow x2.2).cell 1
            have q2 : ∃ c1, ∀ x2 : After wc.heap.size wc, x2.1.cell? ⟨g, 2, none⟩ = some (.slice (some ⟨r, 0, none⟩) n c1) := by
              obtain ⟨c1, _, _, _, z, _⟩ := H25.out.1.b.cells
              exact ⟨c1, fun x2 => (x2.2.cell (p := ⟨g, 2, none⟩) (World.block_lt_of_cell? wc ⟨g, 2, none⟩ z)).trans z⟩
            obtain ⟨c1, q2⟩ := q2
            refine wp_region_after wc.heap.size wc (by kernel_rfl) (by kernel_rfl) (Below.refl _ _) ?_
            repeat (go_big_quiet_step (fail))
            refine wpQuiet_nil ?_
            clear q1 q2
            intro w5 hb5
            have hTw5 := H25.out.1.step hb5
            have hO5 := H25.out.2.ofBelow hb5
            go_wp2_with fail
            go_meet
            case rel => exact ⟨by rw [HI.out, hin.out], hTw5, hO5⟩
          · have hin := Lib.hid (inB_out (n := n) (x := y) (by omega))
            have q1 : ∀ x2 : After wc.heap.size wc, x2.1.cell? ⟨kb, 1, none⟩ = some (.int .i64 y) := fun x2 => (H25.out.2.ofBelow x2.2).cell 1
            have q2 : ∃ c1, ∀ x2 : After wc.heap.size wc, x2.1.cell? ⟨g, 2, none⟩ = some (.slice (some ⟨r, 0, none⟩) n c1) := by
              obtain ⟨c1, _, _, _, z, _⟩ := H25.out.1.b.cells
              exact ⟨c1, fun x2 => (x2.2.cell (p := ⟨g, 2, none⟩) (World.block_lt_of_cell? wc ⟨g, 2, none⟩ z)).trans z⟩
            obtain ⟨c1, q2⟩ := q2
            refine wp_region_after wc.heap.size wc (by kernel_rfl) (by kernel_rfl) (Below.refl _ _) ?_
            repeat (go_big_quiet_step (fail))
            refine wpQuiet_nil ?_
            clear q1 q2
            intro w5 hb5
            have hTw5 := H25.out.1.step hb5
            have hO5 := H25.out.2.ofBelow hb5
            go_wp2_with fail
            go_meet
            case rel => exact ⟨by rw [HI.out, hin.out], hTw5, hO5⟩
          · have hin := Lib.hid (inB_out (n := n) (x := y) (by omega))
            have q1 : ∀ x2 : After wc.heap.size wc, x2.1.cell? ⟨kb, 1, none⟩ = some (.int .i64 y) := fun x2 => (H25.out.2.ofBelow x2.2).cell 1
            have q2 : ∃ c1, ∀ x2 : After wc.heap.size wc, x2.1.cell? ⟨g, 2, none⟩ = some (.slice (some ⟨r, 0, none⟩) n c1) := by
              obtain ⟨c1, _, _, _, z, _⟩ := H25.out.1.b.cells
              exact ⟨c1, fun x2 => (x2.2.cell (p := ⟨g, 2, none⟩) (World.block_lt_of_cell? wc ⟨g, 2, none⟩ z)).trans z⟩
            obtain ⟨c1, q2⟩ := q2
            refine wp_region_after wc.heap.size wc (by kernel_rfl) (by kernel_rfl) (Below.refl _ _) ?_
            repeat (go_big_quiet_step (fail))
            refine wpQuiet_nil ?_
            clear q1 q2
            intro w5 hb5
            have hTw5 := H25.out.1.step hb5
            have hO5 := H25.out.2.ofBelow hb5
            go_wp2_with fail
            go_meet
            case rel => exact ⟨by rw [HI.out, hin.out], hTw5, hO5⟩
        case rest =>
          clear H25
          obtain ⟨rfl, hTw, hO⟩ := hcut
          cases bi with
          | true => as_aux_lemma =>
            have hy := of_decide_eq_true HI.out.symm
            obtain ⟨j0, rfl⟩ := Int.eq_ofNat_of_zero_le hy.1
            have hj0 : j0 < n := by omega
            clear hy HI
            have q3 : ∀ x2 : After wc.heap.size wc, x2.1.cell? ⟨kb, 1, none⟩ = some (.int .i64 (j0 : Int)) := fun x2 => (hO.ofBelow x2.2).cell 1
            obtain ⟨c1, c2, _, _, z2, z3, _, zU, zM, _⟩ := hTw.b.cells
            have lg := World.block_lt_of_cell? wc ⟨g, 2, none⟩ z2
            have lr := World.block_lt_of_cell? wc ⟨r, j0, none⟩ (zU j0 hj0)
            have ls := World.block_lt_of_cell? wc ⟨s, j0, none⟩ (zM j0 hj0)
            have q4 : ∀ x2 : After wc.heap.size wc, x2.1.cell? ⟨g, 2, none⟩ = some (.slice (some ⟨r, 0, none⟩) n c1) := fun x2 => (x2.2.cell (p := ⟨g, 2, none⟩) lg).trans z2
            have q5 : ∀ x2 : After wc.heap.size wc, x2.1.cell? ⟨g, 3, none⟩ = some (.slice (some ⟨s, 0, none⟩) n c2) := fun x2 => (x2.2.cell (p := ⟨g, 3, none⟩) lg).trans z3
            obtain ⟨bu, hbu⟩ : ∃ bu, bu = U j0 := ⟨_, rfl⟩
            obtain ⟨bm, hbm⟩ : ∃ bm, bm = M j0 := ⟨_, rfl⟩
            have q6 : ∀ x2 : After wc.heap.size wc, x2.1.cell? ⟨r, j0, none⟩ = some (.bool bu) := fun x2 => by rw [hbu]; exact (x2.2.cell (p := ⟨r, j0, none⟩) lr).trans (zU j0 hj0)
            have q7 : ∀ x2 : After wc.heap.size wc, x2.1.cell? ⟨s, j0, none⟩ = some (.bool bm) := fun x2 => by rw [hbm]; exact (x2.2.cell (p := ⟨s, j0, none⟩) ls).trans (zM j0 hj0)
            obtain ⟨A, hA⟩ : ∃ A : Int, A = first * 64 + (j0 : Int) * szN k := ⟨_, rfl⟩
            have huu : (bu != bu) = false := by simp
            have hmm : (bm != bm) = false := by simp
            have hAA : ((A : Int) != A) = false := by simp
            have HJ := Lib.hid (And.intro hbu (And.intro hbm hA))
            clear z2 z3 zU zM lg lr ls hbu hbm hA
            have j1 : (0 : Int) ≤ (j0 : Int) := by omega
            have j2 : (j0 : Int) < (n : Int) := by omega
            have H26 := Lib.hid (And.intro hTw hO)
            obtain ⟨cl, hcl⟩ : ∃ cl, cl = cnt U n := ⟨_, rfl⟩
            obtain ⟨bf, hbf⟩ : ∃ bf, bf = decide (nextM U n false f2 < 0) := ⟨_, rfl⟩
            have hcc : ((cl : Int) != (cl : Int)) = false := by simp
            have hff : (bf != bf) = false := by simp
            have HL := Lib.hid (And.intro hcl hbf)
            clear hTw hO hcl hbf
            go_upto_region 26 with fail
            refine wp_region_after wc.heap.size wc (by kernel_rfl) (by kernel_rfl) (Below.refl _ _) ?_
            repeat (go_big_quiet_step (first
              | (go_at_call 30; exact after_call (v := .bool bu) (by rw [HJ.out.1, ← atM_nat U]; exact (sp_used _ p u ku m km n first k fr U M (H26.out.1.step (Subtype.property _)).a.at_ (j0 : Int)).mono fun _ _ ⟨he, hw⟩ => ⟨he, hw ▸ Below.refl _ _⟩))
              | (go_at_call 31; exact after_call (v := .bool bm) (by rw [HJ.out.2.1, ← atM_nat M]; exact (sp_marked _ p u ku m km n first k fr U M (H26.out.1.step (Subtype.property _)).a.at_ (j0 : Int)).mono fun _ _ ⟨he, hw⟩ => ⟨he, hw ▸ Below.refl _ _⟩))
              | (go_at_call 32; exact after_call (v := .int .i64 cl) (by rw [HL.out.1]; exact (sp_live _ p u ku m km n first k fr U M (H26.out.1.step (Subtype.property _)).a.at_).mono fun _ _ ⟨he, hw⟩ => ⟨he, hw ▸ Below.refl _ _⟩))
              | (go_at_call 33; exact after_call (v := .int .i64 cl) (by rw [HL.out.1]; exact (rs_live _ g r s n first k f2 U M (H26.out.1.step (Subtype.property _)).b hn64).mono fun _ _ ⟨he, hw⟩ => ⟨he, hw ▸ Below.refl _ _⟩))
              | (go_at_call 34; exact after_call (v := .bool bf) (by rw [HL.out.2, ← H26.out.1.next]; exact sp_full _ p u ku m km n first k fr U M (H26.out.1.step (Subtype.property _)).a.at_ ((H26.out.1.step (Subtype.property _)).a.tab HT.out rfl)))
              | (go_at_call 35; exact after_call (v := .bool bf) (by rw [HL.out.2]; exact (rs_full _ g r s n f2 first k U M (H26.out.1.step (Subtype.property _)).b hn64 H26.out.1.f2n).mono fun _ _ ⟨he, hw⟩ => ⟨he, hw ▸ Below.refl _ _⟩))
              | (go_at_call 18; exact after_call (v := .int .i64 A) (by rw [HJ.out.2.2]; exact sp_addr _ p u ku m km n first k fr U M (H26.out.1.step (Subtype.property _)).a.at_ j0 hj0 hn64))
              | (go_at_call 36; exact after_call (v := .int .i64 A) (by rw [HJ.out.2.2]; exact rs_addr _ g r s n f2 first k U M (H26.out.1.step (Subtype.property _)).b j0 hj0 hn64 hk ⟨hf1, hf2⟩))))
            refine wpQuiet_nil ?_
            clear q3 hcc hff
            clear q4 q5 q6 q7 huu hmm hAA
            intro w5 hb5
            have hTw5 := H26.out.1.step hb5
            have hO5 := H26.out.2.ofBelow hb5
            have q3 : w5.cell? ⟨kb, 1, none⟩ = some (.int .i64 (j0 : Int)) := hO5.cell 1
            clear H26 hb5
            go_wp2_with fail
            refine (sp_addr w5 p u ku m km n first k fr U M hTw5.a.at_ j0 hj0 hn64).mono ?_
            rintro e w7 ⟨rfl, hb7⟩
            have hTw7 := hTw5.step hb7
            have hO7 := hO5.ofBelow hb7
            clear hTw5 hO5 hb7 q3
            have q3 : w7.cell? ⟨kb, 1, none⟩ = some (.int .i64 (j0 : Int)) := hO7.cell 1
            rw [← HJ.out.2.2]
            go_wp2_with fail
            refine (sp_at w7 p u ku m km n first k fr U M hTw7.a.at_ A (j0 * sz) sz (by rw [HJ.out.2.2, HN.out.2, Int.natCast_mul]) (by have : j0 * sz ≤ 64 * 256 := Nat.mul_le_mul (by omega) hs2; omega) HN.out.2 hs1 hs2).mono ?_
            rintro e w8 ⟨hres, hb8⟩
            rw [if_pos ⟨Nat.mul_mod_left _ _, by rw [Nat.mul_div_cancel _ (by omega)]; exact hj0⟩, Nat.mul_div_cancel _ (show 0 < sz by omega)] at hres
            subst hres
            have hTw6 := hTw7.step hb8
            have hO8 := hO7.ofBelow hb8
            clear hTw7 hO7 hb8 q3
            have q3 : w8.cell? ⟨kb, 1, none⟩ = some (.int .i64 (j0 : Int)) := hO8.cell 1
            go_wp2_with fail
            go_roundg (ln - (i + 1))
            case measure => omega
            case rel => exact ⟨i + 1, fr, f2, u, ku, m, km, U, M, by go_num, by omega, Nat.le_refl _, hTw6⟩
          | false =>
            have hno := HI.out.symm
            clear HI
            have q3 : ∀ x2 : After wc.heap.size wc, x2.1.cell? ⟨kb, 1, none⟩ = some (.int .i64 y) := fun x2 => (hO.ofBelow x2.2).cell 1
            have hU0 := Lib.hid (atM_out hTw.a.at_.us.in hno)
            have hM0 := Lib.hid (atM_out hTw.a.at_.ms.in hno)
            have HNO := Lib.hid hno
            clear hno
            have H26 := Lib.hid (And.intro hTw hO)
            obtain ⟨cl, hcl⟩ : ∃ cl, cl = cnt U n := ⟨_, rfl⟩
            obtain ⟨bf, hbf⟩ : ∃ bf, bf = decide (nextM U n false f2 < 0) := ⟨_, rfl⟩
            have hcc : ((cl : Int) != (cl : Int)) = false := by simp
            have hff : (bf != bf) = false := by simp
            have HL := Lib.hid (And.intro hcl hbf)
            clear hTw hO hcl hbf
            go_upto_region 26 with fail
            refine wp_region_after wc.heap.size wc (by kernel_rfl) (by kernel_rfl) (Below.refl _ _) ?_
            repeat (go_big_quiet_step (first
              | (go_at_call 30; exact after_call (v := .bool false) (by rw [← hU0.out]; exact (sp_used _ p u ku m km n first k fr U M (H26.out.1.step (Subtype.property _)).a.at_ y).mono fun _ _ ⟨he, hw⟩ => ⟨he, hw ▸ Below.refl _ _⟩))
              | (go_at_call 31; exact after_call (v := .bool false) (by rw [← hM0.out]; exact (sp_marked _ p u ku m km n first k fr U M (H26.out.1.step (Subtype.property _)).a.at_ y).mono fun _ _ ⟨he, hw⟩ => ⟨he, hw ▸ Below.refl _ _⟩))
              | (go_at_call 32; exact after_call (v := .int .i64 cl) (by rw [HL.out.1]; exact (sp_live _ p u ku m km n first k fr U M (H26.out.1.step (Subtype.property _)).a.at_).mono fun _ _ ⟨he, hw⟩ => ⟨he, hw ▸ Below.refl _ _⟩))
              | (go_at_call 33; exact after_call (v := .int .i64 cl) (by rw [HL.out.1]; exact (rs_live _ g r s n first k f2 U M (H26.out.1.step (Subtype.property _)).b hn64).mono fun _ _ ⟨he, hw⟩ => ⟨he, hw ▸ Below.refl _ _⟩))
              | (go_at_call 34; exact after_call (v := .bool bf) (by rw [HL.out.2, ← H26.out.1.next]; exact sp_full _ p u ku m km n first k fr U M (H26.out.1.step (Subtype.property _)).a.at_ ((H26.out.1.step (Subtype.property _)).a.tab HT.out rfl)))
              | (go_at_call 35; exact after_call (v := .bool bf) (by rw [HL.out.2]; exact (rs_full _ g r s n f2 first k U M (H26.out.1.step (Subtype.property _)).b hn64 H26.out.1.f2n).mono fun _ _ ⟨he, hw⟩ => ⟨he, hw ▸ Below.refl _ _⟩))
              | (go_at_call 18; exact after_call (v := .int .i64 0) ((sp_addr_out _ p u ku m km n first k fr U M (H26.out.1.step (Subtype.property _)).a.at_ y (by have := of_decide_eq_false HNO.out; omega)).mono fun _ _ ⟨he, hw⟩ => ⟨he, hw ▸ Below.refl _ _⟩))
              | (go_at_call 36; exact after_call (v := .int .i64 0) ((rs_addr_out _ g r s n f2 first k U M (H26.out.1.step (Subtype.property _)).b y HNO.out).mono fun _ _ ⟨he, hw⟩ => ⟨he, hw ▸ Below.refl _ _⟩))))
            refine wpQuiet_nil ?_
            clear q3 hcc hff
            skip
            intro w5 hb5
            have hTw5 := H26.out.1.step hb5
            have hO5 := H26.out.2.ofBelow hb5
            have q3 : w5.cell? ⟨kb, 1, none⟩ = some (.int .i64 y) := hO5.cell 1
            clear H26 hb5
            go_wp2_with fail
            refine (sp_addr_out w5 p u ku m km n first k fr U M hTw5.a.at_ y (by have := of_decide_eq_false HNO.out; omega)).mono ?_
            rintro e w' ⟨rfl, rfl⟩
            go_wp2_with fail
            refine (sp_at_low w5 p u ku m km n first k fr U M hTw5.a.at_ 0 (by omega)).mono ?_
            rintro e w' ⟨rfl, rfl⟩
            have hTw6 := hTw5
            go_wp2_with fail
            go_roundg (ln - (i + 1))
            case measure => omega
            case rel => exact ⟨i + 1, fr, f2, u, ku, m, km, U, M, by go_num, by omega, Nat.le_refl _, hTw6⟩
    · have hlt' : (i : Int) < (ln : Int) ∧ ¬ (i : Int) < 100 ∨ ¬ (i : Int) < (ln : Int) := by omega
      have HE := Lib.hid hTw
      clear hTw
      rcases hlt' with ⟨hl1, hl2⟩ | hl1
      all_goals
        go_wp2_with fail
        refine (told6_any _ (HT.out.ofBelow HE.out.a.below)).mono ?_
        rintro e w3 ⟨rfl, hb3⟩
        have hB3 := HE.out.step hb3
        go_wp2_with fail
        go_ret
        exact ⟨rfl, hB3.a.below⟩
theorem SpanPlays_walk (w : World) (hT : Tab w) (first class_ : Int) (a : Option Addr) (n c : Nat) (f g : Nat → Int) (hz : Nat → Bool) (h : Trs w a n f g hz) (hn : n ≤ 9223372036854775807) :
    Calls Tryd.prog 4 #[.int .i64 first, .int .i64 class_, .slice a n c] w fun e w' => e = .returned (.bool true) ∧ Below w.heap.size w w' := by
  by_cases hno : (class_ < 0 ∨ 15 < class_) ∨ first < 1 ∨ 262144 < first
  · exact splays_not n c a first class_ w hT hno
  · obtain ⟨k, rfl⟩ := Int.eq_ofNat_of_zero_le (show 0 ≤ class_ by omega)
    obtain ⟨s, n', P, e1, e2, e3, s1, s2, n1, n2, p1, p2, hns⟩ := cls_nums k (by omega)
    obtain ⟨b, off, ha, hc⟩ := h
    exact splays_core b off n c k n' s a f g hz first w hT hn ha hc (by omega) (by omega) (by omega) e2 n1 n2 e1 s1 s2
end Go.Proofs.YtpbghoddemffhaaDoor
