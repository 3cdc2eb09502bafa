/-
  The walk of SpanCycles: it returns true whatever came in. Under: the library's table.
-/
import Derived.Test.YtpbghoddemffhaaDoorSpCP
namespace Go.Proofs.YtpbghoddemffhaaDoor
open Go.RowKit
set_option maxRecDepth 100000
set_option maxHeartbeats 4000000

theorem cycles_core (class_ : Int) (k n b off L c b2 off2 L2 c2 : Nat) (a a2 : Option Addr) (l l2 : List Int) (w : World) (hT : Tab w)
    (u1 : 0 ≤ IntKind.u64.wrap class_) (hk : IntKind.u64.wrap class_ % 16 = (k : Int)) (hk16 : k < 16) (hn : slN k = (n : Int)) (hn1 : 1 ≤ n) (hn2 : n ≤ 64)
    (h12 : L ≤ 12) (hLL : L ≤ L2) (ha : 0 < L → a = some ⟨b, off, none⟩) (ha2 : 0 < L2 → a2 = some ⟨b2, off2, none⟩)
    (hcell : ∀ j, j < L → w.cell? ⟨b, off + j, none⟩ = some (.int .i64 (l.getD j 0))) (hcell2 : ∀ j, j < L2 → w.cell? ⟨b2, off2 + j, none⟩ = some (.int .i64 (l2.getD j 0))) :
    Calls Tryd.prog 10 #[.int .i64 class_, .slice a L c, .slice a2 L2 c2] w fun e w' => e = .returned (.bool true) ∧ Below w.heap.size w w' := by
  have HC : Hid (∀ j, j < L → ∀ wr, Below w.heap.size w wr → wr.cell? ⟨b, off + j, none⟩ = some (.int .i64 (l.getD j 0))) :=
    fun j hj wr hb => (hb.cell (p := ⟨b, off + j, none⟩) (World.block_lt_of_cell? w ⟨b, off + j, none⟩ (hcell j hj))).trans (hcell j hj)
  have HC2 : Hid (∀ j, j < L2 → ∀ wr, Below w.heap.size w wr → wr.cell? ⟨b2, off2 + j, none⟩ = some (.int .i64 (l2.getD j 0))) :=
    fun j hj wr hb => (hb.cell (p := ⟨b2, off2 + j, none⟩) (World.block_lt_of_cell? w ⟨b2, off2 + j, none⟩ (hcell2 j hj))).trans (hcell2 j hj)
  have HA := Lib.hid (And.intro ha ha2)
  have HT := Lib.hid hT
  have HN := Lib.hid hn
  clear hcell ha hT hcell2 ha2 hn
  have i12 : ¬ 12 < (L : Int) := by omega
  have iLL : decide (L2 < L) = false := decide_eq_false (by omega)
  go_enter Tryd.func10, Tryd.ntmps10
  go_wp2_with fail
  refine (sp_new w 7 k n hk16 (by omega) (by omega) HN.out).mono ?_
  rintro e w1 ⟨h0, hb0⟩
  obtain ⟨p, u, ku, m, km, rfl, h1⟩ := SpIn.new h0 hb0
  clear h0 hb0
  go_wp2_with fail
  clear u1 hk iLL i12
  have hO : Own w1 w.heap.size (.slice none 0 0) (elems (fun _ => false) n) := by rw [elems_none]; exact Own.nil _ _
  go_loopg [9, 10] L (fun q s9 s10 ws => ∃ (i fr u ku m km : Nat) (U : Nat → Bool), s10 = .int .i64 i ∧ i ≤ L ∧ L - i ≤ q ∧ fr ≤ n ∧ Hid (∀ t, t < fr → U t = true) ∧ SpIn w.heap.size w ws p u ku m km n 7 k fr U (fun _ => false) ∧ Own ws w.heap.size s9 (elems U n))
  case atStart => exact ⟨0, 0, u, ku, m, km, _, rfl, by omega, by omega, by omega, (fun t h => by omega), h1, hO⟩
  case round =>
    clear h1 hO
    obtain ⟨i, fr, u, ku, m, km, U, rfl, hi, hq, hfn, hfU, h1, hO⟩ := hrel
    by_cases hlt : i < L
    · obtain rfl := HA.out.1 (by omega)
      obtain rfl := HA.out.2 (by omega)
      obtain ⟨x, hx⟩ : ∃ x, x = l.getD i 0 := ⟨_, rfl⟩
      obtain ⟨y, hy⟩ : ∃ y, y = l2.getD i 0 := ⟨_, rfl⟩
      have HX : Hid (∀ wr, Below w.heap.size w wr → wr.cell? ⟨b, off + i, none⟩ = some (.int .i64 x) ∧ wr.cell? ⟨b2, off2 + i, none⟩ = some (.int .i64 y)) := fun wr hb => by
        rw [hx, hy]; exact ⟨HC.out i hlt wr hb, HC2.out i (by omega) wr hb⟩
      have ux : 0 ≤ IntKind.u64.wrap x := by rw [IntKind.wrap_u64]; exact Int.emod_nonneg _ (by omega)
      have uy : 0 ≤ IntKind.u64.wrap y := by rw [IntKind.wrap_u64]; exact Int.emod_nonneg _ (by omega)
      obtain ⟨x20, hx20⟩ := Int.eq_ofNat_of_zero_le (show 0 ≤ IntKind.u64.wrap x % 20 from Int.emod_nonneg _ (by omega))
      obtain ⟨y4, hy4⟩ := Int.eq_ofNat_of_zero_le (show 0 ≤ IntKind.u64.wrap y % 4 from Int.emod_nonneg _ (by omega))
      have hx20' : x20 < 20 := by have := Int.emod_lt_of_pos (IntKind.u64.wrap x) (show (0:Int) < 20 by omega); omega
      have hy4' : y4 < 4 := by have := Int.emod_lt_of_pos (IntKind.u64.wrap y) (show (0:Int) < 4 by omega); omega
      have HXY := Lib.hid (And.intro ux (And.intro hx20 (And.intro uy hy4)))
      clear hx hy ux uy hx20 hy4
      have i1 : (i : Int) < (L : Int) := by omega
      have i0 : (0 : Int) ≤ (i : Int) := by omega
      have i2 : (i : Int) < (L2 : Int) := by omega
      go_wp2_with fail
      go_loopg [9, 11] x20 (fun q s9 s11 ws => ∃ (z fr : Nat) (U : Nat → Bool), s11 = .int .i64 z ∧ z ≤ x20 ∧ x20 - z ≤ q ∧ fr ≤ n ∧ Hid (∀ t, t < fr → U t = true) ∧ SpIn w.heap.size w ws p u ku m km n 7 k fr U (fun _ => false) ∧ Own ws w.heap.size s9 (elems U n))
      case atStart => exact ⟨0, fr, U, rfl, by omega, by omega, hfn, hfU, h1, hO⟩
      case round =>
        clear h1 hO hfU hfn
        obtain ⟨z, fr, U, rfl, hz, hq2, hfn, hfU, h1, hO⟩ := hrel
        have c1 := (HX.out _ h1.below).1
        obtain ⟨ux, hx20, _, _⟩ := HXY.out
        by_cases hlt2 : z < x20
        · go_wp2_with fail
          clear c1 ux hx20
          rcases nextM_cases U n false fr with ⟨j, k1, k2, k3, k4, k5⟩ | ⟨k1, k5⟩
          · refine (sp_alloc wr p u ku m km n 7 k fr _ _ h1.at_ (h1.tab HT.out rfl) false j k1 k3 k4).mono ?_
            rintro e w2 ⟨rfl, hS2, hu2⟩
            have h2 := h1.put hS2 hu2
            have hO2 := h1.own hO hu2
            rw [if_neg Bool.false_ne_true] at h2
            obtain ⟨a9, c9, hs9⟩ := hO2.rd.form
            obtain ⟨g, hg⟩ : ∃ g, g = (elems U n).length := ⟨_, rfl⟩
            rw [← hg] at hs9
            subst hs9
            have hgn : g < n := by rw [hg, elems_len]; exact cnt_less k4 n k3
            have gn : ((g : Int) == (n : Int)) = false := by simp; omega
            have HU : Hid (∀ t, t < j → putM U j t = true) := fun t ht => by
              unfold putM
              rw [if_neg (by omega)]
              by_cases e : t < fr
              · exact hfU.out t e
              · have := k5 t (by omega) ht; simpa using this
            have HJ := Lib.hid (And.intro k4 (And.intro k3 hg))
            clear h1 hO hS2 hu2 k1 k2 k3 k4 k5 hfU hfn hg
            go_wp2_with fail
            refine (sp_slots _ _ _ _ _ _ _ _ _ _ _ _ h2.at_).mono ?_
            rintro e w' ⟨rfl, rfl⟩
            go_wp2_with fail
            refine (rhas_any _ _ _ _ hO2.rd (by rw [← HJ.out.2.2]; omega)).mono ?_
            rintro e w' ⟨rfl, rfl⟩
            rw [hasL_at_elems (fun t ht => by
              by_cases e : t = j
              · rw [e] at ht; rw [HJ.out.1] at ht; cases ht
              · exact h2.at_.us.in t (by unfold putM; rw [if_neg e]; exact ht)), atM_nat, HJ.out.1]
            go_wp2_with fail
            refine (rput_any _ _ _ _ _ hO2 (by rw [← HJ.out.2.2]; omega) h2.size).mono ?_
            rintro e w4 ⟨v4, rfl, hv4, hb4⟩
            rw [elems_put U n j HJ.out.2.1] at hv4
            have h4 := h2.step hb4
            clear h2 hO2 hb4
            go_wp2_with fail
            go_roundg (x20 - (z + 1))
            case measure => omega
            case rel => exact ⟨z + 1, j, _, by go_num, by omega, Nat.le_refl _, by have := HJ.out.2.1; omega, HU, h4, hv4⟩
          · refine (sp_alloc_full _ _ _ _ _ _ _ _ _ _ _ _ h1.at_ (h1.tab HT.out rfl) false k1).mono ?_
            rintro e w2 ⟨rfl, hb2⟩
            have h2 := h1.step hb2
            have hO2 := hO.ofBelow hb2
            obtain ⟨a9, c9, hs9⟩ := hO2.rd.form
            rw [show (elems U n).length = n by
              rw [elems_len]
              exact cnt_full n (fun t ht => by
                by_cases e : t < fr
                · exact hfU.out t e
                · have := k5 t (by omega) ht; simpa using this)] at hs9
            subst hs9
            clear h1 hO hb2 k1 k5
            go_wp2_with fail
            refine (sp_slots _ _ _ _ _ _ _ _ _ _ _ _ h2.at_).mono ?_
            rintro e w' ⟨rfl, rfl⟩
            go_wp2_with fail
            go_roundg (x20 - (z + 1))
            case measure => omega
            case rel => exact ⟨z + 1, fr, U, by go_num, by omega, Nat.le_refl _, hfn, hfU, h2, hO2⟩
        · obtain rfl : z = x20 := by omega
          have c2 := (HX.out _ h1.below).2
          obtain ⟨_, _, uy, hy4⟩ := HXY.out
          obtain ⟨mm, hmm⟩ : ∃ mm : Nat, 1 + (y4 : Int) = (mm : Int) := ⟨1 + y4, by omega⟩
          have hm1 : 1 ≤ mm := by omega
          have hm4 : mm ≤ 4 := by omega
          obtain ⟨a9, c9, hs9⟩ := hO.rd.form
          obtain ⟨g, hg⟩ : ∃ g, g = (elems U n).length := ⟨_, rfl⟩
          rw [← hg] at hs9
          subst hs9
          have hgn : g ≤ n := by rw [hg, elems_len]; exact cnt_le U n
          have HG := Lib.hid hg
          clear hg
          go_wp2_with fail
          clear c1 c2 ux hx20 uy hy4 hmm
          generalize IntKind.u64.wrap x % 20 = v57
          generalize IntKind.u64.wrap y % 4 = v91
          go_loopg [14, 15, 17] g (fun q s14 s15 s17 ws => ∃ (t ps : Nat) (M : Nat → Bool), s17 = .int .i64 t ∧ t ≤ g ∧ g - t ≤ q ∧ ps ≤ n ∧ SpIn w.heap.size w ws p u ku m km n 7 k fr U M ∧ Own ws w.heap.size (.slice a9 g c9) (elems U n) ∧ Own ws w.heap.size s14 (elems M n) ∧ Own ws w.heap.size s15 (elems (dif U M) ps) ∧ Dis s14 (.slice a9 g c9) ∧ Dis s15 (.slice a9 g c9) ∧ Dis s14 s15 ∧ Hid (∀ x, ps ≤ x → M x = false) ∧ Hid (∃ l, l.length = t ∧ l ++ elemsF U (n - ps) ps = elems U n))
          case atStart =>
            exact ⟨0, 0, fun _ => false, rfl, by omega, by omega, by omega, h1, hO, by rw [elems_none]; exact Own.nil _ _, Own.nil _ _, Dis.nil _, Dis.nil _, Dis.nil _, (fun _ _ => rfl), ⟨[], rfl, rfl⟩⟩
          case round =>
            clear h1 hO
            obtain ⟨t, ps, M, rfl, ht, hq3, hps, h1, hO, hO1, hO2, hd1, hd2, hd3, hM, hL⟩ := hrel
            by_cases hlt3 : t < g
            · obtain ⟨j, hpj, hjn, hUj, hno, hget, hL2⟩ := walk_next HG.out hlt3 hL.out
              obtain ⟨r, hr⟩ : ∃ r, r = t % mm := ⟨_, rfl⟩
              have hr1 : (t : Int) % (mm : Int) = (r : Int) := by rw [hr]; rfl
              have hr2 : (t : Int).tmod (mm : Int) = (r : Int) := by rw [hr]; rfl
              have hrm : r < mm := by rw [hr]; exact Nat.mod_lt _ (by omega)
              have d2 : ((mm : Int) == 0) = false := by simp; omega
              obtain ⟨_, bo, offo, hva, hcl⟩ := hO.rd.plain
              obtain rfl := hva (by omega)
              have e1 := hcl t hlt3
              rw [hget] at e1
              have j1 : (0 : Int) ≤ (t : Int) := by omega
              have j2 : (t : Int) < (g : Int) := by omega
              have HJ := Lib.hid (And.intro hUj (And.intro hno hL2))
              clear hr hva hcl hget hUj hno hL hL2
              by_cases h0 : r = 0
              · have g0 : ((r : Int) == 0) = true := by simp; omega
                clear h0
                go_wp2_with fail
                refine (sp_mark wr p u ku m km n 7 k fr U M h1.at_ j HJ.out.1).mono ?_
                rintro e w2 ⟨rfl, hS2, hu2⟩
                rw [hM.out j hpj, show (!false) = true from rfl]
                have h2 := h1.mark hS2 hu2
                have o := h1.at_.ms.own hO hu2
                have o1 := h1.at_.ms.own hO1 hu2
                have o2 := h1.at_.ms.own hO2 hu2
                have HM2 : Hid (∀ x, j + 1 ≤ x → putM M j x = false) := fun x hx => by
                  unfold putM; rw [if_neg (by omega)]; exact hM.out x (by omega)
                have HE := Lib.hid (And.intro (elems_push (M := M) (n := n) (fun x hx => hM.out x (by omega)) hjn) (dif_stay (U := U) (M := M) hpj HJ.out.2.1))
                obtain ⟨_, bo', offo', hva, hcl⟩ := o.rd.plain
                have f1 := hva (by omega)
                injection f1 with f1
                injection f1 with f1 f2
                have e2 := hcl t hlt3
                have f3 : (elems U n).getD t 0 = (j : Int) := by
                  have x1 := hO.rd.plain
                  obtain ⟨_, bo2, offo2, hva2, hcl2⟩ := x1
                  have y1 := hva2 (by omega)
                  injection y1 with y1
                  injection y1 with y1 y2
                  have y3 := hcl2 t hlt3
                  rw [← y1, ← y2, e1] at y3
                  injection y3 with y3
                  injection y3 with _ y3
                  exact y3.symm
                rw [f3, ← f1, ← f2] at e2
                clear h1 hO hO1 hO2 hS2 hu2 hM e1 hva hcl f1 f2 f3
                obtain ⟨a14, c14, hs14⟩ := o1.rd.form
                obtain ⟨ol, hol⟩ : ∃ ol, ol = (elems M n).length := ⟨_, rfl⟩
                have hle : ol ≤ 64 := by rw [hol, elems_len]; have := cnt_le M n; omega
                rw [← hol] at hs14
                subst hs14
                have HOL := Lib.hid hol
                clear hol
                go_wp2_with (at_builtin; refine wpList_append_rd rfl (.tmp 111) (.tmp 116) rfl rfl rfl (o1.alloc _) (Rd.one _ _) (by have := h2.size; simp; omega) (ol + 1) (by rw [← HOL.out]; rfl) (by omega) ?_; intro a5 c5 w5 hown5 hg5 hat5)
                have h5 := h2.append o1 _ hg5
                obtain ⟨p1, p2⟩ := o.apart (nv := .slice a5 (ol + 1) c5) hd1 _ hg5 hat5
                obtain ⟨p3, p4⟩ := o2.apart (nv := .slice a5 (ol + 1) c5) hd3 _ hg5 hat5
                go_roundg (g - (t + 1))
                case measure => omega
                case rel => exact ⟨t + 1, j + 1, putM M j, by go_num, by omega, Nat.le_refl _, by omega, h5, p1, by rw [HE.out.1]; exact hown5, by rw [HE.out.2]; exact p3, p2, hd2, p4, HM2, HJ.out.2.2⟩
              · have g0 : ((r : Int) == 0) = false := by simp; omega
                clear h0
                have HE := Lib.hid (dif_gone (U := U) (M := M) hpj HJ.out.2.1 HJ.out.1 hM.out)
                obtain ⟨a15, c15, hs15⟩ := hO2.rd.form
                obtain ⟨ol, hol⟩ : ∃ ol, ol = (elems (dif U M) ps).length := ⟨_, rfl⟩
                have hle : ol ≤ 64 := by rw [hol, elems_len]; have := cnt_le (dif U M) ps; omega
                rw [← hol] at hs15
                subst hs15
                have HOL := Lib.hid hol
                clear hol
                go_wp2_with (at_builtin; refine wpList_append_rd rfl (.tmp 118) (.tmp 123) rfl rfl rfl (hO2.alloc _) (Rd.one _ _) (by have := h1.size; simp; omega) (ol + 1) (by rw [← HOL.out]; rfl) (by omega) ?_; intro a5 c5 w5 hown5 hg5 hat5)
                have h5 := h1.append hO2 _ hg5
                obtain ⟨p1, p2⟩ := hO.apart (nv := .slice a5 (ol + 1) c5) hd2 _ hg5 hat5
                obtain ⟨p3, p4⟩ := hO1.apart (nv := .slice a5 (ol + 1) c5) hd3.symm _ hg5 hat5
                go_roundg (g - (t + 1))
                case measure => omega
                case rel => exact ⟨t + 1, j + 1, M, by go_num, by omega, Nat.le_refl _, by omega, h5, p1, p3, by rw [HE.out]; exact hown5, hd1, p2, p4.symm, (fun x hx => hM.out x (by omega)), HJ.out.2.2⟩
            · obtain rfl : t = g := by omega
              have hend := walk_end HG.out hL.out
              have hdif : elems (dif U M) ps = elems (fun t => U t && !M t) n := (elems_gap n hps (fun x a c => by unfold dif; rw [hend x a c]; rfl)).symm
              rw [hdif] at hO2
              obtain ⟨a14, c14, hs14⟩ := hO1.rd.form
              obtain ⟨ol, hol⟩ : ∃ ol, ol = (elems M n).length := ⟨_, rfl⟩
              rw [← hol] at hs14
              subst hs14
              have HOL := Lib.hid hol
              clear hol hdif hend hL hM hd1 hd2 hd3
              go_wp2_with fail
              refine (sp_sweep wr p u ku m km n 7 k fr U M h1.at_ (h1.tab HT.out rfl)).mono ?_
              rintro e w3 ⟨v3, rfl, hv3, hS3, hu3⟩
              have hu3' := hu3.mono (G := fun y => y = p ∨ y = u ∨ y = ku ∨ y = m ∨ y = km) (fun y hy _ => by rcases hy with hy | hy | hy <;> simp [hy])
              have h3 := h1.swept hS3 hu3
              have o1 := h1.own hO1 hu3'
              have o2 := h1.own hO2 hu3'
              clear h1 hO hO1 hO2 hS3 hu3 hu3'
              go_wp2_with fail
              refine (ints_any _ _ _ _ _ hv3.rd o2.rd (by rw [elems_len]; have := cnt_le (fun t => U t && !M t) n; omega)).mono ?_
              rintro e w4 ⟨rfl, q4, rfl⟩
              rw [decide_eq_true (rfl : elems (fun t => U t && !M t) n = elems (fun t => U t && !M t) n)]
              have h4 := h3.step (below_drewN q4)
              have o4 := o1.ofBelow (below_drewN q4)
              generalize w3.drewN q4 = w4 at h4 o4 ⊢
              clear h3 o1 o2 hv3
              go_wp2_with fail
              refine (sp_live _ _ _ _ _ _ _ _ _ _ _ _ h4.at_).mono ?_
              rintro e w' ⟨rfl, rfl⟩
              rw [← elems_len, ← HOL.out]
              go_wp2_with fail
              go_roundg (L - (i + 1))
              case measure => omega
              case rel => exact ⟨i + 1, 0, m, km, u, ku, M, by go_num, by omega, Nat.le_refl _, by omega, (fun x hx => by omega), h4, o4⟩
    · obtain rfl : i = L := by omega
      go_wp2_with fail
      refine (told6_any _ (h1.tab HT.out rfl)).mono ?_
      rintro e w2 ⟨rfl, hb2⟩
      have h2 := h1.step hb2
      go_wp2_with fail
      go_ret
      exact ⟨rfl, h2.below⟩
theorem cycles_long (class_ : Int) (k n L c L2 c2 : Nat) (a a2 : Option Addr) (w : World) (hT : Tab w)
    (u1 : 0 ≤ IntKind.u64.wrap class_) (hk : IntKind.u64.wrap class_ % 16 = (k : Int)) (hk16 : k < 16) (hn : slN k = (n : Int)) (hlong : 12 < L ∨ (L ≤ 12 ∧ L2 < L)) :
    Calls Tryd.prog 10 #[.int .i64 class_, .slice a L c, .slice a2 L2 c2] w fun e w' => e = .returned (.bool true) ∧ Below w.heap.size w w' := by
  have HT := Lib.hid hT
  have HN := Lib.hid hn
  clear hT hn
  rcases hlong with h | ⟨h, h2⟩
  · have i12 : 12 < (L : Int) := by omega
    go_enter Tryd.func10, Tryd.ntmps10
    go_wp2_with fail
    refine (sp_new w 7 k n hk16 (by omega) (by omega) HN.out).mono ?_
    rintro e w1 ⟨h0, hb0⟩
    obtain ⟨p, u, ku, m, km, rfl, h1⟩ := SpIn.new h0 hb0
    clear h0 hb0
    go_wp2_with fail
    refine (told6_any _ (h1.tab HT.out rfl)).mono ?_
    rintro e w2 ⟨rfl, hb2⟩
    have h2 := h1.step hb2
    go_wp2_with fail
    go_ret
    exact ⟨rfl, h2.below⟩
  · have i12 : ¬ 12 < (L : Int) := by omega
    have iLL : decide (L2 < L) = true := decide_eq_true h2
    go_enter Tryd.func10, Tryd.ntmps10
    go_wp2_with fail
    refine (sp_new w 7 k n hk16 (by omega) (by omega) HN.out).mono ?_
    rintro e w1 ⟨h0, hb0⟩
    obtain ⟨p, u, ku, m, km, rfl, h1⟩ := SpIn.new h0 hb0
    clear h0 hb0
    go_wp2_with fail
    refine (told6_any _ (h1.tab HT.out rfl)).mono ?_
    rintro e w2 ⟨rfl, hb2⟩
    have h2 := h1.step hb2
    go_wp2_with fail
    go_ret
    exact ⟨rfl, h2.below⟩
theorem SpanCycles_walk (w : World) (hT : Tab w) (class_ : Int) (a : Option Addr) (L c : Nat) (l : List Int) (hr : Rd w (.slice a L c) l) (_hle : l.length ≤ 9223372036854775807) (a2 : Option Addr) (L2 c2 : Nat) (l2 : List Int) (hr2 : Rd w (.slice a2 L2 c2) l2) (_hle2 : l2.length ≤ 9223372036854775807) :
    Calls Tryd.prog 10 #[.int .i64 class_, .slice a L c, .slice a2 L2 c2] w fun e w' => e = .returned (.bool true) ∧ Below w.heap.size w w' := by
  have u1 : 0 ≤ IntKind.u64.wrap class_ := by rw [IntKind.wrap_u64]; exact Int.emod_nonneg _ (by omega)
  have a1 : IntKind.u64.wrap class_ % 16 < 16 := Int.emod_lt_of_pos _ (by omega)
  obtain ⟨k, hk⟩ := Int.eq_ofNat_of_zero_le (show 0 ≤ IntKind.u64.wrap class_ % 16 from Int.emod_nonneg _ (by omega))
  obtain ⟨s, n, P, e1, e2, e3, s1, s2, n1, n2, p1, p2, hns⟩ := cls_nums k (by omega)
  obtain ⟨hl, b, off, ha, hc⟩ := hr.plain
  obtain ⟨hl2, b2, off2, ha2, hc2⟩ := hr2.plain
  by_cases h : L ≤ 12 ∧ L ≤ L2
  · exact cycles_core class_ k n b off L c b2 off2 L2 c2 a a2 l l2 w hT u1 hk (by omega) e2 n1 n2 h.1 h.2 ha ha2 hc hc2
  · exact cycles_long class_ k n L c L2 c2 a a2 w hT u1 hk (by omega) e2 (by omega)
end Go.Proofs.YtpbghoddemffhaaDoor
