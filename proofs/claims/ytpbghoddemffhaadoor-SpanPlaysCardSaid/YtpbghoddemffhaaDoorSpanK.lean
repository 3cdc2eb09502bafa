/-
  The walk of SpanKeeps: it returns true whatever came in. Under: the library's table.
-/
import Derived.Test.YtpbghoddemffhaaDoorSpKP
namespace Go.Proofs.YtpbghoddemffhaaDoor
open Go.RowKit
set_option maxRecDepth 100000
set_option maxHeartbeats 4000000

theorem SpIn.own {B : Nat} {w0 w w' : World} {p u ku m km n : Nat} {first k from_ : Int} {U M : Nat → Bool} {v : Value} {l : List Int} (h : SpIn B w0 w p u ku m km n first k from_ U M) (hO : Own w B v l) (hu : Upd (fun y => y = p ∨ y = u ∨ y = ku ∨ y = m ∨ y = km) w w') : Own w' B v l := by
  obtain ⟨_, _, a1, a2, _⟩ := h.at_.us
  obtain ⟨_, _, b1, b2, _⟩ := h.at_.ms
  refine hO.upd hu (fun q hq e => ?_)
  rcases e with e | e | e | e | e
  · exact hO.typed h.at_.cel (by decide) q hq e
  · exact hO.typed a1 (by decide) q hq e
  · exact hO.typed a2 (by decide) q hq e
  · exact hO.typed b1 (by decide) q hq e
  · exact hO.typed b2 (by decide) q hq e
theorem SpIn.append {B : Nat} {w0 w w' : World} {p u ku m km n : Nat} {first k from_ : Int} {U M : Nat → Bool} {v : Value} {l : List Int} (h : SpIn B w0 w p u ku m km n first k from_ U M) (hO : Own w B v l) (o : Obj) (hg : (w.alloc o).grownBy w' v.ownBlock) : SpIn B w0 w' p u ku m km n first k from_ U M := by
  have hu : Upd (fun b => v.ownBlock = some b) w w' := ((Upd.refl _ w).alloc o).grown hg (fun q hq _ => hq.symm ▸ rfl)
  obtain ⟨_, _, a1, a2, _⟩ := h.at_.us
  obtain ⟨_, _, b1, b2, _⟩ := h.at_.ms
  refine ⟨h.at_.upd hu ?_ ?_ ?_ ?_ ?_, h.pB, h.uB, h.kuB, h.mB, h.kmB, Nat.le_trans h.size hu.size, below_upd h.below hu h.size (fun q hq => (hO.ge q hq).1)⟩
  · exact fun e => hO.typed h.at_.cel (by decide) _ e rfl
  · exact fun e => hO.typed a1 (by decide) _ e rfl
  · exact fun e => hO.typed a2 (by decide) _ e rfl
  · exact fun e => hO.typed b1 (by decide) _ e rfl
  · exact fun e => hO.typed b2 (by decide) _ e rfl
theorem keeps_core (class_ n_ black marks : Int) (k n kk b0 m0 b mm : Nat) (w : World) (hT : Tab w)
    (u1 : 0 ≤ IntKind.u64.wrap class_) (hk : IntKind.u64.wrap class_ % 16 = (k : Int)) (hk16 : k < 16) (u2 : 0 ≤ IntKind.u64.wrap n_) (hkk : IntKind.u64.wrap n_ % ((n : Int) + 1) = (kk : Int)) (hkn : kk ≤ n)
    (u3 : 0 ≤ IntKind.u64.wrap black) (hb0 : IntKind.u64.wrap black % 5 = (b0 : Int)) (hb : 1 + (b0 : Int) = (b : Int)) (u4 : 0 ≤ IntKind.u64.wrap marks) (hm0 : IntKind.u64.wrap marks % 5 = (m0 : Int)) (hm : 1 + (m0 : Int) = (mm : Int))
    (hb5 : b ≤ 5) (hm5 : mm ≤ 5) (hn : slN k = (n : Int)) (hn1 : 1 ≤ n) (hn2 : n ≤ 64) :
    Calls Tryd.prog 11 #[.int .i64 class_, .int .i64 n_, .int .i64 black, .int .i64 marks] w fun e w' => e = .returned (.bool true) ∧ Below w.heap.size w w' := by
  have HT := Lib.hid hT
  have HN := Lib.hid hn
  have HQ := Lib.hid hkk
  have hb1 : 1 ≤ b := by omega
  have hm1 : 1 ≤ mm := by omega
  have HB := Lib.hid (And.intro u3 (And.intro hb0 (And.intro hb (And.intro u4 (And.intro hm0 hm)))))
  clear hT hn hkk u3 hb0 hb u4 hm0 hm
  go_enter Tryd.func11, Tryd.ntmps11
  go_wp2_with fail
  refine (sp_new w 5 k n hk16 (by omega) (by omega) HN.out).mono ?_
  rintro e w1 ⟨h0, hb0⟩
  obtain ⟨p, u, ku, m, km, rfl, h1⟩ := SpIn.new h0 hb0
  clear h0 hb0 u1 hk
  go_wp2_with fail
  refine (sp_slots _ _ _ _ _ _ _ _ _ _ _ _ h1.at_).mono ?_
  rintro e w' ⟨rfl, rfl⟩
  have hq := HQ.out
  have wn : IntKind.u64.wrap ((n : Int) + 1) = (n : Int) + 1 := by rw [IntKind.wrap_u64]; omega
  have n0 : ((n : Int) + 1 == 0) = false := by simp; omega
  obtain ⟨u3, hb0, hb, u4, hm0, hm⟩ := HB.out
  go_wp2_with fail
  clear hq wn n0 u2 u3 hb0 hb u4 hm0 hm HB HQ HN
  have hO : Own w1 w.heap.size (.slice none 0 0) (elems (gon b mm) 0) := Own.nil _ _
  rw [show (fun _ => false : Nat → Bool) = ltM 0 by funext t; unfold ltM; simp] at h1
  have h1' : SpIn w.heap.size w w1 p u ku m km n 5 k ((0 : Nat) : Int) (ltM 0) (mrkI b mm 0) := by
    rw [show mrkI b mm 0 = ltM 0 by rw [mrkI_zero]; funext t; unfold ltM; simp]
    exact h1
  clear h1
  go_loopg [14, 15] kk (fun q s14 s15 ws => ∃ i fr : Nat, s15 = .int .i64 i ∧ i ≤ kk ∧ kk - i ≤ q ∧ fr ≤ i ∧ SpIn w.heap.size w ws p u ku m km n 5 k fr (ltM i) (mrkI b mm i) ∧ Own ws w.heap.size s14 (elems (gon b mm) i))
  case atStart => exact ⟨0, 0, rfl, by omega, by omega, by omega, h1', hO⟩
  case round =>
    clear h1' hO
    obtain ⟨i, fr, rfl, hi, hq, hfr, h1, hO⟩ := hrel
    by_cases hlt : i < kk
    · obtain ⟨rb, hrb⟩ : ∃ r, r = i % b := ⟨_, rfl⟩
      obtain ⟨rm, hrm⟩ : ∃ r, r = i % mm := ⟨_, rfl⟩
      have hr1 : (i : Int) % (b : Int) = (rb : Int) := by rw [hrb]; rfl
      have hr2 : (i : Int).tmod (b : Int) = (rb : Int) := by rw [hrb]; rfl
      have hr3 : (i : Int) % (mm : Int) = (rm : Int) := by rw [hrm]; rfl
      have hr4 : (i : Int).tmod (mm : Int) = (rm : Int) := by rw [hrm]; rfl
      have hrb2 : rb < b := by rw [hrb]; exact Nat.mod_lt _ (by omega)
      have hrm2 : rm < mm := by rw [hrm]; exact Nat.mod_lt _ (by omega)
      have wb : IntKind.i64.wrap (rb : Int) = (rb : Int) := IntWalk.i64_in _ (by omega)
      have wm : IntKind.i64.wrap (rm : Int) = (rm : Int) := IntWalk.i64_in _ (by omega)
      have d1 : ((b : Int) == 0) = false := by simp; omega
      have d2 : ((mm : Int) == 0) = false := by simp; omega
      have HR := Lib.hid (And.intro hrb hrm)
      clear hrb hrm
      by_cases h0 : rb = 0
      · by_cases h3 : rm = 0
        · have gb1 : ((rb : Int) == 0) = true := by simp; omega
          have gb2 : ((rb : Int) != 0) = false := by simp; omega
          have gm1 : ((rm : Int) == 0) = true := by simp; omega
          have gm2 : ((rm : Int) != 0) = false := by simp; omega
          have HMK : Hid (mrk b mm i = true) := by
            show mrk b mm i = _
            unfold mrk
            rw [← HR.out.1, ← HR.out.2, decide_eq_true h0, decide_eq_true h3]; rfl
          clear h0 h3
          go_wp2_with fail
          refine (sp_alloc wr p u ku m km n 5 k fr _ _ h1.at_ (h1.tab HT.out rfl) true i (lt_next hfr (by omega)) (by omega) (by unfold ltM; simp)).mono ?_
          rintro e w2 ⟨rfl, hS2, hu2⟩
          have h2 := h1.put hS2 hu2
          have hO2 := h1.own hO hu2
          rw [put_lt, if_pos rfl] at h2
          clear h1 hO hS2 hu2
          go_upto_region 13 with fail
          refine wp_region_planZ [seg0 [0, 1, 2, 3, 4, 5, 6, 8, 9, 10, 11] [7], seg0 [12, 13] []] (by kernel_rfl) (by kernel_rfl) (fun _ _ _ _ _ h => h) ?_
          refine planZ_seg0 ?_
          show wpQuiet _ _ _ _ (List.filterMap _ _) _
          simp only [List.filterMap_cons, List.filterMap_nil, List.getElem?_toArray, List.getElem?_cons_zero, List.getElem?_cons_succ]
          show wpQuiet _ _ _ _ [_, _, _, _, _, _, _, _, _, _, _] _
          repeat (go_big_quiet_step (fail))
          refine wpQuiet_nil ?_
          refine planZ_op (o := ⟨_, _, _, _, _, _⟩) rfl rfl fun K hK => ?_
          go_simp
          go_at_call 25
          have h3 := h2.step (Below.refl w2.heap.size w2).drew
          have hO3 := hO2.ofBelow (Below.refl w2.heap.size w2).drew
          refine (sp_mark _ p u ku m km n 5 k _ _ _ h3.at_ i (by unfold ltM; simp)).mono ?_
          rintro e w4 ⟨rfl, hS4, hu4⟩
          rw [show (!putM (mrkI b mm i) i i) = false from by unfold putM; simp]
          have h4 := h3.mark hS4 hu4
          have hO4 := h3.at_.ms.own hO3 hu4
          rw [put_put, show putM (mrkI b mm i) i = mrkI b mm (i + 1) by rw [mrkI_succ, if_pos HMK.out]] at h4
          clear h2 hO2 h3 hO3 hS4 hu4
          refine hK _ _ (fun _ => ⟨⟨_, trivial⟩, rfl⟩) ?_
          clear hK K
          refine planZ_seg0 ?_
          show wpQuiet _ _ _ _ (List.filterMap _ _) _
          simp only [List.filterMap_cons, List.filterMap_nil, List.getElem?_toArray, List.getElem?_cons_zero, List.getElem?_cons_succ]
          show wpQuiet _ _ _ _ [_, _] _
          repeat (go_big_quiet_step (fail))
          refine wpQuiet_nil ?_
          unfold ChainZ PlanZ
          have hgl : elems (gon b mm) (i + 1) = elems (gon b mm) i := by
            rw [elems_snoc, show gon b mm i = false by unfold gon; rw [HMK.out]; rfl, if_neg Bool.false_ne_true]
          have HGL := Lib.hid hgl
          clear hgl
          go_wp2_with fail
          go_roundg (kk - (i + 1))
          case measure => omega
          case rel => exact ⟨i + 1, i, by go_num, by omega, Nat.le_refl _, by omega, h4, by rw [HGL.out]; exact hO4⟩
        · have gb1 : ((rb : Int) == 0) = true := by simp; omega
          have gb2 : ((rb : Int) != 0) = false := by simp; omega
          have gm1 : ((rm : Int) == 0) = false := by simp; omega
          have gm2 : ((rm : Int) != 0) = true := by simp; omega
          have HMK : Hid (mrk b mm i = true) := by
            show mrk b mm i = _
            unfold mrk
            rw [← HR.out.1, ← HR.out.2, decide_eq_true h0, decide_eq_false h3]; rfl
          clear h0 h3
          go_wp2_with fail
          refine (sp_alloc wr p u ku m km n 5 k fr _ _ h1.at_ (h1.tab HT.out rfl) true i (lt_next hfr (by omega)) (by omega) (by unfold ltM; simp)).mono ?_
          rintro e w2 ⟨rfl, hS2, hu2⟩
          have h2 := h1.put hS2 hu2
          have hO2 := h1.own hO hu2
          rw [put_lt, if_pos rfl] at h2
          clear h1 hO hS2 hu2
          go_upto_region 13 with fail
          refine wp_region_after w2.heap.size w2 (by kernel_rfl) (by kernel_rfl) (Below.refl _ _) ?_
          repeat (go_big_quiet_step (fail))
          refine wpQuiet_nil ?_
          intro w4 hb4
          have h4 := h2.step hb4
          have hO4 := hO2.ofBelow hb4
          rw [show putM (mrkI b mm i) i = mrkI b mm (i + 1) by rw [mrkI_succ, if_pos HMK.out]] at h4
          clear h2 hO2 hb4
          have hgl : elems (gon b mm) (i + 1) = elems (gon b mm) i := by
            rw [elems_snoc, show gon b mm i = false by unfold gon; rw [HMK.out]; rfl, if_neg Bool.false_ne_true]
          have HGL := Lib.hid hgl
          clear hgl
          go_wp2_with fail
          go_roundg (kk - (i + 1))
          case measure => omega
          case rel => exact ⟨i + 1, i, by go_num, by omega, Nat.le_refl _, by omega, h4, by rw [HGL.out]; exact hO4⟩
      · by_cases h3 : rm = 0
        · have gb1 : ((rb : Int) == 0) = false := by simp; omega
          have gb2 : ((rb : Int) != 0) = true := by simp; omega
          have gm1 : ((rm : Int) == 0) = true := by simp; omega
          have gm2 : ((rm : Int) != 0) = false := by simp; omega
          have HMK : Hid (mrk b mm i = true) := by
            show mrk b mm i = _
            unfold mrk
            rw [← HR.out.1, ← HR.out.2, decide_eq_false h0, decide_eq_true h3]; rfl
          clear h0 h3
          go_wp2_with fail
          refine (sp_alloc wr p u ku m km n 5 k fr _ _ h1.at_ (h1.tab HT.out rfl) false i (lt_next hfr (by omega)) (by omega) (by unfold ltM; simp)).mono ?_
          rintro e w2 ⟨rfl, hS2, hu2⟩
          have h2 := h1.put hS2 hu2
          have hO2 := h1.own hO hu2
          rw [put_lt, if_neg Bool.false_ne_true] at h2
          clear h1 hO hS2 hu2
          go_upto_region 13 with fail
          refine wp_region_planZ [seg0 [0, 1, 2, 3, 4, 5, 6, 8, 9, 10, 11] [7], seg0 [12, 13] []] (by kernel_rfl) (by kernel_rfl) (fun _ _ _ _ _ h => h) ?_
          refine planZ_seg0 ?_
          show wpQuiet _ _ _ _ (List.filterMap _ _) _
          simp only [List.filterMap_cons, List.filterMap_nil, List.getElem?_toArray, List.getElem?_cons_zero, List.getElem?_cons_succ]
          show wpQuiet _ _ _ _ [_, _, _, _, _, _, _, _, _, _, _] _
          repeat (go_big_quiet_step (fail))
          refine wpQuiet_nil ?_
          refine planZ_op (o := ⟨_, _, _, _, _, _⟩) rfl rfl fun K hK => ?_
          go_simp
          go_at_call 25
          have h3 := h2.step (Below.refl w2.heap.size w2).drew
          have hO3 := hO2.ofBelow (Below.refl w2.heap.size w2).drew
          refine (sp_mark _ p u ku m km n 5 k _ _ _ h3.at_ i (by unfold ltM; simp)).mono ?_
          rintro e w4 ⟨rfl, hS4, hu4⟩
          rw [show (!mrkI b mm i i) = true from by rw [mrkI_at]; rfl]
          have h4 := h3.mark hS4 hu4
          have hO4 := h3.at_.ms.own hO3 hu4
          rw [show putM (mrkI b mm i) i = mrkI b mm (i + 1) by rw [mrkI_succ, if_pos HMK.out]] at h4
          clear h2 hO2 h3 hO3 hS4 hu4
          refine hK _ _ (fun _ => ⟨⟨_, trivial⟩, rfl⟩) ?_
          clear hK K
          refine planZ_seg0 ?_
          show wpQuiet _ _ _ _ (List.filterMap _ _) _
          simp only [List.filterMap_cons, List.filterMap_nil, List.getElem?_toArray, List.getElem?_cons_zero, List.getElem?_cons_succ]
          show wpQuiet _ _ _ _ [_, _] _
          repeat (go_big_quiet_step (fail))
          refine wpQuiet_nil ?_
          unfold ChainZ PlanZ
          have hgl : elems (gon b mm) (i + 1) = elems (gon b mm) i := by
            rw [elems_snoc, show gon b mm i = false by unfold gon; rw [HMK.out]; rfl, if_neg Bool.false_ne_true]
          have HGL := Lib.hid hgl
          clear hgl
          go_wp2_with fail
          go_roundg (kk - (i + 1))
          case measure => omega
          case rel => exact ⟨i + 1, i, by go_num, by omega, Nat.le_refl _, by omega, h4, by rw [HGL.out]; exact hO4⟩
        · have gb1 : ((rb : Int) == 0) = false := by simp; omega
          have gb2 : ((rb : Int) != 0) = true := by simp; omega
          have gm1 : ((rm : Int) == 0) = false := by simp; omega
          have gm2 : ((rm : Int) != 0) = true := by simp; omega
          have HMK : Hid (mrk b mm i = false) := by
            show mrk b mm i = _
            unfold mrk
            rw [← HR.out.1, ← HR.out.2, decide_eq_false h0, decide_eq_false h3]; rfl
          clear h0 h3
          go_wp2_with fail
          refine (sp_alloc wr p u ku m km n 5 k fr _ _ h1.at_ (h1.tab HT.out rfl) false i (lt_next hfr (by omega)) (by omega) (by unfold ltM; simp)).mono ?_
          rintro e w2 ⟨rfl, hS2, hu2⟩
          have h2 := h1.put hS2 hu2
          have hO2 := h1.own hO hu2
          rw [put_lt, if_neg Bool.false_ne_true] at h2
          clear h1 hO hS2 hu2
          go_upto_region 13 with fail
          refine wp_region_after w2.heap.size w2 (by kernel_rfl) (by kernel_rfl) (Below.refl _ _) ?_
          repeat (go_big_quiet_step (fail))
          refine wpQuiet_nil ?_
          intro w4 hb4
          have h4 := h2.step hb4
          have hO4 := hO2.ofBelow hb4
          rw [show mrkI b mm i = mrkI b mm (i + 1) by rw [mrkI_succ, HMK.out, if_neg Bool.false_ne_true]] at h4
          clear h2 hO2 hb4
          have hgl : elems (gon b mm) (i + 1) = elems (gon b mm) i ++ [(i : Int)] := by
            rw [elems_snoc, show gon b mm i = true by unfold gon; rw [HMK.out]; rfl, if_pos rfl]
          have HGL := Lib.hid hgl
          clear hgl
          obtain ⟨a3, c3, hs3⟩ := hO4.rd.form
          obtain ⟨ol, hol⟩ : ∃ ol, ol = (elems (gon b mm) i).length := ⟨_, rfl⟩
          have hle : ol ≤ 64 := by rw [hol, elems_len]; have := cnt_le (gon b mm) i; omega
          rw [← hol] at hs3
          subst hs3
          have HOL := Lib.hid hol
          clear hol
          go_wp2_with (at_builtin; refine wpList_append_rd rfl (.tmp 103) (.tmp 105) rfl rfl rfl (hO4.alloc _) (Rd.one _ _) (by have := h4.size; simp; omega) (ol + 1) (by rw [← HOL.out]; rfl) (by omega) ?_; intro a5 c5 w5 hown5 hg5 hat5)
          have h5 := h4.append hO4 _ hg5
          go_roundg (kk - (i + 1))
          case measure => omega
          case rel => exact ⟨i + 1, i, by go_num, by omega, Nat.le_refl _, by omega, h5, by rw [HGL.out]; exact hown5⟩
    · obtain rfl : i = kk := by omega
      obtain ⟨a14, c14, hs14⟩ := hO.rd.form
      obtain ⟨g, hg⟩ : ∃ g, g = (elems (gon b mm) i).length := ⟨_, rfl⟩
      rw [← hg] at hs14
      subst hs14
      have hlv := keeps_live b mm i n hkn
      rw [← hg] at hlv
      obtain ⟨cl, hcl⟩ : ∃ cl, cl = cnt (mrkI b mm i) n := ⟨_, rfl⟩
      rw [← hcl] at hlv
      have hg64 : g ≤ 64 := by omega
      have HG := Lib.hid (And.intro hg (And.intro hlv hcl))
      clear hg hlv hcl
      go_wp2_with fail
      refine (sp_sweep wr p u ku m km n 5 k fr _ _ h1.at_ (h1.tab HT.out rfl)).mono ?_
      rintro e w3 ⟨v3, rfl, hv3, hS3, hu3⟩
      have h3 := h1.swept hS3 hu3
      have hO3 := h1.own hO (hu3.mono (G := fun y => y = p ∨ y = u ∨ y = ku ∨ y = m ∨ y = km) (fun y hy _ => by rcases hy with hy | hy | hy <;> simp [hy]))
      rw [keeps_gone b mm i n hkn] at hv3
      clear h1 hO hS3 hu3
      go_wp2_with fail
      refine (ints_any _ _ _ _ _ hv3.rd hO3.rd (by rw [← HG.out.1]; omega)).mono ?_
      rintro e w4 ⟨rfl, q4, rfl⟩
      rw [decide_eq_true (rfl : elems (gon b mm) i = elems (gon b mm) i)]
      have h4 := h3.step (below_drewN q4)
      have hO4 := hO3.ofBelow (below_drewN q4)
      generalize w3.drewN q4 = w4 at h4 hO4 ⊢
      clear h3 hO3 hv3
      go_wp2_with fail
      refine (sp_live _ _ _ _ _ _ _ _ _ _ _ _ h4.at_).mono ?_
      rintro e w' ⟨rfl, rfl⟩
      rw [← HG.out.2.2]
      have hlv : (i : Int) - (g : Int) = (cl : Int) := by have := HG.out.2.1; omega
      go_upto_region 18 with fail
      clear hlv
      go_wp2_with fail
      rw [← agn_zero b mm i] at h4
      go_loopg [18] g (fun q s18 ws => ∃ (t ps fr : Nat), s18 = .int .i64 t ∧ t ≤ g ∧ g - t ≤ q ∧ fr ≤ ps ∧ ps ≤ i ∧ SpIn w.heap.size w ws p m km u ku n 5 k fr (agn (mrkI b mm i) i ps) (fun _ => false) ∧ Own ws w.heap.size (.slice a14 g c14) (elems (gon b mm) i) ∧ Hid (∃ l, l.length = t ∧ l ++ elemsF (gon b mm) (i - ps) ps = elems (gon b mm) i))
      case atStart => exact ⟨0, 0, 0, rfl, by omega, by omega, by omega, by omega, h4, hO4, ⟨[], rfl, rfl⟩⟩
      case round =>
        clear h4 hO4
        obtain ⟨t, ps, fr2, rfl, ht, hq2, hfp, hps, h4, hO4, hL⟩ := hrel
        by_cases hlt2 : t < g
        · obtain ⟨j, hnx, hat, hput, hjk, hpj, hget, hL2⟩ : ∃ j : Nat, nextM (agn (mrkI b mm i) i ps) n false fr2 = (j : Int) ∧ agn (mrkI b mm i) i ps j = false ∧ putM (agn (mrkI b mm i) i ps) j = agn (mrkI b mm i) i (j + 1) ∧ j < i ∧ ps ≤ j ∧ (elems (gon b mm) i).getD t 0 = (j : Int) ∧ Hid (∃ l, l.length = t + 1 ∧ l ++ elemsF (gon b mm) (i - (j + 1)) (j + 1) = elems (gon b mm) i) := by
            obtain ⟨l, hl1, hl2⟩ := hL.out
            have hne : elemsF (gon b mm) (i - ps) ps ≠ [] := fun e => by
              rw [e, List.append_nil] at hl2
              have := HG.out.1
              rw [← hl2] at this
              omega
            obtain ⟨j, j1, j2, j3, j4, j5⟩ := elemsF_next (i - ps) ps hne
            rcases nextM_cases (gon b mm) i true ps with ⟨j', k1, k2, k3, k4, k5⟩ | ⟨k1, _⟩
            · have e : j = j' := by
                have : nextM (gon b mm) i true ps = (j : Int) := j1
                rw [k1] at this; omega
              subst e
              obtain ⟨x1, x2, x3⟩ := agn_next (b := b) (m := mm) (n := n) hkn hfp k2 k3 k4 (fun t a c => by have := k5 t a c; simpa using this)
              rw [j5, show ps + (i - ps) - (j + 1) = i - (j + 1) by omega] at hl2
              refine ⟨j, x1, x2, x3, k3, k2, ?_, ⟨l ++ [(j : Int)], by simp [hl1], by rw [← hl2]; simp⟩⟩
              rw [← hl2, ← hl1]
              simp
            · have : nextM (gon b mm) i true ps = (j : Int) := j1
              rw [k1] at this; omega
          have HP := Lib.hid (And.intro hnx (And.intro hat hput))
          obtain ⟨_, bo, off, hva, hcell⟩ := hO4.rd.plain
          obtain rfl := hva (by omega)
          clear hnx hat hput hL hcell hva
          go_wp2_with fail
          refine (sp_alloc wr p m km u ku n 5 k fr2 _ _ h4.at_ (h4.tab HT.out rfl) false j HP.out.1 (by omega) HP.out.2.1).mono ?_
          rintro e w5 ⟨rfl, hS5, hu5⟩
          have h5 := h4.put hS5 hu5
          have hO5 := h4.own hO4 hu5
          rw [HP.out.2.2, if_neg Bool.false_ne_true] at h5
          obtain ⟨_, bo', off', hva', hcell'⟩ := hO5.rd.plain
          have e1 := hva' (by omega)
          injection e1 with e1
          injection e1 with e1 e2
          have c1 := hcell' t hlt2
          rw [hget, ← e1, ← e2] at c1
          have i1 : (t : Int) < (g : Int) := by omega
          have i2 : (0 : Int) ≤ (t : Int) := by omega
          clear h4 hO4 hS5 hu5 hcell' hva' e1 e2 hget
          go_wp2_with fail
          go_roundg (g - (t + 1))
          case measure => omega
          case rel => exact ⟨t + 1, j + 1, j, by go_num, by omega, Nat.le_refl _, by omega, by omega, h5, hO5, hL2⟩
        · obtain rfl : t = g := by omega
          have hall : agn (mrkI b mm i) i ps = ltM i := by
            obtain ⟨l, hl1, hl2⟩ := hL.out
            have hnil : elemsF (gon b mm) (i - ps) ps = [] := by
              have h0 := congrArg List.length hl2
              rw [List.length_append, ← HG.out.1, hl1] at h0
              exact List.eq_nil_of_length_eq_zero (by omega)
            exact agn_all (fun t a c => elemsF_empty hnil t a (by omega))
          rw [hall] at h4
          clear hall hO4 hL
          go_wp2_with fail
          go_loopg [21] (n - i) (fun q s21 ws => ∃ (x fr : Nat), s21 = .int .i64 x ∧ x ≤ n ∧ n - x ≤ q ∧ fr ≤ x ∧ SpIn w.heap.size w ws p m km u ku n 5 k fr (ltM x) (fun _ => false))
          case atStart => exact ⟨i, fr2, rfl, by omega, by omega, by omega, h4⟩
          case round =>
            clear h4
            obtain ⟨x, fr3, rfl, hx, hq3, hfx, h4⟩ := hrel
            go_wp2_with fail
            refine (sp_slots _ _ _ _ _ _ _ _ _ _ _ _ h4.at_).mono ?_
            rintro e w' ⟨rfl, rfl⟩
            by_cases hlt3 : x < n
            · have i1 : (x : Int) < (n : Int) := by omega
              go_wp2_with fail
              refine (sp_alloc wr p m km u ku n 5 k fr3 _ _ h4.at_ (h4.tab HT.out rfl) false x (lt_next hfx hlt3) hlt3 (by unfold ltM; simp)).mono ?_
              rintro e w5 ⟨rfl, hS5, hu5⟩
              have h5 := h4.put hS5 hu5
              rw [put_lt, if_neg Bool.false_ne_true] at h5
              clear h4 hS5 hu5
              go_wp2_with fail
              go_roundg (n - (x + 1))
              case measure => omega
              case rel => exact ⟨x + 1, x, by go_num, by omega, Nat.le_refl _, by omega, h5⟩
            · obtain rfl : x = n := by omega
              go_wp2_with fail
              refine (sp_alloc_full _ _ _ _ _ _ _ _ _ _ _ _ h4.at_ (h4.tab HT.out rfl) true lt_full).mono ?_
              rintro e w5 ⟨rfl, hb5⟩
              have h5 := h4.step hb5
              clear h4 hb5
              go_wp2_with fail
              refine (told6_any _ (h5.tab HT.out rfl)).mono ?_
              rintro e w6 ⟨rfl, hb6⟩
              have h6 := h5.step hb6
              clear h5 hb6
              go_wp2_with fail
              refine (sp_full _ _ _ _ _ _ _ _ _ _ _ _ h6.at_ (h6.tab HT.out rfl)).mono ?_
              rintro e w7 ⟨rfl, hb7⟩
              have h7 := h6.step hb7
              rw [lt_full, show decide ((-1 : Int) < 0) = true from rfl]
              clear h6 hb7
              go_wp2_with fail
              refine (sp_live _ _ _ _ _ _ _ _ _ _ _ _ h7.at_).mono ?_
              rintro e w' ⟨rfl, rfl⟩
              rw [cnt_lt x x (Nat.le_refl _)]
              go_wp2_with fail
              refine (sp_slots _ _ _ _ _ _ _ _ _ _ _ _ h7.at_).mono ?_
              rintro e w' ⟨rfl, rfl⟩
              go_wp2_with fail
              go_ret
              exact ⟨rfl, h7.below⟩
theorem SpanKeeps_walk (w : World) (hT : Tab w) (class_ n_ black marks : Int) :
    Calls Tryd.prog 11 #[.int .i64 class_, .int .i64 n_, .int .i64 black, .int .i64 marks] w fun e w' => e = .returned (.bool true) ∧ Below w.heap.size w w' := by
  have u1 : 0 ≤ IntKind.u64.wrap class_ := by rw [IntKind.wrap_u64]; exact Int.emod_nonneg _ (by omega)
  have u2 : 0 ≤ IntKind.u64.wrap n_ := by rw [IntKind.wrap_u64]; exact Int.emod_nonneg _ (by omega)
  have u3 : 0 ≤ IntKind.u64.wrap black := by rw [IntKind.wrap_u64]; exact Int.emod_nonneg _ (by omega)
  have u4 : 0 ≤ IntKind.u64.wrap marks := by rw [IntKind.wrap_u64]; exact Int.emod_nonneg _ (by omega)
  have a1 : IntKind.u64.wrap class_ % 16 < 16 := Int.emod_lt_of_pos _ (by omega)
  have a3 : IntKind.u64.wrap black % 5 < 5 := Int.emod_lt_of_pos _ (by omega)
  have a4 : IntKind.u64.wrap marks % 5 < 5 := Int.emod_lt_of_pos _ (by omega)
  obtain ⟨k, hk⟩ := Int.eq_ofNat_of_zero_le (show 0 ≤ IntKind.u64.wrap class_ % 16 from Int.emod_nonneg _ (by omega))
  obtain ⟨b0, hb0⟩ := Int.eq_ofNat_of_zero_le (show 0 ≤ IntKind.u64.wrap black % 5 from Int.emod_nonneg _ (by omega))
  obtain ⟨m0, hm0⟩ := Int.eq_ofNat_of_zero_le (show 0 ≤ IntKind.u64.wrap marks % 5 from Int.emod_nonneg _ (by omega))
  obtain ⟨s, n, P, e1, e2, e3, s1, s2, n1, n2, p1, p2, hns⟩ := cls_nums k (by omega)
  have a2 : IntKind.u64.wrap n_ % ((n : Int) + 1) < (n : Int) + 1 := Int.emod_lt_of_pos _ (by omega)
  obtain ⟨q, hq⟩ := Int.eq_ofNat_of_zero_le (show 0 ≤ IntKind.u64.wrap n_ % ((n : Int) + 1) from Int.emod_nonneg _ (by omega))
  exact keeps_core class_ n_ black marks k n q b0 m0 (1 + b0) (1 + m0) w hT u1 hk (by omega) u2 hq (by omega) u3 hb0 (by omega) u4 hm0 (by omega) (by omega) (by omega) e2 n1 n2
end Go.Proofs.YtpbghoddemffhaaDoor
