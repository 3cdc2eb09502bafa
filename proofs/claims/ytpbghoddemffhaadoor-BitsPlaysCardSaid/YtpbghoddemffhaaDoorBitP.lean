/-
  The walk of BitsPlays: it returns true whatever came in. Under: the library's table.
-/
import Derived.Test.YtpbghoddemffhaaDoorBitU
import Derived.Test.YtpbghoddemffhaaDoorTrip
namespace Go.Proofs.YtpbghoddemffhaaDoor
open Go.RowKit
set_option maxRecDepth 100000
set_option maxHeartbeats 4000000

/-- The other list, appended onto nothing. -/
theorem plays_core (b off ln c n m : Nat) (a : Option Addr) (f g : Nat → Int) (hz : Nat → Bool) (size other : Int) (w : World) (hT : Tab w) (hln : ln ≤ 9223372036854775807) (ha : 0 < ln → a = some ⟨b, off, none⟩)
    (hcell : ∀ j, j < ln → w.cell? ⟨b, off + j * 3, none⟩ = some (.int .i64 (f j)) ∧ w.cell? ⟨b, off + j * 3 + 1, none⟩ = some (.int .i64 (g j)) ∧ w.cell? ⟨b, off + j * 3 + 2, none⟩ = some (.bool (hz j)))
    (hu : 0 ≤ IntKind.u64.wrap size) (hn : IntKind.u64.wrap size % 301 = (n : Int)) (hn300 : n ≤ 300) (hu2 : 0 ≤ IntKind.u64.wrap other) (hm : IntKind.u64.wrap other % 301 = (m : Int)) (hm300 : m ≤ 300) :
    Calls Tryd.prog 8 #[.int .i64 size, .int .i64 other, .slice a ln c] w fun e w' => e = .returned (.bool true) ∧ Below w.heap.size w w' := by
  have HC : Hid (∀ j, j < ln → ∀ wr, Below w.heap.size w wr → wr.cell? ⟨b, off + j * 3, none⟩ = some (.int .i64 (f j)) ∧ wr.cell? ⟨b, off + j * 3 + 1, none⟩ = some (.int .i64 (g j)) ∧ wr.cell? ⟨b, off + j * 3 + 2, none⟩ = some (.bool (hz j))) :=
    fun j hj wr hb => ⟨(hb.cell (p := ⟨b, off + j * 3, none⟩) (World.block_lt_of_cell? w ⟨b, off + j * 3, none⟩ (hcell j hj).1)).trans (hcell j hj).1,
      (hb.cell (p := ⟨b, off + j * 3 + 1, none⟩) (World.block_lt_of_cell? w ⟨b, off + j * 3 + 1, none⟩ (hcell j hj).2.1)).trans (hcell j hj).2.1,
      (hb.cell (p := ⟨b, off + j * 3 + 2, none⟩) (World.block_lt_of_cell? w ⟨b, off + j * 3 + 2, none⟩ (hcell j hj).2.2)).trans (hcell j hj).2.2⟩
  have HA := Lib.hid ha
  have HT := Lib.hid hT
  clear hcell ha hT
  go_enter Tryd.func8, Tryd.ntmps8
  go_wp2_with fail
  refine (set_new w _ n (by omega)).mono ?_
  rintro e w1 ⟨g1, kk, rfl, hS, hg, hk, hgk, hb⟩
  go_wp2_with fail
  refine (set_new w1 _ m (by omega)).mono ?_
  rintro e w2 ⟨h, j, rfl, hO, hh, hj, hhj, hb2⟩
  clear hn hu hu2 hm
  have hBes : Bes w.heap.size w w2 g1 kk n h j m (fun _ => false) (fun _ => false) (.slice none 0 0) (.slice none 0 0) (elems (fun _ => false) n) (elems (fun _ => false) m) := by
    have e1 := hS.lt; have e2 := hS.ltk; have e3 := hb.size
    exact ⟨hS.below hb2, hO, by rw [elems_none]; exact Own.nil _ _, by rw [elems_none]; exact Own.nil _ _, by omega, by omega, hg, hk, by omega, by omega, Nat.le_trans hb.size hb2.size, bx hb hb2⟩
  clear hS hO hb hb2 hh hj hg hk hgk hhj
  go_wp2_with fail
  refine (set_len _ _ _ _ _ hBes.s).mono ?_
  rintro e w' ⟨rfl, rfl⟩
  go_wp2_with fail
  go_loopg [11, 12, 13] ln (fun q s11 s12 s13 ws => ∃ (i kk : Nat) (M N : Nat → Bool), s13 = .int .i64 i ∧ i ≤ ln ∧ ln - i ≤ q ∧ Bes w.heap.size w ws g1 kk n h j m M N s11 s12 (elems M n) (elems N m))
  case atStart => exact ⟨0, kk, _, _, rfl, by omega, by omega, hBes⟩
  case round =>
    clear hBes
    obtain ⟨i, kk, M, N, rfl, hi, hq, hBes⟩ := hrel
    by_cases hlt : i < ln ∧ i < 60
    · obtain ⟨hlt, h60⟩ := hlt
      obtain rfl := HA.out (by omega)
      obtain ⟨c1, c2, c3⟩ := HC.out i hlt _ hBes.below
      generalize hx : f i = x at c1
      generalize hy : g i = y at c2
      generalize hz : hz i = z at c3
      clear hx hy hz
      have i1 : (0 : Int) ≤ (i : Int) := by omega
      have i2 : (i : Int) < (ln : Int) := by omega
      have i3 : (i : Int) < 60 := by omega
      go_upto_region 10 with fail
      have hO := Cel.born wr 53 #[.int .i64 x, .int .i64 y, .bool z]
      have hB2 := hBes.step ((Below.refl wr.heap.size wr).alloc (Nat.le_refl _) (.cells #[.int .i64 x, .int .i64 y, .bool z] 53))
      generalize hk : wr.heap.size = kb at hO ⊢
      generalize wr.alloc (.cells #[.int .i64 x, .int .i64 y, .bool z] 53) = w4 at hO hB2 ⊢
      have q0 : w4.cell? ⟨kb, 0, none⟩ = some (.int .i64 x) := hO.cell 0
      have q1 : w4.cell? ⟨kb, 1, none⟩ = some (.int .i64 y) := hO.cell 1
      have q2 : w4.cell? ⟨kb, 2, none⟩ = some (.bool z) := hO.cell 2
      clear hBes c1 c2 c3 hk
      obtain ⟨bi, hbi⟩ : ∃ bi, bi = inB n y := ⟨_, rfl⟩
      have HI := Lib.hid hbi
      clear hbi
      go_cut [15] (fun s15 wx => s15 = .bool bi ∧ w4 = wx)
      case first =>
        have hways : (0 ≤ y ∧ y < (n : Int)) ∨ (0 ≤ y ∧ ¬ y < (n : Int)) ∨ ¬ 0 ≤ y := by omega
        rcases hways with ⟨y0, y1⟩ | ⟨y0, y1⟩ | y0
        · have hin := Lib.hid (inB_in y0 y1)
          go_wp2_with fail
          go_meet
          case rel => exact ⟨by rw [HI.out, hin.out], rfl⟩
        · have hin := Lib.hid (inB_out (n := n) (x := y) (by omega))
          go_wp2_with fail
          go_meet
          case rel => exact ⟨by rw [HI.out, hin.out], rfl⟩
        · have hin := Lib.hid (inB_out (n := n) (x := y) (by omega))
          go_wp2_with fail
          go_meet
          case rel => exact ⟨by rw [HI.out, hin.out], rfl⟩
      case rest =>
        obtain ⟨rfl, rfl⟩ := hcut
        go_wp2_with fail
        refine (rhas_any _ _ _ y hB2.l.rd (elems_le _ _ (by omega))).mono ?_
        rintro e w' ⟨rfl, rfl⟩
        rw [hasL_at_elems hB2.s.in]
        obtain ⟨bh, hbh⟩ : ∃ bh, bh = atM M y := ⟨_, rfl⟩
        rw [← hbh]
        have HB := Lib.hid hbh
        clear hbh
        go_upto_block 2 with fail
        generalize (wrap64 (x.tmod 6 + 6)).tmod 6 = zk
        go_cut [11, 12] (fun s11 s12 wx => ∃ (kk : Nat) (M N : Nat → Bool), Bes w.heap.size w wx g1 kk n h j m M N s11 s12 (elems M n) (elems N m) ∧ Cel wx kb 53 #[.int .i64 x, .int .i64 y, .bool z])
        case first =>
          have hz : (zk = 0 ∨ zk = 1) ∨ zk = 2 ∨ zk = 3 ∨ zk = 4 ∨ (zk ≠ 0 ∧ zk ≠ 1 ∧ zk ≠ 2 ∧ zk ≠ 3 ∧ zk ≠ 4) := by omega
          rcases hz with hz | rfl | rfl | rfl | hz
          · rcases hz with rfl | rfl
            all_goals
              go_wp2_with fail
              refine (set_set_int hB2.s y).mono ?_
              rintro e w5 ⟨rfl, hS5, hu5⟩
              rw [← HI.out, ← HB.out]
              have hB5 := hB2.putS hS5 hu5
              have hO5 := hB2.s.cel hO (by decide) (by decide) hu5
              clear hB2 hO hS5 hu5 q0 q1 q2
              have q1 : w5.cell? ⟨kb, 1, none⟩ = some (.int .i64 y) := hO5.cell 1
              cases bi
              · rw [putI_out _ _ _ HI.out.symm] at hB5
                cases bh
                all_goals
                  go_wp2_with fail
                  go_meet
                  case rel => exact ⟨_, _, _, hB5, hO5⟩
              · cases bh
                all_goals
                  go_wp2_with fail
                  refine (rput_any _ _ _ _ y hB5.l (by rw [elems_len]; have := cnt_le M n; omega) hB5.size).mono ?_
                  rintro e w6 ⟨v6, rfl, hown6, hb6⟩
                  rw [elems_putI _ _ _ HI.out.symm] at hown6
                  have hB6 := (hB5.step hb6).newL hown6
                  have hO6 := hO5.ofBelow hb6
                  clear hB5 hO5 hown6 hb6 q1
                  go_wp2_with fail
                  go_meet
                  case rel => exact ⟨_, _, _, hB6, hO6⟩
          · go_wp2_with fail
            refine (set_clear_int hB2.s y).mono ?_
            rintro e w5 ⟨rfl, hS5, hu5⟩
            rw [← HB.out]
            have hB5 := hB2.putS hS5 hu5
            have hO5 := hB2.s.cel hO (by decide) (by decide) hu5
            have hel := Lib.hid (elems_outI hB2.s.in y)
            clear hB2 hO hS5 hu5 q0 q1 q2
            have q1 : w5.cell? ⟨kb, 1, none⟩ = some (.int .i64 y) := hO5.cell 1
            cases bh
            all_goals
              go_wp2_with fail
              refine (rout_any _ _ _ _ y hB5.l (by rw [elems_len]; have := cnt_le M n; omega) hB5.size).mono ?_
              rintro e w6 ⟨v6, rfl, hown6, hb6⟩
              rw [hel.out] at hown6
              have hB6 := (hB5.step hb6).newL hown6
              have hO6 := hO5.ofBelow hb6
              clear hB5 hO5 hown6 hb6 q1
              go_wp2_with fail
              go_meet
              case rel => exact ⟨_, _, _, hB6, hO6⟩
          · have q3 : ∀ x2 : After w4.heap.size w4, x2.1.cell? ⟨kb, 1, none⟩ = some (.int .i64 y) := fun x2 => (hO.ofBelow x2.2).cell 1
            have q4 : ∀ x2 : After w4.heap.size w4, x2.1.cell? ⟨kb, 2, none⟩ = some (.bool z) := fun x2 => (hO.ofBelow x2.2).cell 2
            have H26 := Lib.hid hB2
            have HO := Lib.hid hO
            obtain ⟨nx, hnx⟩ : ∃ nx, nx = nextM M n z y.toNat := ⟨_, rfl⟩
            have HNX := Lib.hid hnx
            clear hB2 hO q0 q1 q2 hnx
            go_upto_region 26 with fail
            refine wp_region_after w4.heap.size w4 (by kernel_rfl) (by kernel_rfl) (Below.refl _ _) ?_
            repeat (go_big_quiet_step (first
              | (go_at_call 40; exact after_call (v := .int .i64 nx) (by rw [HNX.out]; exact (set_next _ g1 kk n M (H26.out.step (Subtype.property _)).s (HT.out.ofBelow (H26.out.step (Subtype.property _)).below) y z).mono fun _ _ ⟨he, hw⟩ => ⟨he, hw ▸ Below.refl _ _⟩))
              | (go_at_call 49; exact after_call (v := .int .i64 nx) (by rw [HNX.out]; exact (lnext_core _ _ (elems M n) n y.toNat y z M (H26.out.step (Subtype.property _)).l.rd (elems_le _ _ (by omega)) (fun t => (elems_inj_at H26.out.s.in t).symm) (by omega) (by omega)).mono fun _ _ ⟨he, hw⟩ => ⟨he, hw ▸ Below.refl _ _⟩))))
            refine wpQuiet_nil ?_
            clear q3 q4
            intro w5 hb5
            have hB5 := H26.out.step hb5
            have hO5 := HO.out.ofBelow hb5
            go_wp2_with fail
            go_meet
            case rel => exact ⟨_, _, _, hB5, hO5⟩
          · by_cases hnm : n = m
            · subst hnm
              go_wp2_with fail
              refine (set_copy _ _ _ _ _ _ _ _ hB2.s hB2.o).mono ?_
              rintro e w5 ⟨k5, rfl, hS5, hk5, hu5⟩
              have hB5 := hB2.copied hS5 hk5 hu5
              have hO5 : Cel w5 kb 53 #[.int .i64 x, .int .i64 y, .bool z] := by
                obtain ⟨_, _, a1, _⟩ := hB2.s
                exact hu5.cel hO (fun e => hO.ne a1 (by decide) e)
              have hln := elems_len N n
              have hcn := cnt_le N n
              obtain ⟨a2, c2, hv2⟩ := hB5.k.rd.form
              obtain ⟨q, hq⟩ : ∃ q, q = cnt N n := ⟨_, rfl⟩
              rw [hln, ← hq] at hv2
              rw [← hq] at hcn hln
              subst hv2
              have HL := Lib.hid hln
              clear hB2 hO hS5 hk5 hu5 q0 q1 q2 hln hq
              go_wp2_with (at_builtin; refine wpList_append_rd rfl (.tmp 149) (.tmp 150) rfl rfl rfl (Own.empty w5 w.heap.size hB5.size) (hB5.k.rd.alloc _) (by have := hB5.size; simp; omega) q (by simpa using HL.out) (by omega) ?_; intro a6 c6 w6 hown6 hg6 hat6)
              have hb6 : Below w5.heap.size w5 w6 := ((Below.refl _ _).alloc (Nat.le_refl _) (.cells #[] 3)).grown hg6 (by simp) (fun q hq => Nat.le_of_eq (Option.some.inj hq))
              rw [List.nil_append] at hown6
              have hB6 := (hB5.step hb6).newL hown6
              have hO6 := hO5.ofBelow hb6
              go_meet
              case rel => exact ⟨_, _, _, hB6, hO6⟩
            · have e1 : ((n : Int) == (m : Int)) = false := by simp; omega
              go_wp2_with fail
              refine (set_copy_other _ _ _ _ _ _ _ _ _ hB2.s hB2.o hnm).mono ?_
              rintro e w5 ⟨rfl, q5, rfl⟩
              have hB5 := hB2.step (below_drewN q5)
              have hO5 := hO.ofBelow (below_drewN q5)
              generalize w4.drewN q5 = w5 at hB5 hO5 ⊢
              clear hB2 hO q0 q1 q2
              go_wp2_with fail
              go_meet
              case rel => exact ⟨_, _, _, hB5, hO5⟩
          · have z0 : (zk == 0) = false := by simp; omega
            have z1 : (zk == 1) = false := by simp; omega
            have z2 : (zk == 2) = false := by simp; omega
            have z3 : (zk == 3) = false := by simp; omega
            have z4 : (zk == 4) = false := by simp; omega
            clear hz
            obtain ⟨b1, hb1⟩ : ∃ b1, b1 = inB m y := ⟨_, rfl⟩
            obtain ⟨b2, hb2⟩ : ∃ b2, b2 = atM N y := ⟨_, rfl⟩
            have HBB := Lib.hid (And.intro hb1 hb2)
            clear hb1 hb2
            go_wp2_with fail
            refine (set_set_int hB2.o y).mono ?_
            rintro e w5 ⟨rfl, hS5, hu5⟩
            rw [← HBB.out.1, ← HBB.out.2]
            have hB5 := hB2.putO hS5 hu5
            have hO5 := hB2.o.cel hO (by decide) (by decide) hu5
            have HN := Lib.hid hB2.o.in
            clear hB2 hO hS5 hu5 q0 q1 q2
            have q1 : w5.cell? ⟨kb, 1, none⟩ = some (.int .i64 y) := hO5.cell 1
            cases b1
            · rw [putI_out _ _ _ HBB.out.1.symm] at hB5
              go_wp2_with fail
              go_meet
              case rel => exact ⟨_, _, _, hB5, hO5⟩
            · cases b2
              · go_wp2_with fail
                refine (rhas_any _ _ _ y hB5.k.rd (elems_le _ _ (by omega))).mono ?_
                rintro e w' ⟨rfl, rfl⟩
                rw [hasL_at_elems HN.out, ← HBB.out.2]
                go_wp2_with fail
                refine (rput_any _ _ _ _ y hB5.k (by rw [elems_len]; have := cnt_le N m; omega) hB5.size).mono ?_
                rintro e w6 ⟨v6, rfl, hown6, hb6⟩
                rw [elems_putI _ _ _ HBB.out.1.symm] at hown6
                have hB6 := (hB5.step hb6).newK hown6
                have hO6 := hO5.ofBelow hb6
                clear hB5 hO5 hown6 hb6 q1
                go_wp2_with fail
                go_meet
                case rel => exact ⟨_, _, _, hB6, hO6⟩
              · rw [putI_had _ _ _ HBB.out.1.symm HBB.out.2.symm] at hB5
                go_wp2_with fail
                go_meet
                case rel => exact ⟨_, _, _, hB5, hO5⟩
        case rest =>
          clear hB2 hO q0 q1 q2 HB HI
          obtain ⟨kk, M, N, hBes, hO⟩ := hcut
          have q3 : ∀ x2 : After wc.heap.size wc, x2.1.cell? ⟨kb, 1, none⟩ = some (.int .i64 y) := fun x2 => (hO.ofBelow x2.2).cell 1
          obtain ⟨a1, c1, hv1⟩ := hBes.l.rd.form
          obtain ⟨q, hq⟩ : ∃ q, q = cnt M n := ⟨_, rfl⟩
          obtain ⟨bh, hbh⟩ : ∃ bh, bh = atM M y := ⟨_, rfl⟩
          rw [elems_len, ← hq] at hv1
          subst hv1
          have H33 := Lib.hid (And.intro hBes (And.intro hq hbh))
          clear hBes hO hq hbh
          have hbb : (bh != bh) = false := by simp
          go_upto_region 33 with fail
          refine wp_region_after wc.heap.size wc (by kernel_rfl) (by kernel_rfl) (Below.refl _ _) ?_
          repeat (go_big_quiet_step (first
            | (go_at_call 41; exact after_call (v := .bool bh) (by rw [H33.out.2.2]; exact (set_has_int (H33.out.1.step (Subtype.property _)).s y).mono fun _ _ ⟨he, hw⟩ => ⟨he, hw ▸ Below.refl _ _⟩))
            | (go_at_call 46; exact after_call (v := .bool bh) (by rw [H33.out.2.2, ← hasL_at_elems H33.out.1.s.in]; exact (rhas_any _ _ _ y (H33.out.1.step (Subtype.property _)).l.rd (elems_le _ _ (by omega))).mono fun _ _ ⟨he, hw⟩ => ⟨he, hw ▸ Below.refl _ _⟩))
            | (go_at_call 42; exact after_call (v := .int .i64 q) (by rw [H33.out.2.1]; exact (set_count _ g1 kk n M (H33.out.1.step (Subtype.property _)).s).mono fun _ _ ⟨he, hw⟩ => ⟨he, hw ▸ Below.refl _ _⟩))))
          refine wpQuiet_nil ?_
          intro w5 hb5
          have hB5 := H33.out.1.step hb5
          clear hb5 H33 q3
          go_wp2_with fail
          go_roundg (ln - (i + 1))
          case measure => omega
          case rel => exact ⟨i + 1, kk, M, N, by go_num, by omega, Nat.le_refl _, hB5⟩
    · have hlt' : (i : Int) < (ln : Int) ∧ ¬ (i : Int) < 60 ∨ ¬ (i : Int) < (ln : Int) := by omega
      have HE := Lib.hid hBes
      clear hBes
      rcases hlt' with ⟨hl1, hl2⟩ | hl1
      all_goals
        go_wp2_with fail
        refine (told3_any _ (HT.out.ofBelow HE.out.below)).mono ?_
        rintro e w3 ⟨rfl, hb3⟩
        have hB3 := HE.out.step hb3
        clear hb3
        go_wp2_with fail
        refine (set_all _ _ _ _ _ hB3.s (HT.out.ofBelow hB3.below)).mono ?_
        rintro e w4 ⟨v4, rfl, hv4, hb4⟩
        have hB4 := hB3.step hb4
        clear hB3 hb4
        go_wp2_with fail
        refine (ints_any _ _ _ _ _ hv4.rd hB4.l.rd (elems_le _ _ (by omega))).mono ?_
        rintro e w5 ⟨rfl, q5, rfl⟩
        rw [decide_eq_true (rfl : elems M n = elems M n)]
        have hB5 := hB4.step (below_drewN q5)
        generalize w4.drewN q5 = w5 at hB5 ⊢
        clear hB4 hv4
        go_wp2_with fail
        refine (set_all _ _ _ _ _ hB5.o (HT.out.ofBelow hB5.below)).mono ?_
        rintro e w6 ⟨v6, rfl, hv6, hb6⟩
        have hB6 := hB5.step hb6
        clear hB5 hb6
        go_wp2_with fail
        refine (ints_any _ _ _ _ _ hv6.rd hB6.k.rd (elems_le _ _ (by omega))).mono ?_
        rintro e w7 ⟨rfl, q7, rfl⟩
        rw [decide_eq_true (rfl : elems N m = elems N m)]
        have hB7 := hB6.step (below_drewN q7)
        generalize w6.drewN q7 = w7 at hB7 ⊢
        clear hB6 hv6
        go_wp2_with fail
        go_ret
        exact ⟨rfl, hB7.below⟩
theorem BitsPlays_walk (w : World) (hT : Tab w) (size other : Int) (a : Option Addr) (n c : Nat) (f g : Nat → Int) (hz : Nat → Bool) (h : Trs w a n f g hz) (hn : n ≤ 9223372036854775807) :
    Calls Tryd.prog 8 #[.int .i64 size, .int .i64 other, .slice a n c] w fun e w' => e = .returned (.bool true) ∧ Below w.heap.size w w' := by
  have hu : 0 ≤ IntKind.u64.wrap size := by rw [IntKind.wrap_u64]; exact Int.emod_nonneg _ (by omega)
  have hm0 : 0 ≤ IntKind.u64.wrap size % 301 := Int.emod_nonneg _ (by omega)
  have hm1 : IntKind.u64.wrap size % 301 < 301 := Int.emod_lt_of_pos _ (by omega)
  obtain ⟨s, hs⟩ := Int.eq_ofNat_of_zero_le hm0
  have hu2 : 0 ≤ IntKind.u64.wrap other := by rw [IntKind.wrap_u64]; exact Int.emod_nonneg _ (by omega)
  have hm02 : 0 ≤ IntKind.u64.wrap other % 301 := Int.emod_nonneg _ (by omega)
  have hm12 : IntKind.u64.wrap other % 301 < 301 := Int.emod_lt_of_pos _ (by omega)
  obtain ⟨s2, hs2⟩ := Int.eq_ofNat_of_zero_le hm02
  obtain ⟨b, off, ha, hc⟩ := h
  exact plays_core b off n c s s2 a f g hz size other w hT hn ha hc hu hs (by omega) hu2 hs2 (by omega)
end Go.Proofs.YtpbghoddemffhaaDoor
