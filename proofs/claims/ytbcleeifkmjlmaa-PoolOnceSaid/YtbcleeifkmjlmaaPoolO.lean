/-
  The law PoolOnce.
-/
import Derived.Test.YtbcleeifkmjlmaaPoolJ
namespace Go.Proofs.Ytbcleeifkmjlmaa
open Go.RowKit
set_option maxRecDepth 100000
set_option maxHeartbeats 2000000

theorem info_bool : (Try.prog.info? 4).map (fun i => (i.zero, i.size, i.bytes)) = some (some (.bool false), 1, 1) := by kernel_rfl
/-- The list of those that were got: not yet any of R. -/
def SeenAt (w : World) (sb k : Nat) (R : List Int) : Prop := ∃ cs, Cel w sb 4 cs ∧ ∀ i, i ≤ k → ∃ bv, cs[i]? = some (.bool bv) ∧ ((i : Int) ∈ R → bv = false)
theorem Keeps.seen {w w' : World} {sb k : Nat} {R : List Int} (h : SeenAt w sb k R) (hk : Keeps w w') : SeenAt w' sb k R := by
  obtain ⟨cs, h1, h2⟩ := h
  exact ⟨cs, hk _ _ _ h1 (by decide) (by decide) (by decide) (by decide), h2⟩
theorem SeenAt.sub {w : World} {sb k : Nat} {R R' : List Int} (h : SeenAt w sb k R) (hs : ∀ x ∈ R', x ∈ R) : SeenAt w sb k R' := by
  obtain ⟨cs, h1, h2⟩ := h
  exact ⟨cs, h1, fun i hi => by
    obtain ⟨bv, h3, h4⟩ := h2 i hi
    exact ⟨bv, h3, fun hin => h4 (hs _ hin)⟩⟩
theorem Rep.foreign {B : Nat} {w0 w w' : World} {W : Nat} {s : PoS} (h : Rep B w0 w W s) {q : Nat} {cs : Array Value} (hq : Cel w q 4 cs) (hu : Upd (· = q) w w') : Rep B w' w' W s := by
  obtain ⟨pv, fv, ev, p1, p2, p3, p4, p5⟩ := h.pool
  refine ⟨⟨pv, fv, ev, hu.cel p1 (fun e => p1.ne hq (by decide) e), p2.upd hu (p2.typed hq (by decide)), p3.upd hu (p3.typed hq (by decide)), p4.upd hu (p4.typed hq (by decide)), p5⟩, fun y hy => ?_, fun k hk => ?_, h.pa, h.WB, h.aB, h.gB, Nat.le_trans h.size hu.size, ⟨Below.refl _ _, Keeps.refl _⟩⟩
  · have hy' := h.pairs y hy
    exact hu.cel hy' (fun e => hy'.ne hq (by decide) e)
  · have h1 := h.bufs k hk
    have h1' := h1
    obtain ⟨_, b1, _⟩ := h1'
    exact h1.upd hu (fun e => b1.ne hq (by decide) e)
theorem RepL.foreign {B : Nat} {w0 w w' : World} {W : Nat} {P : Pl} (h : RepL B w0 w W P) {q : Nat} {cs : Array Value} (hq : Cel w q 4 cs) (hu : Upd (· = q) w w') : RepL B w' w' W P := by
  obtain ⟨s, h1, h2, h3⟩ := h
  exact ⟨s, h1.foreign hq hu, h2, h3⟩
theorem get_no0 {B : Nat} {w0 w : World} {W p : Nat} {P : Pl} (h : RepL B w0 w W P) (G : PG p P) (hp : p < 64) (hi : itm P = []) :
    Calls Try.prog 24 #[ptr W, .int .i64 0] w fun r w' => ∃ v, r = .returned (.tuple #[.int .i64 v, .bool false]) ∧ RepL B w0 w' W P := get_no (q := 0) h G hp (by omega) hi
theorem SeenAt.put {w : World} {sb k u : Nat} {R R' : List Int} (h : SeenAt w sb k R) (hn : ∀ x ∈ R', x ∈ R ∧ x ≠ (u : Int)) : SeenAt (w.setCell ⟨sb, u, none⟩ (.bool true)) sb k R' := by
  obtain ⟨cs, h1, h2⟩ := h
  refine ⟨_, h1.put u (.bool true), fun i hi => ?_⟩
  obtain ⟨bv, h3, h4⟩ := h2 i hi
  by_cases e : u = i
  · subst e
    refine ⟨true, ?_, fun hin => absurd rfl (hn _ hin).2⟩
    have hlt : u < cs.size := (Array.getElem?_eq_some_iff.1 h3).1
    simp [hlt]
  · exact ⟨bv, by rw [Array.getElem?_setIfInBounds_ne e]; exact h3, fun hin => h4 (hn _ hin).1⟩

theorem PoolOnce_core (b off nw c k m : Nat) (a : Option Addr) (l : List Int) (n ps : Int) (w : World) (hl : l.length = nw) (hnw : nw ≤ 9223372036854775807) (ha : 0 < nw → a = some ⟨b, off, none⟩)
    (hcell : ∀ j, j < nw → w.cell? ⟨b, off + j, none⟩ = some (.int .i64 (l.getD j 0))) (hu : 0 ≤ IntKind.u64.wrap n) (hk : IntKind.u64.wrap n % 301 = (k : Int)) (hk300 : k ≤ 300) (hu2 : 0 ≤ IntKind.u64.wrap ps) (hm : IntKind.u64.wrap ps % 8 = (m : Int)) (hm7 : m ≤ 7) :
    Calls Try.prog 7 #[.int .i64 n, .int .i64 ps, .slice a nw c] w fun e w' => e = .returned (.bool true) ∧ Below w.heap.size w w' := by
  have HC : Hid (∀ j, j < nw → ∀ wr, Below w.heap.size w wr → wr.cell? ⟨b, off + j, none⟩ = some (.int .i64 (l.getD j 0))) :=
    fun j hj wr hb => (hb.cell (p := ⟨b, off + j, none⟩) (World.block_lt_of_cell? w ⟨b, off + j, none⟩ (hcell j hj))).trans (hcell j hj)
  have HA := Lib.hid ha
  have HL := Lib.hid hl
  clear hcell ha hl
  obtain ⟨i0, hi, hz0, hz1, hz2⟩ := info_parts info_bool
  have hbytes : i0.bytes * (k + 1) ≤ 281474976710656 := by rw [hz2]; omega
  have hmx : k + 1 ≤ maxLen := by simp only [maxLen]; omega
  have HI := Lib.hid (And.intro hi (And.intro hz0 (And.intro hz1 (And.intro hbytes hmx))))
  clear hi hz0 hz1 hz2 hbytes hmx
  go_enter Try.func7, Try.ntmps7
  go_wp2_with fail
  have hm1 : 1 + (m : Int) = ((m + 1 : Nat) : Int) := by omega
  rw [hm1]
  clear hm hu2
  refine (new_L w (m + 1) (by omega) (by omega)).mono ?_
  rintro e w1 ⟨W, rfl, h1⟩
  unfold ptr
  have H1 := Lib.hid h1
  clear h1
  go_wp2_with (at_make; go_loud (refine wpList_make_full w1 rfl (.tmp 43) (.tmp 43) 50 rfl w1.heap.size 4 i0 (.bool false) 1 Try.underlying50 HI.out.1 HI.out.2.1 HI.out.2.2.1 .i64 .i64 _ _ (k + 1) rfl rfl (by omega) (by omega) HI.out.2.2.2.1 HI.out.2.2.2.2 (Nat.le_refl _) ?_); intro w2 hown hg2)
  have hb12 : Below w1.heap.size w1 w2 := (Below.refl _ _).grown hg2 (Nat.le_refl _) (fun k h => by cases h)
  obtain ⟨sb, hsb⟩ : ∃ sb, sb = w1.heap.size := ⟨_, rfl⟩
  have hS : SeenAt w2 sb k (oneTo k) := by
    rcases hown.2 with ⟨e, h0⟩ | ⟨g, cap, cur, e, hB, hgk, hcn, hcm, hcs, ht⟩
    · cases e
    injection e with e1 e2 e3
    injection e1 with e1
    injection e1 with e1
    subst e1
    have hc : Cel w2 w1.heap.size 4 cur := hgk
    rw [hsb]
    refine ⟨cur, hc, fun j hj => ⟨false, ?_, fun _ => rfl⟩⟩
    have h1 : (cur.toList.take ((k + 1) * 1))[j]? = some (.bool false) := by
      rw [ht, show (Value.bool false).cells = #[.bool false] from rfl, toList_madeCells_one, List.getElem?_replicate, if_pos (by omega)]
    rw [List.getElem?_take, if_pos (by omega)] at h1
    simpa using h1
  have hB2 : Below w.heap.size w w2 := bx H1.out.below hb12
  have hsB : w.heap.size ≤ sb := by rw [hsb]; exact H1.out.below.size
  have h2 := (H1.out.step hb12).now
  rw [← hsb]
  have hJ : PJ (m + 1) ⟨List.replicate (m + 1) ([], [], false), [], 0⟩ := ⟨by simp, rfl, fun l hl => by cases hl⟩
  have hI : itm ⟨List.replicate (m + 1) ([], [], false), [], 0⟩ = [] := by
    unfold itm two
    simp
  have HS := Lib.hid (And.intro hS (And.intro hB2 (And.intro hsB hsb)))
  clear hS hB2 hsB hsb hb12 H1 hown hg2
  obtain ⟨B, hB⟩ : ∃ B, B = w.heap.size := ⟨_, rfl⟩
  rw [← hB] at h2
  have HB := Lib.hid hB
  clear hB hk hu HI
  go_loopg [12, 13] 302 (fun q s12 _ ws => ∃ (i : Nat) (P : Pl), s12 = .int .i64 i ∧ 1 ≤ i ∧ i ≤ k + 1 ∧ 302 - i ≤ q ∧ RepL B w2 ws W P ∧ Hid (PJ (m + 1) P ∧ (itm P).Perm (oneTo (i - 1))))
  case atStart => exact ⟨1, _, rfl, by omega, by omega, by omega, h2, ⟨hJ, by rw [hI]; exact List.Perm.refl _⟩⟩
  case round =>
    clear h2 hJ hI
    obtain ⟨i, P, rfl, hi1, hi, hq, h3, HP⟩ := hrel
    have H3 := Lib.hid h3
    clear h3
    have n3 : (itm P).length = i - 1 := by rw [HP.out.2.length_eq, oneTo_len]
    have HN := Lib.hid n3
    clear n3
    by_cases hlt : i ≤ k
    · have hle' : (i : Int) ≤ (k : Int) := by omega
      obtain ⟨q1, hq1, q1lt⟩ : ∃ q1 : Nat, (i : Int) % ((m : Int) + 1) = q1 ∧ q1 < m + 1 := ⟨i % (m + 1), by simp, Nat.mod_lt _ (by omega)⟩
      have z1 : ((m : Int) + 1 == 0) = false := by simp; omega
      have z2 : ¬ (m : Int) + 1 = 0 := by omega
      by_cases hw : i < nw
      · have hw' : (i : Int) < (nw : Int) := by omega
        obtain rfl := HA.out (by omega)
        have cw : wr.cell? ⟨b, off + i, none⟩ = some (.int .i64 (l.getD i 0)) := HC.out i hw wr (by have h5 := H3.out.below; rw [HB.out] at h5; exact HS.out.2.1.trans h5)
        obtain ⟨xv, hxv⟩ : ∃ xv, xv = l.getD i 0 := ⟨_, rfl⟩
        rw [← hxv] at cw
        clear hxv
        have hu3 : 0 ≤ IntKind.u64.wrap xv := by rw [IntKind.wrap_u64]; exact Int.emod_nonneg _ (by omega)
        obtain ⟨q2, hq2, q2lt⟩ : ∃ q2 : Nat, IntKind.u64.wrap xv % ((m : Int) + 1) = q2 ∧ q2 < m + 1 := by
          have g1 := Int.emod_nonneg (IntKind.u64.wrap xv) z2
          have g2 := Int.emod_lt_of_pos (IntKind.u64.wrap xv) (show (0 : Int) < (m : Int) + 1 by omega)
          obtain ⟨q2, h2⟩ := Int.eq_ofNat_of_zero_le g1
          exact ⟨q2, h2, by omega⟩
        by_cases h17 : (i : Int) % 17 = 0
        · have _hx := h17
          go_wp2_with fail
          refine (put_J H3.out HP.out.1 (by omega) q2lt (by rw [HN.out]; omega) (i : Int) (by omega)).mono ?_
          rintro r w4 ⟨rfl, P4, h4, J4, p4⟩
          have p4' : (itm P4).Perm (oneTo i) := by
            refine p4.trans ((List.Perm.cons _ HP.out.2).trans ?_)
            rw [show i = (i - 1) + 1 by omega, oneTo_succ]
            have e : ((i - 1 + 1 : Nat) : Int) = ((i - 1 : Nat) : Int) + 1 := by omega
            rw [e]
            exact (List.perm_append_singleton _ _).symm
          have H4 := Lib.hid h4
          have HP4 := Lib.hid (And.intro J4 p4')
          have n4 : (itm P4).length = i := by rw [p4'.length_eq, oneTo_len]
          have HN4 := Lib.hid n4
          clear h4 J4 p4 p4' n4 H3 HP HN
          go_wp2_with fail
          refine (give_J H4.out HP4.out.1 (by omega) q2lt (by rw [HN4.out]; omega)).mono ?_
          rintro r w5 ⟨ok, rfl, P5, h5, J5, p5⟩
          have H4 := Lib.hid h5
          have HN4 := Lib.hid (show (itm P5).length = i by rw [p5.length_eq]; exact HN4.out)
          have HP4 := Lib.hid (And.intro J5 (p5.trans HP4.out.2))
          clear h5 J5 p5
          go_wp2_with fail
          refine (len_J H4.out HP4.out.1 (by omega) (by rw [HN4.out]; omega)).mono ?_
          rintro r w9 ⟨rfl, hb9⟩
          rw [HN4.out]
          have H9 := Lib.hid (H4.out.step hb9)
          clear hb9
          go_wp2_with fail
          go_roundg (302 - (i + 1))
          case measure => omega
          case rel => exact ⟨i + 1, P5, by go_num, by omega, by omega, by omega, H9.out, ⟨HP4.out.1, HP4.out.2⟩⟩
        · have h17' : ((i : Int) % 17 == 0) = false := by simpa using h17
          go_wp2_with fail
          refine (put_J H3.out HP.out.1 (by omega) q2lt (by rw [HN.out]; omega) (i : Int) (by omega)).mono ?_
          rintro r w4 ⟨rfl, P4, h4, J4, p4⟩
          have p4' : (itm P4).Perm (oneTo i) := by
            refine p4.trans ((List.Perm.cons _ HP.out.2).trans ?_)
            rw [show i = (i - 1) + 1 by omega, oneTo_succ]
            have e : ((i - 1 + 1 : Nat) : Int) = ((i - 1 : Nat) : Int) + 1 := by omega
            rw [e]
            exact (List.perm_append_singleton _ _).symm
          have H4 := Lib.hid h4
          have HP4 := Lib.hid (And.intro J4 p4')
          have n4 : (itm P4).length = i := by rw [p4'.length_eq, oneTo_len]
          have HN4 := Lib.hid n4
          clear h4 J4 p4 p4' n4 H3 HP HN
          go_wp2_with fail
          refine (len_J H4.out HP4.out.1 (by omega) (by rw [HN4.out]; omega)).mono ?_
          rintro r w9 ⟨rfl, hb9⟩
          rw [HN4.out]
          have H9 := Lib.hid (H4.out.step hb9)
          clear hb9
          go_wp2_with fail
          go_roundg (302 - (i + 1))
          case measure => omega
          case rel => exact ⟨i + 1, P4, by go_num, by omega, by omega, by omega, H9.out, ⟨HP4.out.1, HP4.out.2⟩⟩
      · have hw' : ¬ (i : Int) < (nw : Int) := by omega
        by_cases h17 : (i : Int) % 17 = 0
        · have _hx := h17
          go_wp2_with fail
          refine (put_J H3.out HP.out.1 (by omega) q1lt (by rw [HN.out]; omega) (i : Int) (by omega)).mono ?_
          rintro r w4 ⟨rfl, P4, h4, J4, p4⟩
          have p4' : (itm P4).Perm (oneTo i) := by
            refine p4.trans ((List.Perm.cons _ HP.out.2).trans ?_)
            rw [show i = (i - 1) + 1 by omega, oneTo_succ]
            have e : ((i - 1 + 1 : Nat) : Int) = ((i - 1 : Nat) : Int) + 1 := by omega
            rw [e]
            exact (List.perm_append_singleton _ _).symm
          have H4 := Lib.hid h4
          have HP4 := Lib.hid (And.intro J4 p4')
          have n4 : (itm P4).length = i := by rw [p4'.length_eq, oneTo_len]
          have HN4 := Lib.hid n4
          clear h4 J4 p4 p4' n4 H3 HP HN
          go_wp2_with fail
          refine (give_J H4.out HP4.out.1 (by omega) q1lt (by rw [HN4.out]; omega)).mono ?_
          rintro r w5 ⟨ok, rfl, P5, h5, J5, p5⟩
          have H4 := Lib.hid h5
          have HN4 := Lib.hid (show (itm P5).length = i by rw [p5.length_eq]; exact HN4.out)
          have HP4 := Lib.hid (And.intro J5 (p5.trans HP4.out.2))
          clear h5 J5 p5
          go_wp2_with fail
          refine (len_J H4.out HP4.out.1 (by omega) (by rw [HN4.out]; omega)).mono ?_
          rintro r w9 ⟨rfl, hb9⟩
          rw [HN4.out]
          have H9 := Lib.hid (H4.out.step hb9)
          clear hb9
          go_wp2_with fail
          go_roundg (302 - (i + 1))
          case measure => omega
          case rel => exact ⟨i + 1, P5, by go_num, by omega, by omega, by omega, H9.out, ⟨HP4.out.1, HP4.out.2⟩⟩
        · have h17' : ((i : Int) % 17 == 0) = false := by simpa using h17
          go_wp2_with fail
          refine (put_J H3.out HP.out.1 (by omega) q1lt (by rw [HN.out]; omega) (i : Int) (by omega)).mono ?_
          rintro r w4 ⟨rfl, P4, h4, J4, p4⟩
          have p4' : (itm P4).Perm (oneTo i) := by
            refine p4.trans ((List.Perm.cons _ HP.out.2).trans ?_)
            rw [show i = (i - 1) + 1 by omega, oneTo_succ]
            have e : ((i - 1 + 1 : Nat) : Int) = ((i - 1 : Nat) : Int) + 1 := by omega
            rw [e]
            exact (List.perm_append_singleton _ _).symm
          have H4 := Lib.hid h4
          have HP4 := Lib.hid (And.intro J4 p4')
          have n4 : (itm P4).length = i := by rw [p4'.length_eq, oneTo_len]
          have HN4 := Lib.hid n4
          clear h4 J4 p4 p4' n4 H3 HP HN
          go_wp2_with fail
          refine (len_J H4.out HP4.out.1 (by omega) (by rw [HN4.out]; omega)).mono ?_
          rintro r w9 ⟨rfl, hb9⟩
          rw [HN4.out]
          have H9 := Lib.hid (H4.out.step hb9)
          clear hb9
          go_wp2_with fail
          go_roundg (302 - (i + 1))
          case measure => omega
          case rel => exact ⟨i + 1, P4, by go_num, by omega, by omega, by omega, H9.out, ⟨HP4.out.1, HP4.out.2⟩⟩
    · obtain rfl : i = k + 1 := by omega
      have hle' : ¬ ((k + 1 : Nat) : Int) ≤ (k : Int) := by omega
      go_wp2_with fail
      clear hle' hi1 hi hq
      go_loopg [14] 10 (fun q s14 ws => ∃ (j : Nat) (P : Pl), s14 = .int .i64 j ∧ j ≤ m + 1 ∧ 10 - j ≤ q ∧ RepL B w2 ws W P ∧ Hid (PJ (m + 1) P ∧ (itm P).Perm (oneTo k) ∧ Emp j P))
      case atStart => exact ⟨0, P, rfl, by omega, by omega, H3.out, ⟨HP.out.1, HP.out.2, fun x hx => by simp at hx⟩⟩
      case round =>
        clear H3 HP HN
        obtain ⟨j, P, rfl, hj, hq, h3, HP⟩ := hrel
        have H3 := Lib.hid h3
        clear h3
        have HN := Lib.hid (show (itm P).length = k by rw [HP.out.2.1.length_eq, oneTo_len])
        by_cases hlt : j < m + 1
        · have hlt' : (j : Int) < (m : Int) + 1 := by omega
          go_wp2_with fail
          refine (flush_J H3.out HP.out.1 (by omega) hlt (by rw [HN.out]; omega) HP.out.2.2).mono ?_
          rintro r w4 ⟨⟨v4, rfl⟩, P4, h4, J4, p4, E4⟩
          have H4 := Lib.hid h4
          have HP4 := Lib.hid (And.intro J4 (And.intro (p4.trans HP.out.2.1) E4))
          clear h4 J4 p4 E4 H3 HP HN
          go_wp2_with fail
          refine (local_J H4.out HP4.out.1 (by omega) hlt HP4.out.2.2).mono ?_
          rintro r w5 ⟨rfl, hb5⟩
          have H5 := Lib.hid (H4.out.step hb5)
          clear hb5 H4
          go_wp2_with fail
          go_roundg (10 - (j + 1))
          case measure => omega
          case rel => exact ⟨j + 1, P4, by go_num, by omega, by omega, H5.out, HP4⟩
        · obtain rfl : j = m + 1 := by omega
          have hlt' : ¬ ((m + 1 : Nat) : Int) < (m : Int) + 1 := by omega
          go_wp2_with fail
          clear hlt' hj hq hlt
          have hm2 : (m : Int) + 1 - 1 = (m : Int) := by omega
          go_loopg [15, 16, 17] 302 (fun q s15 _ _ ws => ∃ (i : Nat) (P : Pl), s15 = .int .i64 i ∧ i ≤ k ∧ 302 - i ≤ q ∧ RepL B ws ws W P ∧ Hid (PG m P ∧ Below w.heap.size w ws ∧ SeenAt ws sb k (itm P) ∧ (itm P).Nodup ∧ (∀ u ∈ itm P, 1 ≤ u ∧ u ≤ (k : Int)) ∧ (itm P).length + i = k))
          case atStart =>
            refine ⟨0, P, rfl, by omega, by omega, H3.out.now, ⟨HP.out.1.pg HP.out.2.2 (by rw [HN.out]; omega), ?_, ?_, ?_, ?_, ?_⟩⟩
            · have h5 := H3.out.below; rw [HB.out] at h5; exact HS.out.2.1.trans h5
            · exact (Keeps.seen HS.out.1 H3.out.keeps).sub fun x hx => (HP.out.2.1.mem_iff).1 hx
            · exact (HP.out.2.1.nodup_iff).2 (oneTo_nodup k)
            · exact fun u hu => oneTo_mem ((HP.out.2.1.mem_iff).1 hu)
            · exact HN.out
          case round =>
            clear H3 HP HN
            obtain ⟨i, P, rfl, hi, hq, h3, HG⟩ := hrel
            have H3 := Lib.hid h3
            clear h3
            by_cases hlt : i < k
            · have hlt' : (i : Int) < (k : Int) := by omega
              go_wp2_with fail
              refine (get_G H3.out HG.out.1 (by omega) (by have := HG.out.2.2.2.2.2; omega)).mono ?_
              rintro r w4 ⟨v, rfl, P4, h4, G4, p4⟩
              have hv : v ∈ itm P := (p4.mem_iff).2 (by simp)
              have hvb := HG.out.2.2.2.2.1 v hv
              obtain ⟨u, rfl⟩ := Int.eq_ofNat_of_zero_le (show (0 : Int) ≤ v by omega)
              have S4 := Keeps.seen HG.out.2.2.1 h4.keeps
              obtain ⟨cs, c1, c2⟩ := S4
              obtain ⟨bv, b1, b2⟩ := c2 u (by omega)
              obtain rfl := b2 hv
              have cu : w4.cell? ⟨sb, u, none⟩ = some (.bool false) := (c1.cell u).trans b1
              have fu : w4.frozen? ⟨sb, u, none⟩ = false := c1.free u
              have i0 : ¬ (u : Int) < 1 := by omega
              have i1 : ¬ (k : Int) < (u : Int) := by omega
              have i2 : (0 : Int) ≤ (u : Int) := by omega
              have i3 : (u : Int) < ((k + 1 : Nat) : Int) := by omega
              have hu4 : Upd (· = sb) w4 (w4.setCell ⟨sb, u, none⟩ (.bool true)) := (Upd.refl (· = sb) w4).sc (fun _ => rfl) _ _
              have hB4 : Below w.heap.size w w4 := by have h5 := h4.below; rw [HB.out] at h5; exact HG.out.2.1.trans h5
              have hnd := (p4.nodup_iff).1 HG.out.2.2.2.1
              rw [List.nodup_cons] at hnd
              have hsub : ∀ x ∈ itm P4, x ∈ itm P ∧ x ≠ (u : Int) := fun x hx => ⟨(p4.mem_iff).2 (List.mem_cons_of_mem _ hx), fun e => hnd.1 (by rw [← e]; exact hx)⟩
              have hlen : (itm P).length = (itm P4).length + 1 := by rw [p4.length_eq]; rfl
              have K := Lib.hid (show RepL B (w4.setCell ⟨sb, u, none⟩ (.bool true)) (w4.setCell ⟨sb, u, none⟩ (.bool true)) W P4 ∧ (PG m P4 ∧ Below w.heap.size w (w4.setCell ⟨sb, u, none⟩ (.bool true)) ∧ SeenAt (w4.setCell ⟨sb, u, none⟩ (.bool true)) sb k (itm P4) ∧ (itm P4).Nodup ∧ (∀ u ∈ itm P4, 1 ≤ u ∧ u ≤ (k : Int)) ∧ (itm P4).length + (i + 1) = k) from
                ⟨h4.foreign c1 hu4, G4, below_upd hB4 hu4 hB4.size (fun q e => by rw [e]; exact HS.out.2.2.1), SeenAt.put ⟨cs, c1, c2⟩ hsub, hnd.2, fun x hx => HG.out.2.2.2.2.1 x (hsub x hx).1, by have := HG.out.2.2.2.2.2; omega⟩)
              clear hv hvb c1 c2 b1 b2 hu4 hB4 hnd hsub hlen h4 G4 p4 HG H3
              go_wp2_with fail
              go_roundg (302 - (i + 1))
              case measure => omega
              case rel => exact ⟨i + 1, P4, by go_num, by omega, by omega, K.out.1, K.out.2⟩
            · obtain rfl : i = k := by omega
              have hlt' : ¬ (i : Int) < (i : Int) := by omega
              have hz : itm P = [] := List.eq_nil_of_length_eq_zero (by have := HG.out.2.2.2.2.2; omega)
              have HZ := Lib.hid hz
              clear hz
              go_wp2_with fail
              refine (get_no0 H3.out HG.out.1 (by omega) HZ.out).mono ?_
              rintro r w4 ⟨v4, rfl, h4⟩
              have H4 := Lib.hid h4
              clear h4
              go_wp2_with fail
              refine (get_no H4.out HG.out.1 (by omega) (by omega) HZ.out).mono ?_
              rintro r w5 ⟨v5, rfl, h5⟩
              have H5 := Lib.hid h5
              clear h5 H4
              go_wp2_with fail
              refine (told18 _).mono ?_
              rintro r w6 ⟨rfl, hb6⟩
              have H6 := Lib.hid (H5.out.step hb6)
              clear hb6 H5
              go_wp2_with fail
              refine (len_G H6.out HG.out.1 (by omega)).mono ?_
              rintro r w7 ⟨rfl, hb7⟩
              rw [HZ.out]
              have H7 := Lib.hid (H6.out.step hb7)
              clear hb7 H6
              go_wp2_with fail
              go_ret
              exact ⟨rfl, by have h5 := H7.out.below; rw [HB.out] at h5; exact HG.out.2.1.trans h5⟩
theorem PoolOnce_walk (w : World) (n ps : Int) (a : Option Addr) (nw c : Nat) (l : List Int) (hr : Rd w (.slice a nw c) l) (hle : l.length ≤ 9223372036854775807) :
    Calls Try.prog 7 #[.int .i64 n, .int .i64 ps, .slice a nw c] w fun e w' => e = .returned (.bool true) ∧ Below w.heap.size w w' := by
  obtain ⟨hl, b, off, ha, hcell⟩ := hr.plain
  have hu : 0 ≤ IntKind.u64.wrap n := by rw [IntKind.wrap_u64]; exact Int.emod_nonneg _ (by omega)
  have hm0 : 0 ≤ IntKind.u64.wrap n % 301 := Int.emod_nonneg _ (by omega)
  have hm1 : IntKind.u64.wrap n % 301 < 301 := Int.emod_lt_of_pos _ (by omega)
  obtain ⟨k, hk⟩ := Int.eq_ofNat_of_zero_le hm0
  have hu2 : 0 ≤ IntKind.u64.wrap ps := by rw [IntKind.wrap_u64]; exact Int.emod_nonneg _ (by omega)
  have hp0 : 0 ≤ IntKind.u64.wrap ps % 8 := Int.emod_nonneg _ (by omega)
  have hp1 : IntKind.u64.wrap ps % 8 < 8 := Int.emod_lt_of_pos _ (by omega)
  obtain ⟨m, hm⟩ := Int.eq_ofNat_of_zero_le hp0
  exact PoolOnce_core b off nw c k m a l n ps w hl (by omega) ha hcell hu hk (by omega) hu2 hm (by omega)
end Go.Proofs.Ytbcleeifkmjlmaa
