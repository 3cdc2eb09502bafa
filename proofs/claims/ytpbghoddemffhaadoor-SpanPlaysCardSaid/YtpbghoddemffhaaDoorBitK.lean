/-
  The walk of BitsWalk: it returns true whatever came in. Under: the library's table.
-/
import Derived.Test.YtpbghoddemffhaaDoorBitF
namespace Go.Proofs.YtpbghoddemffhaaDoor
open Go.RowKit
set_option maxRecDepth 100000
set_option maxHeartbeats 2000000

theorem cnt_gap {M : Nat → Bool} {p : Nat} : ∀ q, p ≤ q → (∀ t, p ≤ t → t < q → M t = false) → cnt M q = cnt M p
  | 0, h, _ => by rw [Nat.le_zero.1 h]
  | q + 1, h, hm => by
    by_cases e : p = q + 1
    · rw [e]
    · unfold cnt
      rw [hm q (by omega) (by omega), cnt_gap q (by omega) (fun t h1 h2 => hm t h1 (by omega))]
      cases p with
      | zero => rfl
      | succ p => rfl
theorem cnt_step {M : Nat → Bool} {p j : Nat} (h : p ≤ j) (hj : M j = true) (hm : ∀ t, p ≤ t → t < j → M t = false) : cnt M (j + 1) = cnt M p + 1 := by
  have e : cnt M (j + 1) = cnt M j + (if M j then 1 else 0) := rfl
  rw [e, hj, cnt_gap j h hm]; rfl
theorem cnt_not (M : Nat → Bool) : ∀ n, cnt M n + cnt (fun t => !M t) n = n
  | 0 => rfl
  | n + 1 => by
    have := cnt_not M n
    unfold cnt
    cases M n <;> simp <;> omega
/-- M, and i in it where it may. -/
def putB (M : Nat → Bool) (n i : Nat) : Nat → Bool := if i < n then putM M i else M
theorem set_set_gen (w : World) (g k n i : Nat) (M : Nat → Bool) (h : SetAt w g k n M) :
    Calls Tryd.prog 39 #[ptr g, .int .i64 i] w fun e w' => e = .returned (.bool (decide (i < n) && !M i)) ∧ SetAt w' g k n (putB M n i) ∧ Upd (fun b => b = g ∨ b = k) w w' := by
  unfold putB
  by_cases hi : i < n
  · rw [if_pos hi, decide_eq_true hi]
    exact set_set w g k n i M h hi
  · rw [if_neg hi, decide_eq_false hi]
    refine (set_set_out w g k n M h i (.inr (by omega))).mono fun e w' ⟨he, hw⟩ => ?_
    subst hw
    exact ⟨he, h, Upd.refl _ _⟩

theorem bitsW_core (b off L n c : Nat) (a : Option Addr) (l : List Int) (size : Int) (w : World) (hT : Tab w) (h60 : L ≤ 60) (ha : 0 < L → a = some ⟨b, off, none⟩)
    (hcell : ∀ j, j < L → w.cell? ⟨b, off + j, none⟩ = some (.int .i64 (l.getD j 0))) (hu : 0 ≤ IntKind.u64.wrap size) (hn : IntKind.u64.wrap size % 301 = (n : Int)) (hn300 : n ≤ 300) :
    Calls Tryd.prog 5 #[.int .i64 size, .slice a L c] w fun e w' => e = .returned (.bool true) ∧ Below w.heap.size w w' := by
  have HC : Hid (∀ j, j < L → ∀ wr, Below w.heap.size w wr → wr.cell? ⟨b, off + j, none⟩ = some (.int .i64 (l.getD j 0))) :=
    fun j hj wr hb => (hb.cell (p := ⟨b, off + j, none⟩) (World.block_lt_of_cell? w ⟨b, off + j, none⟩ (hcell j hj))).trans (hcell j hj)
  have HA := Lib.hid ha
  have HT := Lib.hid hT
  clear hcell ha hT
  go_enter Tryd.func5, Tryd.ntmps5
  go_wp2_with fail
  clear hn hu
  refine (set_new w _ n (by omega)).mono ?_
  rintro e w1 ⟨g, k, rfl, hS, hg, hk, hgk, hb⟩
  go_wp2_with fail
  go_loopg [7] L (fun q s7 ws => ∃ (i : Nat) (M : Nat → Bool), s7 = .int .i64 i ∧ i ≤ L ∧ L - i ≤ q ∧ SetAt ws g k n M ∧ Below w.heap.size w ws)
  case atStart => exact ⟨0, _, rfl, by omega, by omega, hS, hb⟩
  case round =>
    clear hS hb
    obtain ⟨i, M, rfl, hi, hq, hS, hb⟩ := hrel
    by_cases hlt : i < L
    · obtain rfl := HA.out (by omega)
      have c1 := HC.out i hlt _ hb
      generalize l.getD i 0 = x at c1
      have i1 : (0 : Int) ≤ (i : Int) := by omega
      have i2 : (i : Int) < (L : Int) := by omega
      have hu : 0 ≤ IntKind.u64.wrap x := by rw [IntKind.wrap_u64]; exact Int.emod_nonneg _ (by omega)
      have hm0 : 0 ≤ IntKind.u64.wrap x % 320 := Int.emod_nonneg _ (by omega)
      have hm1 : IntKind.u64.wrap x % 320 < 320 := Int.emod_lt_of_pos _ (by omega)
      obtain ⟨m, hm⟩ := Int.eq_ofNat_of_zero_le hm0
      have hm320 : m < 320 := by omega
      clear hm0 hm1
      go_wp2_with fail
      refine (set_set_gen _ _ _ _ _ _ hS).mono ?_
      rintro e w2 ⟨rfl, hS2, hu2⟩
      have hb2 := below_upd hb hu2 hb.size (fun q h => by rcases h with h | h <;> omega)
      clear hS hb hu2 hm hu c1
      go_wp2_with fail
      go_roundg (L - (i + 1))
      case measure => omega
      case rel => exact ⟨i + 1, _, by go_num, by omega, Nat.le_refl _, hS2, hb2⟩
    · obtain rfl : i = L := by omega
      go_wp2_with fail
      refine (set_next _ _ _ _ _ hS (HT.out.ofBelow hb) _ _).mono ?_
      rintro e w' ⟨rfl, rfl⟩
      rw [show Int.toNat 0 = 0 from rfl]
      obtain ⟨z, hz⟩ : ∃ z, z = nextM M n true 0 := ⟨_, rfl⟩
      have HZ := Lib.hid hz
      rw [← hz]
      clear hz
      go_wp2_with fail
      go_loopg [8, 10] (n + 1) (fun q s8 s10 ws => ws = wr ∧ ∃ (p : Nat) (z : Int), s8 = .int .i64 (cnt M p) ∧ s10 = .int .i64 z ∧ Hid (z = nextM M n true p) ∧ p ≤ n ∧ n + 1 - p ≤ q)
      case atStart => exact ⟨rfl, 0, z, rfl, rfl, HZ, by omega, by omega⟩
      case round =>
        clear HZ
        obtain ⟨rfl, p, z, rfl, rfl, hz, hp, hq2⟩ := hrel
        have hle := cnt_le M
        rcases nextM_cases M n true p with ⟨j, e, j1, j2, j3, j4⟩ | ⟨e, hno⟩
        · obtain rfl : z = (j : Int) := hz.out.trans e
          have hst := cnt_step (M := M) j1 j3 (fun t h1 h2 => by simpa using j4 t h1 h2)
          have hc1 : (cnt M p : Int) + 1 = (cnt M (j + 1) : Nat) := by omega
          have hc2 : cnt M (j + 1) ≤ n := Nat.le_trans (hle (j + 1)) j2
          obtain ⟨cp, hcp⟩ : ∃ cp, cp = cnt M p := ⟨_, rfl⟩
          rw [← hcp] at hc1 ⊢
          obtain ⟨cq, hcq⟩ : ∃ cq, cq = cnt M (j + 1) := ⟨_, rfl⟩
          rw [← hcq] at hc1 hc2
          have HQ := Lib.hid hcq
          clear hcq hcp hst hz hle e j4
          have hcp3 : cp ≤ 300 := by omega
          go_wp2_with fail
          refine (set_has _ _ _ _ _ hS _).mono ?_
          rintro e w' ⟨rfl, rfl⟩
          rw [j3]
          go_wp2_with fail
          clear hc1
          refine (set_next _ _ _ _ _ hS (HT.out.ofBelow hb) _ _).mono ?_
          rintro e w' ⟨rfl, rfl⟩
          rw [show ((j : Int) + 1).toNat = j + 1 by omega]
          obtain ⟨z, hz⟩ : ∃ z, z = nextM M n true (j + 1) := ⟨_, rfl⟩
          rw [← hz]
          have HZ := Lib.hid hz
          clear hz
          go_wp2_with fail
          go_roundg (n + 1 - (j + 1))
          case measure => omega
          case rel => exact ⟨rfl, j + 1, z, by rw [HQ.out], rfl, HZ, by omega, Nat.le_refl _⟩
        · obtain rfl : z = -1 := hz.out.trans e
          have hcM : cnt M p = cnt M n := (cnt_gap n hp (fun t h1 h2 => by simpa using hno t h1 h2)).symm
          rw [hcM]
          obtain ⟨ci, hci⟩ : ∃ ci, ci = cnt M n := ⟨_, rfl⟩
          rw [← hci]
          have HI := Lib.hid hci
          have hci300 : ci ≤ n := by rw [hci]; exact hle n
          clear hz e hno hcM hle hci
          go_wp2_with fail
          refine (set_next _ _ _ _ _ hS (HT.out.ofBelow hb) _ _).mono ?_
          rintro e w' ⟨rfl, rfl⟩
          rw [show Int.toNat (-5) = 0 from rfl]
          obtain ⟨z, hz⟩ : ∃ z, z = nextM M n false 0 := ⟨_, rfl⟩
          have HZ := Lib.hid hz
          rw [← hz]
          clear hz
          go_wp2_with fail
          obtain ⟨N, hN⟩ : ∃ N : Nat → Bool, N = fun t => !M t := ⟨_, rfl⟩
          have HN := Lib.hid hN
          clear hN hq2 hp
          go_loopg [9, 11] (n + 1) (fun q s9 s11 ws => ws = wr ∧ ∃ (p : Nat) (z : Int), s9 = .int .i64 (cnt N p) ∧ s11 = .int .i64 z ∧ Hid (z = nextM M n false p) ∧ p ≤ n ∧ n + 1 - p ≤ q)
          case atStart => exact ⟨rfl, 0, z, rfl, rfl, HZ, by omega, by omega⟩
          case round =>
            clear HZ
            obtain ⟨rfl, p, z, rfl, rfl, hz, hp, hq2⟩ := hrel
            have hle := cnt_le N
            rcases nextM_cases M n false p with ⟨j, e, j1, j2, j3, j4⟩ | ⟨e, hno⟩
            · obtain rfl : z = (j : Int) := hz.out.trans e
              have hst := cnt_step (M := N) j1 (by rw [HN.out]; simp [j3]) (fun t h1 h2 => by rw [HN.out]; simpa using j4 t h1 h2)
              have hc1 : (cnt N p : Int) + 1 = (cnt N (j + 1) : Nat) := by omega
              have hc2 : cnt N (j + 1) ≤ n := Nat.le_trans (hle (j + 1)) j2
              obtain ⟨cp, hcp⟩ : ∃ cp, cp = cnt N p := ⟨_, rfl⟩
              rw [← hcp] at hc1 ⊢
              obtain ⟨cq, hcq⟩ : ∃ cq, cq = cnt N (j + 1) := ⟨_, rfl⟩
              rw [← hcq] at hc1 hc2
              have HQ := Lib.hid hcq
              clear hcq hcp hst hz hle e j4
              have hcp3 : cp ≤ 300 := by omega
              go_wp2_with fail
              refine (set_has _ _ _ _ _ hS _).mono ?_
              rintro e w' ⟨rfl, rfl⟩
              rw [j3]
              go_wp2_with fail
              clear hc1
              refine (set_next _ _ _ _ _ hS (HT.out.ofBelow hb) _ _).mono ?_
              rintro e w' ⟨rfl, rfl⟩
              rw [show ((j : Int) + 1).toNat = j + 1 by omega]
              obtain ⟨z, hz⟩ : ∃ z, z = nextM M n false (j + 1) := ⟨_, rfl⟩
              rw [← hz]
              have HZ := Lib.hid hz
              clear hz
              go_wp2_with fail
              go_roundg (n + 1 - (j + 1))
              case measure => omega
              case rel => exact ⟨rfl, j + 1, z, by rw [HQ.out], rfl, HZ, by omega, Nat.le_refl _⟩
            · obtain rfl : z = -1 := hz.out.trans e
              have hcM : cnt N p = cnt N n := (cnt_gap n hp (fun t h1 h2 => by rw [HN.out]; simpa using hno t h1 h2)).symm
              have hall : cnt M n + cnt N n = n := by rw [HN.out]; exact cnt_not M n
              rw [hcM]
              obtain ⟨co, hco⟩ : ∃ co, co = cnt N n := ⟨_, rfl⟩
              rw [← hco] at hall ⊢
              rw [← HI.out] at hall
              have hsum : (ci : Int) + (co : Int) = (n : Int) := by omega
              have hlen := elems_len M n
              have HL := Lib.hid hlen
              clear hz e hno hcM hle hco hall hlen
              go_wp2_with fail
              refine (told3_any _ (HT.out.ofBelow hb)).mono ?_
              rintro e w5 ⟨rfl, hb5⟩
              have hS5 := hS.below hb5
              have hb6 := bstep hb hb5 hb.size
              clear hS hb hb5
              go_wp2_with fail
              refine (set_count _ _ _ _ _ hS5).mono ?_
              rintro e w' ⟨rfl, rfl⟩
              rw [← HI.out]
              go_wp2_with fail
              refine (set_all _ _ _ _ _ hS5 (HT.out.ofBelow hb6)).mono ?_
              rintro e w7 ⟨v, rfl, hv, hb7⟩
              obtain ⟨va, vc, rfl⟩ := hv.rd.form
              rw [HL.out, ← HI.out]
              have hb8 := bstep hb6 hb7 hb6.size
              clear hS5 hb6 hb7 hv
              go_wp2_with fail
              go_ret
              exact ⟨rfl, hb8⟩

theorem bitsW_long (L c : Nat) (a : Option Addr) (size : Int) (w : World) (hT : Tab w) (h60 : 60 < L) :
    Calls Tryd.prog 5 #[.int .i64 size, .slice a L c] w fun e w' => e = .returned (.bool true) ∧ Below w.heap.size w w' := by
  have hu : 0 ≤ IntKind.u64.wrap size := by rw [IntKind.wrap_u64]; exact Int.emod_nonneg _ (by omega)
  have hm0 : 0 ≤ IntKind.u64.wrap size % 301 := Int.emod_nonneg _ (by omega)
  have hm1 : IntKind.u64.wrap size % 301 < 301 := Int.emod_lt_of_pos _ (by omega)
  obtain ⟨n, hn⟩ := Int.eq_ofNat_of_zero_le hm0
  have hn300 : n ≤ 300 := by omega
  have HT := Lib.hid hT
  clear hm0 hm1 hT
  go_enter Tryd.func5, Tryd.ntmps5
  go_wp2_with fail
  clear hn hu
  refine (set_new w _ n (by omega)).mono ?_
  rintro e w1 ⟨g, k, rfl, hS, hg, hk, hgk, hb⟩
  go_wp2_with fail
  refine (told3_any _ (HT.out.ofBelow hb)).mono ?_
  rintro e w5 ⟨rfl, hb5⟩
  go_wp2_with fail
  go_ret
  exact ⟨rfl, bx hb hb5⟩

theorem BitsWalk_walk (w : World) (hT : Tab w) (size : Int) (a : Option Addr) (L c : Nat) (l : List Int) (hr : Rd w (.slice a L c) l) (_hle : l.length ≤ 9223372036854775807) :
    Calls Tryd.prog 5 #[.int .i64 size, .slice a L c] w fun e w' => e = .returned (.bool true) ∧ Below w.heap.size w w' := by
  by_cases h60 : 60 < L
  · exact bitsW_long L c a size w hT h60
  · obtain ⟨hl, b, off, ha, hcell⟩ := hr.plain
    have hu : 0 ≤ IntKind.u64.wrap size := by rw [IntKind.wrap_u64]; exact Int.emod_nonneg _ (by omega)
    have hm0 : 0 ≤ IntKind.u64.wrap size % 301 := Int.emod_nonneg _ (by omega)
    have hm1 : IntKind.u64.wrap size % 301 < 301 := Int.emod_lt_of_pos _ (by omega)
    obtain ⟨n, hn⟩ := Int.eq_ofNat_of_zero_le hm0
    exact bitsW_core b off L n c a l size w hT (by omega) ha hcell hu hn (by omega)
end Go.Proofs.YtpbghoddemffhaaDoor
