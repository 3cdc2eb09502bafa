/-
  Sets of numbers (bits): TrailingZeros64 and Next.
-/
import Derived.Test.YtpbghoddemffhaaDoorBitW
import Derived.Shelf.Spec.TrailingZeros
import Derived.Deep.LoopGhost
import Derived.Deep.CutRange
import Derived.Deep.CutBlock
import Derived.Deep.DeepCutAuto
namespace Go.Proofs.YtpbghoddemffhaaDoor
open Go.RowKit
set_option maxRecDepth 100000
set_option maxHeartbeats 1000000

/-- The library's table, as it is laid. -/
def Tab (w : World) : Prop := TabAt 0 Lib.deBruijn64tab w
theorem Tab.below {B : Nat} {w w' : World} (h : Tab w) (hb : Below B w w') (hB : 0 < B) : Tab w' := fun j hj => (hb.cell (p := ⟨0, j, none⟩) hB).trans (h j hj)
theorem Tab.upd {F : Nat → Prop} {w w' : World} (h : Tab w) (hu : Upd F w w') (hF : ¬ F 0) : Tab w' := fun j hj => by
  have hc := h j hj
  exact (World.cell?_of_block (a := ⟨0, j, none⟩) (hu.block 0 (World.block_lt_of_cell? w ⟨0, j, none⟩ hc) hF)).trans hc

theorem tz_core (x k idx : Nat) (w : World) (hx0 : ((x : Int) == 0) = false)
    (key : IntKind.u64.wrap (bits BinOp.and IntKind.u64 (x : Int) (IntKind.u64.wrap (-(x : Int))) * 285870213051353865) / 288230376151711744 = (idx : Int))
    (hi : idx < 64) (hk : k < 64) (hcell : w.cell? ⟨0, idx, none⟩ = some (.int .u8 k)) :
    Calls Tryd.prog 57 #[.int .u64 x] w fun e w' => e = .returned (.int .i64 k) ∧ w = w' := by
  go_enter Tryd.func57, Tryd.ntmps57
  go_wp2_with (simp only [key])
  go_ret
  exact ⟨rfl, rfl⟩
theorem tz_any (x : Nat) (hx : x < 18446744073709551616) (hx0 : x ≠ 0) (w : World) (hT : Tab w) :
    Calls Tryd.prog 57 #[.int .u64 x] w fun e w' => e = .returned (.int .i64 (Lib.ctz 64 x)) ∧ w = w' := by
  obtain ⟨hlow, hk⟩ := Lib.lowest_bit 64 x hx0 hx
  obtain ⟨hi, htab⟩ := Lib.deBruijn64_at _ hk
  have hcell := hT _ hi
  rw [htab] at hcell
  exact tz_core x _ _ w (by simp; omega) (tz64_key x _ hx hx0 hlow) hi hk hcell

theorem ctz_spec (x : Nat) (hx : x < 18446744073709551616) (hx0 : x ≠ 0) : x.testBit (Lib.ctz 64 x) = true ∧ (∀ b, b < Lib.ctz 64 x → x.testBit b = false) ∧ Lib.ctz 64 x < 64 := by
  obtain ⟨m, hm, hk⟩ := Lib.ctzFrom_spec 64 x (by omega) hx
  have e : Lib.ctz 64 x = Lib.ctzFrom 64 x := by simp [Lib.ctz, hx0]
  rw [e]
  generalize Lib.ctzFrom 64 x = c at *
  refine ⟨?_, fun b hb => ?_, hk⟩
  · rw [hm, Nat.testBit_two_pow_mul]
    simp
  · rw [hm, Nat.testBit_two_pow_mul]
    simp; omega

/-- The least number from i on, below i + f, of which M tells b. -/
def nextF (M : Nat → Bool) (b : Bool) : Nat → Nat → Int
  | 0, _ => -1
  | f + 1, i => if M i = b then (i : Int) else nextF M b f (i + 1)
def nextM (M : Nat → Bool) (n : Nat) (b : Bool) (i : Nat) : Int := nextF M b (n - i) i
theorem nextF_none {M : Nat → Bool} {b : Bool} : ∀ (f i : Nat), (∀ t, i ≤ t → t < i + f → M t ≠ b) → nextF M b f i = -1
  | 0, _, _ => rfl
  | f + 1, i, h => by
    unfold nextF
    rw [if_neg (h i (Nat.le_refl _) (by omega))]
    exact nextF_none f (i + 1) fun t h1 h2 => h t (by omega) (by omega)
theorem nextF_some {M : Nat → Bool} {b : Bool} : ∀ (f i j : Nat), i ≤ j → j < i + f → M j = b → (∀ t, i ≤ t → t < j → M t ≠ b) → nextF M b f i = (j : Int)
  | 0, i, j, h1, h2, _, _ => by omega
  | f + 1, i, j, h1, h2, hj, h => by
    unfold nextF
    by_cases e : i = j
    · subst e; rw [if_pos hj]
    · rw [if_neg (h i (Nat.le_refl _) (by omega))]
      exact nextF_some f (i + 1) j (by omega) (by omega) hj fun t h1 h2 => h t (by omega) h2
theorem nextM_none {M : Nat → Bool} {n : Nat} {b : Bool} {i : Nat} (h : ∀ t, i ≤ t → t < n → M t ≠ b) : nextM M n b i = -1 :=
  nextF_none _ _ fun t h1 h2 => h t h1 (by omega)
theorem nextM_some {M : Nat → Bool} {n : Nat} {b : Bool} {i j : Nat} (h1 : i ≤ j) (h2 : j < n) (hj : M j = b) (h : ∀ t, i ≤ t → t < j → M t ≠ b) : nextM M n b i = (j : Int) :=
  nextF_some _ _ _ h1 (by omega) hj h
theorem nextM_cases (M : Nat → Bool) (n : Nat) (b : Bool) (i : Nat) : (∃ j : Nat, nextM M n b i = (j : Int) ∧ i ≤ j ∧ j < n ∧ M j = b ∧ ∀ t, i ≤ t → t < j → M t ≠ b) ∨ (nextM M n b i = -1 ∧ ∀ t, i ≤ t → t < n → M t ≠ b) := by
  by_cases h : ∃ j, i ≤ j ∧ j < n ∧ M j = b
  · have least : ∀ m, ∀ j, j < m → i ≤ j → j < n → M j = b → ∃ j, i ≤ j ∧ j < n ∧ M j = b ∧ ∀ t, i ≤ t → t < j → M t ≠ b := by
      intro m
      induction m with
      | zero => intro j hj; omega
      | succ m ih =>
        intro j hj h1 h2 h3
        by_cases h' : ∃ t, i ≤ t ∧ t < j ∧ M t = b
        · obtain ⟨t, t1, t2, t3⟩ := h'
          exact ih t (by omega) t1 (by omega) t3
        · exact ⟨j, h1, h2, h3, fun t t1 t2 e => h' ⟨t, t1, t2, e⟩⟩
    obtain ⟨j, h1, h2, h3⟩ := h
    obtain ⟨j, h1, h2, h3, h4⟩ := least (j + 1) j (by omega) h1 h2 h3
    exact .inl ⟨j, nextM_some h1 h2 h3 h4, h1, h2, h3, h4⟩
  · have h' : ∀ t, i ≤ t → t < n → M t ≠ b := fun t h1 h2 e => h ⟨t, h1, h2, e⟩
    exact .inr ⟨nextM_none h', h'⟩

/-- One word: what it tells of the numbers from p on. -/
theorem word_next {y p : Nat} {R : Nat → Bool} (hy : y < 18446744073709551616) (hR : ∀ b, b < 64 → y.testBit b = R (64 * (p / 64) + b)) :
    (y / 2 ^ (p % 64) = 0 → ∀ t, p ≤ t → t < (p / 64 + 1) * 64 → R t = false) ∧
    (y / 2 ^ (p % 64) ≠ 0 → R (p + Lib.ctz 64 (y / 2 ^ (p % 64))) = true ∧ ∀ t, p ≤ t → t < p + Lib.ctz 64 (y / 2 ^ (p % 64)) → R t = false) := by
  have bit : ∀ b, (y / 2 ^ (p % 64)).testBit b = y.testBit (p % 64 + b) := fun b => by rw [Nat.testBit_div_two_pow, Nat.add_comm]
  refine ⟨fun h0 t h1 h2 => ?_, fun h0 => ?_⟩
  · have e := bit (t - p)
    rw [h0, Nat.zero_testBit, hR _ (by omega), show 64 * (p / 64) + (p % 64 + (t - p)) = t by omega] at e
    exact e.symm
  · have hz : y / 2 ^ (p % 64) < 18446744073709551616 := Nat.lt_of_le_of_lt (Nat.div_le_self _ _) hy
    obtain ⟨c1, c2, c3⟩ := ctz_spec _ hz h0
    have hlt : p % 64 + Lib.ctz 64 (y / 2 ^ (p % 64)) < 64 := by
      rw [bit] at c1
      apply Nat.lt_of_not_le
      intro hle
      rw [Nat.testBit_lt_two_pow (Nat.lt_of_lt_of_le hy (Nat.pow_le_pow_right (n := 2) (by omega) hle))] at c1
      cases c1
    refine ⟨?_, fun t h1 h2 => ?_⟩
    · rw [bit, hR _ hlt, show 64 * (p / 64) + (p % 64 + Lib.ctz 64 (y / 2 ^ (p % 64))) = p + Lib.ctz 64 (y / 2 ^ (p % 64)) by omega] at c1
      exact c1
    · have e := c2 (t - p) (by omega)
      rw [bit, hR _ (by omega), show 64 * (p / 64) + (p % 64 + (t - p)) = t by omega] at e
      exact e

theorem set_next_nil (w : World) (i : Int) (b : Bool) :
    Calls Tryd.prog 40 #[.pointer none, .int .i64 i, .bool b] w fun e w' => e = .returned (.int .i64 (-1)) ∧ w = w' := by
  go_enter Tryd.func40, Tryd.ntmps40
  go_wp2
  go_ret
  exact ⟨rfl, rfl⟩
theorem set_next_out (w : World) (g k n : Nat) (M : Nat → Bool) (h : SetAt w g k n M) (i : Int) (b : Bool) (hi : (n : Int) ≤ i) :
    Calls Tryd.prog 40 #[ptr g, .int .i64 i, .bool b] w fun e w' => e = .returned (.int .i64 (-1)) ∧ w = w' := by
  obtain ⟨cap, cs, hc, _⟩ := h
  have c0 : w.cell? ⟨g, 0, none⟩ = some (.int .i64 n) := hc.cell 0
  clear hc
  unfold ptr
  go_enter Tryd.func40, Tryd.ntmps40
  go_wp2
  go_ret
  exact ⟨rfl, rfl⟩
theorem not_eq (x : Nat) (hx : x < 18446744073709551616) : bits BinOp.xor IntKind.u64 IntKind.u64.max (x : Int) = ((18446744073709551615 ^^^ x : Nat) : Int) := by
  rw [show IntKind.u64.max = ((18446744073709551615 : Nat) : Int) from rfl, bits_xor_nat _ _ (by omega) hx]
theorem not_bit (x b : Nat) (hb : b < 64) : (18446744073709551615 ^^^ x).testBit b = !(x.testBit b) := by
  rw [Nat.testBit_xor, show 18446744073709551615 = 2 ^ 64 - 1 from rfl, Nat.testBit_two_pow_sub_one, decide_eq_true hb]
  simp
theorem word_of (x j : Nat) (M : Nat → Bool) (b : Bool) (hx : x < 18446744073709551616) (hbits : ∀ b, b < 64 → x.testBit b = M (64 * j + b)) :
    ∃ y : Nat, y < 18446744073709551616 ∧ (b = true → y = x) ∧ (b = false → bits BinOp.xor IntKind.u64 (if IntKind.u64.signed = true then -1 else IntKind.u64.max) (x : Int) = (y : Int)) ∧ ∀ c, c < 64 → y.testBit c = (M (64 * j + c) == b) := by
  cases b with
  | true => exact ⟨x, hx, (fun _ => rfl), (fun h => by cases h), (fun c hc => by rw [hbits c hc]; simp)⟩
  | false => exact ⟨_, Nat.xor_lt_two_pow (n := 64) (x := 18446744073709551615) (by omega) hx, (fun h => by cases h), (fun _ => not_eq x hx), (fun c hc => by rw [not_bit _ _ hc, hbits c hc]; simp)⟩
theorem set_next_core (w : World) (g k n p0 cap m : Nat) (i : Int) (b : Bool) (M : Nat → Bool) (hT : Tab w) (c0 : w.cell? ⟨g, 0, none⟩ = some (.int .i64 n)) (c1 : w.cell? ⟨g, 1, none⟩ = some (.slice (some ⟨k, 0, none⟩) m cap))
    (hw : ∀ j, j < m → ∃ x : Nat, w.cell? ⟨k, j, none⟩ = some (.int .u64 x) ∧ x < 18446744073709551616 ∧ ∀ b, b < 64 → x.testBit b = M (64 * j + b)) (hm : m = (n + 63) / 64) (hn : n ≤ 16777216)
    (hi : i < (n : Int)) (hp : max i 0 = (p0 : Int)) :
    Calls Tryd.prog 40 #[ptr g, .int .i64 i, .bool b] w fun e w' => e = .returned (.int .i64 (nextM M n b p0)) ∧ w = w' := by
  unfold ptr
  have HW := Lib.hid (And.intro hT hw)
  have i0 : ¬ (n : Int) ≤ i := by omega
  have hp0 : p0 ≤ n := by omega
  clear hT hw
  go_enter Tryd.func40, Tryd.ntmps40
  go_wp2
  clear hp i0
  go_loopg [1] (n + 64) (fun q s1 ws => ws = w ∧ ∃ p : Nat, s1 = .int .i64 p ∧ p0 ≤ p ∧ p ≤ n + 64 ∧ n + 64 - p ≤ q ∧ Hid (∀ t, p0 ≤ t → t < p → t < n → M t ≠ b))
  case atStart => exact ⟨rfl, p0, rfl, Nat.le_refl _, by omega, by omega, fun t h1 h2 => by omega⟩
  case round =>
    obtain ⟨rfl, p, rfl, hp1, hp2, hq, hno⟩ := hrel
    by_cases hlt : p < n
    · obtain ⟨x, cx, hx, hbits⟩ := HW.out.2 (p / 64) (by omega)
      have i1 : (p : Int) < (n : Int) := by omega
      have i2 : (0 : Int) ≤ (p : Int) / 64 := by omega
      have i3 : (p : Int) / 64 < (m : Int) := by omega
      obtain ⟨y, hy0, hy1, hy2, hy3⟩ := word_of x (p / 64) M b hx hbits
      obtain ⟨z, hz⟩ : ∃ z : Nat, z = y / 2 ^ (p % 64) := ⟨_, rfl⟩
      obtain ⟨w1, w2⟩ := word_next (R := fun t => M t == b) hy0 hy3
      rw [← hz] at w1 w2
      have hzi : (y : Int) / 2 ^ (p % 64) = (z : Int) := by rw [hz, Int.natCast_ediv, Int.natCast_pow]; rfl
      have hzl : z < 18446744073709551616 := by rw [hz]; exact Nat.lt_of_le_of_lt (Nat.div_le_self _ _) hy0
      have HW2 := Lib.hid (And.intro w1 w2)
      clear w1 w2 hy3 hz hbits
      by_cases h0 : z = 0
      · have hrel2 : Hid (∀ t, p0 ≤ t → t < (p / 64 + 1) * 64 → t < n → M t ≠ b) := fun t h1 h2 h3 e => by
          by_cases hlp : t < p
          · exact hno t h1 hlp h3 e
          · have := HW2.out.1 h0 t (by omega) h2
            rw [e] at this
            simp at this
        have g1 : ((z : Int) != 0) = false := by simp; omega
        clear h0
        cases b
        · have hy4 := hy2 rfl
          go_upto_region 10 with fail
          simp only [hzi]
          clear hy1 hy2 hy4 hzi
          go_wp2_with fail
          go_roundg (n + 64 - (p / 64 + 1) * 64)
          case measure => omega
          case rel => exact ⟨rfl, (p / 64 + 1) * 64, by go_num, by omega, by omega, Nat.le_refl _, hrel2⟩
        · obtain rfl := hy1 rfl
          go_upto_region 10 with fail
          try simp only [hzi]
          clear hy1 hy2 hzi
          go_wp2_with fail
          go_roundg (n + 64 - (p / 64 + 1) * 64)
          case measure => omega
          case rel => exact ⟨rfl, (p / 64 + 1) * 64, by go_num, by omega, by omega, Nat.le_refl _, hrel2⟩
      · obtain ⟨c, hc⟩ : ∃ c, c = Lib.ctz 64 z := ⟨_, rfl⟩
        have hc64 : c < 64 := by rw [hc]; exact (ctz_spec z hzl h0).2.2
        have w2 := HW2.out.2 h0
        rw [← hc] at w2
        have htz := tz_any z hzl h0 wr HW.out.1
        rw [← hc] at htz
        have HTZ := Lib.hid htz
        have g1 : ((z : Int) != 0) = true := by simp; omega
        have hres : Hid ((p + c < n → nextM M n b p0 = ((p + c : Nat) : Int)) ∧ (¬ p + c < n → nextM M n b p0 = -1)) := by
          have hbefore : ∀ t, p0 ≤ t → t < p + c → t < n → M t ≠ b := fun t h1 h2 h3 e => by
            by_cases hlp : t < p
            · exact hno t h1 hlp h3 e
            · have := w2.2 t (by omega) h2
              rw [e] at this
              simp at this
          exact ⟨fun h => nextM_some (by omega) h (by simpa using w2.1) (fun t h1 h2 => hbefore t h1 h2 (by omega)), fun h => nextM_none fun t h1 h2 => hbefore t h1 (by omega) h2⟩
        clear hc w2 htz
        cases b
        · have hy4 := hy2 rfl
          go_upto_region 10 with fail
          simp only [hzi]
          clear hy1 hy2 hy4 hzi
          go_wp2_with fail
          refine HTZ.out.mono ?_
          rintro e w' ⟨rfl, rfl⟩
          by_cases hr : p + c < n
          · have i4 : (p : Int) + (c : Int) < (n : Int) := by omega
            go_wp2_with fail
            go_ret
            exact ⟨by rw [hres.out.1 hr]; rfl, rfl⟩
          · have i4 : ¬ (p : Int) + (c : Int) < (n : Int) := by omega
            go_wp2_with fail
            go_ret
            exact ⟨by rw [hres.out.2 hr]; rfl, rfl⟩
        · obtain rfl := hy1 rfl
          go_upto_region 10 with fail
          try simp only [hzi]
          clear hy1 hy2 hzi
          go_wp2_with fail
          refine HTZ.out.mono ?_
          rintro e w' ⟨rfl, rfl⟩
          by_cases hr : p + c < n
          · have i4 : (p : Int) + (c : Int) < (n : Int) := by omega
            go_wp2_with fail
            go_ret
            exact ⟨by rw [hres.out.1 hr]; rfl, rfl⟩
          · have i4 : ¬ (p : Int) + (c : Int) < (n : Int) := by omega
            go_wp2_with fail
            go_ret
            exact ⟨by rw [hres.out.2 hr]; rfl, rfl⟩
    · have e : nextM M n b p0 = -1 := nextM_none fun t h1 h2 => hno t h1 (by omega) h2
      have E := Lib.hid e
      clear e
      go_wp2_with fail
      go_ret
      exact ⟨by rw [E.out]; rfl, rfl⟩
theorem set_next (w : World) (g k n : Nat) (M : Nat → Bool) (h : SetAt w g k n M) (hT : Tab w) (i : Int) (b : Bool) :
    Calls Tryd.prog 40 #[ptr g, .int .i64 i, .bool b] w fun e w' => e = .returned (.int .i64 (nextM M n b i.toNat)) ∧ w = w' := by
  by_cases hi : (n : Int) ≤ i
  · rw [nextM_none fun t h1 h2 => by omega]
    exact set_next_out w g k n M h i b hi
  · obtain ⟨cap, cs, hc, hk, h1, h2, h3, h4, _⟩ := h
    exact set_next_core w g k n i.toNat cap _ i b M hT (hc.cell 0) (hc.cell 1) (fun j hj => by
      obtain ⟨x, hx, hx2⟩ := h4 j hj
      exact ⟨x, (hk.cell j).trans hx, hx2⟩) rfl h3 (by omega) (by omega)
end Go.Proofs.YtpbghoddemffhaaDoor
