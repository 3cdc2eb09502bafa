/-
  Sets of numbers (bits): a set's form in memory; New, Len, Count.
-/
import Derived.Test.YtpbghoddemffhaaDoorInts
import Derived.OwnWalk
import Derived.Lib.MinMax
import Derived.Laws.Bits64b
namespace Go.Proofs.YtpbghoddemffhaaDoor
open Go.RowKit
set_option maxRecDepth 100000
set_option maxHeartbeats 1000000

abbrev ptr (g : Nat) : Value := .pointer (some ⟨g, 0, none⟩)
/-- How many numbers below n are in M. -/
def cnt (M : Nat → Bool) : Nat → Nat
  | 0 => 0
  | n + 1 => cnt M n + (if M n then 1 else 0)
theorem cnt_le (M : Nat → Bool) : ∀ n, cnt M n ≤ n
  | 0 => Nat.le_refl _
  | n + 1 => by have := cnt_le M n; unfold cnt; split <;> omega
theorem cnt_none : ∀ n, cnt (fun _ => false) n = 0
  | 0 => rfl
  | n + 1 => by unfold cnt; rw [cnt_none n]; rfl

/-- The set at g, its words at k: the numbers of M below n. -/
def SetAt (w : World) (g k n : Nat) (M : Nat → Bool) : Prop :=
  ∃ cap cs, Cel w g 68 #[.int .i64 n, .slice (some ⟨k, 0, none⟩) ((n + 63) / 64) cap, .int .i64 (cnt M n)] ∧ Cel w k 70 cs ∧ (n + 63) / 64 ≤ cs.size ∧ (n + 63) / 64 ≤ cap ∧ n ≤ 16777216 ∧
    (∀ j, j < (n + 63) / 64 → ∃ x : Nat, cs[j]? = some (.int .u64 x) ∧ x < 18446744073709551616 ∧ ∀ b, b < 64 → x.testBit b = M (64 * j + b)) ∧ ∀ i, M i = true → i < n

section
variable {w w' : World} {g k n : Nat} {M : Nat → Bool}
theorem SetAt.lt (h : SetAt w g k n M) : g < w.heap.size := by
  obtain ⟨_, _, h, _⟩ := h
  exact h.lt
theorem SetAt.ltk (h : SetAt w g k n M) : k < w.heap.size := by
  obtain ⟨_, _, _, h, _⟩ := h
  exact h.lt
theorem SetAt.in (h : SetAt w g k n M) : ∀ i, M i = true → i < n := by
  obtain ⟨_, _, _, _, _, _, _, _, h⟩ := h
  exact h
theorem SetAt.le (h : SetAt w g k n M) : n ≤ 16777216 := by
  obtain ⟨_, _, _, _, _, _, h, _⟩ := h
  exact h
theorem SetAt.upd {F : Nat → Prop} (h : SetAt w g k n M) (hu : Upd F w w') (hF : ¬ F g) (hk : ¬ F k) : SetAt w' g k n M := by
  obtain ⟨cap, cs, h1, h2, h3⟩ := h
  exact ⟨cap, cs, hu.cel h1 hF, hu.cel h2 hk, h3⟩
theorem SetAt.below (h : SetAt w g k n M) (hb : Below w.heap.size w w') : SetAt w' g k n M := h.upd (F := fun _ => False) (Upd.ofBelow hb) (fun h => h) (fun h => h)
end

theorem set_len_nil (w : World) :
    Calls Tryd.prog 45 #[.pointer none] w fun e w' => e = .returned (.int .i64 0) ∧ w = w' := by
  go_enter Tryd.func45, Tryd.ntmps45
  go_wp2
  go_ret
  exact ⟨rfl, rfl⟩
theorem set_len (w : World) (g k n : Nat) (M : Nat → Bool) (h : SetAt w g k n M) :
    Calls Tryd.prog 45 #[ptr g] w fun e w' => e = .returned (.int .i64 n) ∧ w = w' := by
  obtain ⟨cap, cs, hc, _⟩ := h
  have c0 : w.cell? ⟨g, 0, none⟩ = some (.int .i64 n) := hc.cell 0
  clear hc
  unfold ptr
  go_enter Tryd.func45, Tryd.ntmps45
  go_wp2
  go_ret
  exact ⟨rfl, rfl⟩
theorem set_count_nil (w : World) :
    Calls Tryd.prog 42 #[.pointer none] w fun e w' => e = .returned (.int .i64 0) ∧ w = w' := by
  go_enter Tryd.func42, Tryd.ntmps42
  go_wp2
  go_ret
  exact ⟨rfl, rfl⟩
theorem set_count (w : World) (g k n : Nat) (M : Nat → Bool) (h : SetAt w g k n M) :
    Calls Tryd.prog 42 #[ptr g] w fun e w' => e = .returned (.int .i64 (cnt M n)) ∧ w = w' := by
  obtain ⟨cap, cs, hc, _⟩ := h
  have c0 : w.cell? ⟨g, 2, none⟩ = some (.int .i64 (cnt M n)) := hc.cell 2
  clear hc
  unfold ptr
  go_enter Tryd.func42, Tryd.ntmps42
  go_wp2
  go_ret
  exact ⟨rfl, rfl⟩

theorem info_u64 : (Tryd.prog.info? 70).map (fun i => (i.zero, i.size, i.bytes)) = some (some (.int .u64 0), 1, 8) := by kernel_rfl
theorem set_new (w : World) (z : Int) (n : Nat) (hz : min (max z 0) 16777216 = (n : Int)) :
    Calls Tryd.prog 37 #[.int .i64 z] w fun e w' => ∃ g k, e = .returned (ptr g) ∧ SetAt w' g k n (fun _ => false) ∧ w.heap.size ≤ g ∧ w.heap.size ≤ k ∧ g ≠ k ∧ Below w.heap.size w w' := by
  have hn : n ≤ 16777216 := by omega
  obtain ⟨i0, hi, hz0, hz1, hz2⟩ := info_parts info_u64
  have hbytes : i0.bytes * ((n + 63) / 64) ≤ 281474976710656 := by rw [hz2]; omega
  have hmx : (n + 63) / 64 ≤ maxLen := by simp only [maxLen]; omega
  go_enter Tryd.func37, Tryd.ntmps37
  go_wp2_with (at_make; go_loud (refine wpList_make_full w rfl (.tmp 9) (.tmp 9) 66 rfl w.heap.size 70 i0 (.int .u64 0) 1 Tryd.underlying66 hi hz0 hz1 .i64 .i64 _ _ ((n + 63) / 64) rfl rfl (by omega) (by omega) hbytes hmx (Nat.le_refl _) ?_); intro w1 hown hg1)
  go_ret
  rcases hown.2 with ⟨e, h0⟩ | ⟨g, cap, cur, e, hB, hgk, hcn, hcm, hcs, ht⟩
  · cases e
  injection e with e1 e2 e3
  injection e1 with e1
  injection e1 with e1
  subst e1 e3
  have hlt : w.heap.size < w1.heap.size := by
    have h' : w1.heap[w.heap.size]? = some (.cells cur 70 (0, 0)) := hgk
    exact (Array.getElem?_eq_some_iff.1 h').1
  have hc : Cel w1 w.heap.size 70 cur := hgk
  refine ⟨w1.heap.size, w.heap.size, rfl, ⟨_, cur, by rw [cnt_none]; exact Cel.born _ _ _, hc.alloc _, by omega, Nat.le_refl _, hn, fun j hj => ⟨0, ?_, by omega, fun b _ => by simp⟩, fun i h => by cases h⟩, Nat.le_of_lt hlt, Nat.le_refl _, Nat.ne_of_gt hlt,
    (((Below.refl _ _).grown hg1 (Nat.le_refl _) (fun k h => by cases h)).alloc (Nat.le_of_lt hlt) _)⟩
  have h1 : (cur.toList.take ((n + 63) / 64 * 1))[j]? = some (.int .u64 0) := by
    rw [ht, show (Value.int .u64 0).cells = #[.int .u64 0] from rfl, toList_madeCells_one, List.getElem?_replicate, if_pos (by omega)]
  rw [List.getElem?_take, if_pos (by omega)] at h1
  simpa using h1

/-- One number's place: the word and the bit. -/
theorem set_has_nil (w : World) (i : Int) :
    Calls Tryd.prog 41 #[.pointer none, .int .i64 i] w fun e w' => e = .returned (.bool false) ∧ w = w' := by
  go_enter Tryd.func41, Tryd.ntmps41
  go_wp2
  go_ret
  exact ⟨rfl, rfl⟩
theorem set_has_out (w : World) (g k n : Nat) (M : Nat → Bool) (h : SetAt w g k n M) (i : Int) (hi : i < 0 ∨ (n : Int) ≤ i) :
    Calls Tryd.prog 41 #[ptr g, .int .i64 i] w fun e w' => e = .returned (.bool false) ∧ w = w' := by
  obtain ⟨cap, cs, hc, _⟩ := h
  have c0 : w.cell? ⟨g, 0, none⟩ = some (.int .i64 n) := hc.cell 0
  clear hc
  unfold ptr
  by_cases h0 : i < 0
  · have h0' : ¬ 0 ≤ i := by omega
    go_enter Tryd.func41, Tryd.ntmps41
    go_wp2
    go_ret
    exact ⟨rfl, rfl⟩
  · have h0' : 0 ≤ i := by omega
    have h1 : ¬ i < (n : Int) := by omega
    go_enter Tryd.func41, Tryd.ntmps41
    go_wp2
    go_ret
    exact ⟨rfl, rfl⟩
theorem bit_eq (x s : Nat) (hx : x < 18446744073709551616) : (bits BinOp.and IntKind.u64 ((x : Int) / 2 ^ s) 1 == 1) = x.testBit s := by
  have e1 : (x : Int) / 2 ^ s = ((x / 2 ^ s : Nat) : Int) := by
    rw [Int.natCast_ediv, Int.natCast_pow]; rfl
  have hle : x / 2 ^ s ≤ x := Nat.div_le_self _ _
  rw [e1, show (1 : Int) = ((1 : Nat) : Int) from rfl, bits_and_u64_nat _ _ (by omega) (by omega), Nat.testBit_eq_decide_div_mod_eq, Nat.and_one_is_mod]
  generalize x / 2 ^ s % 2 = r
  by_cases h : r = 1
  · subst h; rfl
  · rw [decide_eq_false h]
    simp; omega
theorem set_has_core (w : World) (g k n i x cap m : Nat) (c0 : w.cell? ⟨g, 0, none⟩ = some (.int .i64 n)) (c1 : w.cell? ⟨g, 1, none⟩ = some (.slice (some ⟨k, 0, none⟩) m cap))
    (ck : w.cell? ⟨k, i / 64, none⟩ = some (.int .u64 x)) (hi : i < n) (hm : i / 64 < m) (hn : n ≤ 16777216) (hx : x < 18446744073709551616) :
    Calls Tryd.prog 41 #[ptr g, .int .i64 i] w fun e w' => e = .returned (.bool (x.testBit (i % 64))) ∧ w = w' := by
  unfold ptr
  have i0 : (0 : Int) ≤ (i : Int) := by omega
  have i1 : (i : Int) < (n : Int) := by omega
  have i2 : (i : Int) / 64 < (m : Int) := by omega
  have i3 : (0 : Int) ≤ (i : Int) / 64 := by omega
  go_enter Tryd.func41, Tryd.ntmps41
  go_wp2
  rw [bit_eq x (i % 64) hx]
  go_ret
  exact ⟨rfl, rfl⟩
theorem set_has (w : World) (g k n : Nat) (M : Nat → Bool) (h : SetAt w g k n M) (i : Nat) :
    Calls Tryd.prog 41 #[ptr g, .int .i64 i] w fun e w' => e = .returned (.bool (M i)) ∧ w = w' := by
  by_cases hi : i < n
  · obtain ⟨cap, cs, hc, hk, h1, h2, h3, h4, _⟩ := h
    obtain ⟨x, hx, hx2, hx3⟩ := h4 (i / 64) (by omega)
    have e : x.testBit (i % 64) = M i := by rw [hx3 _ (Nat.mod_lt _ (by omega)), Nat.div_add_mod]
    rw [← e]
    exact set_has_core w g k n i x cap _ (hc.cell 0) (hc.cell 1) ((hk.cell _).trans hx) hi (by omega) h3 hx2
  · have e : M i = false := by
      cases hM : M i with
      | false => rfl
      | true => exact absurd (h.in i hM) hi
    rw [e]
    exact set_has_out w g k n M h i (.inr (by omega))

def turnM (M : Nat → Bool) (i : Nat) : Nat → Bool := fun j => if j = i then !(M i) else M j
theorem bits_xor_nat (a b : Nat) (ha : a < 18446744073709551616) (hb : b < 18446744073709551616) : bits .xor .u64 (a : Int) (b : Int) = ((a ^^^ b : Nat) : Int) := by
  have hx : a ^^^ b < 2 ^ 64 := Nat.xor_lt_two_pow (by omega) (by omega)
  have h1 : (BitVec.ofInt 64 (a : Int)).toNat = a := by
    rw [BitVec.ofInt_natCast, BitVec.toNat_ofNat]; exact Nat.mod_eq_of_lt (by omega)
  have h2 : (BitVec.ofInt 64 (b : Int)).toNat = b := by
    rw [BitVec.ofInt_natCast, BitVec.toNat_ofNat]; exact Nat.mod_eq_of_lt (by omega)
  show IntKind.u64.wrap ((BitVec.ofInt 64 (a : Int) ^^^ BitVec.ofInt 64 (b : Int)).toNat : Int) = _
  rw [BitVec.toNat_xor, h1, h2, IntKind.wrap_u64]
  omega
theorem xor_eq (x s : Nat) (hx : x < 18446744073709551616) (hs : s < 64) : bits BinOp.xor IntKind.u64 (x : Int) (IntKind.u64.wrap (2 ^ s)) = ((x ^^^ 2 ^ s : Nat) : Int) := by
  have h2 : 2 ^ s < 18446744073709551616 := Nat.pow_lt_pow_right (m := s) (n := 64) (by omega) hs
  have e1 : IntKind.u64.wrap (2 ^ s) = ((2 ^ s : Nat) : Int) := by
    have hp : (2 : Int) ^ s = ((2 ^ s : Nat) : Int) := (Int.natCast_pow 2 s).symm
    rw [IntKind.wrap_u64, hp]
    generalize 2 ^ s = q at h2
    omega
  rw [e1, bits_xor_nat _ _ hx h2]
theorem set_turn_core (w : World) (g k n i y x cap m : Nat) (cn d : Int) (cs ks : Array Value) (hc : Cel w g 68 cs) (hk : Cel w k 70 ks) (c1 : cs[1]? = some (.slice (some ⟨k, 0, none⟩) m cap)) (c2 : cs[2]? = some (.int .i64 cn))
    (ck : ks[i / 64]? = some (.int .u64 x)) (hi : i < n) (hm : i / 64 < m) (hn : n ≤ 16777216) (hd : -1 ≤ d ∧ d ≤ 1) (hcn : 0 ≤ cn ∧ cn ≤ 16777216) (hy : bits BinOp.xor IntKind.u64 (x : Int) (IntKind.u64.wrap (2 ^ (i % 64))) = (y : Int)) :
    Calls Tryd.prog 56 #[ptr g, .int .i64 i, .int .i64 d] w fun e w' => (∃ v, e = .returned v) ∧ w' = (w.setCell ⟨k, i / 64, none⟩ (.int .u64 y)).setCell ⟨g, 2, none⟩ (.int .i64 (cn + d)) := by
  unfold ptr
  have d0 : w.cell? ⟨g, 1, none⟩ = some (.slice (some ⟨k, 0, none⟩) m cap) := (hc.cell 1).trans c1
  have d1 : w.cell? ⟨k, i / 64, none⟩ = some (.int .u64 x) := (hk.cell _).trans ck
  have d2 := hk.free (i / 64)
  have hgk : g ≠ k := hc.ne hk (by decide)
  have hc1 := hc.far (p := ⟨k, i / 64, none⟩) hgk (.int .u64 y)
  have d3 := (hc1.cell 2).trans c2
  have d4 := hc1.free 2
  have i0 : (0 : Int) ≤ (i : Int) := by omega
  have i2 : (i : Int) / 64 < (m : Int) := by omega
  have i3 : (0 : Int) ≤ (i : Int) / 64 := by omega
  have q1 : IntKind.i64.wrap (cn + d) = cn + d := IntWalk.i64_in _ (by omega)
  obtain ⟨z, hz⟩ : ∃ z, z = cn + d := ⟨_, rfl⟩
  clear hc hk c1 ck hc1
  go_enter Tryd.func56, Tryd.ntmps56
  go_wp2
  go_end0
  exact ⟨⟨_, rfl⟩, rfl⟩

theorem turn_bit (x i b : Nat) : (x ^^^ 2 ^ i).testBit b = (x.testBit b != decide (i = b)) := by
  rw [Nat.testBit_xor, Nat.testBit_two_pow]
theorem cnt_turn (M : Nat → Bool) (i : Nat) : ∀ n, i < n → (M i = false → cnt (turnM M i) n = cnt M n + 1) ∧ (M i = true → cnt (turnM M i) n + 1 = cnt M n)
  | 0, h => absurd h (by omega)
  | n + 1, h => by
    have same : ∀ m, m ≤ i → cnt (turnM M i) m = cnt M m := by
      intro m
      induction m with
      | zero => intro _; rfl
      | succ m ih => intro hm; unfold cnt; rw [ih (by omega)]; simp [turnM, show m ≠ i by omega]
    by_cases e : i = n
    · subst e
      unfold cnt
      rw [same i (Nat.le_refl _)]
      constructor <;> intro hM <;> simp [turnM, hM]
    · obtain ⟨h1, h2⟩ := cnt_turn M i n (by omega)
      unfold cnt
      have : turnM M i n = M n := by simp [turnM, Ne.symm e]
      rw [this]
      exact ⟨fun hM => by rw [h1 hM]; omega, fun hM => by have := h2 hM; omega⟩
theorem set_turn (w : World) (g k n i : Nat) (M : Nat → Bool) (h : SetAt w g k n M) (hi : i < n) (d : Int) (hd : d = if M i then -1 else 1) :
    Calls Tryd.prog 56 #[ptr g, .int .i64 i, .int .i64 d] w fun e w' => (∃ v, e = .returned v) ∧ SetAt w' g k n (turnM M i) ∧ Upd (fun b => b = g ∨ b = k) w w' := by
  have hin := h.in
  obtain ⟨cap, cs, hc, hk, h1, h2, h3, h4, _⟩ := h
  obtain ⟨x, hx, hx2, hx3⟩ := h4 (i / 64) (by omega)
  have hcn := cnt_le M n
  refine (set_turn_core w g k n i (x ^^^ 2 ^ (i % 64)) x cap _ (cnt M n) d _ cs hc hk rfl rfl hx hi (by omega) h3 (by rw [hd]; split <;> omega) (by omega) (xor_eq x _ hx2 (Nat.mod_lt _ (by omega)))).mono fun e w' ⟨he, hw⟩ => ?_
  subst hw
  have hgk : g ≠ k := hc.ne hk (by decide)
  refine ⟨he, ⟨cap, _, ?_, ((hk.put (i / 64) _).far (p := ⟨g, 2, none⟩) hgk.symm _), by simpa using h1, h2, h3, fun j hj => ?_, fun j hj => ?_⟩, ((Upd.refl _ w).sc (fun _ => .inr rfl) _ _).sc (fun _ => .inl rfl) _ _⟩
  · have hcnt : (cnt M n : Int) + d = (cnt (turnM M i) n : Int) := by
      obtain ⟨t1, t2⟩ := cnt_turn M i n hi
      cases hM : M i with
      | false => rw [hM] at hd; have := t1 hM; simp at hd; omega
      | true => rw [hM] at hd; have := t2 hM; simp at hd; omega
    have := (hc.far (p := ⟨k, i / 64, none⟩) hgk (.int .u64 ((x ^^^ 2 ^ (i % 64) : Nat) : Int))).put 2 (.int .i64 ((cnt M n : Int) + d))
    rw [hcnt] at this
    rw [hcnt]
    exact this
  · by_cases e : j = i / 64
    · subst e
      refine ⟨_, Array.getElem?_setIfInBounds_self_of_lt (by omega), Nat.xor_lt_two_pow (n := 64) hx2 (Nat.pow_lt_pow_right (by omega) (Nat.mod_lt _ (by omega))), fun b hb => ?_⟩
      rw [turn_bit, hx3 b hb]
      unfold turnM
      by_cases e2 : 64 * (i / 64) + b = i
      · rw [if_pos e2, e2, show i % 64 = b by omega]
        simp
      · rw [if_neg e2, decide_eq_false (by omega)]
        simp
    · obtain ⟨y, hy, hy2, hy3⟩ := h4 j hj
      refine ⟨y, by rw [Array.getElem?_setIfInBounds_ne (by omega)]; exact hy, hy2, fun b hb => ?_⟩
      rw [hy3 b hb]
      unfold turnM
      rw [if_neg (by omega)]
  · unfold turnM at hj
    split at hj
    · omega
    · exact hin j hj

theorem set_set_nil (w : World) (i : Int) :
    Calls Tryd.prog 39 #[.pointer none, .int .i64 i] w fun e w' => e = .returned (.bool false) ∧ w = w' := by
  go_enter Tryd.func39, Tryd.ntmps39
  go_wp2
  go_ret
  exact ⟨rfl, rfl⟩
theorem set_set_out (w : World) (g k n : Nat) (M : Nat → Bool) (h : SetAt w g k n M) (i : Int) (hi : i < 0 ∨ (n : Int) ≤ i) :
    Calls Tryd.prog 39 #[ptr g, .int .i64 i] w fun e w' => e = .returned (.bool false) ∧ w = w' := by
  obtain ⟨cap, cs, hc, _⟩ := h
  have c0 : w.cell? ⟨g, 0, none⟩ = some (.int .i64 n) := hc.cell 0
  clear hc
  unfold ptr
  by_cases h0 : i < 0
  · go_enter Tryd.func39, Tryd.ntmps39
    go_wp2
    go_ret
    exact ⟨rfl, rfl⟩
  · have h0' : ¬ i < 0 := by omega
    have h1 : (n : Int) ≤ i := by omega
    go_enter Tryd.func39, Tryd.ntmps39
    go_wp2
    go_ret
    exact ⟨rfl, rfl⟩
/-- M, and i in it | out of it. -/
def putM (M : Nat → Bool) (i : Nat) : Nat → Bool := fun j => if j = i then true else M j
def outM (M : Nat → Bool) (i : Nat) : Nat → Bool := fun j => if j = i then false else M j
theorem turn_put {M : Nat → Bool} {i : Nat} (h : M i = false) : turnM M i = putM M i := by
  funext j; unfold turnM putM; rw [h]; rfl
theorem turn_out {M : Nat → Bool} {i : Nat} (h : M i = true) : turnM M i = outM M i := by
  funext j; unfold turnM outM; rw [h]; rfl
theorem put_same {M : Nat → Bool} {i : Nat} (h : M i = true) : putM M i = M := by
  funext j; unfold putM; split
  · rename_i e; rw [e, h]
  · rfl
theorem out_same {M : Nat → Bool} {i : Nat} (h : M i = false) : outM M i = M := by
  funext j; unfold outM; split
  · rename_i e; rw [e, h]
  · rfl
theorem set_set (w : World) (g k n i : Nat) (M : Nat → Bool) (h : SetAt w g k n M) (hi : i < n) :
    Calls Tryd.prog 39 #[ptr g, .int .i64 i] w fun e w' => e = .returned (.bool (!M i)) ∧ SetAt w' g k n (putM M i) ∧ Upd (fun b => b = g ∨ b = k) w w' := by
  have hh := Lib.hid (set_has w g k n M h i)
  have H := Lib.hid h
  obtain ⟨cap, cs, hc, _⟩ := h
  have c0 : w.cell? ⟨g, 0, none⟩ = some (.int .i64 n) := hc.cell 0
  clear hc
  have i0 : ¬ (i : Int) < 0 := by omega
  have i1 : ¬ (n : Int) ≤ (i : Int) := by omega
  unfold ptr at *
  cases hM : M i with
  | true =>
    go_enter Tryd.func39, Tryd.ntmps39
    go_wp2_with (go_at_call 41; refine hh.out.mono ?_; rintro e w' ⟨rfl, rfl⟩; rw [hM])
    go_ret
    exact ⟨rfl, by rw [put_same hM]; exact H.out, Upd.refl _ _⟩
  | false =>
    go_enter Tryd.func39, Tryd.ntmps39
    go_wp2_with (first
      | (go_at_call 41; refine hh.out.mono ?_; rintro e w' ⟨rfl, rfl⟩; rw [hM])
      | (go_at_call 56; refine (set_turn w g k n i M H.out hi 1 (by rw [hM]; rfl)).mono ?_; rintro e w' ⟨⟨v, rfl⟩, ht, hu⟩))
    go_ret
    rw [turn_put hM] at ht
    exact ⟨rfl, ht, hu⟩
theorem set_clear_nil (w : World) (i : Int) :
    Calls Tryd.prog 44 #[.pointer none, .int .i64 i] w fun e w' => e = .returned (.bool false) ∧ w = w' := by
  go_enter Tryd.func44, Tryd.ntmps44
  go_wp2_with (go_at_call 41; refine (set_has_nil _ _).mono ?_; rintro e w' ⟨rfl, rfl⟩)
  go_ret
  exact ⟨rfl, rfl⟩
theorem set_clear_out (w : World) (g k n : Nat) (M : Nat → Bool) (h : SetAt w g k n M) (i : Int) (hi : i < 0 ∨ (n : Int) ≤ i) :
    Calls Tryd.prog 44 #[ptr g, .int .i64 i] w fun e w' => e = .returned (.bool false) ∧ w = w' := by
  go_enter Tryd.func44, Tryd.ntmps44
  go_wp2_with (go_at_call 41; refine (set_has_out _ _ _ _ _ h _ hi).mono ?_; rintro e w' ⟨rfl, rfl⟩)
  go_ret
  exact ⟨rfl, rfl⟩
theorem set_clear (w : World) (g k n i : Nat) (M : Nat → Bool) (h : SetAt w g k n M) :
    Calls Tryd.prog 44 #[ptr g, .int .i64 i] w fun e w' => e = .returned (.bool (M i)) ∧ SetAt w' g k n (outM M i) ∧ Upd (fun b => b = g ∨ b = k) w w' := by
  cases hM : M i with
  | false =>
    go_enter Tryd.func44, Tryd.ntmps44
    go_wp2_with (go_at_call 41; refine (set_has _ _ _ _ _ h _).mono ?_; rintro e w' ⟨rfl, rfl⟩; rw [hM])
    go_ret
    exact ⟨rfl, by rw [out_same hM]; exact h, Upd.refl _ _⟩
  | true =>
    have hi := h.in i hM
    go_enter Tryd.func44, Tryd.ntmps44
    go_wp2_with (first
      | (go_at_call 41; refine (set_has _ _ _ _ _ h _).mono ?_; rintro e w' ⟨rfl, rfl⟩; rw [hM])
      | (go_at_call 56; refine (set_turn _ g k n i M h hi (-1) (by rw [hM]; rfl)).mono ?_; rintro e w' ⟨⟨v, rfl⟩, ht, hu⟩))
    go_ret
    rw [turn_out hM] at ht
    exact ⟨rfl, ht, hu⟩
end Go.Proofs.YtpbghoddemffhaaDoor
