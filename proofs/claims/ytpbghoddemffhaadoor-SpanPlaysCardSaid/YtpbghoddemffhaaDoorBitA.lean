/-
  Sets of numbers (bits): All.
-/
import Derived.Test.YtpbghoddemffhaaDoorBitN
namespace Go.Proofs.YtpbghoddemffhaaDoor
open Go.RowKit
set_option maxRecDepth 100000
set_option maxHeartbeats 1000000

theorem Tab.pos {w : World} (h : Tab w) : 0 < w.heap.size := World.block_lt_of_cell? w ⟨0, 0, none⟩ (h 0 (by decide))
theorem Tab.ofBelow {w w' : World} (h : Tab w) (hb : Below w.heap.size w w') : Tab w' := h.below hb h.pos

/-- The numbers of M from i on, below i + f. -/
def elemsF (M : Nat → Bool) : Nat → Nat → List Int
  | 0, _ => []
  | f + 1, i => if M i then (i : Int) :: elemsF M f (i + 1) else elemsF M f (i + 1)
def elems (M : Nat → Bool) (n : Nat) : List Int := elemsF M n 0
theorem elemsF_succ (M : Nat → Bool) (f i : Nat) : elemsF M (f + 1) i = if M i then (i : Int) :: elemsF M f (i + 1) else elemsF M f (i + 1) := rfl
theorem elemsF_next {M : Nat → Bool} : ∀ (f i : Nat), elemsF M f i ≠ [] → ∃ j : Nat, nextF M true f i = (j : Int) ∧ i ≤ j ∧ j < i + f ∧ M j = true ∧ elemsF M f i = (j : Int) :: elemsF M (i + f - (j + 1)) (j + 1)
  | 0, _, h => absurd rfl h
  | f + 1, i, h => by
    rw [elemsF_succ] at h
    rw [elemsF_succ]
    unfold nextF
    by_cases hM : M i = true
    · rw [if_pos hM, if_pos hM]
      exact ⟨i, rfl, Nat.le_refl _, by omega, hM, by rw [show i + (f + 1) - (i + 1) = f by omega]⟩
    · rw [if_neg hM] at h ⊢
      rw [if_neg hM]
      obtain ⟨j, h1, h2, h3, h4, h5⟩ := elemsF_next f (i + 1) h
      exact ⟨j, h1, by omega, by omega, h4, by rw [show i + (f + 1) - (j + 1) = i + 1 + f - (j + 1) by omega, h5]⟩
theorem elemsF_len {M : Nat → Bool} : ∀ (f i : Nat), (elemsF M f i).length + cnt M i = cnt M (i + f)
  | 0, i => by simp [elemsF]
  | f + 1, i => by
    have ih := elemsF_len (M := M) f (i + 1)
    have e : cnt M (i + 1) = cnt M i + (if M i then 1 else 0) := rfl
    rw [show i + (f + 1) = i + 1 + f by omega, elemsF_succ]
    split
    · rename_i h; rw [if_pos h] at e; simp only [List.length_cons]; omega
    · rename_i h; rw [if_neg h] at e; omega
theorem elems_len (M : Nat → Bool) (n : Nat) : (elems M n).length = cnt M n := by
  have := elemsF_len (M := M) n 0
  have h0 : cnt M 0 = 0 := rfl
  rw [Nat.zero_add] at this
  unfold elems
  omega

theorem below_grownD {w0 w w1 : World} {B : Nat} {v : Value} {m : List Int} (hB : Below B w0 w) (hv : Own w B v m) (hg : w.grownBy w1 v.ownBlock) (hs : B ≤ w.heap.size) : Below B w0 w1 :=
  hB.grown hg hs (fun k hk => (hv.ge k hk).1)
theorem set_all_nil (w : World) :
    Calls Tryd.prog 43 #[.pointer none] w fun e w' => e = .returned (.slice none 0 0) ∧ w = w' := by
  go_enter Tryd.func43, Tryd.ntmps43
  go_wp2_with (go_at_call 42; refine (set_count_nil _).mono ?_; rintro e w' ⟨rfl, rfl⟩)
  go_loopg [3, 7] 0 (fun q s3 s7 ws => ws = w ∧ s3 = .slice none 0 0 ∧ s7 = .int .i64 0)
  case atStart => exact ⟨rfl, rfl, rfl⟩
  case round =>
    obtain ⟨rfl, rfl, rfl⟩ := hrel
    go_wp2
    go_ret
    exact ⟨rfl, rfl⟩

theorem set_all (w : World) (g k n : Nat) (M : Nat → Bool) (h : SetAt w g k n M) (hT : Tab w) :
    Calls Tryd.prog 43 #[ptr g] w fun e w' => ∃ v, e = .returned v ∧ Own w' w.heap.size v (elems M n) ∧ Below w.heap.size w w' := by
  have hcn := cnt_le M n
  have hn := h.le
  have HS := Lib.hid (And.intro h hT)
  clear h hT
  go_enter Tryd.func43, Tryd.ntmps43
  go_wp2_with (go_at_call 42; refine (set_count _ _ _ _ _ HS.out.1).mono ?_; rintro e w' ⟨rfl, rfl⟩)
  obtain ⟨c, hc⟩ : ∃ c, c = cnt M n := ⟨_, rfl⟩
  have HC := Lib.hid hc
  rw [← hc] at hcn ⊢
  clear hc
  go_loopg [3, 7] c (fun q s3 s7 ws => ∃ (t i : Nat) (l : List Int), s7 = .int .i64 t ∧ t ≤ c ∧ c - t ≤ q ∧ l.length = t ∧ Own ws w.heap.size s3 l ∧ Below w.heap.size w ws ∧ Hid (l ++ elemsF M (n - i) i = elems M n) ∧ i ≤ n ∧ (t = 0 → i = 0) ∧ Hid (0 < t → l.getD (t - 1) 0 + 1 = (i : Int)))
  case atStart => exact ⟨0, 0, [], rfl, by omega, by omega, rfl, Own.nil _ _, Below.refl _ _, by simp [elems, Hid], by omega, fun _ => rfl, fun h => by omega⟩
  case round =>
    obtain ⟨t, i, l, rfl, ht, hq, hlt, hO, hB, hl, hi, hi0, hi1⟩ := hrel
    by_cases hlc : t < c
    · have hne : elemsF M (n - i) i ≠ [] := fun e => by
        have h1 := hl.out
        rw [e, List.append_nil] at h1
        have := congrArg List.length h1
        rw [elems_len, ← HC.out] at this
        omega
      obtain ⟨j, j1, j2, j3, j4, j5⟩ := elemsF_next (n - i) i hne
      have hl2 := hl.out
      rw [j5, show i + (n - i) - (j + 1) = n - (j + 1) by omega] at hl2
      have HL := Lib.hid hl2
      have hnx := set_next wr g k n M (HS.out.1.below hB) (HS.out.2.ofBelow hB) (i : Int) true
      rw [Int.toNat_natCast, show nextM M n true i = (j : Int) from j1] at hnx
      have HN := Lib.hid hnx
      clear hl hl2 j1 j5 hne hnx
      have hjn : j < n := by omega
      have hwB : w.heap.size ≤ wr.heap.size := hB.size
      by_cases h0 : 0 < t
      · obtain ⟨b, off, cp, rfl, hcell⟩ := hO.rd.at (by omega)
        have c1 := hcell (t - 1) (by omega)
        have e1 := hi1.out h0
        generalize l.getD (t - 1) 0 = lv at c1 e1
        have hle : l.length = t := hlt
        rw [hle] at hO ⊢
        obtain ⟨t', rfl⟩ : ∃ t', t = t' + 1 := ⟨t - 1, by omega⟩
        rw [Nat.add_sub_cancel] at c1
        have e2 : lv = (i : Int) - 1 := by omega
        subst e2
        have f1 : (i : Int) - 1 + 1 = (i : Int) := by omega
        clear hcell e1
        go_wp2_with (first
          | (go_at_call 40; refine HN.out.mono ?_; rintro e w' ⟨rfl, rfl⟩)
          | (at_builtin; refine wpList_append_rd rfl (.tmp 19) (.tmp 23) rfl (vs := .slice (some ⟨b, off, none⟩) (t' + 1) cp) rfl rfl (hO.alloc _) (Rd.one _ _) (by simp; omega) (t' + 1 + 1) (by rw [hle]; rfl) (by omega) ?_; intro a3 c3 w3 hown3 hg3 hat3))
        go_roundg (c - (t' + 1 + 1))
        case measure => omega
        case rel => exact ⟨t' + 1 + 1, j + 1, l ++ [(j : Int)], by go_num, by omega, Nat.le_refl _, by simp [hle], hown3, below_grownD (hB.alloc hwB _) (hO.alloc _) hg3 (by simp; omega), by have := HL.out; simpa [Hid] using this, by omega, fun h => by omega, fun _ => by simp [hle]⟩
      · obtain rfl : t = 0 := by omega
        obtain rfl : l = [] := List.eq_nil_of_length_eq_zero hlt
        obtain rfl : i = 0 := hi0 rfl
        obtain ⟨a, cp, rfl⟩ := hO.rd.form
        have hO' : Own wr w.heap.size (.slice a 0 cp) [] := hO
        go_wp2_with (first
          | (go_at_call 40; refine HN.out.mono ?_; rintro e w' ⟨rfl, rfl⟩)
          | (at_builtin; refine wpList_append_rd rfl (.tmp 19) (.tmp 23) rfl (vs := .slice a 0 cp) rfl rfl (hO'.alloc _) (Rd.one _ _) (by simp; omega) 1 (by simp) (by omega) ?_; intro a3 c3 w3 hown3 hg3 hat3))
        go_roundg (c - 1)
        case measure => omega
        case rel => exact ⟨1, j + 1, [(j : Int)], by go_num, by omega, Nat.le_refl _, rfl, hown3, below_grownD (hB.alloc hwB _) (hO'.alloc _) hg3 (by simp; omega), HL.out, by omega, fun h => by omega, fun _ => rfl⟩
    · obtain rfl : t = c := by omega
      go_wp2_with fail
      go_ret
      have h1 := hl.out
      have h2 : elemsF M (n - i) i = [] := by
        have h3 := congrArg List.length h1
        rw [List.length_append, elems_len, ← HC.out, hlt] at h3
        exact List.eq_nil_of_length_eq_zero (by omega)
      rw [h2, List.append_nil] at h1
      exact ⟨_, rfl, by rw [← h1]; exact hO, hB⟩
end Go.Proofs.YtpbghoddemffhaaDoor
