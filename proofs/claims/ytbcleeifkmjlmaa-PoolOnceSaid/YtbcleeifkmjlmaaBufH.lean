/-
  The walk of BufferHalves: it returns true whatever came in. No condition.
-/
import Derived.Test.YtbcleeifkmjlmaaBufT
import Derived.Deep.LoopGhost
namespace Go.Proofs.Ytbcleeifkmjlmaa
open Go.RowKit
set_option maxRecDepth 100000
set_option maxHeartbeats 2000000

def seqL (m : Nat) : List Int := (List.range m).map fun (i : Nat) => (i : Int) + 1
theorem seqL_succ (m : Nat) : seqL (m + 1) = seqL m ++ [(m : Int) + 1] := by simp [seqL, List.range_succ]
theorem seqL_len (m : Nat) : (seqL m).length = m := by simp [seqL]

section
variable {w w1 w2 W : World} {B g : Nat} {v : Value} {l m : List Int}
/-- A buffer beside an append onto an own slice. -/
theorem BufAt.beside (h : BufAt w g l) (hv : Own w B v m) (hg : w.grownBy w1 v.ownBlock) : BufAt w1 g l := by
  obtain ⟨cs, hc, hr⟩ := h
  exact ⟨cs, hc.grown hg (fun e => hv.typed hc (by decide) g e.symm rfl), hr⟩
theorem Own.put (h : Own w B v l) (hb : BufAt w g m) (hu : Upd (· = g) w w1) : Own w1 B v l := by
  obtain ⟨cs, hc, _⟩ := hb
  exact h.upd hu (h.typed hc (by decide))
theorem Own.put2 {k : Nat} {n : List Int} (h : Own w B v l) (hb : BufAt w g m) (hk : BufAt w k n) (hu : Upd (fun b => b = g ∨ b = k) w w1) : Own w1 B v l := by
  obtain ⟨cs, hc, _⟩ := hb
  obtain ⟨cs', hc', _⟩ := hk
  exact h.upd hu (fun b hb hf => by
    rcases hf with e | e
    · exact h.typed hc (by decide) b hb e
    · exact h.typed hc' (by decide) b hb e)
theorem Own.below (h : Own w B v l) (hb : Below w.heap.size w w1) : Own w1 B v l := h.upd (F := fun _ => False) (Upd.ofBelow hb) (fun _ _ h => h)
theorem Own.mono {B' : Nat} (h : Own w B v l) (hB : B' ≤ B) : Own w B' v l := by
  rcases h.blk with ⟨rfl, rfl⟩ | ⟨g, cap, cs, rfl, hB', hg, hn, hm, hs, hx⟩
  · exact Own.nil _ _
  · exact Own.of_blk (by omega) hg hn hm hs hx
theorem BufAt.below (h : BufAt w g l) (hb : Below w.heap.size w w1) : BufAt w1 g l := h.upd (F := fun _ => False) (Upd.ofBelow hb) (fun h => h)
theorem below_grown {w0 : World} (hB : Below B w0 w) (hv : Own w B v m) (hg : w.grownBy w1 v.ownBlock) (hs : B ≤ w.heap.size) : Below B w0 w1 :=
  hB.grown hg hs (fun k hk => (hv.ge k hk).1)
end

theorem slice_from_new {a : Option Addr} {n c m c' K K' : Nat} (h : Value.ownBlock (.slice a n c) = Value.ownBlock (.slice (some ⟨K, 0, none⟩) m c') ∨ Value.ownBlock (.slice a n c) = some K') (hK : K ≤ K') :
    ∀ q, Value.ownBlock (.slice a n c) = some q → K ≤ q := fun q hq => by
  rcases h with e | e
  · exact Nat.le_of_eq (Option.some.inj (e.symm.trans hq))
  · have := Option.some.inj (e.symm.trans hq)
    omega

theorem BufferHalves_walk (n : Int) (w : World) :
    Calls Try.prog 5 #[.int .i64 n] w fun e w' => e = .returned (.bool true) ∧ Below w.heap.size w w' := by
  have hu : 0 ≤ IntKind.u64.wrap n := by rw [IntKind.wrap_u64]; exact Int.emod_nonneg _ (by omega)
  have hm0 : 0 ≤ IntKind.u64.wrap n % 33 := Int.emod_nonneg _ (by omega)
  have hm1 : IntKind.u64.wrap n % 33 < 33 := Int.emod_lt_of_pos _ (by omega)
  obtain ⟨k, hk⟩ := Int.eq_ofNat_of_zero_le hm0
  have hk32 : k ≤ 32 := by omega
  clear hm0 hm1
  go_enter Try.func5, Try.ntmps5
  go_wp2_with fail
  refine (bnew_any _).mono ?_
  rintro e w1 ⟨rfl, hA, hb⟩
  go_wp2_with fail
  clear hk hu
  obtain ⟨g, hg⟩ : ∃ g, w.heap.size = g := ⟨_, rfl⟩
  rw [hg] at hA hb ⊢
  have hgB : g ≤ w1.heap.size := by have := hb.size; omega
  have hgw : g ≤ w.heap.size := Nat.le_of_eq hg.symm
  have HG := Lib.hid hg
  clear hg
  go_loopw [5, 6] (fun v i wr => ∃ j : Nat, j ≤ k ∧ i = .int .i64 (j + 1) ∧ BufAt wr g (seqL j) ∧ Own wr g v (seqL j) ∧ Below g w wr) (fun _ i _ => (40 - intOf i).toNat)
  case atStart => exact ⟨0, by omega, rfl, hA, Own.nil _ _, hb⟩
  case round =>
    obtain ⟨j, hj, rfl, hA, hv, hB⟩ := hrel
    have hgs : g ≤ wr.heap.size := by have := hB.size; omega
    by_cases hlt : j < k
    · go_wp2_with fail
      refine (bput_room _ _ _ _ hA (by rw [seqL_len]; omega)).mono ?_
      rintro e w2 ⟨rfl, hA2, hu2⟩
      have hv2 := hv.put hA hu2
      have hB2 := below_upd hB hu2 hgs (fun q h => Nat.le_of_eq h.symm)
      rw [← seqL_succ] at hA2
      clear hA hv hB hu2
      go_wp2_with (at_builtin; refine wpList_append_rd rfl (.tmp 26) (.tmp 28) rfl rfl rfl (hv2.alloc _) (Rd.one w2 _) (by have := hB2.size; simp; omega) (j + 1) (by simp [seqL_len]) (by omega) ?_; intro a3 c3 w3 hown3 hg3 hat3)
      rw [← seqL_succ] at hown3
      have hA3 : BufAt w3 g (seqL (j + 1)) := BufAt.beside (hA2.below ((Below.refl _ _).alloc (Nat.le_refl _) _)) (hv2.alloc _) hg3
      have hB3 : Below g w w3 := below_grown (hB2.alloc (by have := hB2.size; omega) _) (hv2.alloc _) hg3 (by have := hB2.size; simp; omega)
      clear hA2 hv2 hB2 hg3 hat3
      go_roundw
      case rel => exact ⟨j + 1, by omega, by go_num, hA3, hown3, hB3⟩
      case measure => simp [intOf]; omega
    · obtain rfl : j = k := by omega
      go_wp2_with fail
      go_loopg [7] 40 (fun q t ws => ∃ l tl, l.length ≤ q ∧ BufAt ws g l ∧ Own ws g t tl ∧ Own ws g u5 (seqL j) ∧ Below g w ws ∧ Hid (l ++ tl = seqL j))
      case atStart => exact ⟨seqL j, [], by rw [seqL_len]; omega, hA, Own.nil _ _, hv, hB, List.append_nil _⟩
      case round =>
        clear hA hv hB hgs
        obtain ⟨l, tl, hq, hA, ht, hv, hB, hl⟩ := hrel
        have hgs : g ≤ wr.heap.size := by have := hB.size; omega
        have hl32 := hA.le
        have htl : tl.length ≤ 40 := by have := congrArg List.length hl.out; rw [seqL_len] at this; simp at this; omega
        by_cases hlt : 1 < l.length
        · go_wp2_with fail
          refine (blen_any _ _ _ hA).mono ?_
          rintro e w' ⟨rfl, rfl⟩
          go_wp2_with fail
          refine (bnew_any _).mono ?_
          rintro e w2 ⟨rfl, hN, hb2⟩
          have hA2 := hA.below hb2
          have ht2 := ht.below hb2
          have hv2 := hv.below hb2
          have hB2 := bstep hB hb2 hgs
          have hgn : g ≠ wr.heap.size := by have := hA.lt; omega
          have hgs2 : g ≤ w2.heap.size := by have := hb2.size; omega
          generalize hk : wr.heap.size = kb at hN hgn ⊢
          have hkb : g ≤ kb := by omega
          clear hA ht hv hB hb2 hk
          go_wp2_with fail
          refine (blen_any _ _ _ hA2).mono ?_
          rintro e w' ⟨rfl, rfl⟩
          go_wp2_with fail
          refine (bhalf_any _ _ _ l [] hA2 hN hgn (by simp; omega)).mono ?_
          rintro e w3 ⟨rfl, hA3, hN3, hu3⟩
          have ht3 := ht2.put2 hA2 hN hu3
          have hv3 := hv2.put2 hA2 hN hu3
          have hB3 := below_upd hB2 hu3 hgs2 (fun q h => by rcases h with h | h <;> omega)
          have hgs3 : g ≤ w3.heap.size := by have := hu3.size; omega
          clear hA2 ht2 hv2 hB2 hu3 hN hgs2
          have hl1 : (l.take (l.length - l.length / 2)).length = l.length - l.length / 2 := by rw [List.length_take]; omega
          have hl2 : ([] ++ l.drop (l.length - l.length / 2)).length = l.length / 2 := by rw [List.nil_append, List.length_drop]; omega
          have hl3 : l.take (l.length - l.length / 2) ++ ([] ++ l.drop (l.length - l.length / 2)) = l := by simp
          generalize l.take (l.length - l.length / 2) = l1 at *
          generalize ([] ++ l.drop (l.length - l.length / 2)) = l2 at *
          have e1 : ((l1.length : Nat) : Int) = (l.length : Int) - (l.length : Int) / 2 := by omega
          have e2 : ((l2.length : Nat) : Int) = (l.length : Int) / 2 := by omega
          have e0 : ((l.length / 2 : Nat) : Int) = (l.length : Int) / 2 := by omega
          rw [e0]
          have F := Lib.hid (And.intro hl (And.intro hl1 (And.intro hl2 hl3)))
          clear hl hl1 hl2 hl3 e0
          go_wp2_with fail
          refine (blen_any _ _ _ hA3).mono ?_
          rintro e w' ⟨rfl, rfl⟩
          rw [e1]
          go_wp2_with fail
          refine (blen_any _ _ _ hN3).mono ?_
          rintro e w' ⟨rfl, rfl⟩
          rw [e2]
          have E1 := Lib.hid e1
          have E2 := Lib.hid e2
          clear e1 e2
          go_wp2_with fail
          have al := (Below.refl w3.heap.size w3).alloc (Nat.le_refl _) (.cells #[] 3)
          refine (ball_any _ _ _ (hN3.below al)).mono ?_
          rintro e w4 ⟨va, rfl, hva, hb4⟩
          have hb4' := bx al hb4
          have hA4 := hA3.below hb4'
          have ht4 := ht3.below hb4'
          have hv4 := hv3.below hb4'
          have hB4 := bstep hB3 hb4' hgs3
          have hgs4 : g ≤ w4.heap.size := by have := hb4'.size; omega
          have hemp := (Own.empty w3 g hgs3).below hb4
          have hbt : ∀ b, u7.ownBlock = some b → b < w3.heap.size := fun b hb => (ht3.ge b hb).2
          have hbv : ∀ b, u5.ownBlock = some b → b < w3.heap.size := fun b hb => (hv3.ge b hb).2
          have hw34 : w3.heap.size ≤ w4.heap.size := hb4'.size
          clear hA3 hN3 ht3 hv3 hB3 hb4 hb4' al
          have hva' := hva.rd
          have q1 : l2.length ≤ 32 := by have := F.out.2.2.1; omega
          have HT := Lib.hid (And.intro hbt hbv)
          clear hbt hbv
          go_wp2_with (first
            | (at_builtin; refine wpList_append_rd rfl (.tmp 62) (.tmp 64) rfl (vs := .slice (some ⟨w3.heap.size, 0, none⟩) 0 0) rfl rfl hemp hva' hgs4 l2.length (by simp) (by omega) ?_; intro a5 c5 w5 hown5 hg5 hat5
               have hle5 : ∀ q, Value.ownBlock (.slice a5 l2.length c5) = some q → w3.heap.size ≤ q := slice_from_new hat5 hw34)
            | (at_builtin; refine wpList_append_rd rfl (.tmp 65) (.tmp 66) rfl (vs := .slice a5 l2.length c5) rfl rfl hown5 (ht4.rd.grown hg5 (fun b hb e => absurd (HT.out.1 b hb) (by have h2 : w3.heap.size = b := Option.some.inj e; omega))) (by have := hg5.size; omega) (l2.length + tl.length) (by simp) (by omega) ?_; intro a6 c6 w6 hown6 hg6 hat6))
          have hA5 := hA4.beside hemp hg5
          have hA6 := hA5.beside hown5 hg6
          have hB5 := below_grown hB4 hemp hg5 hgs4
          have hB6 := below_grown hB5 hown5 hg6 (by have := hg5.size; omega)
          have hv5 := hv4.grown hg5 (fun b hb e => absurd (HT.out.2 b hb) (by have h2 : w3.heap.size = b := Option.some.inj e; omega))
          have hv6 := hv5.grown hg6 (fun b hb e => absurd (HT.out.2 b hb) (by have h2 := hle5 b e; omega))
          go_roundg (l1.length)
          case measure => have := F.out.2.1; omega
          case rel => exact ⟨l1, l2 ++ tl, Nat.le_refl _, hA6, by simpa using hown6, hv6, hB6, show _ = _ by rw [← List.append_assoc, F.out.2.2.2]; exact F.out.1⟩
        · go_wp2_with fail
          refine (blen_any _ _ _ hA).mono ?_
          rintro e w' ⟨rfl, rfl⟩
          go_wp2_with fail
          refine (bnew_any _).mono ?_
          rintro e w2 ⟨rfl, hN, hb2⟩
          have hA2 := hA.below hb2
          have ht2 := ht.below hb2
          have hv2 := hv.below hb2
          have hB2 := bstep hB hb2 hgs
          have hgn : g ≠ wr.heap.size := by have := hA.lt; omega
          have hgs2 : g ≤ w2.heap.size := by have := hb2.size; omega
          generalize hk : wr.heap.size = kb at hN hgn ⊢
          have hkb : g ≤ kb := by omega
          clear hA ht hv hB hb2 hk
          go_wp2_with fail
          refine (told17_any _).mono ?_
          rintro e w3 ⟨rfl, hb3⟩
          have hA3 := hA2.below hb3
          have hN3 := hN.below hb3
          have ht3 := ht2.below hb3
          have hv3 := hv2.below hb3
          have hB3 := bstep hB2 hb3 hgs2
          have hgs3 : g ≤ w3.heap.size := by have := hb3.size; omega
          clear hA2 hN ht2 hv2 hB2 hb3 hgs2
          go_wp2_with fail
          refine (bhalf_any _ _ _ l [] hA3 hN3 hgn (by simp; omega)).mono ?_
          rintro e w4 ⟨rfl, hA4, hN4, hu4⟩
          have e0 : l.length / 2 = 0 := by omega
          rw [e0] at hA4 ⊢
          rw [Nat.sub_zero, List.take_length] at hA4
          have ht4 := ht3.put2 hA3 hN3 hu4
          have hv4 := hv3.put2 hA3 hN3 hu4
          have hB4 := below_upd hB3 hu4 hgs3 (fun q h => by rcases h with h | h <;> omega)
          have hgs4 : g ≤ w4.heap.size := by have := hu4.size; omega
          clear hA3 ht3 hv3 hB3 hu4 hN3 hN4 hgs3 e0
          go_wp2_with fail
          have al := (Below.refl w4.heap.size w4).alloc (Nat.le_refl _) (.cells #[] 3)
          refine (ball_any _ _ _ (hA4.below al)).mono ?_
          rintro e w5 ⟨va, rfl, hva, hb5⟩
          have hb5' := bx al hb5
          have ht5 := ht4.below hb5'
          have hv5 := hv4.below hb5'
          have hB5 := bstep hB4 hb5' hgs4
          have hgs5 : g ≤ w5.heap.size := by have := hb5'.size; omega
          have hemp := (Own.empty w4 g hgs4).below hb5
          have hbt : ∀ b, u7.ownBlock = some b → b < w4.heap.size := fun b hb => (ht4.ge b hb).2
          have hbv : ∀ b, u5.ownBlock = some b → b < w4.heap.size := fun b hb => (hv4.ge b hb).2
          have hw45 : w4.heap.size ≤ w5.heap.size := hb5'.size
          have hva' := hva.rd
          have HT := Lib.hid (And.intro hbt hbv)
          have hf : decide ([] ++ l ++ tl = seqL j) = true := by simpa using hl.out
          have HF := Lib.hid hf
          clear hA4 ht4 hv4 hB4 hb5 hb5' al hbt hbv hva hf
          go_wp2_with (first
            | (at_builtin; refine wpList_append_rdg rfl (.tmp 81) (.tmp 83) rfl (vs := .slice (some ⟨w4.heap.size, 0, none⟩) 0 0) rfl rfl hemp hva' hgs5 l.length (by simp) (by omega) ?_; intro a6 c6 w6 hown6 hg6 hat6
               have hle6 : ∀ q, Value.ownBlock (.slice a6 l.length c6) = some q → w4.heap.size ≤ q := slice_from_new hat6 hw45)
            | (at_builtin; refine wpList_append_rdg rfl (.tmp 84) (.tmp 85) rfl (vs := .slice a6 l.length c6) rfl rfl hown6 (ht5.rd.grown hg6 (fun b hb e => absurd (HT.out.1 b hb) (by have h2 : w4.heap.size = b := Option.some.inj e; omega))) (by have := hg6.size; omega) (l.length + tl.length) (by simp) (by omega) ?_; intro a7 c7 w7 hown7 hg7 hat7)
            | (go_at_call 18; refine (ints_any _ _ _ ([] ++ l ++ tl) (seqL j) hown7.rd ((hv5.grown hg6 (fun b hb e => absurd (HT.out.2 b hb) (by have h2 : w4.heap.size = b := Option.some.inj e; omega))).grown hg7 (fun b hb e => absurd (HT.out.2 b hb) (by have h2 := hle6 b e; omega))).rd (by simp; omega)).mono ?_; rintro e w8 ⟨rfl, nd, rfl⟩; rw [HF.out]))
          go_ret
          have hB6 := below_grown hB5 hemp hg6 hgs5
          have hB7 := below_grown hB6 hown6 hg7 (by have := hg6.size; omega)
          have hB8 : Below w.heap.size w w7 := by rw [HG.out]; exact hB7
          exact ⟨rfl, hB8.os, hB8.tape, hB8.output, hB8.size, hB8.block⟩
end Go.Proofs.Ytbcleeifkmjlmaa
