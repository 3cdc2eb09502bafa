/-
  The walks of layer 3's told and of BitsNobody: each returns true. Under: the library's table.
-/
import Derived.Test.YtpbghoddemffhaaDoorBitA
namespace Go.Proofs.YtpbghoddemffhaaDoor
open Go.RowKit
set_option maxRecDepth 100000
set_option maxHeartbeats 1000000

theorem told3_any (w : World) (hT : Tab w) :
    Calls Tryd.prog 38 #[] w fun e w' => e = .returned (.bool true) ∧ Below w.heap.size w w' := by
  have HT := Lib.hid hT
  clear hT
  go_enter Tryd.func38, Tryd.ntmps38
  go_wp2_with fail
  refine (set_new w 70 70 (by decide)).mono ?_
  rintro e w1 ⟨g, k, rfl, hS, hg, hk, hgk, hb⟩
  go_wp2_with fail
  refine (set_set _ _ _ _ _ _ hS (by decide)).mono ?_
  rintro e w2 ⟨rfl, hS2, hu2⟩
  have hB2 := below_upd hb hu2 hb.size (fun q h => by rcases h with h | h <;> omega)
  rw [show (!(fun _ => false : Nat → Bool) 65) = true from rfl]
  clear hS hu2 hb
  go_wp2_with fail
  refine (set_set _ _ _ _ _ _ hS2 (by decide)).mono ?_
  rintro e w3 ⟨rfl, hS3, hu3⟩
  have hB3 := below_upd hB2 hu3 hB2.size (fun q h => by rcases h with h | h <;> omega)
  rw [show (!(putM (fun _ => false) 65) 65) = false from rfl]
  rw [put_same (show (putM (fun _ => false) 65) 65 = true from rfl)] at hS3
  clear hS2 hu3 hB2
  have hT3 := HT.out.ofBelow hB3
  go_wp2_with fail
  refine (set_next _ _ _ _ _ hS3 hT3 _ _).mono ?_
  rintro e w' ⟨rfl, rfl⟩
  rw [show nextM (putM (fun _ => false) 65) 70 true (Int.toNat 0) = 65 by kernel_rfl]
  go_wp2_with fail
  refine (set_next _ _ _ _ _ hS3 hT3 _ _).mono ?_
  rintro e w' ⟨rfl, rfl⟩
  rw [show nextM (putM (fun _ => false) 65) 70 false (Int.toNat 65) = 66 by kernel_rfl]
  go_wp2_with fail
  refine (set_next _ _ _ _ _ hS3 hT3 _ _).mono ?_
  rintro e w' ⟨rfl, rfl⟩
  rw [show nextM (putM (fun _ => false) 65) 70 true (Int.toNat 66) = -1 by kernel_rfl]
  go_wp2_with fail
  refine (set_count _ _ _ _ _ hS3).mono ?_
  rintro e w' ⟨rfl, rfl⟩
  rw [show cnt (putM (fun _ => false) 65) 70 = 1 by kernel_rfl]
  go_wp2_with fail
  refine (set_len _ _ _ _ _ hS3).mono ?_
  rintro e w' ⟨rfl, rfl⟩
  go_wp2_with fail
  refine (set_set_out _ _ _ _ _ hS3 _ (.inr (by decide))).mono ?_
  rintro e w' ⟨rfl, rfl⟩
  go_wp2_with fail
  go_ret
  exact ⟨rfl, hB3⟩

theorem BitsNobody_walk (w : World) (hT : Tab w) (i n : Int) :
    Calls Tryd.prog 7 #[.int .i64 i, .int .i64 n] w fun e w' => e = .returned (.bool true) ∧ Below w.heap.size w w' := by
  have hu : 0 ≤ IntKind.u64.wrap n := by rw [IntKind.wrap_u64]; exact Int.emod_nonneg _ (by omega)
  have hm0 : 0 ≤ IntKind.u64.wrap n % 100 := Int.emod_nonneg _ (by omega)
  have hm1 : IntKind.u64.wrap n % 100 < 100 := Int.emod_lt_of_pos _ (by omega)
  obtain ⟨m, hm⟩ := Int.eq_ofNat_of_zero_le hm0
  have hm100 : m < 100 := by omega
  have HT := Lib.hid hT
  clear hm0 hm1 hT
  go_enter Tryd.func7, Tryd.ntmps7
  go_wp2_with fail
  refine (set_new w _ 0 (by omega)).mono ?_
  rintro e w1 ⟨g, k, rfl, hS, hg, hk, hgk, hb⟩
  clear hm hu
  have hin : i < 0 ∨ ((0 : Nat) : Int) ≤ i := by omega
  have HI := Lib.hid hin
  clear hin
  go_wp2_with fail
  refine (told3_any _ (HT.out.ofBelow hb)).mono ?_
  rintro e w2 ⟨rfl, hb2⟩
  have hS2 := hS.below hb2
  have hB2 := bx hb hb2
  clear hS hb hb2
  go_wp2_with fail
  refine (set_has_nil _ _).mono ?_
  rintro e w' ⟨rfl, rfl⟩
  go_wp2_with fail
  refine (set_set_nil _ _).mono ?_
  rintro e w' ⟨rfl, rfl⟩
  go_wp2_with fail
  refine (set_clear_nil _ _).mono ?_
  rintro e w' ⟨rfl, rfl⟩
  go_wp2_with fail
  refine (set_next_nil _ _ _).mono ?_
  rintro e w' ⟨rfl, rfl⟩
  go_wp2_with fail
  refine (set_next_nil _ _ _).mono ?_
  rintro e w' ⟨rfl, rfl⟩
  go_wp2_with fail
  refine (set_count_nil _).mono ?_
  rintro e w' ⟨rfl, rfl⟩
  go_wp2_with fail
  refine (set_len_nil _).mono ?_
  rintro e w' ⟨rfl, rfl⟩
  go_wp2_with fail
  refine (set_all_nil _).mono ?_
  rintro e w' ⟨rfl, rfl⟩
  go_wp2_with fail
  refine (set_len _ _ _ _ _ hS2).mono ?_
  rintro e w' ⟨rfl, rfl⟩
  go_wp2_with fail
  refine (set_set_out _ _ _ _ _ hS2 _ HI.out).mono ?_
  rintro e w' ⟨rfl, rfl⟩
  go_wp2_with fail
  refine (set_next_out _ _ _ _ _ hS2 _ _ (by decide)).mono ?_
  rintro e w' ⟨rfl, rfl⟩
  go_wp2_with fail
  go_ret
  exact ⟨rfl, hB2⟩
end Go.Proofs.YtpbghoddemffhaaDoor
