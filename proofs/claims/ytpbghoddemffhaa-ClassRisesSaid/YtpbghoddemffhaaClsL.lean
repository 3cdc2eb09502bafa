/-
  The walks of the three laws of layer 4 (classes): each returns true whatever came in. No condition.
-/
import Derived.Test.YtpbghoddemffhaaClsO
namespace Go.Proofs.Ytpbghoddemffhaa
open Go.RowKit
set_option maxRecDepth 100000
set_option maxHeartbeats 400000

theorem told4_any (w : World) :
    Calls Try.prog 6 #[] w fun e w' => e = .returned (.bool true) ∧ Below w.heap.size w w' := by
  have hB := Below.refl w.heap.size w
  have e1 := Lib.hid (show szN 4 = 6 from rfl)
  have e2 := Lib.hid (show pgN 4 = 1 from rfl)
  have e3 := Lib.hid (show slN 4 = 10 from rfl)
  have e4 := Lib.hid (show pgN 15 = 4 from rfl)
  have e5 := Lib.hid (show ofN 5 = 4 from by decide)
  have e6 := Lib.hid (show ofN 257 = -1 from by decide)
  go_enter Try.func6, Try.ntmps6
  go_wp2_with (first
    | (go_at_call 15; refine (count_any _).mono ?_; rintro e w' ⟨rfl, hb⟩; replace hB := bx hB hb; clear hb)
    | (go_at_call 7; refine (size_any _ _).mono ?_; rintro e w' ⟨rfl, hb⟩; replace hB := bx hB hb; clear hb; rw [e1.out])
    | (go_at_call 9; refine (pages_any _ _).mono ?_; rintro e w' ⟨rfl, hb⟩; replace hB := bx hB hb; clear hb; first | rw [e2.out] | rw [e4.out])
    | (go_at_call 11; refine (slots_any _ _).mono ?_; rintro e w' ⟨rfl, hb⟩; replace hB := bx hB hb; clear hb; rw [e3.out])
    | (go_at_call 13; refine (of_any _ _).mono ?_; rintro e w' ⟨rfl, hb⟩; replace hB := bx hB hb; clear hb; first | rw [e5.out] | rw [e6.out]))
  go_ret
  exact ⟨rfl, hB⟩

theorem ClassTable_walk (k n : Int) (w : World) :
    Calls Try.prog 3 #[.int .i64 k, .int .i64 n] w fun e w' => e = .returned (.bool true) ∧ Below w.heap.size w w' := by
  have hB := Below.refl w.heap.size w
  go_enter Try.func3, Try.ntmps3
  go_wp2_with (first
    | (go_at_call 6; refine (told4_any _).mono ?_; rintro e w' ⟨rfl, hb⟩; replace hB := bx hB hb; clear hb)
    | (go_at_call 7; refine (size_any _ _).mono ?_; rintro e w' ⟨rfl, hb⟩; replace hB := bx hB hb; clear hb)
    | (go_at_call 8; refine (rsize_any _ _).mono ?_; rintro e w' ⟨rfl, hb⟩; replace hB := bx hB hb; clear hb)
    | (go_at_call 9; refine (pages_any _ _).mono ?_; rintro e w' ⟨rfl, hb⟩; replace hB := bx hB hb; clear hb)
    | (go_at_call 10; refine (rpages_any _ _).mono ?_; rintro e w' ⟨rfl, hb⟩; replace hB := bx hB hb; clear hb)
    | (go_at_call 11; refine (slots_any _ _).mono ?_; rintro e w' ⟨rfl, hb⟩; replace hB := bx hB hb; clear hb)
    | (go_at_call 12; refine (rslots_any _ _).mono ?_; rintro e w' ⟨rfl, hb⟩; replace hB := bx hB hb; clear hb)
    | (go_at_call 13; refine (of_any _ _).mono ?_; rintro e w' ⟨rfl, hb⟩; replace hB := bx hB hb; clear hb)
    | (go_at_call 14; refine (rof_any _ _).mono ?_; rintro e w' ⟨rfl, hb⟩; replace hB := bx hB hb; clear hb))
  go_ret
  exact ⟨rfl, hB⟩
end Go.Proofs.Ytpbghoddemffhaa
