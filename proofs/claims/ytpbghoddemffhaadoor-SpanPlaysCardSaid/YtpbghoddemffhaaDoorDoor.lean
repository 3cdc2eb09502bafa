/-
  The door seat's common parts: from the laid table to what a walk asks; the start that each row's witness takes.
-/
import Derived.Test.YtpbghoddemffhaaDoorBitN
import Derived.Test.YtpbghoddemffhaaDoorTie
import Derived.Test.YtpbghoddemffhaaDoorCards
import Derived.Lib.LaidTab
import Derived.Lib.LaidU8
import Derived.Lay
import Derived.LaidMore
import Derived.LaidOnce
import Derived.SevenTiedAt
namespace Go.Proofs.YtpbghoddemffhaaDoor
open Go.ChangeShapes Go.WideShapes Go.ChangeAt Go.RowKit
set_option maxRecDepth 100000
def doorLaid : List (String × DataW Unit) := [("math/bits.deBruijn64tab", Rows.laid_math_bits_deBruijn64tab)]
theorem door_own : ownKnob Tryd.prog.godebug = none := by kernel_rfl
theorem laid_tab : (Rows.laid_math_bits_deBruijn64tab : DataW Unit) = Lib.tabData .u8 (Lib.deBruijn64tab.map fun (n : Nat) => (n : Int)) := by rfl
theorem tab_of_laid {W : World} (h : laidMetH Tryd.prog doorLaid W) : Tab W := by
  rw [MakeChecks.laidMetH_plain _ _ _ (by kernel_rfl)] at h
  obtain ⟨ps, ⟨g, t, cs, fuel, p, q, hg, ht, hv, hd, _, _⟩, _, _⟩ := h
  obtain rfl := Option.some.inj ((show Tryd.prog.globalNamed "math/bits.deBruijn64tab" = some 0 by kernel_rfl).symm.trans hg)
  obtain rfl := Option.some.inj ((show (Tryd.prog.globals[0]?).map (·.type) = some 75 by kernel_rfl).symm.trans ht)
  rw [laid_tab] at hd
  have hcs := Lib.cells_of_tab Tryd.underlying75 Tryd.underlying5 (by kernel_rfl) (by kernel_rfl) hd
  intro j hj
  rw [World.var?_cell hg hv j, ← Array.getElem?_toList, hcs, List.getElem?_map, List.getElem?_map, List.getElem?_eq_getElem hj, List.getD_eq_getElem?_getD, List.getElem?_eq_getElem hj]
  rfl
theorem door_met (os : Os) (args : Array Value) : laidMetH Tryd.prog doorLaid ((World.laidAll Tryd.prog os doorLaid).forCall (fun _ _ => 0) ⟨#[], args, []⟩).memory := by
  rw [MakeChecks.laidMetH_plain _ _ _ (by kernel_rfl)]
  exact laidMet_laidAll _ (by kernel_rfl) (by kernel_rfl)
theorem door_os (os : Os) : (World.laidAll Tryd.prog os doorLaid).os = os := World.laidAll_os _ _ _
end Go.Proofs.YtpbghoddemffhaaDoor
