/- What the cards of this seat have alike: the table that the rows list, and a world for the witness. -/
import Derived.Test.YtahaecieklfhkaaDoorCards
import Derived.Test.YtahaecieklfhkaaDoorTie
import Derived.Test.YtahaecieklfhkaaDoorBits6
import Derived.ProofKit
import Derived.OpenShut
import Derived.Deep.DeepHandedRow
import Derived.Lib.LaidTab
import Derived.LaidSub
namespace Go.Proofs.YtahaecieklfhkaaDoor
open Go.ChangeShapes Go.WideShapes Go.ChangeAt Go.RowKit

theorem own : ownKnob Tryd.prog.godebug = none := by kernel_rfl
theorem gTab : Tryd.prog.globalNamed "math/bits.deBruijn64tab" = some 1 := by kernel_rfl
theorem gTabType : (Tryd.prog.globals[1]?).map (·.type) = some 94 := by kernel_rfl
theorem cellsArr64 : Tryd.prog.cellsOf 94 = 64 := by kernel_rfl
theorem cellsU8 : Tryd.prog.cellsOf 5 = 1 := by kernel_rfl

theorem laidOut : laidOutB Tryd.prog = true := by kernel_rfl
/-- The variables that every row of this seat lists. -/
def laidVars : List (String × DataW Unit) := [("math/bits.deBruijn32tab", Rows.laid_math_bits_deBruijn32tab), ("math/bits.deBruijn64tab", Rows.laid_math_bits_deBruijn64tab)]

theorem tab_of_laid {W : World} (h : laidMetH Tryd.prog laidVars W) : Tab W := by
  have h1 := h.filter (fun x => x.1 == "math/bits.deBruijn64tab")
  have h2 : laidMet Tryd.prog [("math/bits.deBruijn64tab", Rows.laid_math_bits_deBruijn64tab)] W := h1
  have h3 : Lib.TabIs Tryd.prog W "math/bits.deBruijn64tab" .u8 (Lib.deBruijn64tab.map (fun (n : Nat) => (n : Int))) :=
    Lib.tabIs_of_head (rest := []) gTab gTabType Tryd.underlying94 Tryd.underlying5 cellsU8 cellsArr64 h2
  have hlen : Lib.deBruijn64tab.length = 64 := by decide
  intro j hj
  have := h3.cell gTab j (by simp [hlen]; exact hj)
  rw [this]
  congr 2
  have hjl : j < Lib.deBruijn64tab.length := by rw [hlen]; exact hj
  simp [List.getD_eq_getElem?_getD, hjl]

/-- A block of the table's cells in the place of a variable's zeros. -/
def layTab (l : List Nat) (o : Obj) : Obj :=
  match o with
  | .cells _ t frozen => .cells (l.map (fun (n : Nat) => Value.int .u8 (n : Int))).toArray t frozen
  | o => o
/-- A world for the witness: the settled one, the two tables holding what their initialisers lay. -/
noncomputable def laidWorld (os : Os) : World :=
  { World.holding Tryd.prog os ⟨#[], #[], []⟩ with heap := ((World.holding Tryd.prog os ⟨#[], #[], []⟩).heap.modify 0 (layTab Lib.deBruijn32tab)).modify 1 (layTab Lib.deBruijn64tab) }
theorem laid_met (os : Os) (args : Array Value) : laidMet Tryd.prog laidVars ((laidWorld os).forCall (fun _ _ => 0) ⟨#[], args, []⟩).memory :=
  laidMet_of_run' 8 (by kernel_rfl) (by kernel_rfl)
end Go.Proofs.YtahaecieklfhkaaDoor
