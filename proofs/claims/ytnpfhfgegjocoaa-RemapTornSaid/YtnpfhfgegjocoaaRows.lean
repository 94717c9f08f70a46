/-
  No cell of these rows narrows 'for every input' (looked for: loops, veiled, ifaces, maps, wideKeys, modest, calm, conditions, laid).
  DERIVED. THE GIVEN ROWS OF THIS SEAT. 4 by the template 'for every input the law returns true; each argument reads behind the call as it read before'; 0 by the template 'total and deterministic' (their statements: YtnpfhfgegjocoaaTotals.lean).
  GIVEN WITH THE SEED: the statements are not yours to turn. If you find one false, say at which input.
  Laid BY PROGRAM, IN A SANDBOX (cutbox-rows.mjs): the forced cells as the released guide's own fill.sh prints them over the translation 6261ccdaff668338… (all of the seat's roots in one cut). By AI agents, Wed Nov 11 2026. No macro, syntax, notation, axiom, sorry.
-/
import Derived.Test.YtnpfhfgegjocoaaChecked
import GoSem.Claim
import GoSem.ClaimJoined
import GoSem.ClaimMapViews
import Derived.JoinedTies
import Derived.KernelRfl
namespace Go.Proofs.Ytnpfhfgegjocoaa
/- THE CELL 'sum', in the pinned program and in every row, IS THE sha256 OF THE DUMP (.gsa) THAT YtnpfhfgegjocoaaProg.lean LOADS. Nothing in Lean hashes anything: it is a label: what it is worth is what the hold of that sum in a sandbox is worth. -/
noncomputable def Try.pinned : Pinned := { name := "ytnpfhfgegjocoaa", sum := "6261ccdaff668338858449d09c6e1ebe1965a0823078812646d9c0efc5ea95ef", checked := Try.checked }
namespace Rows
def none {H : Type} : Left H := { results := [], args := [] }

/-- 'treenaillaw07.RemapKeeps': WHATEVER THE INPUT: true; the input reads as it did. -/
def remapKeepsSpec : ChangeSpec := { name := "remapKeeps", fn := fun _ => fun
  | [d] => { results := [.lit (.bool true)], args := [d] }
  | _ => none }
def remapKeepsRow : OpenClaim := { program := "ytnpfhfgegjocoaa", sum := "6261ccdaff668338858449d09c6e1ebe1965a0823078812646d9c0efc5ea95ef", func := "treenail/treenaillaw07.RemapKeeps", spec := "remapKeeps", inPlace := ["internal/abi.NoEscape", "internal/bytealg.MakeNoZero"], unfollowed := true, recurses := true, plainKeys := false, apart := false }
def RemapKeepsSaid : Prop := remapKeepsRow.holds Try.pinned (OpenSpec.ofChange remapKeepsSpec)

/-- ITS FALSE NEIGHBOUR: 'it returns false'. Refute it at one input. -/
def remapKeepsWrong : ChangeSpec := { name := "remapKeeps", fn := fun _ => fun
  | [d] => { results := [.lit (.bool false)], args := [d] }
  | _ => none }
def RemapKeepsWrongFalsely : Prop := remapKeepsRow.holds Try.pinned (OpenSpec.ofChange remapKeepsWrong)

/-- 'treenaillaw07.RemapTorn': WHATEVER THE INPUT: true; the input reads as it did. -/
def remapTornSpec : ChangeSpec := { name := "remapTorn", fn := fun _ => fun
  | [d1, d2, d3] => { results := [.lit (.bool true)], args := [d1, d2, d3] }
  | _ => none }
def remapTornRow : OpenClaim := { program := "ytnpfhfgegjocoaa", sum := "6261ccdaff668338858449d09c6e1ebe1965a0823078812646d9c0efc5ea95ef", func := "treenail/treenaillaw07.RemapTorn", spec := "remapTorn", inPlace := ["internal/abi.NoEscape", "internal/bytealg.MakeNoZero"], unfollowed := true, recurses := true, plainKeys := false, apart := false }
def RemapTornSaid : Prop := remapTornRow.holds Try.pinned (OpenSpec.ofChange remapTornSpec)

/-- ITS FALSE NEIGHBOUR: 'it returns false'. Refute it at one input. -/
def remapTornWrong : ChangeSpec := { name := "remapTorn", fn := fun _ => fun
  | [d1, d2, d3] => { results := [.lit (.bool false)], args := [d1, d2, d3] }
  | _ => none }
def RemapTornWrongFalsely : Prop := remapTornRow.holds Try.pinned (OpenSpec.ofChange remapTornWrong)

/-- 'treenaillaw07.RemapShapes': WHATEVER THE INPUT: true; the input reads as it did. -/
def remapShapesSpec : ChangeSpec := { name := "remapShapes", fn := fun _ => fun
  | [d1, d2, d3] => { results := [.lit (.bool true)], args := [d1, d2, d3] }
  | _ => none }
def remapShapesRow : OpenClaim := { program := "ytnpfhfgegjocoaa", sum := "6261ccdaff668338858449d09c6e1ebe1965a0823078812646d9c0efc5ea95ef", func := "treenail/treenaillaw07.RemapShapes", spec := "remapShapes", inPlace := ["internal/abi.NoEscape", "internal/bytealg.MakeNoZero"], unfollowed := true, recurses := true, plainKeys := false, apart := false }
def RemapShapesSaid : Prop := remapShapesRow.holds Try.pinned (OpenSpec.ofChange remapShapesSpec)

/-- ITS FALSE NEIGHBOUR: 'it returns false'. Refute it at one input. -/
def remapShapesWrong : ChangeSpec := { name := "remapShapes", fn := fun _ => fun
  | [d1, d2, d3] => { results := [.lit (.bool false)], args := [d1, d2, d3] }
  | _ => none }
def RemapShapesWrongFalsely : Prop := remapShapesRow.holds Try.pinned (OpenSpec.ofChange remapShapesWrong)

/-- 'treenaillaw07.RemapReplaces': WHATEVER THE INPUT: true; the input reads as it did. -/
def remapReplacesSpec : ChangeSpec := { name := "remapReplaces", fn := fun _ => fun
  | [d1, d2] => { results := [.lit (.bool true)], args := [d1, d2] }
  | _ => none }
def remapReplacesRow : OpenClaim := { program := "ytnpfhfgegjocoaa", sum := "6261ccdaff668338858449d09c6e1ebe1965a0823078812646d9c0efc5ea95ef", func := "treenail/treenaillaw07.RemapReplaces", spec := "remapReplaces", inPlace := ["internal/abi.NoEscape", "internal/bytealg.MakeNoZero"], unfollowed := true, recurses := true, plainKeys := false, apart := false }
def RemapReplacesSaid : Prop := remapReplacesRow.holds Try.pinned (OpenSpec.ofChange remapReplacesSpec)

/-- ITS FALSE NEIGHBOUR: 'it returns false'. Refute it at one input. -/
def remapReplacesWrong : ChangeSpec := { name := "remapReplaces", fn := fun _ => fun
  | [d1, d2] => { results := [.lit (.bool false)], args := [d1, d2] }
  | _ => none }
def RemapReplacesWrongFalsely : Prop := remapReplacesRow.holds Try.pinned (OpenSpec.ofChange remapReplacesWrong)

/- THE SECOND FORM. 'bulk': how many values and letters a reading holds, each counted each time it is reached (what is shared counts as often as it is met; a slice's spare places count too). A statement '..UptoSaid' is the law's where the arguments, and the package variables that the reading takes, are together of bulk at most 1048576: NARROWER than '..Said'. Prove '..Said' where nothing that the law and all that it calls make is longer than what came in: it says more and counts as full. Else prove '..UptoSaid'. A law counts once. -/
mutual
def uptoBulk {H : Type} : DataW H → Nat
  | .lit (.string bytes) => bytes.length + 1
  | .lit _ => 1
  | .nil => 1
  | .ptr d => uptoBulk d + 1
  | .slice elems spare => uptoBulkAll elems + uptoBulkAll spare + 1
  | .agg parts => uptoBulkAll parts + 1
  | .iface _ d => uptoBulk d + 1
  | .map entries => uptoBulkEntries entries + 1
  | .held _ => 1
def uptoBulkAll {H : Type} : List (DataW H) → Nat
  | [] => 0
  | d :: r => uptoBulk d + uptoBulkAll r
def uptoBulkEntries {H : Type} : List (Lit × DataW H) → Nat
  | [] => 0
  | x :: r => uptoBulkEntry x + uptoBulkEntries r
def uptoBulkEntry {H : Type} : Lit × DataW H → Nat
  | (.string bytes, d) => bytes.length + uptoBulk d + 1
  | (_, d) => uptoBulk d + 1
 end
def uptoSmall : (H : Type) → List (DataW H) → Bool := fun _ ds => decide (uptoBulkAll ds ≤ 1048576)
def OpenSpec.upto (s : _root_.Go.ChangeSpec) : _root_.Go.OpenSpec := { _root_.Go.OpenSpec.ofChange s with cond := some uptoSmall }

/-- 'treenaillaw07.RemapKeeps', WHERE WHAT IT READS IS OF BULK AT MOST 1048576: true; the input reads as it did. -/
def remapKeepsUptoRow : OpenClaim := { program := "ytnpfhfgegjocoaa", sum := "6261ccdaff668338858449d09c6e1ebe1965a0823078812646d9c0efc5ea95ef", func := "treenail/treenaillaw07.RemapKeeps", spec := "remapKeeps", inPlace := ["internal/abi.NoEscape", "internal/bytealg.MakeNoZero"], unfollowed := true, recurses := true, plainKeys := false, apart := false, narrowed := true }
def RemapKeepsUptoSaid : Prop := remapKeepsUptoRow.holds Try.pinned (OpenSpec.upto remapKeepsSpec)

/-- 'treenaillaw07.RemapTorn', WHERE WHAT IT READS IS OF BULK AT MOST 1048576: true; the input reads as it did. -/
def remapTornUptoRow : OpenClaim := { program := "ytnpfhfgegjocoaa", sum := "6261ccdaff668338858449d09c6e1ebe1965a0823078812646d9c0efc5ea95ef", func := "treenail/treenaillaw07.RemapTorn", spec := "remapTorn", inPlace := ["internal/abi.NoEscape", "internal/bytealg.MakeNoZero"], unfollowed := true, recurses := true, plainKeys := false, apart := false, narrowed := true }
def RemapTornUptoSaid : Prop := remapTornUptoRow.holds Try.pinned (OpenSpec.upto remapTornSpec)

/-- 'treenaillaw07.RemapShapes', WHERE WHAT IT READS IS OF BULK AT MOST 1048576: true; the input reads as it did. -/
def remapShapesUptoRow : OpenClaim := { program := "ytnpfhfgegjocoaa", sum := "6261ccdaff668338858449d09c6e1ebe1965a0823078812646d9c0efc5ea95ef", func := "treenail/treenaillaw07.RemapShapes", spec := "remapShapes", inPlace := ["internal/abi.NoEscape", "internal/bytealg.MakeNoZero"], unfollowed := true, recurses := true, plainKeys := false, apart := false, narrowed := true }
def RemapShapesUptoSaid : Prop := remapShapesUptoRow.holds Try.pinned (OpenSpec.upto remapShapesSpec)

/-- 'treenaillaw07.RemapReplaces', WHERE WHAT IT READS IS OF BULK AT MOST 1048576: true; the input reads as it did. -/
def remapReplacesUptoRow : OpenClaim := { program := "ytnpfhfgegjocoaa", sum := "6261ccdaff668338858449d09c6e1ebe1965a0823078812646d9c0efc5ea95ef", func := "treenail/treenaillaw07.RemapReplaces", spec := "remapReplaces", inPlace := ["internal/abi.NoEscape", "internal/bytealg.MakeNoZero"], unfollowed := true, recurses := true, plainKeys := false, apart := false, narrowed := true }
def RemapReplacesUptoSaid : Prop := remapReplacesUptoRow.holds Try.pinned (OpenSpec.upto remapReplacesSpec)

end Rows
end Go.Proofs.Ytnpfhfgegjocoaa
