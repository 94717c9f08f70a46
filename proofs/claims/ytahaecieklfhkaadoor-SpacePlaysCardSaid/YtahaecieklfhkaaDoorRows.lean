/-
  NARROWER THAN 'FOR EVERY INPUT', by the rows' own cells (each row's printed sentence says how): BitsParts: laid · BitsTurn: laid · BitsPlay: laid · BitsNone: laid · SpaceGens: laid · SpaceOnce: laid · SpacePlays: laid · SpaceNone: laid.
  DERIVED. THE GIVEN ROWS OF THIS SEAT. 8 by the template 'for every input the law returns true; each argument reads behind the call as it read before'; 0 by the template 'total and deterministic' (their statements: YtahaecieklfhkaaDoorTotals.lean).
  GIVEN WITH THE SEED: the statements are not yours to turn. If you find one false, say at which input.
  Laid BY PROGRAM, IN A SANDBOX (cutbox-rows.mjs): the forced cells as the released guide's own fill.sh prints them over the translation ee265593a4efed3d… (all of the seat's roots in one cut). By AI agents, Wed Nov 11 2026. No macro, syntax, notation, axiom, sorry.
-/
import Derived.Test.YtahaecieklfhkaaDoorChecked
import GoSem.Claim
import GoSem.ClaimJoined
import GoSem.ClaimMapViews
import Derived.JoinedTies
import Derived.KernelRfl
namespace Go.Proofs.YtahaecieklfhkaaDoor
/- THE CELL 'sum', in the pinned program and in every row, IS THE sha256 OF THE DUMP (.gsa) THAT YtahaecieklfhkaaDoorProg.lean LOADS. Nothing in Lean hashes anything: it is a label: what it is worth is what the hold of that sum in a sandbox is worth. -/
noncomputable def Tryd.pinned : Pinned := { name := "ytahaecieklfhkaadoor", sum := "ee265593a4efed3d9ad5772b9cfb49aa9fea89d50de63b2eecf3ae714c1b757a", checked := Tryd.checked }
namespace Rows
def none {H : Type} : Left H := { results := [], args := [] }

/- WHAT THE LISTED PACKAGE-LEVEL VARIABLES READ AS WHEN THE CALL BEGINS. Each datum BY PROGRAM (the guide's laid-datum.mjs) off the statement by which the dump's own 'gosem.cut.vars' lays the variable. In a bare row this is a premise. The card (YtahaecieklfhkaaDoorCards.lean) ties it to the program's text. -/
def laid_math_bits_deBruijn32tab {H : Type} : DataW H := .agg [.lit (.int .u8 0), .lit (.int .u8 1), .lit (.int .u8 28), .lit (.int .u8 2), .lit (.int .u8 29), .lit (.int .u8 14), .lit (.int .u8 24), .lit (.int .u8 3), .lit (.int .u8 30), .lit (.int .u8 22), .lit (.int .u8 20), .lit (.int .u8 15), .lit (.int .u8 25), .lit (.int .u8 17), .lit (.int .u8 4), .lit (.int .u8 8), .lit (.int .u8 31), .lit (.int .u8 27), .lit (.int .u8 13), .lit (.int .u8 23), .lit (.int .u8 21), .lit (.int .u8 19), .lit (.int .u8 16), .lit (.int .u8 7), .lit (.int .u8 26), .lit (.int .u8 12), .lit (.int .u8 18), .lit (.int .u8 6), .lit (.int .u8 11), .lit (.int .u8 5), .lit (.int .u8 10), .lit (.int .u8 9)]
def laid_math_bits_deBruijn64tab {H : Type} : DataW H := .agg [.lit (.int .u8 0), .lit (.int .u8 1), .lit (.int .u8 56), .lit (.int .u8 2), .lit (.int .u8 57), .lit (.int .u8 49), .lit (.int .u8 28), .lit (.int .u8 3), .lit (.int .u8 61), .lit (.int .u8 58), .lit (.int .u8 42), .lit (.int .u8 50), .lit (.int .u8 38), .lit (.int .u8 29), .lit (.int .u8 17), .lit (.int .u8 4), .lit (.int .u8 62), .lit (.int .u8 47), .lit (.int .u8 59), .lit (.int .u8 36), .lit (.int .u8 45), .lit (.int .u8 43), .lit (.int .u8 51), .lit (.int .u8 22), .lit (.int .u8 53), .lit (.int .u8 39), .lit (.int .u8 33), .lit (.int .u8 30), .lit (.int .u8 24), .lit (.int .u8 18), .lit (.int .u8 12), .lit (.int .u8 5), .lit (.int .u8 63), .lit (.int .u8 55), .lit (.int .u8 48), .lit (.int .u8 27), .lit (.int .u8 60), .lit (.int .u8 41), .lit (.int .u8 37), .lit (.int .u8 16), .lit (.int .u8 46), .lit (.int .u8 35), .lit (.int .u8 44), .lit (.int .u8 21), .lit (.int .u8 52), .lit (.int .u8 32), .lit (.int .u8 23), .lit (.int .u8 11), .lit (.int .u8 54), .lit (.int .u8 26), .lit (.int .u8 40), .lit (.int .u8 15), .lit (.int .u8 34), .lit (.int .u8 20), .lit (.int .u8 31), .lit (.int .u8 10), .lit (.int .u8 25), .lit (.int .u8 14), .lit (.int .u8 19), .lit (.int .u8 9), .lit (.int .u8 13), .lit (.int .u8 8), .lit (.int .u8 7), .lit (.int .u8 6)]

/-- 'treenaillaw09.BitsParts': WHATEVER THE INPUT: true; the input reads as it did. -/
def bitsPartsSpec : ChangeSpec := { name := "bitsParts", fn := fun _ => fun
  | [d1, d2] => { results := [.lit (.bool true)], args := [d1, d2] }
  | _ => none }
def bitsPartsRow : OpenClaim := { program := "ytahaecieklfhkaadoor", sum := "ee265593a4efed3d9ad5772b9cfb49aa9fea89d50de63b2eecf3ae714c1b757a", func := "treenail/treenaillaw09.BitsParts", spec := "bitsParts", named := ["math/bits.deBruijn32tab", "math/bits.deBruijn64tab"], apart := false, laid := [("math/bits.deBruijn32tab", laid_math_bits_deBruijn32tab), ("math/bits.deBruijn64tab", laid_math_bits_deBruijn64tab)] }
def BitsPartsSaid : Prop := bitsPartsRow.holds Tryd.pinned (OpenSpec.ofChange bitsPartsSpec)

/-- ITS FALSE NEIGHBOUR: 'it returns false'. Refute it at one input. -/
def bitsPartsWrong : ChangeSpec := { name := "bitsParts", fn := fun _ => fun
  | [d1, d2] => { results := [.lit (.bool false)], args := [d1, d2] }
  | _ => none }
def BitsPartsWrongFalsely : Prop := bitsPartsRow.holds Tryd.pinned (OpenSpec.ofChange bitsPartsWrong)

/-- 'treenaillaw09.BitsTurn': WHATEVER THE INPUT: true; the input reads as it did. -/
def bitsTurnSpec : ChangeSpec := { name := "bitsTurn", fn := fun _ => fun
  | [d1, d2, d3] => { results := [.lit (.bool true)], args := [d1, d2, d3] }
  | _ => none }
def bitsTurnRow : OpenClaim := { program := "ytahaecieklfhkaadoor", sum := "ee265593a4efed3d9ad5772b9cfb49aa9fea89d50de63b2eecf3ae714c1b757a", func := "treenail/treenaillaw09.BitsTurn", spec := "bitsTurn", named := ["math/bits.deBruijn32tab", "math/bits.deBruijn64tab"], apart := false, laid := [("math/bits.deBruijn32tab", laid_math_bits_deBruijn32tab), ("math/bits.deBruijn64tab", laid_math_bits_deBruijn64tab)] }
def BitsTurnSaid : Prop := bitsTurnRow.holds Tryd.pinned (OpenSpec.ofChange bitsTurnSpec)

/-- ITS FALSE NEIGHBOUR: 'it returns false'. Refute it at one input. -/
def bitsTurnWrong : ChangeSpec := { name := "bitsTurn", fn := fun _ => fun
  | [d1, d2, d3] => { results := [.lit (.bool false)], args := [d1, d2, d3] }
  | _ => none }
def BitsTurnWrongFalsely : Prop := bitsTurnRow.holds Tryd.pinned (OpenSpec.ofChange bitsTurnWrong)

/-- 'treenaillaw09.BitsPlay': WHATEVER THE INPUT: true; the input reads as it did. -/
def bitsPlaySpec : ChangeSpec := { name := "bitsPlay", fn := fun _ => fun
  | [d1, d2, d3] => { results := [.lit (.bool true)], args := [d1, d2, d3] }
  | _ => none }
def bitsPlayRow : OpenClaim := { program := "ytahaecieklfhkaadoor", sum := "ee265593a4efed3d9ad5772b9cfb49aa9fea89d50de63b2eecf3ae714c1b757a", func := "treenail/treenaillaw09.BitsPlay", spec := "bitsPlay", named := ["math/bits.deBruijn32tab", "math/bits.deBruijn64tab"], apart := false, laid := [("math/bits.deBruijn32tab", laid_math_bits_deBruijn32tab), ("math/bits.deBruijn64tab", laid_math_bits_deBruijn64tab)] }
def BitsPlaySaid : Prop := bitsPlayRow.holds Tryd.pinned (OpenSpec.ofChange bitsPlaySpec)

/-- ITS FALSE NEIGHBOUR: 'it returns false'. Refute it at one input. -/
def bitsPlayWrong : ChangeSpec := { name := "bitsPlay", fn := fun _ => fun
  | [d1, d2, d3] => { results := [.lit (.bool false)], args := [d1, d2, d3] }
  | _ => none }
def BitsPlayWrongFalsely : Prop := bitsPlayRow.holds Tryd.pinned (OpenSpec.ofChange bitsPlayWrong)

/-- 'treenaillaw09.BitsNone': WHATEVER THE INPUT: true; the input reads as it did. -/
def bitsNoneSpec : ChangeSpec := { name := "bitsNone", fn := fun _ => fun
  | [d1, d2] => { results := [.lit (.bool true)], args := [d1, d2] }
  | _ => none }
def bitsNoneRow : OpenClaim := { program := "ytahaecieklfhkaadoor", sum := "ee265593a4efed3d9ad5772b9cfb49aa9fea89d50de63b2eecf3ae714c1b757a", func := "treenail/treenaillaw09.BitsNone", spec := "bitsNone", named := ["math/bits.deBruijn32tab", "math/bits.deBruijn64tab"], apart := false, laid := [("math/bits.deBruijn32tab", laid_math_bits_deBruijn32tab), ("math/bits.deBruijn64tab", laid_math_bits_deBruijn64tab)] }
def BitsNoneSaid : Prop := bitsNoneRow.holds Tryd.pinned (OpenSpec.ofChange bitsNoneSpec)

/-- ITS FALSE NEIGHBOUR: 'it returns false'. Refute it at one input. -/
def bitsNoneWrong : ChangeSpec := { name := "bitsNone", fn := fun _ => fun
  | [d1, d2] => { results := [.lit (.bool false)], args := [d1, d2] }
  | _ => none }
def BitsNoneWrongFalsely : Prop := bitsNoneRow.holds Tryd.pinned (OpenSpec.ofChange bitsNoneWrong)

/-- 'treenaillaw10.SpaceGens': WHATEVER THE INPUT: true; the input reads as it did. -/
def spaceGensSpec : ChangeSpec := { name := "spaceGens", fn := fun _ => fun
  | [d1, d2] => { results := [.lit (.bool true)], args := [d1, d2] }
  | _ => none }
def spaceGensRow : OpenClaim := { program := "ytahaecieklfhkaadoor", sum := "ee265593a4efed3d9ad5772b9cfb49aa9fea89d50de63b2eecf3ae714c1b757a", func := "treenail/treenaillaw10.SpaceGens", spec := "spaceGens", named := ["math/bits.deBruijn32tab", "math/bits.deBruijn64tab"], apart := false, laid := [("math/bits.deBruijn32tab", laid_math_bits_deBruijn32tab), ("math/bits.deBruijn64tab", laid_math_bits_deBruijn64tab)] }
def SpaceGensSaid : Prop := spaceGensRow.holds Tryd.pinned (OpenSpec.ofChange spaceGensSpec)

/-- ITS FALSE NEIGHBOUR: 'it returns false'. Refute it at one input. -/
def spaceGensWrong : ChangeSpec := { name := "spaceGens", fn := fun _ => fun
  | [d1, d2] => { results := [.lit (.bool false)], args := [d1, d2] }
  | _ => none }
def SpaceGensWrongFalsely : Prop := spaceGensRow.holds Tryd.pinned (OpenSpec.ofChange spaceGensWrong)

/-- 'treenaillaw10.SpaceOnce': WHATEVER THE INPUT: true; the input reads as it did. -/
def spaceOnceSpec : ChangeSpec := { name := "spaceOnce", fn := fun _ => fun
  | [d] => { results := [.lit (.bool true)], args := [d] }
  | _ => none }
def spaceOnceRow : OpenClaim := { program := "ytahaecieklfhkaadoor", sum := "ee265593a4efed3d9ad5772b9cfb49aa9fea89d50de63b2eecf3ae714c1b757a", func := "treenail/treenaillaw10.SpaceOnce", spec := "spaceOnce", named := ["math/bits.deBruijn32tab", "math/bits.deBruijn64tab"], apart := false, laid := [("math/bits.deBruijn32tab", laid_math_bits_deBruijn32tab), ("math/bits.deBruijn64tab", laid_math_bits_deBruijn64tab)] }
def SpaceOnceSaid : Prop := spaceOnceRow.holds Tryd.pinned (OpenSpec.ofChange spaceOnceSpec)

/-- ITS FALSE NEIGHBOUR: 'it returns false'. Refute it at one input. -/
def spaceOnceWrong : ChangeSpec := { name := "spaceOnce", fn := fun _ => fun
  | [d] => { results := [.lit (.bool false)], args := [d] }
  | _ => none }
def SpaceOnceWrongFalsely : Prop := spaceOnceRow.holds Tryd.pinned (OpenSpec.ofChange spaceOnceWrong)

/-- 'treenaillaw10.SpacePlays': WHATEVER THE INPUT: true; the input reads as it did. -/
def spacePlaysSpec : ChangeSpec := { name := "spacePlays", fn := fun _ => fun
  | [d1, d2, d3] => { results := [.lit (.bool true)], args := [d1, d2, d3] }
  | _ => none }
def spacePlaysRow : OpenClaim := { program := "ytahaecieklfhkaadoor", sum := "ee265593a4efed3d9ad5772b9cfb49aa9fea89d50de63b2eecf3ae714c1b757a", func := "treenail/treenaillaw10.SpacePlays", spec := "spacePlays", named := ["math/bits.deBruijn32tab", "math/bits.deBruijn64tab"], apart := false, laid := [("math/bits.deBruijn32tab", laid_math_bits_deBruijn32tab), ("math/bits.deBruijn64tab", laid_math_bits_deBruijn64tab)] }
def SpacePlaysSaid : Prop := spacePlaysRow.holds Tryd.pinned (OpenSpec.ofChange spacePlaysSpec)

/-- ITS FALSE NEIGHBOUR: 'it returns false'. Refute it at one input. -/
def spacePlaysWrong : ChangeSpec := { name := "spacePlays", fn := fun _ => fun
  | [d1, d2, d3] => { results := [.lit (.bool false)], args := [d1, d2, d3] }
  | _ => none }
def SpacePlaysWrongFalsely : Prop := spacePlaysRow.holds Tryd.pinned (OpenSpec.ofChange spacePlaysWrong)

/-- 'treenaillaw10.SpaceNone': WHATEVER THE INPUT: true; the input reads as it did. -/
def spaceNoneSpec : ChangeSpec := { name := "spaceNone", fn := fun _ => fun
  | [d] => { results := [.lit (.bool true)], args := [d] }
  | _ => none }
def spaceNoneRow : OpenClaim := { program := "ytahaecieklfhkaadoor", sum := "ee265593a4efed3d9ad5772b9cfb49aa9fea89d50de63b2eecf3ae714c1b757a", func := "treenail/treenaillaw10.SpaceNone", spec := "spaceNone", named := ["math/bits.deBruijn32tab", "math/bits.deBruijn64tab"], apart := false, laid := [("math/bits.deBruijn32tab", laid_math_bits_deBruijn32tab), ("math/bits.deBruijn64tab", laid_math_bits_deBruijn64tab)] }
def SpaceNoneSaid : Prop := spaceNoneRow.holds Tryd.pinned (OpenSpec.ofChange spaceNoneSpec)

/-- ITS FALSE NEIGHBOUR: 'it returns false'. Refute it at one input. -/
def spaceNoneWrong : ChangeSpec := { name := "spaceNone", fn := fun _ => fun
  | [d] => { results := [.lit (.bool false)], args := [d] }
  | _ => none }
def SpaceNoneWrongFalsely : Prop := spaceNoneRow.holds Tryd.pinned (OpenSpec.ofChange spaceNoneWrong)

/- THE SECOND FORM. 'bulk': how many values and letters a reading holds, each counted each time it is reached (what is shared counts as often as it is met; a slice's spare places count too). A statement '..UptoSaid' is the law's where the arguments, and the package variables that the reading takes, are together of bulk at most 1048576: NARROWER than '..Said'. Prove '..Said' where nothing that the law and all that it calls make is longer than what came in: it says more and counts as full. Else prove '..UptoSaid'. A law counts once. -/
mutual
def uptoBulk {H : Type} : DataW H → Nat
  | .lit (.string bytes) => bytes.length + 1
  | .lit _ => 1
  | .nil => 1
  | .ptr d => uptoBulk d + 1
  | .slice elems spare => uptoBulkAll elems + uptoBulkAll spare + 1
  | .agg parts => uptoBulkAll parts + 1
  | .iface _ d => uptoBulk d + 1
  | .map entries => uptoBulkEntries entries + 1
  | .held _ => 1
def uptoBulkAll {H : Type} : List (DataW H) → Nat
  | [] => 0
  | d :: r => uptoBulk d + uptoBulkAll r
def uptoBulkEntries {H : Type} : List (Lit × DataW H) → Nat
  | [] => 0
  | x :: r => uptoBulkEntry x + uptoBulkEntries r
def uptoBulkEntry {H : Type} : Lit × DataW H → Nat
  | (.string bytes, d) => bytes.length + uptoBulk d + 1
  | (_, d) => uptoBulk d + 1
 end
def uptoSmall : (H : Type) → List (DataW H) → Bool := fun _ ds => decide (uptoBulkAll ds ≤ 1048576)
def OpenSpec.upto (s : _root_.Go.ChangeSpec) : _root_.Go.OpenSpec := { _root_.Go.OpenSpec.ofChange s with cond := some uptoSmall }

/-- 'treenaillaw09.BitsParts', WHERE WHAT IT READS IS OF BULK AT MOST 1048576: true; the input reads as it did. -/
def bitsPartsUptoRow : OpenClaim := { program := "ytahaecieklfhkaadoor", sum := "ee265593a4efed3d9ad5772b9cfb49aa9fea89d50de63b2eecf3ae714c1b757a", func := "treenail/treenaillaw09.BitsParts", spec := "bitsParts", named := ["math/bits.deBruijn32tab", "math/bits.deBruijn64tab"], apart := false, laid := [("math/bits.deBruijn32tab", laid_math_bits_deBruijn32tab), ("math/bits.deBruijn64tab", laid_math_bits_deBruijn64tab)], narrowed := true }
def BitsPartsUptoSaid : Prop := bitsPartsUptoRow.holds Tryd.pinned (OpenSpec.upto bitsPartsSpec)

/-- 'treenaillaw09.BitsTurn', WHERE WHAT IT READS IS OF BULK AT MOST 1048576: true; the input reads as it did. -/
def bitsTurnUptoRow : OpenClaim := { program := "ytahaecieklfhkaadoor", sum := "ee265593a4efed3d9ad5772b9cfb49aa9fea89d50de63b2eecf3ae714c1b757a", func := "treenail/treenaillaw09.BitsTurn", spec := "bitsTurn", named := ["math/bits.deBruijn32tab", "math/bits.deBruijn64tab"], apart := false, laid := [("math/bits.deBruijn32tab", laid_math_bits_deBruijn32tab), ("math/bits.deBruijn64tab", laid_math_bits_deBruijn64tab)], narrowed := true }
def BitsTurnUptoSaid : Prop := bitsTurnUptoRow.holds Tryd.pinned (OpenSpec.upto bitsTurnSpec)

/-- 'treenaillaw09.BitsPlay', WHERE WHAT IT READS IS OF BULK AT MOST 1048576: true; the input reads as it did. -/
def bitsPlayUptoRow : OpenClaim := { program := "ytahaecieklfhkaadoor", sum := "ee265593a4efed3d9ad5772b9cfb49aa9fea89d50de63b2eecf3ae714c1b757a", func := "treenail/treenaillaw09.BitsPlay", spec := "bitsPlay", named := ["math/bits.deBruijn32tab", "math/bits.deBruijn64tab"], apart := false, laid := [("math/bits.deBruijn32tab", laid_math_bits_deBruijn32tab), ("math/bits.deBruijn64tab", laid_math_bits_deBruijn64tab)], narrowed := true }
def BitsPlayUptoSaid : Prop := bitsPlayUptoRow.holds Tryd.pinned (OpenSpec.upto bitsPlaySpec)

/-- 'treenaillaw09.BitsNone', WHERE WHAT IT READS IS OF BULK AT MOST 1048576: true; the input reads as it did. -/
def bitsNoneUptoRow : OpenClaim := { program := "ytahaecieklfhkaadoor", sum := "ee265593a4efed3d9ad5772b9cfb49aa9fea89d50de63b2eecf3ae714c1b757a", func := "treenail/treenaillaw09.BitsNone", spec := "bitsNone", named := ["math/bits.deBruijn32tab", "math/bits.deBruijn64tab"], apart := false, laid := [("math/bits.deBruijn32tab", laid_math_bits_deBruijn32tab), ("math/bits.deBruijn64tab", laid_math_bits_deBruijn64tab)], narrowed := true }
def BitsNoneUptoSaid : Prop := bitsNoneUptoRow.holds Tryd.pinned (OpenSpec.upto bitsNoneSpec)

/-- 'treenaillaw10.SpaceGens', WHERE WHAT IT READS IS OF BULK AT MOST 1048576: true; the input reads as it did. -/
def spaceGensUptoRow : OpenClaim := { program := "ytahaecieklfhkaadoor", sum := "ee265593a4efed3d9ad5772b9cfb49aa9fea89d50de63b2eecf3ae714c1b757a", func := "treenail/treenaillaw10.SpaceGens", spec := "spaceGens", named := ["math/bits.deBruijn32tab", "math/bits.deBruijn64tab"], apart := false, laid := [("math/bits.deBruijn32tab", laid_math_bits_deBruijn32tab), ("math/bits.deBruijn64tab", laid_math_bits_deBruijn64tab)], narrowed := true }
def SpaceGensUptoSaid : Prop := spaceGensUptoRow.holds Tryd.pinned (OpenSpec.upto spaceGensSpec)

/-- 'treenaillaw10.SpaceOnce', WHERE WHAT IT READS IS OF BULK AT MOST 1048576: true; the input reads as it did. -/
def spaceOnceUptoRow : OpenClaim := { program := "ytahaecieklfhkaadoor", sum := "ee265593a4efed3d9ad5772b9cfb49aa9fea89d50de63b2eecf3ae714c1b757a", func := "treenail/treenaillaw10.SpaceOnce", spec := "spaceOnce", named := ["math/bits.deBruijn32tab", "math/bits.deBruijn64tab"], apart := false, laid := [("math/bits.deBruijn32tab", laid_math_bits_deBruijn32tab), ("math/bits.deBruijn64tab", laid_math_bits_deBruijn64tab)], narrowed := true }
def SpaceOnceUptoSaid : Prop := spaceOnceUptoRow.holds Tryd.pinned (OpenSpec.upto spaceOnceSpec)

/-- 'treenaillaw10.SpacePlays', WHERE WHAT IT READS IS OF BULK AT MOST 1048576: true; the input reads as it did. -/
def spacePlaysUptoRow : OpenClaim := { program := "ytahaecieklfhkaadoor", sum := "ee265593a4efed3d9ad5772b9cfb49aa9fea89d50de63b2eecf3ae714c1b757a", func := "treenail/treenaillaw10.SpacePlays", spec := "spacePlays", named := ["math/bits.deBruijn32tab", "math/bits.deBruijn64tab"], apart := false, laid := [("math/bits.deBruijn32tab", laid_math_bits_deBruijn32tab), ("math/bits.deBruijn64tab", laid_math_bits_deBruijn64tab)], narrowed := true }
def SpacePlaysUptoSaid : Prop := spacePlaysUptoRow.holds Tryd.pinned (OpenSpec.upto spacePlaysSpec)

/-- 'treenaillaw10.SpaceNone', WHERE WHAT IT READS IS OF BULK AT MOST 1048576: true; the input reads as it did. -/
def spaceNoneUptoRow : OpenClaim := { program := "ytahaecieklfhkaadoor", sum := "ee265593a4efed3d9ad5772b9cfb49aa9fea89d50de63b2eecf3ae714c1b757a", func := "treenail/treenaillaw10.SpaceNone", spec := "spaceNone", named := ["math/bits.deBruijn32tab", "math/bits.deBruijn64tab"], apart := false, laid := [("math/bits.deBruijn32tab", laid_math_bits_deBruijn32tab), ("math/bits.deBruijn64tab", laid_math_bits_deBruijn64tab)], narrowed := true }
def SpaceNoneUptoSaid : Prop := spaceNoneUptoRow.holds Tryd.pinned (OpenSpec.upto spaceNoneSpec)

end Rows
end Go.Proofs.YtahaecieklfhkaaDoor
