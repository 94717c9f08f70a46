/-
  No cell of these rows narrows 'for every input' (looked for: loops, veiled, ifaces, maps, wideKeys, modest, calm, conditions, laid).
  DERIVED. THE GIVEN ROWS OF THIS SEAT. 11 by the template 'for every input the law returns true; each argument reads behind the call as it read before'; 0 by the template 'total and deterministic' (their statements: YtnpfhfgegjocoaaGreatTotals.lean).
  GIVEN WITH THE SEED: the statements are not yours to turn. If you find one false, say at which input.
  Laid BY PROGRAM, IN A SANDBOX (cutbox-rows.mjs): the forced cells as the released guide's own fill.sh prints them over the translation da88241ed98f96af… (all of the seat's roots in one cut). By AI agents, Wed Nov 11 2026. No macro, syntax, notation, axiom, sorry.
-/
import Derived.Test.YtnpfhfgegjocoaaGreatChecked
import GoSem.Claim
import GoSem.ClaimJoined
import GoSem.ClaimMapViews
import Derived.JoinedTies
import Derived.KernelRfl
namespace Go.Proofs.YtnpfhfgegjocoaaGreat
/- THE CELL 'sum', in the pinned program and in every row, IS THE sha256 OF THE DUMP (.gsa) THAT YtnpfhfgegjocoaaGreatProg.lean LOADS. Nothing in Lean hashes anything: it is a label: what it is worth is what the hold of that sum in a sandbox is worth. -/
noncomputable def Tryz.pinned : Pinned := { name := "ytnpfhfgegjocoaagreat", sum := "da88241ed98f96af74ddf83da732bef93e80eec111a8e06c8759251d17a2f252", checked := Tryz.checked }
namespace Rows
def none {H : Type} : Left H := { results := [], args := [] }

/-- 'treenaillaw07.RemapSpares': WHATEVER THE INPUT: true; the input reads as it did. -/
def remapSparesSpec : ChangeSpec := { name := "remapSpares", fn := fun _ => fun
  | [d1, d2] => { results := [.lit (.bool true)], args := [d1, d2] }
  | _ => none }
def remapSparesRow : OpenClaim := { program := "ytnpfhfgegjocoaagreat", sum := "da88241ed98f96af74ddf83da732bef93e80eec111a8e06c8759251d17a2f252", func := "treenail/treenaillaw07.RemapSpares", spec := "remapSpares", inPlace := ["internal/abi.NoEscape", "internal/bytealg.MakeNoZero"], unfollowed := true, recurses := true, plainKeys := false, apart := false }
def RemapSparesSaid : Prop := remapSparesRow.holds Tryz.pinned (OpenSpec.ofChange remapSparesSpec)

/-- ITS FALSE NEIGHBOUR: 'it returns false'. Refute it at one input. -/
def remapSparesWrong : ChangeSpec := { name := "remapSpares", fn := fun _ => fun
  | [d1, d2] => { results := [.lit (.bool false)], args := [d1, d2] }
  | _ => none }
def RemapSparesWrongFalsely : Prop := remapSparesRow.holds Tryz.pinned (OpenSpec.ofChange remapSparesWrong)

/-- 'treenaillaw08.MirrorHonest': WHATEVER THE INPUT: true; the input reads as it did. -/
def mirrorHonestSpec : ChangeSpec := { name := "mirrorHonest", fn := fun _ => fun
  | [d] => { results := [.lit (.bool true)], args := [d] }
  | _ => none }
def mirrorHonestRow : OpenClaim := { program := "ytnpfhfgegjocoaagreat", sum := "da88241ed98f96af74ddf83da732bef93e80eec111a8e06c8759251d17a2f252", func := "treenail/treenaillaw08.MirrorHonest", spec := "mirrorHonest", inPlace := ["internal/abi.NoEscape", "internal/bytealg.MakeNoZero"], unfollowed := true, recurses := true, plainKeys := false, apart := false }
def MirrorHonestSaid : Prop := mirrorHonestRow.holds Tryz.pinned (OpenSpec.ofChange mirrorHonestSpec)

/-- ITS FALSE NEIGHBOUR: 'it returns false'. Refute it at one input. -/
def mirrorHonestWrong : ChangeSpec := { name := "mirrorHonest", fn := fun _ => fun
  | [d] => { results := [.lit (.bool false)], args := [d] }
  | _ => none }
def MirrorHonestWrongFalsely : Prop := mirrorHonestRow.holds Tryz.pinned (OpenSpec.ofChange mirrorHonestWrong)

/-- 'treenaillaw08.MirrorWhole': WHATEVER THE INPUT: true; the input reads as it did. -/
def mirrorWholeSpec : ChangeSpec := { name := "mirrorWhole", fn := fun _ => fun
  | [d1, d2, d3] => { results := [.lit (.bool true)], args := [d1, d2, d3] }
  | _ => none }
def mirrorWholeRow : OpenClaim := { program := "ytnpfhfgegjocoaagreat", sum := "da88241ed98f96af74ddf83da732bef93e80eec111a8e06c8759251d17a2f252", func := "treenail/treenaillaw08.MirrorWhole", spec := "mirrorWhole", inPlace := ["internal/abi.NoEscape", "internal/bytealg.MakeNoZero"], unfollowed := true, recurses := true, plainKeys := false, apart := false }
def MirrorWholeSaid : Prop := mirrorWholeRow.holds Tryz.pinned (OpenSpec.ofChange mirrorWholeSpec)

/-- ITS FALSE NEIGHBOUR: 'it returns false'. Refute it at one input. -/
def mirrorWholeWrong : ChangeSpec := { name := "mirrorWhole", fn := fun _ => fun
  | [d1, d2, d3] => { results := [.lit (.bool false)], args := [d1, d2, d3] }
  | _ => none }
def MirrorWholeWrongFalsely : Prop := mirrorWholeRow.holds Tryz.pinned (OpenSpec.ofChange mirrorWholeWrong)

/-- 'treenaillaw08.MirrorLost': WHATEVER THE INPUT: true; the input reads as it did. -/
def mirrorLostSpec : ChangeSpec := { name := "mirrorLost", fn := fun _ => fun
  | [d1, d2, d3] => { results := [.lit (.bool true)], args := [d1, d2, d3] }
  | _ => none }
def mirrorLostRow : OpenClaim := { program := "ytnpfhfgegjocoaagreat", sum := "da88241ed98f96af74ddf83da732bef93e80eec111a8e06c8759251d17a2f252", func := "treenail/treenaillaw08.MirrorLost", spec := "mirrorLost", inPlace := ["internal/abi.NoEscape", "internal/bytealg.MakeNoZero"], unfollowed := true, recurses := true, plainKeys := false, apart := false }
def MirrorLostSaid : Prop := mirrorLostRow.holds Tryz.pinned (OpenSpec.ofChange mirrorLostSpec)

/-- ITS FALSE NEIGHBOUR: 'it returns false'. Refute it at one input. -/
def mirrorLostWrong : ChangeSpec := { name := "mirrorLost", fn := fun _ => fun
  | [d1, d2, d3] => { results := [.lit (.bool false)], args := [d1, d2, d3] }
  | _ => none }
def MirrorLostWrongFalsely : Prop := mirrorLostRow.holds Tryz.pinned (OpenSpec.ofChange mirrorLostWrong)

/-- 'treenaillaw08.MirrorQuiet': WHATEVER THE INPUT: true; the input reads as it did. -/
def mirrorQuietSpec : ChangeSpec := { name := "mirrorQuiet", fn := fun _ => fun
  | [d] => { results := [.lit (.bool true)], args := [d] }
  | _ => none }
def mirrorQuietRow : OpenClaim := { program := "ytnpfhfgegjocoaagreat", sum := "da88241ed98f96af74ddf83da732bef93e80eec111a8e06c8759251d17a2f252", func := "treenail/treenaillaw08.MirrorQuiet", spec := "mirrorQuiet", inPlace := ["internal/abi.NoEscape", "internal/bytealg.MakeNoZero"], unfollowed := true, recurses := true, plainKeys := false, apart := false }
def MirrorQuietSaid : Prop := mirrorQuietRow.holds Tryz.pinned (OpenSpec.ofChange mirrorQuietSpec)

/-- ITS FALSE NEIGHBOUR: 'it returns false'. Refute it at one input. -/
def mirrorQuietWrong : ChangeSpec := { name := "mirrorQuiet", fn := fun _ => fun
  | [d] => { results := [.lit (.bool false)], args := [d] }
  | _ => none }
def MirrorQuietWrongFalsely : Prop := mirrorQuietRow.holds Tryz.pinned (OpenSpec.ofChange mirrorQuietWrong)

/-- 'treenaillaw08.MirrorRefuses': WHATEVER THE INPUT: true; the input reads as it did. -/
def mirrorRefusesSpec : ChangeSpec := { name := "mirrorRefuses", fn := fun _ => fun
  | [d1, d2] => { results := [.lit (.bool true)], args := [d1, d2] }
  | _ => none }
def mirrorRefusesRow : OpenClaim := { program := "ytnpfhfgegjocoaagreat", sum := "da88241ed98f96af74ddf83da732bef93e80eec111a8e06c8759251d17a2f252", func := "treenail/treenaillaw08.MirrorRefuses", spec := "mirrorRefuses", inPlace := ["internal/abi.NoEscape", "internal/bytealg.MakeNoZero"], unfollowed := true, recurses := true, plainKeys := false, apart := false }
def MirrorRefusesSaid : Prop := mirrorRefusesRow.holds Tryz.pinned (OpenSpec.ofChange mirrorRefusesSpec)

/-- ITS FALSE NEIGHBOUR: 'it returns false'. Refute it at one input. -/
def mirrorRefusesWrong : ChangeSpec := { name := "mirrorRefuses", fn := fun _ => fun
  | [d1, d2] => { results := [.lit (.bool false)], args := [d1, d2] }
  | _ => none }
def MirrorRefusesWrongFalsely : Prop := mirrorRefusesRow.holds Tryz.pinned (OpenSpec.ofChange mirrorRefusesWrong)

/-- 'treenaillaw08.MirrorReads': WHATEVER THE INPUT: true; the input reads as it did. -/
def mirrorReadsSpec : ChangeSpec := { name := "mirrorReads", fn := fun _ => fun
  | [d1, d2] => { results := [.lit (.bool true)], args := [d1, d2] }
  | _ => none }
def mirrorReadsRow : OpenClaim := { program := "ytnpfhfgegjocoaagreat", sum := "da88241ed98f96af74ddf83da732bef93e80eec111a8e06c8759251d17a2f252", func := "treenail/treenaillaw08.MirrorReads", spec := "mirrorReads", inPlace := ["internal/abi.NoEscape", "internal/bytealg.MakeNoZero"], unfollowed := true, recurses := true, plainKeys := false, apart := false }
def MirrorReadsSaid : Prop := mirrorReadsRow.holds Tryz.pinned (OpenSpec.ofChange mirrorReadsSpec)

/-- ITS FALSE NEIGHBOUR: 'it returns false'. Refute it at one input. -/
def mirrorReadsWrong : ChangeSpec := { name := "mirrorReads", fn := fun _ => fun
  | [d1, d2] => { results := [.lit (.bool false)], args := [d1, d2] }
  | _ => none }
def MirrorReadsWrongFalsely : Prop := mirrorReadsRow.holds Tryz.pinned (OpenSpec.ofChange mirrorReadsWrong)

/-- 'treenaillaw13.WalRefuses': WHATEVER THE INPUT: true; the input reads as it did. -/
def walRefusesSpec : ChangeSpec := { name := "walRefuses", fn := fun _ => fun
  | [d] => { results := [.lit (.bool true)], args := [d] }
  | _ => none }
def walRefusesRow : OpenClaim := { program := "ytnpfhfgegjocoaagreat", sum := "da88241ed98f96af74ddf83da732bef93e80eec111a8e06c8759251d17a2f252", func := "treenail/treenaillaw13.WalRefuses", spec := "walRefuses", inPlace := ["internal/abi.NoEscape", "internal/bytealg.MakeNoZero"], unfollowed := true, recurses := true, plainKeys := false, apart := false }
def WalRefusesSaid : Prop := walRefusesRow.holds Tryz.pinned (OpenSpec.ofChange walRefusesSpec)

/-- ITS FALSE NEIGHBOUR: 'it returns false'. Refute it at one input. -/
def walRefusesWrong : ChangeSpec := { name := "walRefuses", fn := fun _ => fun
  | [d] => { results := [.lit (.bool false)], args := [d] }
  | _ => none }
def WalRefusesWrongFalsely : Prop := walRefusesRow.holds Tryz.pinned (OpenSpec.ofChange walRefusesWrong)

/-- 'treenaillaw13.WalPlays': WHATEVER THE INPUT: true; the input reads as it did. -/
def walPlaysSpec : ChangeSpec := { name := "walPlays", fn := fun _ => fun
  | [d1, d2, d3] => { results := [.lit (.bool true)], args := [d1, d2, d3] }
  | _ => none }
def walPlaysRow : OpenClaim := { program := "ytnpfhfgegjocoaagreat", sum := "da88241ed98f96af74ddf83da732bef93e80eec111a8e06c8759251d17a2f252", func := "treenail/treenaillaw13.WalPlays", spec := "walPlays", inPlace := ["internal/abi.NoEscape", "internal/bytealg.MakeNoZero"], unfollowed := true, recurses := true, plainKeys := false, apart := false }
def WalPlaysSaid : Prop := walPlaysRow.holds Tryz.pinned (OpenSpec.ofChange walPlaysSpec)

/-- ITS FALSE NEIGHBOUR: 'it returns false'. Refute it at one input. -/
def walPlaysWrong : ChangeSpec := { name := "walPlays", fn := fun _ => fun
  | [d1, d2, d3] => { results := [.lit (.bool false)], args := [d1, d2, d3] }
  | _ => none }
def WalPlaysWrongFalsely : Prop := walPlaysRow.holds Tryz.pinned (OpenSpec.ofChange walPlaysWrong)

/-- 'treenaillaw13.WalHeals': WHATEVER THE INPUT: true; the input reads as it did. -/
def walHealsSpec : ChangeSpec := { name := "walHeals", fn := fun _ => fun
  | [d1, d2, d3] => { results := [.lit (.bool true)], args := [d1, d2, d3] }
  | _ => none }
def walHealsRow : OpenClaim := { program := "ytnpfhfgegjocoaagreat", sum := "da88241ed98f96af74ddf83da732bef93e80eec111a8e06c8759251d17a2f252", func := "treenail/treenaillaw13.WalHeals", spec := "walHeals", inPlace := ["internal/abi.NoEscape", "internal/bytealg.MakeNoZero"], unfollowed := true, recurses := true, plainKeys := false, apart := false }
def WalHealsSaid : Prop := walHealsRow.holds Tryz.pinned (OpenSpec.ofChange walHealsSpec)

/-- ITS FALSE NEIGHBOUR: 'it returns false'. Refute it at one input. -/
def walHealsWrong : ChangeSpec := { name := "walHeals", fn := fun _ => fun
  | [d1, d2, d3] => { results := [.lit (.bool false)], args := [d1, d2, d3] }
  | _ => none }
def WalHealsWrongFalsely : Prop := walHealsRow.holds Tryz.pinned (OpenSpec.ofChange walHealsWrong)

/-- 'treenaillaw13.WalCuts': WHATEVER THE INPUT: true; the input reads as it did. -/
def walCutsSpec : ChangeSpec := { name := "walCuts", fn := fun _ => fun
  | [d1, d2, d3] => { results := [.lit (.bool true)], args := [d1, d2, d3] }
  | _ => none }
def walCutsRow : OpenClaim := { program := "ytnpfhfgegjocoaagreat", sum := "da88241ed98f96af74ddf83da732bef93e80eec111a8e06c8759251d17a2f252", func := "treenail/treenaillaw13.WalCuts", spec := "walCuts", inPlace := ["internal/abi.NoEscape", "internal/bytealg.MakeNoZero"], unfollowed := true, recurses := true, plainKeys := false, apart := false }
def WalCutsSaid : Prop := walCutsRow.holds Tryz.pinned (OpenSpec.ofChange walCutsSpec)

/-- ITS FALSE NEIGHBOUR: 'it returns false'. Refute it at one input. -/
def walCutsWrong : ChangeSpec := { name := "walCuts", fn := fun _ => fun
  | [d1, d2, d3] => { results := [.lit (.bool false)], args := [d1, d2, d3] }
  | _ => none }
def WalCutsWrongFalsely : Prop := walCutsRow.holds Tryz.pinned (OpenSpec.ofChange walCutsWrong)

/- THE SECOND FORM. 'bulk': how many values and letters a reading holds, each counted each time it is reached (what is shared counts as often as it is met; a slice's spare places count too). A statement '..UptoSaid' is the law's where the arguments, and the package variables that the reading takes, are together of bulk at most 1048576: NARROWER than '..Said'. Prove '..Said' where nothing that the law and all that it calls make is longer than what came in: it says more and counts as full. Else prove '..UptoSaid'. A law counts once. -/
mutual
def uptoBulk {H : Type} : DataW H → Nat
  | .lit (.string bytes) => bytes.length + 1
  | .lit _ => 1
  | .nil => 1
  | .ptr d => uptoBulk d + 1
  | .slice elems spare => uptoBulkAll elems + uptoBulkAll spare + 1
  | .agg parts => uptoBulkAll parts + 1
  | .iface _ d => uptoBulk d + 1
  | .map entries => uptoBulkEntries entries + 1
  | .held _ => 1
def uptoBulkAll {H : Type} : List (DataW H) → Nat
  | [] => 0
  | d :: r => uptoBulk d + uptoBulkAll r
def uptoBulkEntries {H : Type} : List (Lit × DataW H) → Nat
  | [] => 0
  | x :: r => uptoBulkEntry x + uptoBulkEntries r
def uptoBulkEntry {H : Type} : Lit × DataW H → Nat
  | (.string bytes, d) => bytes.length + uptoBulk d + 1
  | (_, d) => uptoBulk d + 1
 end
def uptoSmall : (H : Type) → List (DataW H) → Bool := fun _ ds => decide (uptoBulkAll ds ≤ 1048576)
def OpenSpec.upto (s : _root_.Go.ChangeSpec) : _root_.Go.OpenSpec := { _root_.Go.OpenSpec.ofChange s with cond := some uptoSmall }

/-- 'treenaillaw07.RemapSpares', WHERE WHAT IT READS IS OF BULK AT MOST 1048576: true; the input reads as it did. -/
def remapSparesUptoRow : OpenClaim := { program := "ytnpfhfgegjocoaagreat", sum := "da88241ed98f96af74ddf83da732bef93e80eec111a8e06c8759251d17a2f252", func := "treenail/treenaillaw07.RemapSpares", spec := "remapSpares", inPlace := ["internal/abi.NoEscape", "internal/bytealg.MakeNoZero"], unfollowed := true, recurses := true, plainKeys := false, apart := false, narrowed := true }
def RemapSparesUptoSaid : Prop := remapSparesUptoRow.holds Tryz.pinned (OpenSpec.upto remapSparesSpec)

/-- 'treenaillaw08.MirrorHonest', WHERE WHAT IT READS IS OF BULK AT MOST 1048576: true; the input reads as it did. -/
def mirrorHonestUptoRow : OpenClaim := { program := "ytnpfhfgegjocoaagreat", sum := "da88241ed98f96af74ddf83da732bef93e80eec111a8e06c8759251d17a2f252", func := "treenail/treenaillaw08.MirrorHonest", spec := "mirrorHonest", inPlace := ["internal/abi.NoEscape", "internal/bytealg.MakeNoZero"], unfollowed := true, recurses := true, plainKeys := false, apart := false, narrowed := true }
def MirrorHonestUptoSaid : Prop := mirrorHonestUptoRow.holds Tryz.pinned (OpenSpec.upto mirrorHonestSpec)

/-- 'treenaillaw08.MirrorWhole', WHERE WHAT IT READS IS OF BULK AT MOST 1048576: true; the input reads as it did. -/
def mirrorWholeUptoRow : OpenClaim := { program := "ytnpfhfgegjocoaagreat", sum := "da88241ed98f96af74ddf83da732bef93e80eec111a8e06c8759251d17a2f252", func := "treenail/treenaillaw08.MirrorWhole", spec := "mirrorWhole", inPlace := ["internal/abi.NoEscape", "internal/bytealg.MakeNoZero"], unfollowed := true, recurses := true, plainKeys := false, apart := false, narrowed := true }
def MirrorWholeUptoSaid : Prop := mirrorWholeUptoRow.holds Tryz.pinned (OpenSpec.upto mirrorWholeSpec)

/-- 'treenaillaw08.MirrorLost', WHERE WHAT IT READS IS OF BULK AT MOST 1048576: true; the input reads as it did. -/
def mirrorLostUptoRow : OpenClaim := { program := "ytnpfhfgegjocoaagreat", sum := "da88241ed98f96af74ddf83da732bef93e80eec111a8e06c8759251d17a2f252", func := "treenail/treenaillaw08.MirrorLost", spec := "mirrorLost", inPlace := ["internal/abi.NoEscape", "internal/bytealg.MakeNoZero"], unfollowed := true, recurses := true, plainKeys := false, apart := false, narrowed := true }
def MirrorLostUptoSaid : Prop := mirrorLostUptoRow.holds Tryz.pinned (OpenSpec.upto mirrorLostSpec)

/-- 'treenaillaw08.MirrorQuiet', WHERE WHAT IT READS IS OF BULK AT MOST 1048576: true; the input reads as it did. -/
def mirrorQuietUptoRow : OpenClaim := { program := "ytnpfhfgegjocoaagreat", sum := "da88241ed98f96af74ddf83da732bef93e80eec111a8e06c8759251d17a2f252", func := "treenail/treenaillaw08.MirrorQuiet", spec := "mirrorQuiet", inPlace := ["internal/abi.NoEscape", "internal/bytealg.MakeNoZero"], unfollowed := true, recurses := true, plainKeys := false, apart := false, narrowed := true }
def MirrorQuietUptoSaid : Prop := mirrorQuietUptoRow.holds Tryz.pinned (OpenSpec.upto mirrorQuietSpec)

/-- 'treenaillaw08.MirrorRefuses', WHERE WHAT IT READS IS OF BULK AT MOST 1048576: true; the input reads as it did. -/
def mirrorRefusesUptoRow : OpenClaim := { program := "ytnpfhfgegjocoaagreat", sum := "da88241ed98f96af74ddf83da732bef93e80eec111a8e06c8759251d17a2f252", func := "treenail/treenaillaw08.MirrorRefuses", spec := "mirrorRefuses", inPlace := ["internal/abi.NoEscape", "internal/bytealg.MakeNoZero"], unfollowed := true, recurses := true, plainKeys := false, apart := false, narrowed := true }
def MirrorRefusesUptoSaid : Prop := mirrorRefusesUptoRow.holds Tryz.pinned (OpenSpec.upto mirrorRefusesSpec)

/-- 'treenaillaw08.MirrorReads', WHERE WHAT IT READS IS OF BULK AT MOST 1048576: true; the input reads as it did. -/
def mirrorReadsUptoRow : OpenClaim := { program := "ytnpfhfgegjocoaagreat", sum := "da88241ed98f96af74ddf83da732bef93e80eec111a8e06c8759251d17a2f252", func := "treenail/treenaillaw08.MirrorReads", spec := "mirrorReads", inPlace := ["internal/abi.NoEscape", "internal/bytealg.MakeNoZero"], unfollowed := true, recurses := true, plainKeys := false, apart := false, narrowed := true }
def MirrorReadsUptoSaid : Prop := mirrorReadsUptoRow.holds Tryz.pinned (OpenSpec.upto mirrorReadsSpec)

/-- 'treenaillaw13.WalRefuses', WHERE WHAT IT READS IS OF BULK AT MOST 1048576: true; the input reads as it did. -/
def walRefusesUptoRow : OpenClaim := { program := "ytnpfhfgegjocoaagreat", sum := "da88241ed98f96af74ddf83da732bef93e80eec111a8e06c8759251d17a2f252", func := "treenail/treenaillaw13.WalRefuses", spec := "walRefuses", inPlace := ["internal/abi.NoEscape", "internal/bytealg.MakeNoZero"], unfollowed := true, recurses := true, plainKeys := false, apart := false, narrowed := true }
def WalRefusesUptoSaid : Prop := walRefusesUptoRow.holds Tryz.pinned (OpenSpec.upto walRefusesSpec)

/-- 'treenaillaw13.WalPlays', WHERE WHAT IT READS IS OF BULK AT MOST 1048576: true; the input reads as it did. -/
def walPlaysUptoRow : OpenClaim := { program := "ytnpfhfgegjocoaagreat", sum := "da88241ed98f96af74ddf83da732bef93e80eec111a8e06c8759251d17a2f252", func := "treenail/treenaillaw13.WalPlays", spec := "walPlays", inPlace := ["internal/abi.NoEscape", "internal/bytealg.MakeNoZero"], unfollowed := true, recurses := true, plainKeys := false, apart := false, narrowed := true }
def WalPlaysUptoSaid : Prop := walPlaysUptoRow.holds Tryz.pinned (OpenSpec.upto walPlaysSpec)

/-- 'treenaillaw13.WalHeals', WHERE WHAT IT READS IS OF BULK AT MOST 1048576: true; the input reads as it did. -/
def walHealsUptoRow : OpenClaim := { program := "ytnpfhfgegjocoaagreat", sum := "da88241ed98f96af74ddf83da732bef93e80eec111a8e06c8759251d17a2f252", func := "treenail/treenaillaw13.WalHeals", spec := "walHeals", inPlace := ["internal/abi.NoEscape", "internal/bytealg.MakeNoZero"], unfollowed := true, recurses := true, plainKeys := false, apart := false, narrowed := true }
def WalHealsUptoSaid : Prop := walHealsUptoRow.holds Tryz.pinned (OpenSpec.upto walHealsSpec)

/-- 'treenaillaw13.WalCuts', WHERE WHAT IT READS IS OF BULK AT MOST 1048576: true; the input reads as it did. -/
def walCutsUptoRow : OpenClaim := { program := "ytnpfhfgegjocoaagreat", sum := "da88241ed98f96af74ddf83da732bef93e80eec111a8e06c8759251d17a2f252", func := "treenail/treenaillaw13.WalCuts", spec := "walCuts", inPlace := ["internal/abi.NoEscape", "internal/bytealg.MakeNoZero"], unfollowed := true, recurses := true, plainKeys := false, apart := false, narrowed := true }
def WalCutsUptoSaid : Prop := walCutsUptoRow.holds Tryz.pinned (OpenSpec.upto walCutsSpec)

end Rows
end Go.Proofs.YtnpfhfgegjocoaaGreat
