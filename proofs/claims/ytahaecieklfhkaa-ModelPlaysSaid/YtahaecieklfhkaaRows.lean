/-
  No cell of these rows narrows 'for every input' (looked for: loops, veiled, ifaces, maps, wideKeys, modest, calm, conditions, laid).
  DERIVED. THE GIVEN ROWS OF THIS SEAT. 7 by the template 'for every input the law returns true; each argument reads behind the call as it read before'; 0 by the template 'total and deterministic' (their statements: YtahaecieklfhkaaTotals.lean).
  GIVEN WITH THE SEED: the statements are not yours to turn. If you find one false, say at which input.
  Laid BY PROGRAM, IN A SANDBOX (cutbox-rows.mjs): the forced cells as the released guide's own fill.sh prints them over the translation 83add87fa8d92c8c… (all of the seat's roots in one cut). By AI agents, Wed Nov 11 2026. No macro, syntax, notation, axiom, sorry.
-/
import Derived.Test.YtahaecieklfhkaaChecked
import GoSem.Claim
import GoSem.ClaimJoined
import GoSem.ClaimMapViews
import Derived.JoinedTies
import Derived.KernelRfl
namespace Go.Proofs.Ytahaecieklfhkaa
/- THE CELL 'sum', in the pinned program and in every row, IS THE sha256 OF THE DUMP (.gsa) THAT YtahaecieklfhkaaProg.lean LOADS. Nothing in Lean hashes anything: it is a label: what it is worth is what the hold of that sum in a sandbox is worth. -/
noncomputable def Try.pinned : Pinned := { name := "ytahaecieklfhkaa", sum := "83add87fa8d92c8c8d2372500e1fad40f45e3b27a7efaa70a7a8702e3336683b", checked := Try.checked }
namespace Rows
def none {H : Type} : Left H := { results := [], args := [] }

/-- 'treenaillaw28.ModelEqual': WHATEVER THE INPUT: true; the input reads as it did. -/
def modelEqualSpec : ChangeSpec := { name := "modelEqual", fn := fun _ => fun
  | [d1, d2, d3] => { results := [.lit (.bool true)], args := [d1, d2, d3] }
  | _ => none }
def modelEqualRow : OpenClaim := { program := "ytahaecieklfhkaa", sum := "83add87fa8d92c8c8d2372500e1fad40f45e3b27a7efaa70a7a8702e3336683b", func := "treenail/treenaillaw28.ModelEqual", spec := "modelEqual", unfollowed := true, recurses := true, apart := false }
def ModelEqualSaid : Prop := modelEqualRow.holds Try.pinned (OpenSpec.ofChange modelEqualSpec)

/-- ITS FALSE NEIGHBOUR: 'it returns false'. Refute it at one input. -/
def modelEqualWrong : ChangeSpec := { name := "modelEqual", fn := fun _ => fun
  | [d1, d2, d3] => { results := [.lit (.bool false)], args := [d1, d2, d3] }
  | _ => none }
def ModelEqualWrongFalsely : Prop := modelEqualRow.holds Try.pinned (OpenSpec.ofChange modelEqualWrong)

/-- 'treenaillaw11.CacheLast': WHATEVER THE INPUT: true; the input reads as it did. -/
def cacheLastSpec : ChangeSpec := { name := "cacheLast", fn := fun _ => fun
  | [d1, d2] => { results := [.lit (.bool true)], args := [d1, d2] }
  | _ => none }
def cacheLastRow : OpenClaim := { program := "ytahaecieklfhkaa", sum := "83add87fa8d92c8c8d2372500e1fad40f45e3b27a7efaa70a7a8702e3336683b", func := "treenail/treenaillaw11.CacheLast", spec := "cacheLast", unfollowed := true, recurses := true, apart := false }
def CacheLastSaid : Prop := cacheLastRow.holds Try.pinned (OpenSpec.ofChange cacheLastSpec)

/-- ITS FALSE NEIGHBOUR: 'it returns false'. Refute it at one input. -/
def cacheLastWrong : ChangeSpec := { name := "cacheLast", fn := fun _ => fun
  | [d1, d2] => { results := [.lit (.bool false)], args := [d1, d2] }
  | _ => none }
def CacheLastWrongFalsely : Prop := cacheLastRow.holds Try.pinned (OpenSpec.ofChange cacheLastWrong)

/-- 'treenaillaw11.CachePlays': WHATEVER THE INPUT: true; the input reads as it did. -/
def cachePlaysSpec : ChangeSpec := { name := "cachePlays", fn := fun _ => fun
  | [d1, d2] => { results := [.lit (.bool true)], args := [d1, d2] }
  | _ => none }
def cachePlaysRow : OpenClaim := { program := "ytahaecieklfhkaa", sum := "83add87fa8d92c8c8d2372500e1fad40f45e3b27a7efaa70a7a8702e3336683b", func := "treenail/treenaillaw11.CachePlays", spec := "cachePlays", unfollowed := true, recurses := true, apart := false }
def CachePlaysSaid : Prop := cachePlaysRow.holds Try.pinned (OpenSpec.ofChange cachePlaysSpec)

/-- ITS FALSE NEIGHBOUR: 'it returns false'. Refute it at one input. -/
def cachePlaysWrong : ChangeSpec := { name := "cachePlays", fn := fun _ => fun
  | [d1, d2] => { results := [.lit (.bool false)], args := [d1, d2] }
  | _ => none }
def CachePlaysWrongFalsely : Prop := cachePlaysRow.holds Try.pinned (OpenSpec.ofChange cachePlaysWrong)

/-- 'treenaillaw11.CacheNone': WHATEVER THE INPUT: true; the input reads as it did. -/
def cacheNoneSpec : ChangeSpec := { name := "cacheNone", fn := fun _ => fun
  | [d1, d2, d3] => { results := [.lit (.bool true)], args := [d1, d2, d3] }
  | _ => none }
def cacheNoneRow : OpenClaim := { program := "ytahaecieklfhkaa", sum := "83add87fa8d92c8c8d2372500e1fad40f45e3b27a7efaa70a7a8702e3336683b", func := "treenail/treenaillaw11.CacheNone", spec := "cacheNone", unfollowed := true, recurses := true, apart := false }
def CacheNoneSaid : Prop := cacheNoneRow.holds Try.pinned (OpenSpec.ofChange cacheNoneSpec)

/-- ITS FALSE NEIGHBOUR: 'it returns false'. Refute it at one input. -/
def cacheNoneWrong : ChangeSpec := { name := "cacheNone", fn := fun _ => fun
  | [d1, d2, d3] => { results := [.lit (.bool false)], args := [d1, d2, d3] }
  | _ => none }
def CacheNoneWrongFalsely : Prop := cacheNoneRow.holds Try.pinned (OpenSpec.ofChange cacheNoneWrong)

/-- 'treenaillaw11.CacheHits': WHATEVER THE INPUT: true; the input reads as it did. -/
def cacheHitsSpec : ChangeSpec := { name := "cacheHits", fn := fun _ => fun
  | [d1, d2] => { results := [.lit (.bool true)], args := [d1, d2] }
  | _ => none }
def cacheHitsRow : OpenClaim := { program := "ytahaecieklfhkaa", sum := "83add87fa8d92c8c8d2372500e1fad40f45e3b27a7efaa70a7a8702e3336683b", func := "treenail/treenaillaw11.CacheHits", spec := "cacheHits", unfollowed := true, recurses := true, apart := false }
def CacheHitsSaid : Prop := cacheHitsRow.holds Try.pinned (OpenSpec.ofChange cacheHitsSpec)

/-- ITS FALSE NEIGHBOUR: 'it returns false'. Refute it at one input. -/
def cacheHitsWrong : ChangeSpec := { name := "cacheHits", fn := fun _ => fun
  | [d1, d2] => { results := [.lit (.bool false)], args := [d1, d2] }
  | _ => none }
def CacheHitsWrongFalsely : Prop := cacheHitsRow.holds Try.pinned (OpenSpec.ofChange cacheHitsWrong)

/-- 'treenaillaw28.ModelPlays': WHATEVER THE INPUT: true; the input reads as it did. -/
def modelPlaysSpec : ChangeSpec := { name := "modelPlays", fn := fun _ => fun
  | [d] => { results := [.lit (.bool true)], args := [d] }
  | _ => none }
def modelPlaysRow : OpenClaim := { program := "ytahaecieklfhkaa", sum := "83add87fa8d92c8c8d2372500e1fad40f45e3b27a7efaa70a7a8702e3336683b", func := "treenail/treenaillaw28.ModelPlays", spec := "modelPlays", inPlace := ["maps.clone"], unfollowed := true, recurses := true, apart := false }
def ModelPlaysSaid : Prop := modelPlaysRow.holds Try.pinned (OpenSpec.ofChange modelPlaysSpec)

/-- ITS FALSE NEIGHBOUR: 'it returns false'. Refute it at one input. -/
def modelPlaysWrong : ChangeSpec := { name := "modelPlays", fn := fun _ => fun
  | [d] => { results := [.lit (.bool false)], args := [d] }
  | _ => none }
def ModelPlaysWrongFalsely : Prop := modelPlaysRow.holds Try.pinned (OpenSpec.ofChange modelPlaysWrong)

/-- 'treenaillaw28.ModelNone': WHATEVER THE INPUT: true; the input reads as it did. -/
def modelNoneSpec : ChangeSpec := { name := "modelNone", fn := fun _ => fun
  | [d1, d2] => { results := [.lit (.bool true)], args := [d1, d2] }
  | _ => none }
def modelNoneRow : OpenClaim := { program := "ytahaecieklfhkaa", sum := "83add87fa8d92c8c8d2372500e1fad40f45e3b27a7efaa70a7a8702e3336683b", func := "treenail/treenaillaw28.ModelNone", spec := "modelNone", inPlace := ["maps.clone"], unfollowed := true, recurses := true, apart := false }
def ModelNoneSaid : Prop := modelNoneRow.holds Try.pinned (OpenSpec.ofChange modelNoneSpec)

/-- ITS FALSE NEIGHBOUR: 'it returns false'. Refute it at one input. -/
def modelNoneWrong : ChangeSpec := { name := "modelNone", fn := fun _ => fun
  | [d1, d2] => { results := [.lit (.bool false)], args := [d1, d2] }
  | _ => none }
def ModelNoneWrongFalsely : Prop := modelNoneRow.holds Try.pinned (OpenSpec.ofChange modelNoneWrong)

/- THE SECOND FORM. 'bulk': how many values and letters a reading holds, each counted each time it is reached (what is shared counts as often as it is met; a slice's spare places count too). A statement '..UptoSaid' is the law's where the arguments, and the package variables that the reading takes, are together of bulk at most 1048576: NARROWER than '..Said'. Prove '..Said' where nothing that the law and all that it calls make is longer than what came in: it says more and counts as full. Else prove '..UptoSaid'. A law counts once. -/
mutual
def uptoBulk {H : Type} : DataW H → Nat
  | .lit (.string bytes) => bytes.length + 1
  | .lit _ => 1
  | .nil => 1
  | .ptr d => uptoBulk d + 1
  | .slice elems spare => uptoBulkAll elems + uptoBulkAll spare + 1
  | .agg parts => uptoBulkAll parts + 1
  | .iface _ d => uptoBulk d + 1
  | .map entries => uptoBulkEntries entries + 1
  | .held _ => 1
def uptoBulkAll {H : Type} : List (DataW H) → Nat
  | [] => 0
  | d :: r => uptoBulk d + uptoBulkAll r
def uptoBulkEntries {H : Type} : List (Lit × DataW H) → Nat
  | [] => 0
  | x :: r => uptoBulkEntry x + uptoBulkEntries r
def uptoBulkEntry {H : Type} : Lit × DataW H → Nat
  | (.string bytes, d) => bytes.length + uptoBulk d + 1
  | (_, d) => uptoBulk d + 1
 end
def uptoSmall : (H : Type) → List (DataW H) → Bool := fun _ ds => decide (uptoBulkAll ds ≤ 1048576)
def OpenSpec.upto (s : _root_.Go.ChangeSpec) : _root_.Go.OpenSpec := { _root_.Go.OpenSpec.ofChange s with cond := some uptoSmall }

/-- 'treenaillaw28.ModelEqual', WHERE WHAT IT READS IS OF BULK AT MOST 1048576: true; the input reads as it did. -/
def modelEqualUptoRow : OpenClaim := { program := "ytahaecieklfhkaa", sum := "83add87fa8d92c8c8d2372500e1fad40f45e3b27a7efaa70a7a8702e3336683b", func := "treenail/treenaillaw28.ModelEqual", spec := "modelEqual", unfollowed := true, recurses := true, apart := false, narrowed := true }
def ModelEqualUptoSaid : Prop := modelEqualUptoRow.holds Try.pinned (OpenSpec.upto modelEqualSpec)

/-- 'treenaillaw11.CacheLast', WHERE WHAT IT READS IS OF BULK AT MOST 1048576: true; the input reads as it did. -/
def cacheLastUptoRow : OpenClaim := { program := "ytahaecieklfhkaa", sum := "83add87fa8d92c8c8d2372500e1fad40f45e3b27a7efaa70a7a8702e3336683b", func := "treenail/treenaillaw11.CacheLast", spec := "cacheLast", unfollowed := true, recurses := true, apart := false, narrowed := true }
def CacheLastUptoSaid : Prop := cacheLastUptoRow.holds Try.pinned (OpenSpec.upto cacheLastSpec)

/-- 'treenaillaw11.CachePlays', WHERE WHAT IT READS IS OF BULK AT MOST 1048576: true; the input reads as it did. -/
def cachePlaysUptoRow : OpenClaim := { program := "ytahaecieklfhkaa", sum := "83add87fa8d92c8c8d2372500e1fad40f45e3b27a7efaa70a7a8702e3336683b", func := "treenail/treenaillaw11.CachePlays", spec := "cachePlays", unfollowed := true, recurses := true, apart := false, narrowed := true }
def CachePlaysUptoSaid : Prop := cachePlaysUptoRow.holds Try.pinned (OpenSpec.upto cachePlaysSpec)

/-- 'treenaillaw11.CacheNone', WHERE WHAT IT READS IS OF BULK AT MOST 1048576: true; the input reads as it did. -/
def cacheNoneUptoRow : OpenClaim := { program := "ytahaecieklfhkaa", sum := "83add87fa8d92c8c8d2372500e1fad40f45e3b27a7efaa70a7a8702e3336683b", func := "treenail/treenaillaw11.CacheNone", spec := "cacheNone", unfollowed := true, recurses := true, apart := false, narrowed := true }
def CacheNoneUptoSaid : Prop := cacheNoneUptoRow.holds Try.pinned (OpenSpec.upto cacheNoneSpec)

/-- 'treenaillaw11.CacheHits', WHERE WHAT IT READS IS OF BULK AT MOST 1048576: true; the input reads as it did. -/
def cacheHitsUptoRow : OpenClaim := { program := "ytahaecieklfhkaa", sum := "83add87fa8d92c8c8d2372500e1fad40f45e3b27a7efaa70a7a8702e3336683b", func := "treenail/treenaillaw11.CacheHits", spec := "cacheHits", unfollowed := true, recurses := true, apart := false, narrowed := true }
def CacheHitsUptoSaid : Prop := cacheHitsUptoRow.holds Try.pinned (OpenSpec.upto cacheHitsSpec)

/-- 'treenaillaw28.ModelPlays', WHERE WHAT IT READS IS OF BULK AT MOST 1048576: true; the input reads as it did. -/
def modelPlaysUptoRow : OpenClaim := { program := "ytahaecieklfhkaa", sum := "83add87fa8d92c8c8d2372500e1fad40f45e3b27a7efaa70a7a8702e3336683b", func := "treenail/treenaillaw28.ModelPlays", spec := "modelPlays", inPlace := ["maps.clone"], unfollowed := true, recurses := true, apart := false, narrowed := true }
def ModelPlaysUptoSaid : Prop := modelPlaysUptoRow.holds Try.pinned (OpenSpec.upto modelPlaysSpec)

/-- 'treenaillaw28.ModelNone', WHERE WHAT IT READS IS OF BULK AT MOST 1048576: true; the input reads as it did. -/
def modelNoneUptoRow : OpenClaim := { program := "ytahaecieklfhkaa", sum := "83add87fa8d92c8c8d2372500e1fad40f45e3b27a7efaa70a7a8702e3336683b", func := "treenail/treenaillaw28.ModelNone", spec := "modelNone", inPlace := ["maps.clone"], unfollowed := true, recurses := true, apart := false, narrowed := true }
def ModelNoneUptoSaid : Prop := modelNoneUptoRow.holds Try.pinned (OpenSpec.upto modelNoneSpec)

end Rows
end Go.Proofs.Ytahaecieklfhkaa
