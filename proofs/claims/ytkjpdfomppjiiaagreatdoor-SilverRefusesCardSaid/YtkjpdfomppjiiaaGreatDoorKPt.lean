/- How many of rising keys are below one; entries and messages by that. No program's function is named here. -/
import Derived.Test.YtkjpdfomppjiiaaGreatDoorKRec
import Derived.Test.YtkjpdfomppjiiaaGreatDoorKH
/- What updates make of values, of messages that wait, and of entries, plainly. No program's function is named here. -/
namespace Go.Proofs.YtkjpdfomppjiiaaGreatDoor

structure EntOk (e : ByteArray × ByteArray) : Prop where
 key0 : e.1.size ≠ 0
 key : e.1.size ≤ 16
 val : e.2.size ≤ 32
def OkE (E : Ents) : Prop := ∀ e ∈ E, EntOk e
end Go.Proofs.YtkjpdfomppjiiaaGreatDoor
/- The tree, plainly: what it answers; which trees may be; what each turn of it leaves. No program's function is named here. -/

/- The tree, plainly: which child a key's value is found in; children in the place of a child. No program's function is named here. -/

/- The tree, plainly: what is kept by its turns; messages given to a vertex; a leaf in parts; an inner vertex in halves. No program's function is named here. -/

/- The tree, plainly: children in the place of a child; a child taken away; messages handed on; a leaf in parts; an inner vertex in halves. No program's function is named here. -/

/- The tree, plainly: a leaf in parts; messages handed to a child; a root that is parted, or has one child alone. No program's function is named here. -/

/- The tree, plainly: messages handed to a child; a root that is parted, or has one child alone; what a scan tells. No program's function is named here. -/

/- The tree, plainly: what a scan of it tells. No program's function is named here. -/


