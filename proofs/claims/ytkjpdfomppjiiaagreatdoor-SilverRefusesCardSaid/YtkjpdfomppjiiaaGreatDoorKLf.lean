/- A leaf as bytes. -/
import Derived.Test.YtkjpdfomppjiiaaGreatDoorKPt
import Derived.Test.YtkjpdfomppjiiaaGreatDoorKI
import Derived.Test.YtkjpdfomppjiiaaGreatDoorKA
import Derived.Laws.AppendOwn
import Derived.Laws.CopyRow
import Derived.Laws.CopyOwn
import Derived.Lib.AppendZeros
import Derived.ArgAppend
import Derived.OwnWalk
import Derived.Lib.Overlaps
import Derived.Laws.Externs
import Derived.Deep.RegionLaw
import Derived.Deep.AppendLies
import Derived.Deep.RegionHeld3
import Derived.Deep.RegionWith
import Derived.Deep.CutRange
import Derived.Test.YtkjpdfomppjiiaaGreatDoorKRec
/- A tree as it lies in memory: vertices, each in a block of its own, and the rows of their entries, children, messages and kids, which nobody turns. -/
namespace Go.Proofs.YtkjpdfomppjiiaaGreatDoor
open Go.RowKit

def nilS : Value := .slice none 0 0
def vC (kn : Bool) (q : PtrE) (ld : Bool) (le ch bu ki : Value) : List Value := [.bool kn, .int .i64 q.addr, .int .u64 (q.gen : Nat), .int .u32 (q.sum : Nat), .bool ld, le, ch, bu, ki]
def entC (e : ByteArray × ByteArray) : List Value := [.string e.1, .string e.2]
def entRow (E : Ents) : List Value := E.flatMap entC
def vP (v : Nat) : Value := .pointer (some ⟨v, 0, none⟩)
end Go.Proofs.YtkjpdfomppjiiaaGreatDoor
/- Rows of elements of some cells each: copied into a row; a row made longer by zero values. No program is named here. -/

/- slices.Clone, slices.Grow of nothing, and slices.Concat, at the rows of a tree. -/
namespace Go.Proofs.YtkjpdfomppjiiaaGreatDoor
open Go.RowKit

structure Part where
 A : Option Addr
 n : Nat
 cap : Nat
 xs : List Value
def Part.v (p : Part) : Value := .slice p.A p.n p.cap
structure PartOk (W : World) (K : Nat) (p : Part) : Prop where
 row : Row W p.A p.xs
 len : p.xs.length = p.n * K
 le : p.n ≤ p.cap
 one : ∀ x ∈ p.xs, x.oneCell' = true
 nil : p.A = none → p.n = 0 ∧ p.cap = 0
theorem PartOk.keep {W w : World} {K : Nat} {p : Part} (h : PartOk W K p) (hm : Mods [] W w) : PartOk w K p := ⟨h.row.keep hm (fun _ _ => by simp), h.len, h.le, h.one, h.nil⟩
theorem PartOk.cells {W : World} {K : Nat} {p : Part} (h : PartOk W K p) {a : Addr} (ha : p.A = some a) : ∀ j u, p.xs[j]? = some u → W.cell? (a.add j) = some u := by
 intro j u hj
 rcases h.row with h0 | ⟨b, off, e, hc⟩
 ·rw [h0] at hj; cases hj
 ·rw [ha] at e
  injection e with e
  subst e
  rw [addr_add]
  exact hc j u hj
end Go.Proofs.YtkjpdfomppjiiaaGreatDoor
/- slices.BinarySearchFunc over entries, by their keys: how many are below a key, and whether it is there. -/
namespace Go.Proofs.YtkjpdfomppjiiaaGreatDoor
open Go.RowKit

theorem entRow_at {w : World} {A : Option Addr} {R : Ents} (h : Row w A (entRow R)) {i : Nat} {x : ByteArray × ByteArray} (hx : R[i]? = some x) : ∃ b off, A = some ⟨b, off, none⟩ ∧ w.cell? ⟨b, off + i * 2, none⟩ = some (.string x.1) ∧ w.cell? ⟨b, off + i * 2 + 1, none⟩ = some (.string x.2) := by
 have g := fun (j : Nat) hj => flat_get (k := 2) entC (fun _ => rfl) hx (j := j) hj
 rcases h with h | ⟨b, off, rfl, h2⟩
 ·exfalso
  have := g 0 (by omega)
  unfold entRow at h
  rw [h] at this
  simp [entC] at this
 ·refine ⟨b, off, rfl, ?_, ?_⟩
  ·exact h2 (i * 2) _ ((g 0 (by omega)).trans rfl)
  ·rw [Nat.add_assoc]; exact h2 (i * 2 + 1) _ ((g 1 (by omega)).trans rfl)
end Go.Proofs.YtkjpdfomppjiiaaGreatDoor
/- A leaf: how many entries, a list of them, a key's place, its value; may an entry be. -/
namespace Go.Proofs.YtkjpdfomppjiiaaGreatDoor
open Go.RowKit

theorem entRow_len (E : Ents) : (entRow E).length = E.length * 2 := flat_length entC (fun _ => rfl) E
theorem entRow_one (E : Ents) : ∀ x ∈ entRow E, x.oneCell' = true := by
 intro x hx
 obtain ⟨e, _, h⟩ := List.mem_flatMap.1 hx
 unfold entC at h
 simp at h
 rcases h with rfl | rfl <;> rfl
structure EntP (W : World) (p : Part) (E : Ents) : Prop where
 row : Row W p.A (entRow E)
 n : p.n = E.length
 xs : p.xs = entRow E
 le : p.n ≤ p.cap
 nil : p.A = none → p.n = 0 ∧ p.cap = 0
theorem EntP.ok {W : World} {p : Part} {E : Ents} (h : EntP W p E) : PartOk W 2 p := ⟨by rw [h.xs]; exact h.row, by rw [h.xs, entRow_len, h.n], h.le, by rw [h.xs]; exact entRow_one E, h.nil⟩
theorem EntP.keep {W w : World} {p : Part} {E : Ents} (h : EntP W p E) (hm : Mods [] W w) : EntP w p E := ⟨h.row.keep hm (fun _ _ => by simp), h.n, h.xs, h.le, h.nil⟩
def leafV (p : Part) : Value := .agg #[p.v]
end Go.Proofs.YtkjpdfomppjiiaaGreatDoor
/- What slices.Insert leaves in a row, plainly; copies whose run is known; a slice's part. -/
namespace Go.Proofs.YtkjpdfomppjiiaaGreatDoor
open Go.RowKit

theorem Mods.setRow {L : List Nat} {a b : World} (h : Mods L a b) {g : Nat} (hg : g ∈ L ∨ a.heap.size ≤ g) (cs : Array Value) : Mods L a (b.setRow g cs) :=
 ⟨h.os, h.tape, h.output, by simpa using h.size, fun k hk hn => (setRow_other b g k cs (by rintro rfl; rcases hg with h1 | h1; exact hn h1; omega)).trans (h.block k hk hn)⟩
end Go.Proofs.YtkjpdfomppjiiaaGreatDoor
/- slices.Insert of one element, at entries. -/

/- slices.Delete of one element, at entries. -/

/- Numbers as bytes (lend) and numbers as values (msg): what they give at a width of eight bytes. -/

/- What an update makes of a value; the update that does what two do. -/

/- A leaf: what an update makes of it, in place. -/

/- A leaf: what many updates make of it. -/

namespace Go.Proofs.YtkjpdfomppjiiaaGreatDoor
open Go.RowKit

def leafEL (e : ByteArray × ByteArray) : List UInt8 := joinL e.1 ++ joinL e.2
def leafL (E : Ents) : List UInt8 := E.flatMap leafEL
theorem leafEL_len {e : ByteArray × ByteArray} (h : EntOk e) : (leafEL e).length ≤ 50 := by
 have h1 := h.key
 have h2 := h.val
 unfold leafEL
 rw [List.length_append, joinL_len, joinL_len]
 omega
theorem leafL_len : ∀ {E : Ents}, OkE E → (leafL E).length ≤ 50 * E.length
 | [], _ => by simp [leafL]
 | e :: E, h => by
  have h1 := leafEL_len (h e (by simp))
  have h2 := leafL_len (E := E) fun v hv => h v (List.mem_cons_of_mem _ hv)
  unfold leafL at h2 ⊢
  rw [List.flatMap_cons, List.length_append, List.length_cons]
  omega
theorem leafL_take {E : Ents} {i : Nat} {e : ByteArray × ByteArray} (h : E[i]? = some e) : leafL (E.take (i + 1)) = leafL (E.take i) ++ leafEL e := by
 unfold leafL
 rw [List.take_add_one, h]
 simp
section
variable {W : World} {p : Part} {E : Ents}
set_option maxRecDepth 100000 in
set_option maxHeartbeats 3200000 in
theorem leText_any (h : EntP W p E) (hok : OkE E) (hl : E.length ≤ 10000) :
  Calls Tryz.prog 220 #[leafV p] W fun e w' => ∃ z, e = .returned (.tuple #[.string z, .int .i64 0]) ∧ Hid (z = bA (leafL E)) ∧ Hid (Mods [] W w') := by
 obtain ⟨w1, hw1⟩ : ∃ w1, W.alloc (.cells #[p.v] 143) = w1 := ⟨_, rfl⟩
 obtain ⟨pb, hpb⟩ : ∃ pb, W.heap.size = pb := ⟨_, rfl⟩
 have HM1 : Hid (Mods [] W w1) := Lib.hid (by rw [← hw1]; exact (Mods.refl _ _).alloc _)
 have HB1 : Hid (Blk w1 pb 143 [p.v]) := Lib.hid (by rw [← hw1, ← hpb]; exact Blk.new W 143 [p.v])
 obtain ⟨w0, hw0⟩ : ∃ w0, w1.alloc (.cells #[.pointer none, .slice none 0 0] 199) = w0 := ⟨_, rfl⟩
 obtain ⟨b0, hb0⟩ : ∃ b0, w1.heap.size = b0 := ⟨_, rfl⟩
 have HB0 : Hid (BldAt b0 b0 [] w0) := Lib.hid (by rw [← hw0, ← hb0]; exact Lib.fresh_isBuilder 199 5 w1)
 have HM0 : Hid (Mods [] w1 w0) := Lib.hid (by rw [← hw0]; exact (Mods.refl _ _).alloc _)
 have c0 := (HB1.out.keep HM0.out (by simp)).cell (i := 0) rfl
 have HP := Lib.hid h
 have HOK := Lib.hid hok
 obtain ⟨PA, pn, pc, px⟩ := p
 have hpn := h.n
 obtain ⟨len, hlen⟩ : ∃ len, E.length = len := ⟨_, rfl⟩
 unfold leafV Part.v at *
 simp only at *
 rw [hlen] at hpn hl
 subst hpn
 have HLN := Lib.hid hlen
 clear h hok hlen
 go_enter Tryz.func220, Tryz.ntmps220
 go_wp2_with fail
 clear hw0 hw1
 go_loopw [14] (fun iv wr => ∃ i : Nat, i ≤ pn ∧ iv = .int .i64 (i : Nat) ∧ BldAt b0 b0 (leafL (E.take i)) wr ∧ Mods [] w1 wr) (fun iv _ => pn - (intOf iv).toNat)
 case atStart => exact ⟨0, by omega, rfl, HB0.out, HM0.out⟩
 case round =>
  clear HB0 HM0 c0
  obtain ⟨i, hi, rfl, hB, hM⟩ := hrel
  have HB := Lib.hid hB
  have HM := Lib.hid hM
  clear hB hM
  by_cases hlt : i < pn
  ·have hlti : (i : Int) < (pn : Int) := by omega
   have hz : i < E.length := by rw [HLN.out]; exact hlt
   have hx : E[i]? = some E[i] := List.getElem?_eq_getElem hz
   have hek := HOK.out _ (List.getElem_mem hz)
   obtain ⟨bz, oz, hA, d0, d1⟩ := entRow_at ((HP.out.keep HM1.out).keep HM.out).row hx
   simp only at hA
   subst hA
   obtain ⟨u, hu⟩ : ∃ u, E[i] = u := ⟨_, rfl⟩
   rw [hu] at hx d0 d1 hek
   have HX := Lib.hid hx
   have HEK := Lib.hid hek
   obtain ⟨key, val⟩ := u
   simp only at d0 d1
   obtain ⟨wa, hwa⟩ : ∃ wa, wr.alloc (.cells #[.string key, .string val] 376) = wa := ⟨_, rfl⟩
   obtain ⟨bx, hbx⟩ : ∃ bx, wr.heap.size = bx := ⟨_, rfl⟩
   have HBX : Hid (Blk wa bx 376 [.string key, .string val]) := Lib.hid (by rw [← hwa, ← hbx]; exact Blk.new wr 376 _)
   have HMA : Hid (Mods [] wr wa) := Lib.hid (by rw [← hwa]; exact (Mods.refl _ _).alloc _)
   have hks := hek.key
   have hvs := hek.val
   simp only at hks hvs
   have hlenb : (leafL (E.take i)).length ≤ 50 * i := by
    have h1 := leafL_len (E := E.take i) (fun v hv => HOK.out v (List.mem_of_mem_take hv))
    rw [List.length_take] at h1
    omega
   have cK := Lib.hid (fun W => lJoin_any (W := W) key (by omega))
   have cV := Lib.hid (fun W => lJoin_any (W := W) val (by omega))
   clear hx hu hek
   have c0 := HBX.out.cell (i := 0) rfl
   have c1 := HBX.out.cell (i := 1) rfl
   go_upto_region 6 with (go_at_call 253; refine (cK.out _).mono ?_; rintro e w2 ⟨y, rfl, HY, HM2⟩; have k1 := (HBX.out.keep HM2.out (by simp)).cell (i := 1) rfl)
   go_upto_region 7 with (go_at_call 253; refine (cV.out _).mono ?_; rintro e w3 ⟨z, rfl, HZ, HM3⟩)
   have hzs : z.size ≤ 33 := by
    rw [HZ.out, bA_size, joinL_len]
    omega
   have hys : y.size ≤ 17 := by
    rw [HY.out, bA_size, joinL_len]
    omega
   have hyc : ¬ 9223372036854775807 < y.size + z.size := by omega
   have hsz : (y ++ z).size ≤ 50 := by
    rw [ByteArray.size_append]
    omega
   obtain ⟨yz, hyz⟩ : ∃ yz, y ++ z = yz := ⟨_, rfl⟩
   rw [hyz] at hsz
   have hyl : yz.toList = leafEL (key, val) := by
    rw [← hyz, HY.out, HZ.out, bA_app, bA_list]
    rfl
   have HYL := Lib.hid hyl
   clear hyl
   go_wp2_with (go_at_call 96; refine (bWrStr (((HB.out.keep HMA.out).keep HM2.out).keep HM3.out) yz (by omega) (by have h1 := HM.out.size; have h2 := HMA.out.size; have h3 := HM2.out.size; have h4 := HM3.out.size; omega)).mono ?_; rintro e w4 ⟨v4, rfl, HB4, HM4⟩)
   go_roundw
   case rel =>
    refine ⟨i + 1, by omega, by go_num, ?_, ?_⟩
    ·rw [leafL_take HX.out]
     have h := HB4.out
     rw [HYL.out] at h
     exact h
    ·have h3 := ((HM.out.trans HMA.out (by simp)).trans HM2.out (by simp)).trans HM3.out (by simp)
     exact Mods.of_below (h3.below.trans (by have h := HM4.out; rw [← hb0] at h; exact h)) []
   case measure => simp [intOf]; omega
  ·obtain rfl : i = pn := by omega
   have hall : E.take i = E := List.take_of_length_le (Nat.le_of_eq HLN.out)
   rw [hall] at HB
   have cS := Lib.hid (bStr HB.out (by have := HM.out.size; omega))
   clear hall
   go_wp2_with (go_at_call 98; refine cS.out.mono ?_; rintro e w2 ⟨z, rfl, HZ, HM2⟩)
   go_ret2
   exact ⟨_, rfl, HZ, Lib.hid (HM1.out.trans (Mods.of_below (HM.out.below.trans (by have h := HM2.out; rw [← hb0] at h; exact h)) []) (by simp))⟩
end
end Go.Proofs.YtkjpdfomppjiiaaGreatDoor
