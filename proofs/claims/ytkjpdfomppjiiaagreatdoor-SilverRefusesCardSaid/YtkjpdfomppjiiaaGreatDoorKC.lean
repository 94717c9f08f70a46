/- A pair whose device or table turns. -/
import Derived.Test.YtkjpdfomppjiiaaGreatDoorKA
import Derived.Test.YtkjpdfomppjiiaaGreatDoorKB
import Derived.Deep.RegionHeld3
import Derived.LoopN
import Derived.BigQuiet
import Derived.Deep.RegionWith
import Derived.Deep.CutRange
/- A block's image and a table's text, plainly. -/
namespace Go.Proofs.YtkjpdfomppjiiaaGreatDoor

def zerosL (n : Nat) : List UInt8 := List.replicate n 0
def magicL : List UInt8 := [84, 82, 78, 76]
def headL (h : EHead) (n : Nat) : List UInt8 := magicL ++ leW widthsE [h.kind, 0, n, h.addr.toNat, h.gen]
def bareL (size : Nat) (h : EHead) (p : List UInt8) : List UInt8 := headL h p.length ++ zerosL 4 ++ p ++ zerosL (size - 24 - p.length)
def withL (s : List UInt8) (c : Nat) : List UInt8 := s.take 20 ++ le8 4 c ++ s.drop 24
def sealL (size : Nat) (h : EHead) (p : List UInt8) : List UInt8 := withL (bareL size h p) (crcOn 0 (bareL size h p))
def eHeadOf (x : List UInt8) : EHead := ⟨un8 ((x.drop 4).take 1), un8 ((x.drop 8).take 4), un8 ((x.drop 12).take 8)⟩
def eLenOf (x : List UInt8) : Nat := un8 ((x.drop 6).take 2)
def eSumOf (x : List UInt8) : Nat := un8 ((x.drop 20).take 4)
def ePayOf (x : List UInt8) : List UInt8 := (x.drop 24).take (eLenOf x)
def partsL (x : List UInt8) : Bool := decide (x.take 4 = magicL) && sizedE x.length && ((eHeadOf x).right && decide (eLenOf x ≤ x.length - 24))
def bareOf (x : List UInt8) : List UInt8 := bareL x.length (eHeadOf x) (ePayOf x)
def openL (x : List UInt8) : Option (EHead × List UInt8) :=
 if partsL x = true ∧ withL (bareOf x) (eSumOf x) = x ∧ crcOn 0 (bareOf x) = eSumOf x then some (eHeadOf x, ePayOf x) else none

theorem headL_len (h : EHead) (n : Nat) : (headL h n).length = 20 := by
 unfold headL
 rw [List.length_append, leW_len (ws := widthsE) (ns := [h.kind, 0, n, h.addr.toNat, h.gen]) rfl]; rfl
theorem bareL_len {size : Nat} (h : EHead) {p : List UInt8} (hp : p.length + 24 ≤ size) : (bareL size h p).length = size := by
 unfold bareL zerosL
 simp only [List.length_append, headL_len, List.length_replicate]
 omega
theorem withL_bare (size : Nat) (h : EHead) (p : List UInt8) (c : Nat) : withL (bareL size h p) c = headL h p.length ++ (le8 4 c ++ (p ++ zerosL (size - 24 - p.length))) := by
 have hb : bareL size h p = headL h p.length ++ (zerosL 4 ++ (p ++ zerosL (size - 24 - p.length))) := by unfold bareL; simp [List.append_assoc]
 have h24 : (headL h p.length ++ zerosL 4).length = 24 := by rw [List.length_append, headL_len]; rfl
 unfold withL
 rw [hb, List.take_left' (headL_len h p.length), ← List.append_assoc, List.drop_left' h24, List.append_assoc]
theorem withL_len {size : Nat} (h : EHead) {p : List UInt8} (hp : p.length + 24 ≤ size) (c : Nat) : (withL (bareL size h p) c).length = size := by
 rw [withL_bare]
 simp only [List.length_append, headL_len, le8_len, zerosL, List.length_replicate]
 omega
theorem sealL_len {size : Nat} (h : EHead) {p : List UInt8} (hp : p.length + 24 ≤ size) : (sealL size h p).length = size := withL_len h hp _
theorem take_drop_mid {α : Type} (a b c : List α) {n m : Nat} (hn : a.length = n) (hm : b.length = m) : ((a ++ (b ++ c)).drop n).take m = b := by
 subst hn; subst hm
 rw [List.drop_left, List.take_left]
theorem parts_with {size : Nat} {h : EHead} {p : List UInt8} {c : Nat} (hs : sizedE size = true) (hr : h.right = true) (hg : h.gen < 18446744073709551616) (hp : p.length + 24 ≤ size) (hc : c < 4294967296) :
  let x := withL (bareL size h p) c
  partsL x = true ∧ eHeadOf x = h ∧ eLenOf x = p.length ∧ ePayOf x = p ∧ eSumOf x = c := by
 intro x
 have hs1 : size ≤ 1024 := by
  unfold sizedE at hs; simp at hs; omega
 have hr1 := hr
 unfold EHead.right placedE at hr1
 simp only [Bool.and_eq_true, decide_eq_true_eq] at hr1
 obtain ⟨⟨k1, k2⟩, a1, a2⟩ := hr1
 have hx : x = magicL ++ (le8 1 h.kind ++ (le8 1 0 ++ (le8 2 p.length ++ (le8 4 h.addr.toNat ++ (le8 8 h.gen ++ (le8 4 c ++ (p ++ zerosL (size - 24 - p.length)))))))) := by
  show withL (bareL size h p) c = _
  rw [withL_bare]; unfold headL widthsE
  simp [leW, List.append_assoc]
 have hl : x.length = size := withL_len h hp c
 have e0 : x.take 4 = magicL := by rw [hx]; rfl
 have e1 : un8 ((x.drop 4).take 1) = h.kind := by
  rw [hx, take_drop_mid (n := 4) (m := 1) magicL _ _ rfl (le8_len _ _), un8_le8, Nat.mod_eq_of_lt (by omega)]
 have e2 : un8 ((x.drop 6).take 2) = p.length := by
  rw [hx, show magicL ++ (le8 1 h.kind ++ (le8 1 0 ++ (le8 2 p.length ++ (le8 4 h.addr.toNat ++ (le8 8 h.gen ++ (le8 4 c ++ (p ++ zerosL (size - 24 - p.length)))))))) = (magicL ++ le8 1 h.kind ++ le8 1 0) ++ (le8 2 p.length ++ (le8 4 h.addr.toNat ++ (le8 8 h.gen ++ (le8 4 c ++ (p ++ zerosL (size - 24 - p.length)))))) by simp [List.append_assoc],
   take_drop_mid _ _ _ (by simp [le8_len, magicL]) (le8_len _ _), un8_le8, Nat.mod_eq_of_lt (by omega)]
 have e3 : un8 ((x.drop 8).take 4) = h.addr.toNat := by
  rw [hx, show magicL ++ (le8 1 h.kind ++ (le8 1 0 ++ (le8 2 p.length ++ (le8 4 h.addr.toNat ++ (le8 8 h.gen ++ (le8 4 c ++ (p ++ zerosL (size - 24 - p.length)))))))) = (magicL ++ le8 1 h.kind ++ le8 1 0 ++ le8 2 p.length) ++ (le8 4 h.addr.toNat ++ (le8 8 h.gen ++ (le8 4 c ++ (p ++ zerosL (size - 24 - p.length))))) by simp [List.append_assoc],
   take_drop_mid _ _ _ (by simp [le8_len, magicL]) (le8_len _ _), un8_le8, Nat.mod_eq_of_lt (by omega)]
 have e4 : un8 ((x.drop 12).take 8) = h.gen := by
  rw [hx, show magicL ++ (le8 1 h.kind ++ (le8 1 0 ++ (le8 2 p.length ++ (le8 4 h.addr.toNat ++ (le8 8 h.gen ++ (le8 4 c ++ (p ++ zerosL (size - 24 - p.length)))))))) = (magicL ++ le8 1 h.kind ++ le8 1 0 ++ le8 2 p.length ++ le8 4 h.addr.toNat) ++ (le8 8 h.gen ++ (le8 4 c ++ (p ++ zerosL (size - 24 - p.length)))) by simp [List.append_assoc],
   take_drop_mid _ _ _ (by simp [le8_len, magicL]) (le8_len _ _), un8_le8, Nat.mod_eq_of_lt (by omega)]
 have e5 : un8 ((x.drop 20).take 4) = c := by
  show un8 (((withL (bareL size h p) c).drop 20).take 4) = c
  rw [withL_bare, take_drop_mid _ _ _ (headL_len _ _) (le8_len _ _), un8_le8, Nat.mod_eq_of_lt (by omega)]
 have e6 : (x.drop 24).take p.length = p := by
  show ((withL (bareL size h p) c).drop 24).take p.length = p
  rw [withL_bare, ← List.append_assoc, take_drop_mid _ _ _ (by rw [List.length_append, headL_len, le8_len]) rfl]
 have e7 : eHeadOf x = h := by
  unfold eHeadOf
  rw [e1, e3, e4]
  obtain ⟨k, a, g⟩ := h
  simp only [EHead.mk.injEq, true_and, and_true]
  simp only at a1
  omega
 refine ⟨?_, e7, e2, ?_, e5⟩
 ·unfold partsL
  rw [e7, hr, hl, hs, e0, show eLenOf x = p.length from e2]
  simp; omega
 ·unfold ePayOf
  rw [show eLenOf x = p.length from e2, e6]
theorem crcOn_lt' (c : Nat) (l : List UInt8) : crcOn c l < 4294967296 := by unfold crcOn; omega
theorem open_seal {size : Nat} {h : EHead} {p : List UInt8} (hs : sizedE size = true) (hr : h.right = true) (hg : h.gen < 18446744073709551616) (hp : p.length + 24 ≤ size) : openL (sealL size h p) = some (h, p) := by
 obtain ⟨e1, e2, e3, e4, e5⟩ := parts_with hs hr hg hp (crcOn_lt' 0 (bareL size h p))
 have hl := sealL_len h hp
 unfold openL
 have hb : bareOf (sealL size h p) = bareL size h p := by
  unfold bareOf
  rw [hl]
  unfold sealL
  rw [e2, e4]
 rw [hb]
 unfold sealL at *
 rw [if_pos ⟨e1, by rw [e5], by rw [e5]⟩, e2, e4]
theorem open_some {x : List UInt8} {h : EHead} {p : List UInt8} (ho : openL x = some (h, p)) : partsL x = true ∧ h = eHeadOf x ∧ p = ePayOf x ∧ x = sealL x.length h p := by
 unfold openL at ho
 split at ho
 ·rename_i hc
  injection ho with ho
  injection ho with h1 h2
  refine ⟨hc.1, h1.symm, h2.symm, ?_⟩
  unfold sealL
  rw [← h1, ← h2]
  show x = withL (bareOf x) (crcOn 0 (bareOf x))
  rw [hc.2.2, hc.2.1]
 ·cases ho
theorem open_zeros (n : Nat) : openL (zerosL n) = none := by
 unfold openL
 rw [if_neg]
 intro h
 have h := h.1
 unfold partsL at h
 simp only [Bool.and_eq_true, decide_eq_true_eq] at h
 have h := h.1.1
 unfold zerosL at h
 rw [List.take_replicate] at h
 have h1 : min 4 n = 4 := by have := congrArg List.length h; simpa [magicL] using this
 rw [h1] at h
 exact absurd h (by decide)

def textL (m : List Nat) : List UInt8 := le8 8 m.length ++ m.flatMap (le8 2)
def eatL (t : Tab) : List UInt8 → Option Tab
 | [] => some t
 | [_] => none
 | a :: b :: r => if (t.move (un8 [a, b] : Nat)).2 = 0 then eatL (t.move (un8 [a, b] : Nat)).1 r else none
def parseL (s : List UInt8) (blocks spares : Nat) : Option Tab :=
 if s.length < 8 then none else (eatL ⟨blocks, spares, []⟩ (s.drop 8)).bind fun t => if un8 (s.take 8) = t.moved.length then some t else none
theorem eat_text : ∀ (l : List Nat) (b s : Nat) (m : List Nat), b ≤ 4096 → (∀ x ∈ l, x < b) → (m ++ l).length ≤ s → eatL ⟨b, s, m⟩ (l.flatMap (le8 2)) = some ⟨b, s, m ++ l⟩
 | [], b, s, m, _, _, _ => by simp [eatL]
 | x :: l, b, s, m, hb, hl, hs => by
  have hx := hl x (by simp)
  have hv : un8 [UInt8.ofNat (x % 256), UInt8.ofNat (x / 256 % 256)] = x := by
   simp only [un8]
   rw [show (UInt8.ofNat (x % 256)).toNat = x % 256 by simp, show (UInt8.ofNat (x / 256 % 256)).toNat = x / 256 % 256 by simp]
   omega
  have hm : (⟨b, s, m⟩ : Tab).move (x : Int) = (⟨b, s, m ++ [x]⟩, 0) := by
   rw [Tab.move_ok (by unfold Tab.isB; simp; omega)]
   ·simp
   ·simp at hs ⊢; omega
  rw [List.flatMap_cons, show le8 2 x = [UInt8.ofNat (x % 256), UInt8.ofNat (x / 256 % 256)] from rfl, List.cons_append, List.cons_append, List.nil_append, eatL, hv, hm]
  simp only [if_true]
  rw [eat_text l b s (m ++ [x]) hb (fun y hy => hl y (by simp [hy])) (by simpa using hs)]
  simp
theorem parse_text {t : Tab} (ho : t.Ok) : parseL (textL t.moved) t.blocks t.spares = some t := by
 have hlen := ho.len
 have hsp := ho.spares
 unfold parseL textL
 rw [if_neg (by rw [List.length_append, le8_len]; omega), List.drop_append_of_le_length (by rw [le8_len]; exact Nat.le_refl _), List.drop_of_length_le (by rw [le8_len]; exact Nat.le_refl _), List.nil_append,
  List.take_append_of_le_length (by rw [le8_len]; exact Nat.le_refl _), List.take_of_length_le (by rw [le8_len]; exact Nat.le_refl _), un8_le8, Nat.mod_eq_of_lt (by omega)]
 rw [eat_text t.moved t.blocks t.spares [] ho.blocks ho.each (by simpa using hlen)]
 simp
theorem textL_len (m : List Nat) : (textL m).length = 8 + 2 * m.length := by
 unfold textL
 rw [List.length_append, le8_len, List.length_flatMap]
 have : ∀ m : List Nat, (m.map fun a => (le8 2 a).length).sum = 2 * m.length := by
  intro m
  induction m with
  | nil => rfl
  | cons x m ih => rw [List.map_cons, List.sum_cons, ih, le8_len, List.length_cons]; omega
 rw [this]
end Go.Proofs.YtkjpdfomppjiiaaGreatDoor
/- A pair of devices, plainly: what each of its methods does. -/
namespace Go.Proofs.YtkjpdfomppjiiaaGreatDoor

def bA (l : List UInt8) : ByteArray := ⟨l.toArray⟩
theorem bA_size (l : List UInt8) : (bA l).size = l.length := by simp [bA, ByteArray.size]
theorem bA_list (l : List UInt8) : (bA l).toList = l := by rw [Lib.toList_data]; simp [bA]

def slotOf (own : Bool) (gen : Nat) : Nat := gen % 2 + if own then 0 else 2
def putD (D : Dev) (k : Nat) (x : ByteArray) : (Bool × Nat) × Dev :=
 let r := D.write (k : Nat) x
 let q := if r.1 = 0 then r.2.flush else r
 (if q.1 = 6 then (false, 6) else (decide (q.1 = 0), 0), q.2)
def imageOf (size side : Nat) (m : List Nat) : List UInt8 := sealL size ⟨2, (side : Nat), m.length⟩ (textL m)

structure Pr where
 n : Nat
 dev : Nat → Dev
 tab : Nat → Tab
namespace Pr
def Fit (P : Pr) : Prop := Dev.right (P.dev 0).sectors (P.dev 0).size = true ∧ P.n ≤ 32 ∧ 8 + 2 * P.n + 24 ≤ (P.dev 0).size ∧ 6 + P.n ≤ (P.dev 0).sectors
def setDev (P : Pr) (s : Nat) (D : Dev) : Pr := { P with dev := fun k => if k = s then D else P.dev k }
def setTab (P : Pr) (s : Nat) (t : Tab) : Pr := { P with tab := fun k => if k = s then t else P.tab k }
def keep (P : Pr) (s : Nat) (t : Tab) : Nat × Pr :=
 let x := bA (imageOf (P.dev s).size s t.moved)
 let r := putD (P.dev s) (slotOf true t.moved.length) x
 let P1 := P.setDev s r.2
 if r.1.2 ≠ 0 then (r.1.2, P1) else
  let q := putD (P.dev (1 - s)) (slotOf false t.moved.length) x
  let P2 := P1.setDev (1 - s) q.2
  if q.1.2 ≠ 0 then (q.1.2, P2) else if (r.1.1 || q.1.1) = false then (8, P2) else (0, P2.setTab s t)
def move (P : Pr) (s : Nat) (i : Int) : Nat × Pr :=
 if ((P.tab s).move i).2 ≠ 0 then (((P.tab s).move i).2, P) else P.keep s ((P.tab s).move i).1
def sector (P : Pr) (s : Nat) (i : Int) : Nat × Nat := (((P.tab s).at_ i).1 + 4, ((P.tab s).at_ i).2)
def read (P : Pr) (s : Nat) (i : Int) : ByteArray × Nat :=
 if (P.sector s i).2 ≠ 0 then (⟨#[]⟩, (P.sector s i).2) else (P.dev s).read ((P.sector s i).1 : Nat)
def write : Nat → Pr → Nat → Int → ByteArray → Nat × Pr
 | 0, P, _, _, _ => (0, P)
 | k + 1, P, s, i, x =>
  if (P.sector s i).2 ≠ 0 then ((P.sector s i).2, P) else
   let r := (P.dev s).write ((P.sector s i).1 : Nat) x
   let P1 := P.setDev s r.2
   if r.1 ≠ 7 then (r.1, P1) else
    let q := P1.move s i
    if q.1 ≠ 0 then q else write k q.2 s i x
def flush (P : Pr) (s : Nat) : Nat × Pr := (((P.dev s).flush).1, P.setDev s ((P.dev s).flush).2)
end Pr
def parseP (blocks n side : Nat) (x : ByteArray) : Option Tab :=
 match openL x.toList with
 | none => none
 | some (h, p) => if h.kind = 2 ∧ h.addr = (side : Nat) then (parseL p blocks n).bind fun t => if t.moved.length = h.gen then some t else none else none
def better (o q : Option Tab) : Option Tab :=
 match q with
 | none => o
 | some t => match o with
  | none => some t
  | some u => if u.moved.length < t.moved.length then some t else some u
def blocksN (sectors size n : Nat) : Nat := if 8 + 2 * n + 24 ≤ size ∧ 6 + n ≤ sectors then sectors - 4 - n else 0
def look (P : Pr) (side d g : Nat) : Option Tab :=
 let r := (P.dev d).read (slotOf (decide (d = side)) g : Nat)
 if r.2 ≠ 0 then none else parseP (blocksN (P.dev side).sectors (P.dev side).size P.n) P.n side r.1
def findP (P : Pr) (side : Nat) : Option Tab :=
 better (better (better (better none (look P side side 0)) (look P side side 1)) (look P side (1 - side) 0)) (look P side (1 - side) 1)
end Go.Proofs.YtkjpdfomppjiiaaGreatDoor
/- env.bare and Seal. -/
namespace Go.Proofs.YtkjpdfomppjiiaaGreatDoor
open Go.RowKit

theorem rep0 : ∀ n, Lib.repeatL [0] n = zerosL n
 | 0 => rfl
 | n + 1 => by rw [Lib.repeatL, rep0 n]; rfl
theorem repeat0_any {W : World} (n : Nat) (hn : n ≤ 1000000) : Calls Tryz.prog 46 #[.string ⟨#[0]⟩, .int .i64 (n : Nat)] W fun e w' => e = .returned (.string (bA (zerosL n))) ∧ Mods [] W w' :=
 (Tryz.strings_Repeat ⟨#[0]⟩ n W (by omega) (by show 1 * n ≤ _; omega)).mono fun e w' h => ⟨by rw [h.1]; show Ending.returned (.string ⟨(Lib.repeatL [0] n).toArray⟩) = _; rw [rep0]; rfl, Mods.of_below h.2 []⟩
theorem eWidths_ex (W : World) : Calls Tryz.prog 212 #[] W fun e w' => ∃ b, e = .returned (.slice (some ⟨b, 0, none⟩) 5 5) ∧ Row w' (some ⟨b, 0, none⟩) (intsRow widthsE) ∧ Mods [] W w' :=
 (eWidths_any W).mono fun _ _ h => ⟨_, h⟩
theorem Row.new (w : World) (t : TypeId) (l : List Value) : Row (w.alloc (.cells l.toArray t (0, 0))) (some ⟨w.heap.size, 0, none⟩) l :=
 .inr ⟨w.heap.size, 0, rfl, fun i u hi => by rw [Nat.zero_add]; exact (Blk.new w t l).cell hi⟩
theorem Row.keep0 {w w1 : World} {A : Option Addr} {xs : List Value} (h : Row w A xs) (hm : Mods [] w w1) : Row w1 A xs := h.keep hm (fun _ _ => by simp)
theorem Mods.tr {w w1 w2 : World} (h : Mods [] w w1) (g : Mods [] w1 w2) : Mods [] w w2 := h.trans g (by simp)
theorem lWrite_ex {W : World} {A B : Option Addr} {ws ns : List Nat} {n c c2 : Nat} (hA : Row W A (intsRow ws)) (hB : Row W B (u64sRow ns)) (hn : ws.length = n) (hn0 : 0 < n) (hn1 : n < 1000) (hf : FitsW ws ns) :
  Calls Tryz.prog 163 #[.slice A n c, .slice B n c2] W fun e w' => ∃ q, e = .returned (.tuple #[.string q, .bool true]) ∧ Hid (q = bA (leW ws ns)) ∧ q.size = ws.sum ∧ Mods [] W w' :=
 (lWrite_any hA hB hn hn0 hn1 hf).mono fun _ _ h => ⟨_, h.1, Lib.hid rfl, by rw [← leW_len hf.1]; exact bA_size _, h.2⟩
theorem repeat0_ex {W : World} (n : Nat) (hn : n ≤ 1000000) : Calls Tryz.prog 46 #[.string ⟨#[0]⟩, .int .i64 (n : Nat)] W fun e w' => ∃ z, e = .returned (.string z) ∧ Hid (z = bA (zerosL n)) ∧ z.size = n ∧ Mods [] W w' :=
 (repeat0_any n hn).mono fun _ _ h => ⟨_, h.1, Lib.hid rfl, by rw [bA_size]; simp [zerosL], h.2⟩
def headNums (h : EHead) (n : Nat) : List Nat := [h.kind, 0, n, h.addr.toNat, h.gen]
theorem bA_app (a b : List UInt8) : bA a ++ bA b = bA (a ++ b) := by
 apply ByteArray.ext
 simp [bA]
theorem bA_of (s : ByteArray) : bA s.toList = s := by
 apply ByteArray.ext
 simp [bA, Lib.toList_data]
theorem join5 (m q z y : List UInt8) (p : ByteArray) : bA m ++ bA q ++ bA z ++ p ++ bA y = bA (m ++ q ++ z ++ p.toList ++ y) := by
 have h := bA_of p
 generalize p.toList = l at h ⊢
 subst h
 rw [bA_app, bA_app, bA_app, bA_app]
theorem head_fits {h : EHead} {n : Nat} (hr : h.right = true) (hg : h.gen < 18446744073709551616) (hn : n < 65536) : FitsW widthsE (headNums h n) := by
 unfold EHead.right placedE at hr
 simp only [Bool.and_eq_true, decide_eq_true_eq] at hr
 obtain ⟨⟨k1, k2⟩, a1, a2⟩ := hr
 refine ⟨rfl, fun i w m h1 h2 => ?_⟩
 unfold widthsE at h1
 unfold headNums at h2
 match i, h1, h2 with
 | 0, h1, h2 => cases h1; cases h2; omega
 | 1, h1, h2 => cases h1; cases h2; omega
 | 2, h1, h2 => cases h1; cases h2; omega
 | 3, h1, h2 => cases h1; cases h2; omega
 | 4, h1, h2 => cases h1; cases h2; omega
 | i + 5, h1, h2 => simp at h1
set_option maxRecDepth 100000 in
set_option maxHeartbeats 3200000 in
theorem eBare_any {W : World} (size : Nat) (h : EHead) (p : ByteArray) (hs : size ≤ 1024) (hr : h.right = true) (hg : h.gen < 18446744073709551616) (hp : p.size + 24 ≤ size) :
  Calls Tryz.prog 160 #[.int .i64 (size : Nat), headV h, .string p] W fun e w' => e = .returned (.string (bA (bareL size h p.toList))) ∧ Mods [] W w' := by
 have hf := head_fits (n := p.size) hr hg (by omega)
 have hr1 := hr
 unfold EHead.right placedE at hr1
 simp only [Bool.and_eq_true, decide_eq_true_eq] at hr1
 obtain ⟨⟨k1, k2⟩, a1, a2⟩ := hr1
 obtain ⟨a, ha⟩ : ∃ a : Nat, h.addr = (a : Int) := ⟨h.addr.toNat, by omega⟩
 have hat : h.addr.toNat = a := by omega
 unfold headNums at hf
 rw [hat] at hf
 have HF := Lib.hid hf
 clear hf hat
 obtain ⟨w1, hw1⟩ : ∃ w1, W.alloc (.cells #[.int .u8 (h.kind : Nat), .int .i64 (a : Nat), .int .u64 (h.gen : Nat)] 211) = w1 := ⟨_, rfl⟩
 have hb0 : Blk w1 W.heap.size 211 [.int .u8 (h.kind : Nat), .int .i64 (a : Nat), .int .u64 (h.gen : Nat)] := by rw [← hw1]; exact Blk.new W 211 [.int .u8 (h.kind : Nat), .int .i64 (a : Nat), .int .u64 (h.gen : Nat)]
 have hm1 : Mods [] W w1 := by rw [← hw1]; exact (Mods.refl _ _).alloc _
 have HC : Hid (∀ w', Mods [] w1 w' → w'.cell? ⟨W.heap.size, 0, none⟩ = some (.int .u8 (h.kind : Nat)) ∧ w'.cell? ⟨W.heap.size, 1, none⟩ = some (.int .i64 (a : Nat)) ∧ w'.cell? ⟨W.heap.size, 2, none⟩ = some (.int .u64 (h.gen : Nat))) := Lib.hid (fun w' hm => by
  have hb := hb0.keep hm (by simp)
  exact ⟨hb.cell (i := 0) rfl, hb.cell (i := 1) rfl, hb.cell (i := 2) rfl⟩)
 have HM1 := Lib.hid hm1
 have q0 := hb0.cell (i := 0) rfl
 have q1 := hb0.cell (i := 1) rfl
 have q2 := hb0.cell (i := 2) rfl
 have wk : IntKind.u64.wrap (h.kind : Int) = (h.kind : Int) := by rw [IntKind.wrap_u64]; omega
 have wa : IntKind.u64.wrap (a : Int) = (a : Int) := by rw [IntKind.wrap_u64]; omega
 have wp : IntKind.u64.wrap (p.size : Int) = (p.size : Int) := by rw [IntKind.wrap_u64]; omega
 have HA := Lib.hid ha
 have hv : headV h = .agg #[.int .u8 (h.kind : Nat), .int .i64 (a : Nat), .int .u64 (h.gen : Nat)] := by unfold headV; rw [ha]
 rw [hv]
 clear hb0 hm1 ha hv hr hg
 go_enter Tryz.func160, Tryz.ntmps160
 go_wp2_with fail
 go_region_held3 (fun w' => w'.cell? ⟨W.heap.size, 0, none⟩ = some (.int .u8 (h.kind : Nat)) ∧ w'.cell? ⟨W.heap.size, 1, none⟩ = some (.int .i64 (a : Nat)) ∧ w'.cell? ⟨W.heap.size, 2, none⟩ = some (.int .u64 (h.gen : Nat)))
  (first | exact HC.out _ hM6' | exact HC.out _ hM5' | go_keep)
  (first | (go_at_call 212; refine (eWidths_ex _).mono ?_; rintro e w5 ⟨b5, rfl, hR, hM5⟩; have hM5' : Mods [] w1 w5 := by (first | exact ((Mods.refl _ _).drew).tr hM5 | exact (((Mods.refl _ _).alloc _).drew).tr hM5 | exact (((Mods.refl _ _).drew).alloc _).tr hM5)) | (go_at_call 163; refine (lWrite_ex (ws := widthsE) (ns := [h.kind, 0, p.size, a, h.gen]) (by first | exact hR | exact hR.keep0 ((Mods.refl _ _).alloc _)) (by first | exact Row.new w5 42 (u64sRow [h.kind, 0, p.size, a, h.gen]) | exact (Row.new w1 42 (u64sRow [h.kind, 0, p.size, a, h.gen])).keep0 (((Mods.refl _ _).drew).tr hM5)) (n := 5) rfl (by decide) (by decide) HF.out).mono ?_; rintro e w6 ⟨q, rfl, HQ, hq1, hM6⟩; replace hq1 : q.size = 16 := hq1; have hM6' : Mods [] w1 w6 := by (first | exact hM5'.tr hM6 | exact (hM5'.alloc _).tr hM6)))
 all_goals
  have HM6 := Lib.hid hM6'
  clear hR hM5 hM6 hM5' hM6'
  have hbig : ¬ 9223372036854775807 < 4 + 16 + 4 + p.size := by omega
  go_wp2_with fail
  refine (repeat0_ex 4 (by decide)).mono ?_
  rintro e w7 ⟨z, rfl, HZ, hz4, hm7⟩
  have HM7 := Lib.hid (HM6.out.trans hm7 (by simp))
  clear hm7
  go_wp2_with fail
  obtain ⟨m, hm, hme, hml⟩ : ∃ m : Nat, (size : Int) - (24 + (p.size : Int)) = (m : Int) ∧ size - 24 - p.size = m ∧ m ≤ 1000000 := ⟨size - (24 + p.size), by omega, by omega, by omega⟩
  rw [hm]
  have HME := Lib.hid hme
  clear hm hme
  refine (repeat0_ex m hml).mono ?_
  rintro e w8 ⟨y, rfl, HY, hym, hm8⟩
  have HM8 := Lib.hid (HM7.out.tr hm8)
  clear hm8
  have hbig2 : ¬ 9223372036854775807 < 4 + 16 + 4 + p.size + m := by omega
  go_wp2_with fail
  go_ret
  refine ⟨?_, HM1.out.tr HM8.out⟩
  show Ending.returned (.string (bA magicL ++ q ++ z ++ p ++ y)) = _
  refine congrArg (fun s => Ending.returned (.string s)) ?_
  rw [HQ.out, HZ.out, HY.out, join5]
  unfold bareL headL
  rw [HA.out, Int.toNat_natCast, show p.toList.length = p.size by rw [Lib.toList_data]; exact Array.length_toList, HME.out]
end Go.Proofs.YtkjpdfomppjiiaaGreatDoor
/- A device's small methods: Shape, Off, Dead, Kill, Fuse. -/
namespace Go.Proofs.YtkjpdfomppjiiaaGreatDoor
open Go.RowKit

theorem results_c {fn : Func} {p : Tmp} {ty : TypeId} (h : fn.results = #[.cell p ty]) {tmps : Array Value} {P : Program} {w : World} {ad : Addr} {v : Value} (hp : tmps.getD p undef = .pointer (some ad)) (hl : (loadVar ty ad).run P w = .ok v w) :
  (results fn tmps).run P w = .ok v w := by
 have e : (results fn tmps).run P w = ((asAddr (tmps.getD p undef)).run P w).andThen fun ad w1 => (loadVar ty ad).run P w1 := by
  simp only [results, h]
  simp [Sem.run_bind, Result.andThen]
 rw [e, hp]
 simp only [asAddr, Sem.run_pure, Result.andThen_ok, hl]
theorem results_ctt {fn : Func} {p q r : Tmp} {ty : TypeId} (h : fn.results = #[.cell p ty, .tmp q, .tmp r]) {tmps : Array Value} {P : Program} {w : World} {ad : Addr} {v : Value} (hp : tmps.getD p undef = .pointer (some ad)) (hl : (loadVar ty ad).run P w = .ok v w) :
  (results fn tmps).run P w = .ok (.tuple #[v, tmps.getD q undef, tmps.getD r undef]) w := by
 have e : (results fn tmps).run P w = ((asAddr (tmps.getD p undef)).run P w).andThen fun ad w1 => ((loadVar ty ad).run P w1).andThen fun v w2 => .ok (.tuple #[v, tmps.getD q undef, tmps.getD r undef]) w2 := by
  simp only [results, h]
  simp [Sem.run_bind, Result.andThen]
 rw [e, hp]
 simp only [asAddr, Sem.run_pure, Result.andThen_ok, hl]
theorem results_cttt {fn : Func} {p q r s : Tmp} {ty : TypeId} (h : fn.results = #[.cell p ty, .tmp q, .tmp r, .tmp s]) {tmps : Array Value} {P : Program} {w : World} {ad : Addr} {v : Value} (hp : tmps.getD p undef = .pointer (some ad)) (hl : (loadVar ty ad).run P w = .ok v w) :
  (results fn tmps).run P w = .ok (.tuple #[v, tmps.getD q undef, tmps.getD r undef, tmps.getD s undef]) w := by
 have e : (results fn tmps).run P w = ((asAddr (tmps.getD p undef)).run P w).andThen fun ad w1 => ((loadVar ty ad).run P w1).andThen fun v w2 => .ok (.tuple #[v, tmps.getD q undef, tmps.getD r undef, tmps.getD s undef]) w2 := by
  simp only [results, h]
  simp [Sem.run_bind, Result.andThen]
 rw [e, hp]
 simp only [asAddr, Sem.run_pure, Result.andThen_ok, hl]
theorem results_tct {fn : Func} {p q r : Tmp} {ty : TypeId} (h : fn.results = #[.tmp q, .cell p ty, .tmp r]) {tmps : Array Value} {P : Program} {w : World} {ad : Addr} {v : Value} (hp : tmps.getD p undef = .pointer (some ad)) (hl : (loadVar ty ad).run P w = .ok v w) :
  (results fn tmps).run P w = .ok (.tuple #[tmps.getD q undef, v, tmps.getD r undef]) w := by
 have e : (results fn tmps).run P w = ((asAddr (tmps.getD p undef)).run P w).andThen fun ad w1 => ((loadVar ty ad).run P w1).andThen fun v w2 => .ok (.tuple #[tmps.getD q undef, v, tmps.getD r undef]) w2 := by
  simp only [results, h]
  simp [Sem.run_bind, Result.andThen]
 rw [e, hp]
 simp only [asAddr, Sem.run_pure, Result.andThen_ok, hl]
theorem load_shape {w : World} {b : Nat} {a0 a1 : Value} (h : Blk w b 54 [a0, a1]) : (loadVar 54 ⟨b, 0, none⟩).run Tryz.prog w = .ok (.agg #[a0, a1]) w := by
 have c0 := h.cell (i := 0) (v := a0) rfl
 have c1 := h.cell (i := 1) (v := a1) rfl
 go_simp
theorem dShape_any {W : World} {b : Nat} {fp : List Nat} {D : Dev} (h : IsDev W b fp D) : Calls Tryz.prog 53 #[.pointer (some ⟨b, 0, none⟩)] W fun e w' => e = .returned (.agg #[.int .i64 (D.sectors : Nat), .int .i64 (D.size : Nat)]) ∧ Mods [] W w' := by
 obtain ⟨mb, bb, cv, c0, c1, c2, hi, _⟩ := h
 obtain ⟨w1, hw1⟩ : ∃ w1, W.alloc (.cells #[.int .i64 0, .int .i64 0] 54) = w1 := ⟨_, rfl⟩
 have hb0 : Blk w1 W.heap.size 54 [.int .i64 0, .int .i64 0] := by rw [← hw1]; exact Blk.new W 54 [.int .i64 0, .int .i64 0]
 have hm1 : Mods [] W w1 := by rw [← hw1]; exact (Mods.refl _ _).alloc _
 have d0 := (hi.dev.keep hm1 (by simp)).cell (i := 0) rfl
 have d1 := (hi.dev.keep hm1 (by simp)).cell (i := 1) rfl
 have p0 := hb0.cell (i := 0) rfl
 have p1 := hb0.cell (i := 1) rfl
 have f0 := hb0.free 0
 have f1 := hb0.free 1
 have HB := Lib.hid hb0
 have HM := Lib.hid hm1
 clear hi hb0 hm1
 go_enter Tryz.func53, Tryz.ntmps53
 go_wp2_with fail
 refine bodyPost_ret (results_c rfl rfl (load_shape ((HB.out.set 0 _).set 1 _))) rfl ?_
 exact ⟨rfl, (HM.out.setCell (.inr (Nat.le_refl _)) _).setCell (.inr (Nat.le_refl _)) _⟩
theorem dOff_any {W : World} {b : Nat} {fp : List Nat} {D : Dev} (h : IsDev W b fp D) : Calls Tryz.prog 76 #[.pointer (some ⟨b, 0, none⟩)] W fun e w' => e = .returned (.bool D.off) ∧ W = w' := by
 obtain ⟨mb, bb, cv, c0, c1, c2, hi, _⟩ := h
 have d0 := hi.dev.cell (i := 9) rfl
 clear hi
 obtain ⟨o, ho⟩ : ∃ o, D.off = o := ⟨_, rfl⟩
 rw [ho] at d0 ⊢
 clear ho
 go_enter Tryz.func76, Tryz.ntmps76
 go_wp2_with fail
 go_ret
 exact ⟨rfl, rfl⟩
theorem dDead_any {W : World} {b : Nat} {fp : List Nat} {D : Dev} (h : IsDev W b fp D) : Calls Tryz.prog 109 #[.pointer (some ⟨b, 0, none⟩)] W fun e w' => e = .returned (.bool D.gone) ∧ W = w' := by
 obtain ⟨mb, bb, cv, c0, c1, c2, hi, _⟩ := h
 have d0 := hi.dev.cell (i := 10) rfl
 clear hi
 obtain ⟨o, ho⟩ : ∃ o, D.gone = o := ⟨_, rfl⟩
 rw [ho] at d0 ⊢
 clear ho
 go_enter Tryz.func109, Tryz.ntmps109
 go_wp2_with fail
 go_ret
 exact ⟨rfl, rfl⟩
theorem dKill_any {W : World} {b : Nat} {fp : List Nat} {D : Dev} (h : IsDev W b fp D) : Calls Tryz.prog 17 #[.pointer (some ⟨b, 0, none⟩)] W fun e w' => e = .returned (.tuple #[]) ∧ IsDev w' b fp { D with gone := true } ∧ Mods [b] W w' := by
 obtain ⟨mb, bb, cv, c0, c1, c2, hi, hfp, hnd⟩ := h
 have d0 := hi.dev.cell (i := 10) rfl
 have f0 := hi.dev.free 10
 have H := Lib.hid (And.intro hi (And.intro hfp hnd))
 clear hi hfp hnd
 go_enter Tryz.func17, Tryz.ntmps17
 go_wp2_with fail
 go_returns
 obtain ⟨hi, hfp, hnd⟩ := H.out
 have hm : Mods [b] W (W.setCell ⟨b, 10, none⟩ (.bool true)) := (Mods.refl _ _).setCell (.inl (by simp)) _
 refine ⟨rfl, ⟨mb, bb, cv, c0, c1, c2, hi.turn (hfp ▸ hnd) hm (hi.dev.set 10 _) ⟨hi.ok.media, hi.ok.bad, hi.ok.sec, hi.ok.size0, hi.ok.size1, hi.ok.each, hi.ok.cache⟩ hi.fuse hi.lose hi.stray rfl rfl rfl, hfp, hnd⟩, hm⟩
end Go.Proofs.YtkjpdfomppjiiaaGreatDoor
/- env.Seal. -/
namespace Go.Proofs.YtkjpdfomppjiiaaGreatDoor
open Go.RowKit

theorem headV_nat (h : EHead) {a : Nat} (ha : h.addr = (a : Int)) : headV h = .agg #[.int .u8 (h.kind : Nat), .int .i64 (a : Nat), .int .u64 (h.gen : Nat)] := by unfold headV; rw [ha]
theorem eBare_ex {W : World} (size : Nat) (h : EHead) (p : ByteArray) (hs : size ≤ 1024) (hr : h.right = true) (hg : h.gen < 18446744073709551616) (hp : p.size + 24 ≤ size) :
  Calls Tryz.prog 160 #[.int .i64 (size : Nat), headV h, .string p] W fun e w' => ∃ q, e = .returned (.string q) ∧ Hid (q = bA (bareL size h p.toList)) ∧ q.size = size ∧ Mods [] W w' :=
 (eBare_any size h p hs hr hg hp).mono fun _ _ h2 => ⟨_, h2.1, Lib.hid rfl, by rw [bA_size, bareL_len]; rw [Lib.toList_data]; exact hp, h2.2⟩
theorem sumOf_ex {W : World} {sb : Nat} (hT : Blk W sb 218 sumRow) (s : ByteArray) {A : Option Addr} (hA : Row W A [.string s]) (hs : s.size ≤ 1000000) :
  Calls Tryz.prog 161 #[.pointer (some ⟨sb, 0, none⟩), .slice A 1 1] W fun e w' => ∃ c : Nat, e = .returned (.int .u32 (c : Nat)) ∧ Hid (c = crcOn 0 s.toList) ∧ c < 4294967296 ∧ Mods [] W w' :=
 (sumOf_any hT (l := [s]) (A := A) (c := 1) hA rfl (by simp) (by simpa using hs)).mono fun _ _ h => ⟨_, h.1, Lib.hid rfl, crcOf_lt _, h.2⟩
theorem eWith_ex {W : World} (s : ByteArray) (c : Nat) (hs : 24 ≤ s.size) (hs1 : s.size ≤ 4096) (hc : c < 4294967296) :
  Calls Tryz.prog 162 #[.string s, .int .u32 (c : Nat)] W fun e w' => ∃ q, e = .returned (.string q) ∧ Hid (q = withE s c) ∧ Mods [] W w' :=
 (eWith_any s c hs hs1 hc).mono fun _ _ h => ⟨_, h.1, Lib.hid rfl, h.2⟩
theorem withE_bA (l : List UInt8) (c : Nat) : withE (bA l) c = bA (withL l c) := by
 apply ByteArray.ext
 unfold withE withL bA
 apply Array.ext'
 simp
 rw [List.take_of_length_le]
 rw [List.length_drop]; exact Nat.le_refl _
theorem load_head {w : World} {b : Nat} {a0 a1 a2 : Value} (h : Blk w b 211 [a0, a1, a2]) : (loadVar 211 ⟨b, 0, none⟩).run Tryz.prog w = .ok (.agg #[a0, a1, a2]) w := by
 have c0 := h.cell (i := 0) (v := a0) rfl
 have c1 := h.cell (i := 1) (v := a1) rfl
 have c2 := h.cell (i := 2) (v := a2) rfl
 go_simp
theorem load_ptr {w : World} {b : Nat} {a0 a1 a2 : Value} (h : Blk w b 79 [a0, a1, a2]) : (loadVar 79 ⟨b, 0, none⟩).run Tryz.prog w = .ok (.agg #[a0, a1, a2]) w := by
 have c0 := h.cell (i := 0) (v := a0) rfl
 have c1 := h.cell (i := 1) (v := a1) rfl
 have c2 := h.cell (i := 2) (v := a2) rfl
 go_simp
set_option maxRecDepth 100000 in
set_option maxHeartbeats 3200000 in
theorem eSeal_ptr {W : World} {sb : Nat} (hT : Blk W sb 218 sumRow) (size : Nat) (h : EHead) (p : ByteArray) (hs0 : 128 ≤ size) (hs : size ≤ 1024) (hr : h.right = true) (hg : h.gen < 18446744073709551616) (hp : p.size + 24 ≤ size) :
  Calls Tryz.prog 103 #[.pointer (some ⟨sb, 0, none⟩), .int .i64 (size : Nat), headV h, .string p] W fun e w' => e = .returned (.tuple #[.string (bA (sealL size h p.toList)), .agg #[.int .i64 h.addr, .int .u64 (h.gen : Nat), .int .u32 (crcOn 0 (bareL size h p.toList) : Nat)], .int .i64 0]) ∧ Mods [] W w' := by
 have hz : sizedE (size : Int) = true := by unfold sizedE; simp; omega
 have cSized := Lib.hid (fun W => eSized_any (W := W) (size : Int))
 rw [hz] at cSized
 have cRight := Lib.hid (fun W => eHRight_any (W := W) h)
 rw [hr] at cRight
 have cRoom := Lib.hid (fun W => eRoom_any (W := W) (size : Int))
 rw [if_pos hz] at cRoom
 have cBare := Lib.hid (fun W => eBare_ex (W := W) size h p hs hr hg hp)
 obtain ⟨y, hy, hyp⟩ : ∃ y : Nat, (size : Int) - 24 = (y : Int) ∧ ¬ y < p.size := ⟨size - 24, by omega, by omega⟩
 rw [hy] at cRoom
 have hr1 := hr
 unfold EHead.right placedE at hr1
 simp only [Bool.and_eq_true, decide_eq_true_eq] at hr1
 obtain ⟨⟨k1, k2⟩, a1, a2⟩ := hr1
 obtain ⟨a, ha⟩ : ∃ a : Nat, h.addr = (a : Int) := ⟨h.addr.toNat, by omega⟩
 rw [headV_nat h ha] at cRight cBare ⊢
 obtain ⟨w1, hw1⟩ : ∃ w1, (W.alloc (.cells #[.int .u8 (h.kind : Nat), .int .i64 (a : Nat), .int .u64 (h.gen : Nat)] 211)).alloc (.cells #[.int .i64 0, .int .u64 0, .int .u32 0] 79) = w1 := ⟨_, rfl⟩
 have hb0 : Blk w1 W.heap.size 211 [.int .u8 (h.kind : Nat), .int .i64 (a : Nat), .int .u64 (h.gen : Nat)] := by rw [← hw1]; exact (Blk.new W 211 [.int .u8 (h.kind : Nat), .int .i64 (a : Nat), .int .u64 (h.gen : Nat)]).alloc _
 have hb1 : Blk w1 (W.heap.size + 1) 79 [.int .i64 0, .int .u64 0, .int .u32 0] := by
  have hx := Blk.new (W.alloc (.cells #[.int .u8 (h.kind : Nat), .int .i64 (a : Nat), .int .u64 (h.gen : Nat)] 211)) 79 [.int .i64 0, .int .u64 0, .int .u32 0]
  have e : (W.alloc (.cells #[.int .u8 (h.kind : Nat), .int .i64 (a : Nat), .int .u64 (h.gen : Nat)] 211)).heap.size = W.heap.size + 1 := by simp
  rw [e] at hx
  rw [← hw1]; exact hx
 have hm1 : Mods [] W w1 := by rw [← hw1]; exact ((Mods.refl _ _).alloc _).alloc _
 have HC : Hid (∀ w', Mods [] w1 w' → w'.cell? ⟨W.heap.size, 0, none⟩ = some (.int .u8 (h.kind : Nat)) ∧ w'.cell? ⟨W.heap.size, 1, none⟩ = some (.int .i64 (a : Nat)) ∧ w'.cell? ⟨W.heap.size, 2, none⟩ = some (.int .u64 (h.gen : Nat))) := Lib.hid (fun w' hm => by
  have hb := hb0.keep hm (by simp)
  exact ⟨hb.cell (i := 0) rfl, hb.cell (i := 1) rfl, hb.cell (i := 2) rfl⟩)
 have HD : Hid (∀ w', Mods [] w1 w' → w'.cell? ⟨W.heap.size + 1, 0, none⟩ = some (.int .i64 0) ∧ w'.cell? ⟨W.heap.size + 1, 1, none⟩ = some (.int .u64 0) ∧ w'.cell? ⟨W.heap.size + 1, 2, none⟩ = some (.int .u32 0) ∧ w'.frozen? ⟨W.heap.size + 1, 0, none⟩ = false ∧ w'.frozen? ⟨W.heap.size + 1, 1, none⟩ = false ∧ w'.frozen? ⟨W.heap.size + 1, 2, none⟩ = false) := Lib.hid (fun w' hm => by
  have hb := hb1.keep hm (by simp)
  exact ⟨hb.cell (i := 0) rfl, hb.cell (i := 1) rfl, hb.cell (i := 2) rfl, hb.free 0, hb.free 1, hb.free 2⟩)
 have HT : Hid (∀ w', Mods [] w1 w' → Blk w' sb 218 sumRow) := Lib.hid (fun w' hm => hT.keep (hm1.tr hm) (by simp))
 have HB1 := Lib.hid hb1
 have HM1 := Lib.hid hm1
 obtain ⟨q0, q1, q2⟩ := HC.out w1 (Mods.refl _ _)
 have hsz : p.size < 9223372036854775808 := by omega
 have HA := Lib.hid ha
 clear hT hb0 hb1 hm1 hr hg hz hy ha
 go_enter Tryz.func103, Tryz.ntmps103
 go_wp2_with (first | (go_at_call 157; refine (cSized.out _).mono ?_; rintro e w' ⟨rfl, rfl⟩) | (go_at_call 158; refine (cRight.out _).mono ?_; rintro e w2 ⟨rfl, hm2⟩; obtain ⟨q0, q1, q2⟩ := HC.out _ hm2) | (go_at_call 159; refine (cRoom.out _).mono ?_; rintro e w' ⟨rfl, rfl⟩) | (go_at_call 160; refine (cBare.out _).mono ?_; rintro e w3 ⟨q, rfl, HQ, hqs, hm3⟩; have hm3' := hm2.tr hm3) | (go_at_call 161; refine (sumOf_ex (HT.out _ (hm3'.alloc _)) q (Row.new w3 9 [.string q]) (by omega)).mono ?_; rintro e w4 ⟨c, rfl, HCC, hcl, hm4⟩; have hm4' := (hm3'.alloc _).tr hm4))
 obtain ⟨z0, z1, z2⟩ := HC.out _ hm4'
 go_region_held3 (fun w' => w'.cell? ⟨W.heap.size, 1, none⟩ = some (.int .i64 (a : Nat)) ∧ w'.cell? ⟨W.heap.size, 2, none⟩ = some (.int .u64 (h.gen : Nat)))
  (first | exact ⟨(HC.out _ hm5').2.1, (HC.out _ hm5').2.2⟩ | go_keep)
  (first | (go_at_call 162; refine (eWith_ex q c (by omega) (by omega) hcl).mono ?_; rintro e w5 ⟨s5, rfl, HS5, hm5⟩; have hm5' := (hm4'.drew).tr hm5; obtain ⟨g0, g1, g2, g3, g4, g5⟩ := HD.out _ hm5'))
 go_wp2_with fail
 obtain ⟨hb5, hm6⟩ := three_sets (HB1.out.keep hm5' (by simp)) (.int .i64 (a : Nat)) (.int .u64 (h.gen : Nat)) (.int .u32 (c : Nat))
 refine bodyPost_ret (results_tct rfl rfl (load_ptr hb5)) rfl ?_
 have hs5 : s5 = bA (sealL size h p.toList) := by
  rw [HS5.out, HQ.out, withE_bA, HCC.out, HQ.out, bA_list]; rfl
 have hcc : crcOn 0 (bareL size h p.toList) = c := by rw [HCC.out, HQ.out, bA_list]
 refine ⟨by rw [← hs5, hcc, HA.out]; rfl, (HM1.out.tr hm5').trans hm6 (fun k hk => .inr (by rw [List.mem_singleton.1 hk]; omega))⟩
theorem eSeal_any {W : World} {sb : Nat} (hT : Blk W sb 218 sumRow) (size : Nat) (h : EHead) (p : ByteArray) (hs0 : 128 ≤ size) (hs : size ≤ 1024) (hr : h.right = true) (hg : h.gen < 18446744073709551616) (hp : p.size + 24 ≤ size) :
  Calls Tryz.prog 103 #[.pointer (some ⟨sb, 0, none⟩), .int .i64 (size : Nat), headV h, .string p] W fun e w' => ∃ a0 a1 a2 : Int, e = .returned (.tuple #[.string (bA (sealL size h p.toList)), .agg #[.int .i64 a0, .int .u64 a1, .int .u32 a2], .int .i64 0]) ∧ Mods [] W w' :=
 (eSeal_ptr hT size h p hs0 hs hr hg hp).mono fun _ _ h => ⟨_, _, _, h⟩
end Go.Proofs.YtkjpdfomppjiiaaGreatDoor
/- env.parts. -/
namespace Go.Proofs.YtkjpdfomppjiiaaGreatDoor
open Go.RowKit

theorem un8_lt : ∀ (l : List UInt8) (k : Nat), l.length ≤ k → un8 l < 256 ^ k
 | [], k, _ => by simp only [un8]; exact Nat.pos_of_ne_zero (fun h => by simp at h)
 | b :: l, 0, h => by simp at h
 | b :: l, k + 1, h => by
  have h1 := un8_lt l k (by simpa using h)
  have h2 := b.toNat_lt
  rw [un8, Nat.pow_succ]
  omega
theorem own_new (w : World) (t : TypeId) (l : List Value) (hl : l.length ≤ 1000) : (w.alloc (.cells l.toArray t (0, 0))).ownsRow 0 t 1 (.slice (some ⟨w.heap.size, 0, none⟩) l.length l.length) l.length l :=
 ⟨by simp, .inr ⟨w.heap.size, l.length, l.toArray, rfl, Nat.zero_le _, heap_alloc_new w _, Nat.le_refl _, by unfold maxLen; omega, by simp, by simp⟩⟩
theorem eWidths_own (W : World) : Calls Tryz.prog 212 #[] W fun e w' => ∃ g, e = .returned (.slice (some ⟨g, 0, none⟩) 5 5) ∧ w'.ownsRow 0 3 1 (.slice (some ⟨g, 0, none⟩) 5 5) 5 (intsRow widthsE) ∧ Mods [] W w' ∧ W.heap.size ≤ g ∧ g < w'.heap.size := by
 go_enter Tryz.func212, Tryz.ntmps212
 go_wp2_with fail
 go_ret
 refine ⟨W.heap.size, rfl, own_new W 3 (intsRow widthsE) (by decide), (Mods.refl _ _).alloc _, Nat.le_refl _, by simp⟩
theorem own_row {w : World} {base : Nat} {e : TypeId} {g n cap : Nat} {xs : List Value} (h : w.ownsRow base e 1 (.slice (some ⟨g, 0, none⟩) n cap) n xs) : Row w (some ⟨g, 0, none⟩) xs :=
 .inr ⟨g, 0, rfl, fun i u hi => by rw [Nat.zero_add]; have k := World.ownsRow.cells h (g := g) rfl i u hi; rw [addr_add0] at k; exact k⟩
theorem prefix_take (l : List UInt8) : Lib.hasPrefix l magicL = decide (l.take 4 = magicL) := by
 unfold Lib.hasPrefix
 rw [Bool.eq_iff_iff, List.isPrefixOf_iff_prefix, List.prefix_iff_eq_take, decide_eq_true_eq]
 exact ⟨fun h => h.symm, fun h => h.symm⟩
theorem cut_any {W : World} (x : ByteArray) : Calls Tryz.prog 219 #[.string x, .string ⟨#[84, 82, 78, 76]⟩] W fun e w' => ∃ r, e = .returned (.tuple #[.string r, .bool (decide (x.toList.take 4 = magicL))]) ∧ (x.toList.take 4 = magicL → r.toList = x.toList.drop 4) ∧ W = w' :=
 (Tryz.strings_CutPrefix x ⟨#[84, 82, 78, 76]⟩ W).mono fun e w' h => by
  have hd : Lib.hasPrefix x.data.toList magicL = decide (x.toList.take 4 = magicL) := by rw [prefix_take, Lib.toList_data]
  refine ⟨⟨(Lib.trimPrefix x.data.toList magicL).toArray⟩, by rw [← hd]; exact h.1, fun hp => ?_, h.2.symm⟩
  have h2 : Lib.trimPrefix x.data.toList magicL = x.data.toList.drop 4 := by
   unfold Lib.trimPrefix
   rw [hd, if_pos (decide_eq_true hp)]; rfl
  rw [h2, Lib.toList_data, Lib.toList_data]
def noHead : Value := .agg #[.int .u8 0, .int .i64 0, .int .u64 0]
set_option maxRecDepth 100000 in
set_option maxHeartbeats 1600000 in
theorem eParts_no {W : World} (x : ByteArray) (hx : x.toList.take 4 ≠ magicL ∨ sizedE (x.size : Int) = false) :
  Calls Tryz.prog 172 #[.string x] W fun e w' => e = .returned (.tuple #[noHead, .string ⟨#[]⟩, .int .u32 0, .bool false]) ∧ Mods [] W w' := by
 have cCut := Lib.hid (fun W => cut_any (W := W) x)
 obtain ⟨d, hd⟩ : ∃ d, decide (x.toList.take 4 = magicL) = d := ⟨_, rfl⟩
 rw [hd] at cCut
 have cSized := Lib.hid (fun W => eSized_any (W := W) (x.size : Int))
 obtain ⟨sz, hz⟩ : ∃ sz, sizedE (x.size : Int) = sz := ⟨_, rfl⟩
 rw [hz] at cSized
 have hdz : d = false ∨ sz = false := hx.imp (fun h => by rw [← hd]; exact decide_eq_false h) (fun h => by rw [← hz]; exact h)
 have HB := Lib.hid (Blk.new W 211 [.int .u8 0, .int .i64 0, .int .u64 0])
 have f0 := HB.out.free 0
 have f1 := HB.out.free 1
 have f2 := HB.out.free 2
 have g0 := HB.out.cell (i := 0) rfl
 have g1 := HB.out.cell (i := 1) rfl
 have g2 := HB.out.cell (i := 2) rfl
 clear hd hz hx
 rcases hdz with rfl | rfl
 ·go_enter Tryz.func172, Tryz.ntmps172
  go_wp2_with (first | (go_at_call 219; refine (cCut.out _).mono ?_; rintro e w' ⟨r, rfl, hr, rfl⟩; clear hr) | (go_at_call 157; refine (cSized.out _).mono ?_; rintro e w' ⟨rfl, rfl⟩))
  refine bodyPost_ret (results_cttt rfl rfl (load_head HB.out)) rfl ?_
  exact ⟨rfl, (Mods.refl _ _).alloc _⟩
 ·cases d
  all_goals
   go_enter Tryz.func172, Tryz.ntmps172
   go_wp2_with (first | (go_at_call 219; refine (cCut.out _).mono ?_; rintro e w' ⟨r, rfl, hr, rfl⟩; clear hr) | (go_at_call 157; refine (cSized.out _).mono ?_; rintro e w' ⟨rfl, rfl⟩))
   refine bodyPost_ret (results_cttt rfl rfl (load_head HB.out)) rfl ?_
   exact ⟨rfl, (Mods.refl _ _).alloc _⟩
end Go.Proofs.YtkjpdfomppjiiaaGreatDoor
/- env.parts, of an image that begins as one. -/
namespace Go.Proofs.YtkjpdfomppjiiaaGreatDoor
open Go.RowKit

def widths6 : List Nat := [1, 1, 2, 4, 8, 4]
theorem read6_any {W : World} {A : Option Addr} {cp : Nat} (hA : Row W A (intsRow widths6)) (s : ByteArray) (hs : 20 ≤ s.size) (hm : s.size ≤ 1000000) {k z n a g c : Nat} (hU : unW widths6 s.toList = [k, z, n, a, g, c]) :
  Calls Tryz.prog 190 #[.slice A 6 cp, .string s] W fun e w' => ∃ gu cap rest, e = .returned (.tuple #[.slice (some ⟨gu, 0, none⟩) 6 cap, .string rest, .bool true]) ∧ Hid (Row w' (some ⟨gu, 0, none⟩) (u64sRow [k, z, n, a, g, c])) ∧ W.heap.size ≤ gu ∧ Mods [] W w' ∧ rest.toList = s.toList.drop 20 := by
 refine (lRead_anyC (A := A) (ws := widths6) (c := cp) hA rfl (by decide) (by decide) (by unfold WidthsOk widths6; decide) s hs hm).mono ?_
 rintro e w4 ⟨u, rest, rfl, hu, hm4, hr⟩
 rw [hU] at hu
 obtain ⟨A2, cap, rfl, hc⟩ := owns_shapeD hu
 obtain ⟨gu, rfl, _⟩ := hc 0 (.int .u64 (k : Nat)) rfl
 exact ⟨gu, cap, rest, rfl, Lib.hid (own_row hu), (owns_ltF hu rfl).1, hm4, hr⟩
theorem unW6 (L : List UInt8) : unW widths6 (L.drop 4) = [(eHeadOf L).kind, un8 ((L.drop 5).take 1), eLenOf L, (eHeadOf L).addr.toNat, (eHeadOf L).gen, eSumOf L] := by
 unfold eHeadOf eLenOf eSumOf widths6
 simp [unW, List.drop_drop]
theorem Row.c {w : World} {b : Nat} {xs : List Value} (h : Row w (some ⟨b, 0, none⟩) xs) {i : Nat} {u : Value} (hi : xs[i]? = some u) : w.cell? ⟨b, i, none⟩ = some u := by
 obtain ⟨b2, o, h1, h2⟩ := h.at hi
 injection h1 with h1; injection h1 with h3 h4
 subst h3; subst h4
 rw [Nat.zero_add] at h2; exact h2
set_option maxRecDepth 100000 in
set_option maxHeartbeats 3200000 in
theorem eParts_in {W : World} (x : ByteArray) (hp : x.toList.take 4 = magicL) (hz : sizedE (x.size : Int) = true) (rt : Bool) (hrt : (eHeadOf x.toList).right = rt) (fit : Bool) (hfit : decide (eLenOf x.toList ≤ x.size - 24) = fit) :
  Calls Tryz.prog 172 #[.string x] W fun e w' => e = .returned (.tuple (if (rt && fit) = true then #[headV (eHeadOf x.toList), .string (bA (ePayOf x.toList)), .int .u32 (eSumOf x.toList : Nat), .bool true] else #[noHead, .string ⟨#[]⟩, .int .u32 0, .bool false])) ∧ Mods [] W w' := by
 have hlen : x.toList.length = x.size := by rw [Lib.toList_data]; exact Array.length_toList
 have hsz : 128 ≤ x.size ∧ x.size ≤ 1024 := by unfold sizedE at hz; simp at hz; omega
 have cCut := Lib.hid (fun W => cut_any (W := W) x)
 rw [decide_eq_true hp] at cCut
 have cSized := Lib.hid (fun W => eSized_any (W := W) (x.size : Int))
 rw [hz] at cSized
 obtain ⟨k, hk, hk1⟩ : ∃ k, (eHeadOf x.toList).kind = k ∧ k < 256 := ⟨_, rfl, un8_lt _ 1 (by simp; omega)⟩
 obtain ⟨z, hz0⟩ : ∃ z, un8 ((x.toList.drop 5).take 1) = z := ⟨_, rfl⟩
 obtain ⟨n, hn, hn1⟩ : ∃ n, eLenOf x.toList = n ∧ n < 65536 := ⟨_, rfl, un8_lt _ 2 (by simp; omega)⟩
 obtain ⟨a, ha, ha1⟩ : ∃ a : Nat, (eHeadOf x.toList).addr = (a : Int) ∧ a < 4294967296 := ⟨_, rfl, un8_lt _ 4 (by simp; omega)⟩
 obtain ⟨g, hg, hg1⟩ : ∃ g, (eHeadOf x.toList).gen = g ∧ g < 18446744073709551616 := ⟨_, rfl, un8_lt _ 8 (by simp; omega)⟩
 obtain ⟨c, hc, hc1⟩ : ∃ c, eSumOf x.toList = c ∧ c < 4294967296 := ⟨_, rfl, un8_lt _ 4 (by simp; omega)⟩
 have hU : unW widths6 (x.toList.drop 4) = [k, z, n, a, g, c] := by rw [unW6, hk, hz0, hn, ha, hg, hc, Int.toNat_natCast]
 have hH : eHeadOf x.toList = ⟨k, (a : Int), g⟩ := by rw [← hk, ← ha, ← hg]
 rw [hH] at hrt ⊢
 have cRight := Lib.hid (fun W => eHRight_any (W := W) ⟨k, (a : Int), g⟩)
 rw [hrt, headV_nat _ rfl] at cRight
 rw [headV_nat _ rfl, hc]
 have hpay : ePayOf x.toList = (x.toList.drop 24).take n := by unfold ePayOf; rw [hn]
 rw [hpay]
 rw [hn] at hfit
 have HU := Lib.hid hU
 have HL := Lib.hid hlen
 have HF := Lib.hid hfit
 have HPX := Lib.hid hp
 obtain ⟨i0, hi0, hz1, hz2, hz3⟩ := info_parts (show (Tryz.prog.info? 3).map (fun i => (i.zero, i.size, i.bytes)) = some (some (.int .i64 0), 1, 8) by kernel_rfl)
 have HB := Lib.hid (Blk.new W 211 [.int .u8 0, .int .i64 0, .int .u64 0])
 obtain ⟨w1, hw1⟩ : ∃ w1, W.alloc (.cells #[.int .u8 0, .int .i64 0, .int .u64 0] 211) = w1 := ⟨_, rfl⟩
 have hm1 : Mods [] W w1 := by rw [← hw1]; exact (Mods.refl _ _).alloc _
 have HM1 := Lib.hid hm1
 have hwk : IntKind.u8.wrap (k : Int) = (k : Int) := by rw [IntKind.wrap_u8]; omega
 have hwa : IntKind.i64.wrap (a : Int) = (a : Int) := by rw [IntKind.wrap_i64]; omega
 have hwn : IntKind.i64.wrap (n : Int) = (n : Int) := by rw [IntKind.wrap_i64]; omega
 have hwc : IntKind.u32.wrap (c : Int) = (c : Int) := by rw [IntKind.wrap_u32]; omega
 have HW0 : Hid (w1.heap.size = W.heap.size + 1) := Lib.hid (by rw [← hw1]; simp)
 have hge : W.heap.size < w1.heap.size := by have := HW0.out; omega
 clear hlen hp hz hk hz0 hn ha hg hc hU hH hrt hpay hfit hm1
 go_enter Tryz.func172, Tryz.ntmps172
 go_wp2_with (first | (go_at_call 219; refine (cCut.out _).mono ?_; rintro e w' ⟨r, rfl, hr, rfl⟩; have HR := Lib.hid (hr HPX.out); clear hr) | (go_at_call 157; refine (cSized.out _).mono ?_; rintro e w' ⟨rfl, rfl⟩) | (go_at_call 212; refine (eWidths_own _).mono ?_; rintro e w2 ⟨gw, rfl, how, hmw, hgw, hgl⟩) | (at_builtin; refine wpList_append_lies _ rfl (.tmp 27) (.tmp 28) 69 rfl 0 3 i0 (.int .i64 0) 1 8 Tryz.underlying69 hi0 hz1 hz2 hz3 rfl (by decide) _ _ _ rfl (how.alloc _) ⟨w2.heap.size, 0, none⟩ 1 1 [.int .i64 4] rfl rfl (fun j u hj => by rw [addr_add0]; exact (Blk.new w2 3 [.int .i64 4]).cell hj) (by simp [Value.oneCell']) (by decide) (by decide) (by decide) (by simp) (w2.heap.size + 1) (by simp) ?_; intro g2 cap2 w3 hown3 hg3 hat3 hlt3) | (go_at_call 190; refine (read6_any (own_row hown3) r (by have h := congrArg List.length HR.out; rw [List.length_drop, HL.out, Lib.toList_data] at h; have h2 : r.data.toList.length = r.size := Array.length_toList; omega) (by have h := congrArg List.length HR.out; rw [List.length_drop, HL.out, Lib.toList_data] at h; have h2 : r.data.toList.length = r.size := Array.length_toList; omega) (by rw [HR.out]; exact HU.out)).mono ?_; rintro e w4 ⟨gu, capu, rest, rfl, hrow4, hgu, hm4, hrest⟩; have d0 := hrow4.out.c (i := 0) rfl; have d2 := hrow4.out.c (i := 2) rfl; have d3 := hrow4.out.c (i := 3) rfl; have d4 := hrow4.out.c (i := 4) rfl; have d5 := hrow4.out.c (i := 5) rfl))
 have n0 := World.new_ne w4 _ d0
 have n3 := World.new_ne w4 _ d3
 have n4 := World.new_ne w4 _ d4
 go_region_held3 (fun w' => w'.cell? ⟨gu, 0, none⟩ = some (.int .u64 (k : Nat)) ∧ w'.cell? ⟨gu, 3, none⟩ = some (.int .u64 (a : Nat)) ∧ w'.cell? ⟨gu, 4, none⟩ = some (.int .u64 (g : Nat))) (go_keep) (fail)
 have HM4 : Hid (Mods [] w1 w4) := Lib.hid (((hmw.alloc _).grown hg3 (fun q hq => .inr (by have hq2 : some gw = some q := hq; injection hq2 with hq2; omega))).tr hm4)
 obtain ⟨w5, hw5⟩ : ∃ w5, (w4.alloc (.cells #[.int .u8 (k : Nat), .int .i64 (a : Nat), .int .u64 (g : Nat)] 211)).drew = w5 := ⟨_, rfl⟩
 have hb5 : Blk w5 w4.heap.size 211 [.int .u8 (k : Nat), .int .i64 (a : Nat), .int .u64 (g : Nat)] := by rw [← hw5]; exact Blk.new w4 211 [.int .u8 (k : Nat), .int .i64 (a : Nat), .int .u64 (g : Nat)]
 have hm5 : Mods [] w4 w5 := by rw [← hw5]; exact ((Mods.refl _ _).alloc _).drew
 have HB0 : Hid (∀ w', Mods [] w5 w' → Blk w' W.heap.size 211 [.int .u8 0, .int .i64 0, .int .u64 0]) := Lib.hid (fun w' hm => by
  have h := HB.out
  rw [hw1] at h
  exact h.keep ((HM4.out.tr hm5).tr hm) (by simp))
 have HB5 : Hid (∀ w', Mods [] w5 w' → Blk w' w4.heap.size 211 [.int .u8 (k : Nat), .int .i64 (a : Nat), .int .u64 (g : Nat)]) := Lib.hid (fun w' hm => hb5.keep hm (by simp))
 have HROW : Hid (∀ w', Mods [] w5 w' → Row w' (some ⟨gu, 0, none⟩) (u64sRow [k, z, n, a, g, c])) := Lib.hid (fun w' hm => (hrow4.out.keep0 hm5).keep0 hm)
 have HM5 : Hid (Mods [] W w5) := Lib.hid ((HM1.out.tr HM4.out).tr hm5)
 have hrs : rest.size = x.size - 24 := by
  have h1 := congrArg List.length hrest
  have h2 : rest.toList.length = rest.size := by rw [Lib.toList_data]; exact Array.length_toList
  rw [HR.out, List.length_drop, List.length_drop, HL.out] at h1
  omega
 have HRE : Hid (rest.toList = x.toList.drop 24) := Lib.hid (by rw [hrest, HR.out, List.drop_drop])
 have hfit2 : decide (n ≤ rest.size) = fit := by rw [hrs]; exact HF.out
 obtain ⟨q0, q1, q2⟩ : w5.cell? ⟨w4.heap.size, 0, none⟩ = some (.int .u8 (k : Nat)) ∧ w5.cell? ⟨w4.heap.size, 1, none⟩ = some (.int .i64 (a : Nat)) ∧ w5.cell? ⟨w4.heap.size, 2, none⟩ = some (.int .u64 (g : Nat)) := ⟨hb5.cell (i := 0) rfl, hb5.cell (i := 1) rfl, hb5.cell (i := 2) rfl⟩
 have hne1 : ¬ W.heap.size = w4.heap.size := by have := HM4.out.size; omega
 have hne2 : ¬ W.heap.size = gu := by
  have h1 := hmw.size
  have h2 := hg3.size
  simp at h2
  omega
 clear hrs hrest how hmw hgw hgl hown3 hg3 hat3 hlt3 hm4 hb5 hm5 n0 n3 n4 d0 d2 d3 d4 d5 hrow4
 cases rt with
 | false =>
  clear hfit2
  go_wp2_with (go_at_call 158; refine (cRight.out _).mono ?_; rintro e w6 ⟨rfl, hm6⟩; have hb6 := HB0.out w6 hm6; have s0 := hb6.cell (i := 0) rfl; have s1 := hb6.cell (i := 1) rfl; have s2 := hb6.cell (i := 2) rfl; have f0 := hb6.free 0; have f1 := hb6.free 1; have f2 := hb6.free 2)
  obtain ⟨k1, k2⟩ := three_sets hb6 (.int .u8 0) (.int .i64 0) (.int .u64 0)
  refine bodyPost_ret (results_cttt rfl rfl (load_head k1)) rfl ?_
  exact ⟨rfl, (HM5.out.tr hm6).trans k2 (fun k hk => .inr (by rw [List.mem_singleton.1 hk]; exact Nat.le_refl _))⟩
 | true =>
  cases fit with
  | false =>
   have hlt : rest.size < n := by simpa using hfit2
   go_wp2_with (go_at_call 158; refine (cRight.out _).mono ?_; rintro e w6 ⟨rfl, hm6⟩; have hb6 := HB0.out w6 hm6; have s0 := hb6.cell (i := 0) rfl; have s1 := hb6.cell (i := 1) rfl; have s2 := hb6.cell (i := 2) rfl; have f0 := hb6.free 0; have f1 := hb6.free 1; have f2 := hb6.free 2)
   obtain ⟨k1, k2⟩ := three_sets hb6 (.int .u8 0) (.int .i64 0) (.int .u64 0)
   refine bodyPost_ret (results_cttt rfl rfl (load_head k1)) rfl ?_
   exact ⟨rfl, (HM5.out.tr hm6).trans k2 (fun k hk => .inr (by rw [List.mem_singleton.1 hk]; exact Nat.le_refl _))⟩
  | true =>
   have hle : n ≤ rest.size := by simpa using hfit2
   have hle2 : ¬ rest.size < n := by omega
   clear hfit2
   go_wp2_with (go_at_call 158; refine (cRight.out _).mono ?_; rintro e w6 ⟨rfl, hm6⟩; have hb6 := HB0.out w6 hm6; have s0 := hb6.cell (i := 0) rfl; have s1 := hb6.cell (i := 1) rfl; have s2 := hb6.cell (i := 2) rfl; have f0 := hb6.free 0; have f1 := hb6.free 1; have f2 := hb6.free 2; have hb7 := HB5.out w6 hm6; have t0 := hb7.cell (i := 0) rfl; have t1 := hb7.cell (i := 1) rfl; have t2 := hb7.cell (i := 2) rfl; have u5 := (HROW.out w6 hm6).c (i := 5) rfl)
   have hi1 : (0 : Int) ≤ (n : Int) := by omega
   have hi2 : (n : Int) ≤ (rest.size : Int) := by omega
   go_region_held3 (fun w' => w'.cell? ⟨w4.heap.size, 0, none⟩ = some (.int .u8 (k : Nat)) ∧ w'.cell? ⟨w4.heap.size, 1, none⟩ = some (.int .i64 (a : Nat)) ∧ w'.cell? ⟨w4.heap.size, 2, none⟩ = some (.int .u64 (g : Nat)) ∧ w'.cell? ⟨gu, 5, none⟩ = some (.int .u64 (c : Nat))) (go_keep) (fail)
   go_wp2_with fail
   obtain ⟨k1, k2⟩ := three_sets hb6 (.int .u8 (k : Nat)) (.int .i64 (a : Nat)) (.int .u64 (g : Nat))
   refine bodyPost_ret (results_cttt rfl rfl (load_head k1)) rfl ?_
   have hpay : rest.extract 0 n = bA ((x.toList.drop 24).take n) := by
    rw [← HRE.out]
    apply ByteArray.ext
    unfold bA
    apply Array.ext'
    simp [Lib.toList_data]
   refine ⟨?_, ((HM5.out.tr hm6).trans k2 (fun k hk => .inr (by rw [List.mem_singleton.1 hk]; exact Nat.le_refl _))).drew⟩
   rw [← hpay]; rfl
end Go.Proofs.YtkjpdfomppjiiaaGreatDoor
/- env.Open. -/
namespace Go.Proofs.YtkjpdfomppjiiaaGreatDoor
open Go.RowKit

theorem partsL_eq (x : ByteArray) : partsL x.toList = (decide (x.toList.take 4 = magicL) && sizedE (x.size : Int) && ((eHeadOf x.toList).right && decide (eLenOf x.toList ≤ x.size - 24))) := by
 unfold partsL
 rw [show x.toList.length = x.size by rw [Lib.toList_data]; exact Array.length_toList]
theorem eParts_any {W : World} (x : ByteArray) : Calls Tryz.prog 172 #[.string x] W fun e w' => e = .returned (.tuple (if partsL x.toList = true then #[headV (eHeadOf x.toList), .string (bA (ePayOf x.toList)), .int .u32 (eSumOf x.toList : Nat), .bool true] else #[noHead, .string ⟨#[]⟩, .int .u32 0, .bool false])) ∧ Mods [] W w' := by
 rw [partsL_eq]
 by_cases h1 : x.toList.take 4 = magicL
 ·cases h2 : sizedE (x.size : Int) with
  | true =>
   rw [decide_eq_true h1, Bool.true_and, Bool.true_and]
   exact eParts_in x h1 h2 _ rfl _ rfl
  | false =>
   rw [Bool.and_false, Bool.false_and, if_neg (by decide)]
   exact eParts_no x (.inr h2)
 ·rw [decide_eq_false h1, Bool.false_and, Bool.false_and, if_neg (by decide)]
  exact eParts_no x (.inl h1)
def OpenSays (o : Option (EHead × List UInt8)) (hv : Value) (p : ByteArray) (en : Nat) : Prop :=
 match o with
 | some (h, l) => hv = headV h ∧ p = bA l ∧ en = 0
 | none => hv = noHead ∧ p = ⟨#[]⟩ ∧ (en = 4 ∨ en = 5)
set_option maxRecDepth 100000 in
set_option maxHeartbeats 3200000 in
theorem eOpen_yes {W : World} {sb : Nat} (hT : Blk W sb 218 sumRow) {x p : ByteArray} {k a g c : Nat} {l : List UInt8} (cParts : Hid (∀ W, Calls Tryz.prog 172 #[.string x] W fun e w' => e = .returned (.tuple #[.agg #[.int .u8 (k : Nat), .int .i64 (a : Nat), .int .u64 (g : Nat)], .string p, .int .u32 (c : Nat), .bool true]) ∧ Mods [] W w'))
  (cBare : Hid (∀ W, Calls Tryz.prog 160 #[.int .i64 (x.size : Nat), .agg #[.int .u8 (k : Nat), .int .i64 (a : Nat), .int .u64 (g : Nat)], .string p] W fun e w' => ∃ q, e = .returned (.string q) ∧ Hid (q = bA l) ∧ q.size = x.size ∧ Mods [] W w')) (hsz : 128 ≤ x.size ∧ x.size ≤ 1024) (hc : c < 4294967296) (HE1 : Hid (withE (bA l) c = x)) (HE2 : Hid (crcOn 0 l = c)) :
  Calls Tryz.prog 122 #[.pointer (some ⟨sb, 0, none⟩), .string x] W fun e w' => e = .returned (.tuple #[.agg #[.int .u8 (k : Nat), .int .i64 (a : Nat), .int .u64 (g : Nat)], .string p, .int .i64 0]) ∧ Mods [] W w' := by
 obtain ⟨w1, hw1⟩ : ∃ w1, W.alloc (.cells #[.int .u8 0, .int .i64 0, .int .u64 0] 211) = w1 := ⟨_, rfl⟩
 have HB := Lib.hid (Blk.new W 211 [.int .u8 0, .int .i64 0, .int .u64 0])
 have hm1 : Mods [] W w1 := by rw [← hw1]; exact (Mods.refl _ _).alloc _
 have HM1 := Lib.hid hm1
 have HB0 : Hid (∀ w', Mods [] w1 w' → Blk w' W.heap.size 211 [.int .u8 0, .int .i64 0, .int .u64 0]) := Lib.hid (fun w' hm => by
  have h := HB.out
  rw [hw1] at h
  exact h.keep hm (by simp))
 have HT : Hid (∀ w', Mods [] w1 w' → Blk w' sb 218 sumRow) := Lib.hid (fun w' hm => hT.keep (hm1.tr hm) (by simp))
 have hge : W.heap.size < w1.heap.size := by rw [← hw1]; simp
 clear hT hm1
 go_enter Tryz.func122, Tryz.ntmps122
 go_wp2_with (first | (go_at_call 172; refine (cParts.out _).mono ?_; rintro e w2 ⟨rfl, hm2⟩; have hb2 := Blk.new w2 211 [.int .u8 (k : Nat), .int .i64 (a : Nat), .int .u64 (g : Nat)]; have q0 := hb2.cell (i := 0) rfl; have q1 := hb2.cell (i := 1) rfl; have q2 := hb2.cell (i := 2) rfl) | (go_at_call 160; refine (cBare.out _).mono ?_; rintro e w3 ⟨q, rfl, HQ, hqs, hm3⟩; have HM3 := Lib.hid ((hm2.alloc _).tr hm3); have HB6 : Hid (∀ w', Mods [] w1 w' → Mods [] w3 w' → Blk w' w2.heap.size 211 [.int .u8 (k : Nat), .int .i64 (a : Nat), .int .u64 (g : Nat)]) := Lib.hid (fun w' _ hm => (hb2.keep hm3 (by simp)).keep hm (by simp)); clear hb2 q0 q1 q2 hm2 hm3) | (go_at_call 162; refine (eWith_ex q c (by omega) (by omega) hc).mono ?_; rintro e w4 ⟨s5, rfl, HS5, hm4⟩; have HM4 := Lib.hid (HM3.out.tr hm4); have HM34 := Lib.hid (hm4.alloc (.cells #[.string q] 9)); have hs5 : s5 = x := (by rw [HS5.out, HQ.out]; exact HE1.out); clear hm4) | (go_at_call 161; refine (sumOf_ex (HT.out _ (HM4.out.alloc _)) q (Row.new w4 9 [.string q]) (by omega)).mono ?_; rintro e w5 ⟨c2, rfl, HC2, hcl, hm5⟩; have HM5 := Lib.hid ((HM4.out.alloc _).tr hm5); have HM45 := Lib.hid hm5; have hc2 : c2 = c := (by rw [HC2.out, HQ.out, bA_list]; exact HE2.out); clear hm5; have hb6 := HB6.out w5 HM5.out (((Mods.refl _ _).tr HM34.out).tr HM45.out); have q0 := hb6.cell (i := 0) rfl; have q1 := hb6.cell (i := 1) rfl; have q2 := hb6.cell (i := 2) rfl; have hb4 := HB0.out w5 HM5.out; have s0 := hb4.cell (i := 0) rfl; have s1 := hb4.cell (i := 1) rfl; have s2 := hb4.cell (i := 2) rfl; have f0 := hb4.free 0; have f1 := hb4.free 1; have f2 := hb4.free 2))
 obtain ⟨k1, k2⟩ := three_sets hb4 (.int .u8 (k : Nat)) (.int .i64 (a : Nat)) (.int .u64 (g : Nat))
 refine bodyPost_ret (results_ctt rfl rfl (load_head k1)) rfl ?_
 exact ⟨rfl, (HM1.out.tr HM5.out).trans k2 (fun k hk => .inr (by rw [List.mem_singleton.1 hk]; exact Nat.le_refl _))⟩
set_option maxRecDepth 100000 in
set_option maxHeartbeats 3200000 in
theorem eOpen_sum {W : World} {sb : Nat} (hT : Blk W sb 218 sumRow) {x p : ByteArray} {k a g c : Nat} {l : List UInt8} (cParts : Hid (∀ W, Calls Tryz.prog 172 #[.string x] W fun e w' => e = .returned (.tuple #[.agg #[.int .u8 (k : Nat), .int .i64 (a : Nat), .int .u64 (g : Nat)], .string p, .int .u32 (c : Nat), .bool true]) ∧ Mods [] W w'))
  (cBare : Hid (∀ W, Calls Tryz.prog 160 #[.int .i64 (x.size : Nat), .agg #[.int .u8 (k : Nat), .int .i64 (a : Nat), .int .u64 (g : Nat)], .string p] W fun e w' => ∃ q, e = .returned (.string q) ∧ Hid (q = bA l) ∧ q.size = x.size ∧ Mods [] W w')) (hsz : 128 ≤ x.size ∧ x.size ≤ 1024) (hc : c < 4294967296) (HE1 : Hid (withE (bA l) c = x)) (HE2 : Hid (¬ crcOn 0 l = c)) :
  Calls Tryz.prog 122 #[.pointer (some ⟨sb, 0, none⟩), .string x] W fun e w' => e = .returned (.tuple #[noHead, .string ⟨#[]⟩, .int .i64 5]) ∧ Mods [] W w' := by
 obtain ⟨w1, hw1⟩ : ∃ w1, W.alloc (.cells #[.int .u8 0, .int .i64 0, .int .u64 0] 211) = w1 := ⟨_, rfl⟩
 have HB := Lib.hid (Blk.new W 211 [.int .u8 0, .int .i64 0, .int .u64 0])
 have hm1 : Mods [] W w1 := by rw [← hw1]; exact (Mods.refl _ _).alloc _
 have HM1 := Lib.hid hm1
 have HB0 : Hid (∀ w', Mods [] w1 w' → Blk w' W.heap.size 211 [.int .u8 0, .int .i64 0, .int .u64 0]) := Lib.hid (fun w' hm => by
  have h := HB.out
  rw [hw1] at h
  exact h.keep hm (by simp))
 have HT : Hid (∀ w', Mods [] w1 w' → Blk w' sb 218 sumRow) := Lib.hid (fun w' hm => hT.keep (hm1.tr hm) (by simp))
 have hge : W.heap.size < w1.heap.size := by rw [← hw1]; simp
 clear hT hm1
 go_enter Tryz.func122, Tryz.ntmps122
 go_wp2_with (first | (go_at_call 172; refine (cParts.out _).mono ?_; rintro e w2 ⟨rfl, hm2⟩; have hb2 := Blk.new w2 211 [.int .u8 (k : Nat), .int .i64 (a : Nat), .int .u64 (g : Nat)]; have q0 := hb2.cell (i := 0) rfl; have q1 := hb2.cell (i := 1) rfl; have q2 := hb2.cell (i := 2) rfl) | (go_at_call 160; refine (cBare.out _).mono ?_; rintro e w3 ⟨q, rfl, HQ, hqs, hm3⟩; have HM3 := Lib.hid ((hm2.alloc _).tr hm3); clear hb2 q0 q1 q2 hm2 hm3) | (go_at_call 162; refine (eWith_ex q c (by omega) (by omega) hc).mono ?_; rintro e w4 ⟨s5, rfl, HS5, hm4⟩; have HM4 := Lib.hid (HM3.out.tr hm4); have hs5 : s5 = x := (by rw [HS5.out, HQ.out]; exact HE1.out); clear hm4) | (go_at_call 161; refine (sumOf_ex (HT.out _ (HM4.out.alloc _)) q (Row.new w4 9 [.string q]) (by omega)).mono ?_; rintro e w5 ⟨c2, rfl, HC2, hcl, hm5⟩; have HM5 := Lib.hid ((HM4.out.alloc _).tr hm5); have hc2 : ¬ c2 = c := (by rw [HC2.out, HQ.out, bA_list]; exact HE2.out); clear hm5; have hb4 := HB0.out w5 HM5.out; have s0 := hb4.cell (i := 0) rfl; have s1 := hb4.cell (i := 1) rfl; have s2 := hb4.cell (i := 2) rfl; have f0 := hb4.free 0; have f1 := hb4.free 1; have f2 := hb4.free 2))
 obtain ⟨k1, k2⟩ := three_sets hb4 (.int .u8 0) (.int .i64 0) (.int .u64 0)
 refine bodyPost_ret (results_ctt rfl rfl (load_head k1)) rfl ?_
 exact ⟨rfl, (HM1.out.tr HM5.out).trans k2 (fun k hk => .inr (by rw [List.mem_singleton.1 hk]; exact Nat.le_refl _))⟩
set_option maxRecDepth 100000 in
set_option maxHeartbeats 3200000 in
theorem eOpen_form {W : World} {sb : Nat} (hT : Blk W sb 218 sumRow) {x p : ByteArray} {k a g c : Nat} {l : List UInt8} (cParts : Hid (∀ W, Calls Tryz.prog 172 #[.string x] W fun e w' => e = .returned (.tuple #[.agg #[.int .u8 (k : Nat), .int .i64 (a : Nat), .int .u64 (g : Nat)], .string p, .int .u32 (c : Nat), .bool true]) ∧ Mods [] W w'))
  (cBare : Hid (∀ W, Calls Tryz.prog 160 #[.int .i64 (x.size : Nat), .agg #[.int .u8 (k : Nat), .int .i64 (a : Nat), .int .u64 (g : Nat)], .string p] W fun e w' => ∃ q, e = .returned (.string q) ∧ Hid (q = bA l) ∧ q.size = x.size ∧ Mods [] W w')) (hsz : 128 ≤ x.size ∧ x.size ≤ 1024) (hc : c < 4294967296) (HE1 : Hid (¬ withE (bA l) c = x)) :
  Calls Tryz.prog 122 #[.pointer (some ⟨sb, 0, none⟩), .string x] W fun e w' => e = .returned (.tuple #[noHead, .string ⟨#[]⟩, .int .i64 4]) ∧ Mods [] W w' := by
 obtain ⟨w1, hw1⟩ : ∃ w1, W.alloc (.cells #[.int .u8 0, .int .i64 0, .int .u64 0] 211) = w1 := ⟨_, rfl⟩
 have HB := Lib.hid (Blk.new W 211 [.int .u8 0, .int .i64 0, .int .u64 0])
 have hm1 : Mods [] W w1 := by rw [← hw1]; exact (Mods.refl _ _).alloc _
 have HM1 := Lib.hid hm1
 have HB0 : Hid (∀ w', Mods [] w1 w' → Blk w' W.heap.size 211 [.int .u8 0, .int .i64 0, .int .u64 0]) := Lib.hid (fun w' hm => by
  have h := HB.out
  rw [hw1] at h
  exact h.keep hm (by simp))
 have HT : Hid (∀ w', Mods [] w1 w' → Blk w' sb 218 sumRow) := Lib.hid (fun w' hm => hT.keep (hm1.tr hm) (by simp))
 have hge : W.heap.size < w1.heap.size := by rw [← hw1]; simp
 clear hT hm1
 go_enter Tryz.func122, Tryz.ntmps122
 go_wp2_with (first | (go_at_call 172; refine (cParts.out _).mono ?_; rintro e w2 ⟨rfl, hm2⟩; have hb2 := Blk.new w2 211 [.int .u8 (k : Nat), .int .i64 (a : Nat), .int .u64 (g : Nat)]; have q0 := hb2.cell (i := 0) rfl; have q1 := hb2.cell (i := 1) rfl; have q2 := hb2.cell (i := 2) rfl) | (go_at_call 160; refine (cBare.out _).mono ?_; rintro e w3 ⟨q, rfl, HQ, hqs, hm3⟩; have HM3 := Lib.hid ((hm2.alloc _).tr hm3); clear hb2 q0 q1 q2 hm2 hm3) | (go_at_call 162; refine (eWith_ex q c (by omega) (by omega) hc).mono ?_; rintro e w4 ⟨s5, rfl, HS5, hm4⟩; have HM4 := Lib.hid (HM3.out.tr hm4); have hs5 : (s5.toList == x.toList) = false := beq_eq_false_iff_ne.2 (fun h => HE1.out (by rw [← HQ.out, ← HS5.out, ← bA_of s5, h, bA_of])); clear hm4; have hb4 := HB0.out w4 HM4.out; have s0 := hb4.cell (i := 0) rfl; have s1 := hb4.cell (i := 1) rfl; have s2 := hb4.cell (i := 2) rfl; have f0 := hb4.free 0; have f1 := hb4.free 1; have f2 := hb4.free 2))
 obtain ⟨k1, k2⟩ := three_sets hb4 (.int .u8 0) (.int .i64 0) (.int .u64 0)
 refine bodyPost_ret (results_ctt rfl rfl (load_head k1)) rfl ?_
 exact ⟨rfl, (HM1.out.tr HM4.out).trans k2 (fun k hk => .inr (by rw [List.mem_singleton.1 hk]; exact Nat.le_refl _))⟩
set_option maxRecDepth 100000 in
set_option maxHeartbeats 3200000 in
theorem eOpen_any {W : World} {sb : Nat} (hT : Blk W sb 218 sumRow) (x : ByteArray) :
  Calls Tryz.prog 122 #[.pointer (some ⟨sb, 0, none⟩), .string x] W fun e w' => ∃ hv p en, e = .returned (.tuple #[hv, .string p, .int .i64 (en : Nat)]) ∧ OpenSays (openL x.toList) hv p en ∧ Mods [] W w' := by
 have cParts := Lib.hid (fun W => eParts_any (W := W) x)
 obtain ⟨w1, hw1⟩ : ∃ w1, W.alloc (.cells #[.int .u8 0, .int .i64 0, .int .u64 0] 211) = w1 := ⟨_, rfl⟩
 have HB := Lib.hid (Blk.new W 211 [.int .u8 0, .int .i64 0, .int .u64 0])
 have hm1 : Mods [] W w1 := by rw [← hw1]; exact (Mods.refl _ _).alloc _
 have HM1 := Lib.hid hm1
 have HB0 : Hid (∀ w', Mods [] w1 w' → Blk w' W.heap.size 211 [.int .u8 0, .int .i64 0, .int .u64 0]) := Lib.hid (fun w' hm => by
  have h := HB.out
  rw [hw1] at h
  exact h.keep hm (by simp))
 have hge : W.heap.size < w1.heap.size := by rw [← hw1]; simp
 cases hp : partsL x.toList with
 | false =>
  rw [hp, if_neg (by decide)] at cParts
  have ho : openL x.toList = none := by unfold openL; rw [if_neg (by rw [hp]; simp)]
  rw [ho]
  clear hp ho hT hm1
  unfold noHead at cParts
  go_enter Tryz.func122, Tryz.ntmps122
  go_wp2_with (go_at_call 172; refine (cParts.out _).mono ?_; rintro e w2 ⟨rfl, hm2⟩; have hb2 := (HB0.out w2 hm2).alloc (.cells #[.int .u8 0, .int .i64 0, .int .u64 0] 211); have s0 := hb2.cell (i := 0) rfl; have s1 := hb2.cell (i := 1) rfl; have s2 := hb2.cell (i := 2) rfl; have f0 := hb2.free 0; have f1 := hb2.free 1; have f2 := hb2.free 2)
  obtain ⟨k1, k2⟩ := three_sets hb2 (.int .u8 0) (.int .i64 0) (.int .u64 0)
  refine bodyPost_ret (results_ctt rfl rfl (load_head k1)) rfl ?_
  exact ⟨_, _, 4, rfl, ⟨rfl, rfl, .inl rfl⟩, ((HM1.out.tr hm2).alloc _).trans k2 (fun k hk => .inr (by rw [List.mem_singleton.1 hk]; exact Nat.le_refl _))⟩
 | true =>
  rw [hp, if_pos rfl] at cParts
  have hpe := hp
  rw [partsL_eq] at hpe
  simp only [Bool.and_eq_true, decide_eq_true_eq] at hpe
  obtain ⟨⟨_, hz⟩, hr, hfit⟩ := hpe
  have hsz : 128 ≤ x.size ∧ x.size ≤ 1024 := by unfold sizedE at hz; simp at hz; omega
  have hlen : x.toList.length = x.size := by rw [Lib.toList_data]; exact Array.length_toList
  have hg : (eHeadOf x.toList).gen < 18446744073709551616 := un8_lt _ 8 (by simp; omega)
  have hc : eSumOf x.toList < 4294967296 := un8_lt _ 4 (by simp; omega)
  have hps : (bA (ePayOf x.toList)).size + 24 ≤ x.size := by
   rw [bA_size]
   unfold ePayOf
   rw [List.length_take]
   omega
  have cBare := Lib.hid (fun W => eBare_ex (W := W) x.size (eHeadOf x.toList) (bA (ePayOf x.toList)) hsz.2 hr hg hps)
  rw [bA_list] at cBare
  have hbo : bareL x.size (eHeadOf x.toList) (ePayOf x.toList) = bareOf x.toList := by unfold bareOf; rw [hlen]
  rw [hbo] at cBare
  have ho : openL x.toList = if withL (bareOf x.toList) (eSumOf x.toList) = x.toList ∧ crcOn 0 (bareOf x.toList) = eSumOf x.toList then some (eHeadOf x.toList, ePayOf x.toList) else none := by unfold openL; rw [hp]; simp
  have hr1 := hr
  unfold EHead.right placedE at hr1
  simp only [Bool.and_eq_true, decide_eq_true_eq] at hr1
  obtain ⟨⟨_, _⟩, ha1, _⟩ := hr1
  obtain ⟨a, ha⟩ : ∃ a : Nat, (eHeadOf x.toList).addr = (a : Int) := ⟨(eHeadOf x.toList).addr.toNat, by omega⟩
  have HHV := Lib.hid (headV_nat _ ha)
  rw [headV_nat _ ha] at cParts cBare
  obtain ⟨k, hk⟩ : ∃ k, (eHeadOf x.toList).kind = k := ⟨_, rfl⟩
  obtain ⟨g, hgg⟩ : ∃ g, (eHeadOf x.toList).gen = g := ⟨_, rfl⟩
  obtain ⟨c, hcc⟩ : ∃ c, eSumOf x.toList = c := ⟨_, rfl⟩
  obtain ⟨p, hpp⟩ : ∃ p, bA (ePayOf x.toList) = p := ⟨_, rfl⟩
  rw [hk, hgg] at cParts cBare HHV
  rw [hpp] at cParts cBare
  rw [hcc] at cParts ho hc
  have HP := Lib.hid hpp
  have HO := Lib.hid ho
  by_cases h1 : withE (bA (bareOf x.toList)) c = x
  ·by_cases h2 : crcOn 0 (bareOf x.toList) = c
   ·refine (eOpen_yes hT cParts cBare hsz hc (Lib.hid h1) (Lib.hid h2)).mono fun e w' h => ⟨_, _, 0, h.1, ?_, h.2⟩
    rw [HO.out, if_pos ⟨by have h := congrArg ByteArray.toList h1; rw [withE_bA, bA_list] at h; exact h, h2⟩]
    exact ⟨HHV.out.symm, HP.out.symm, rfl⟩
   ·refine (eOpen_sum hT cParts cBare hsz hc (Lib.hid h1) (Lib.hid h2)).mono fun e w' h => ⟨_, _, 5, h.1, ?_, h.2⟩
    rw [HO.out, if_neg (fun h => h2 h.2)]
    exact ⟨rfl, rfl, .inr rfl⟩
  ·refine (eOpen_form hT cParts cBare hsz hc (Lib.hid h1)).mono fun e w' h => ⟨_, _, 4, h.1, ?_, h.2⟩
   rw [HO.out, if_neg (fun h => h1 (by rw [withE_bA, h.1]; exact bA_of x))]
   exact ⟨rfl, rfl, .inl rfl⟩
end Go.Proofs.YtkjpdfomppjiiaaGreatDoor
/- A table's Text. -/
namespace Go.Proofs.YtkjpdfomppjiiaaGreatDoor
open Go.RowKit

theorem rows2 (w : World) (t t2 : TypeId) (l l2 : List Value) : Row ((w.alloc (.cells l.toArray t (0, 0))).alloc (.cells l2.toArray t2 (0, 0))) (some ⟨w.heap.size, 0, none⟩) l ∧ Row ((w.alloc (.cells l.toArray t (0, 0))).alloc (.cells l2.toArray t2 (0, 0))) (some ⟨w.heap.size + 1, 0, none⟩) l2 := by
 refine ⟨(Row.new w t l).keep0 ((Mods.refl _ _).alloc _), ?_⟩
 have h := Row.new (w.alloc (.cells l.toArray t (0, 0))) t2 l2
 have e : (w.alloc (.cells l.toArray t (0, 0))).heap.size = w.heap.size + 1 := by simp
 rw [e] at h; exact h
theorem fits1 {w n : Nat} (h : 1 ≤ w ∧ w ≤ 8) (hn : n < 256 ^ w) : FitsW [w] [n] := ⟨rfl, fun i a b h1 h2 => by
 cases i with
 | zero => cases h1; cases h2; exact ⟨h.1, h.2, hn⟩
 | succ i => simp at h1⟩
theorem lWrite1 {W : World} {A B : Option Addr} {w n c c2 : Nat} (hA : Row W A [.int .i64 (w : Nat)]) (hB : Row W B [.int .u64 (n : Nat)]) (h : 1 ≤ w ∧ w ≤ 8) (hn : n < 256 ^ w) :
  Calls Tryz.prog 163 #[.slice A 1 c, .slice B 1 c2] W fun e w' => ∃ q, e = .returned (.tuple #[.string q, .bool true]) ∧ Hid (q = bA (le8 w n)) ∧ q.size = w ∧ Mods [] W w' :=
 (lWrite_ex (ws := [w]) (ns := [n]) hA hB rfl (by simp) (by simp) (fits1 h hn)).mono fun _ _ ⟨q, h1, h2, h3, h4⟩ => ⟨q, h1, Lib.hid (by rw [h2.out]; simp [leW]), by simpa using h3, h4⟩
theorem mv_shape {w : World} {mv : Value} {l : List Nat} (h : IsMv w mv l) : ∃ A cap, mv = .slice A l.length cap ∧ ∀ (i x : Nat), l[i]? = some x → ∃ g, A = some ⟨g, 0, none⟩ ∧ w.cell? ⟨g, i, none⟩ = some (.int .i64 (x : Nat)) := by
 obtain ⟨A, cap, h1, h2⟩ := owns_shapeD h
 exact ⟨A, cap, h1, fun i x hi => h2 i _ (by simp [mvRow, hi])⟩
set_option maxRecDepth 100000 in
set_option maxHeartbeats 1600000 in
theorem tText_any {W : World} (t : Tab) {mv : Value} (hm : IsMv W mv t.moved) (ho : t.Ok) : Calls Tryz.prog 105 #[tabV t mv] W fun e w' => e = .returned (.string (bA (textL t.moved))) ∧ Mods [] W w' := by
 have hlen := ho.len
 have hsp := ho.spares
 have cGen := Lib.hid (fun W hm => tGen_any (W := W) t (mv := mv) hm ho)
 have HO := Lib.hid ho
 obtain ⟨w1, hw1⟩ : ∃ w1, W.alloc (.cells #[.int .i64 (t.blocks : Nat), .int .i64 (t.spares : Nat), mv] 71) = w1 := ⟨_, rfl⟩
 have hb1 : Blk w1 W.heap.size 71 [.int .i64 (t.blocks : Nat), .int .i64 (t.spares : Nat), mv] := by rw [← hw1]; exact Blk.new W 71 [.int .i64 (t.blocks : Nat), .int .i64 (t.spares : Nat), mv]
 have hm1 : Mods [] W w1 := by rw [← hw1]; exact (Mods.refl _ _).alloc _
 have HMV : Hid (∀ w', Mods [] w1 w' → IsMv w' mv t.moved) := Lib.hid (fun w' h => (hm.keep hm1 (by simp)).keep h (by simp))
 have HB1 : Hid (∀ w', Mods [] w1 w' → Blk w' W.heap.size 71 [.int .i64 (t.blocks : Nat), .int .i64 (t.spares : Nat), mv]) := Lib.hid (fun w' h => hb1.keep h (by simp))
 obtain ⟨A, cap, hmv, hcell⟩ := mv_shape hm
 have HCE : Hid (∀ w', Mods [] w1 w' → ∀ (i x : Nat), t.moved[i]? = some x → ∃ g, A = some ⟨g, 0, none⟩ ∧ w'.cell? ⟨g, i, none⟩ = some (.int .i64 (x : Nat))) := Lib.hid (fun w' h i x hi => by
  obtain ⟨A2, cap2, e2, h2⟩ := mv_shape (HMV.out w' h)
  rw [hmv] at e2
  injection e2 with e2 _ _
  rw [e2]
  exact h2 i x hi)
 have HM1 := Lib.hid hm1
 have hb2 := HB1.out (w1.alloc (.cells #[.int .i64 8] 3)) ((Mods.refl _ _).alloc _)
 have q0 := hb2.cell (i := 0) rfl
 have q1 := hb2.cell (i := 1) rfl
 have q2 := hb2.cell (i := 2) rfl
 obtain ⟨n, hn⟩ : ∃ n, t.moved.length = n := ⟨_, rfl⟩
 rw [hn] at cGen hmv
 have hn1 : n ≤ 32 := by omega
 have HN := Lib.hid hn
 subst hmv
 unfold tabV at cGen ⊢
 clear hb2 hm hm1 hb1 ho hcell hlen hsp hn
 go_enter Tryz.func105, Tryz.ntmps105
 go_wp2_with (first | (go_at_call 104; refine (cGen.out _ (HMV.out _ ((Mods.refl _ _).alloc _))).mono ?_; rintro e w2 ⟨rfl, hm2⟩; have hm2' := ((Mods.refl [] w1).alloc (.cells #[.int .i64 8] 3)).tr hm2) | (go_at_call 163; refine (lWrite1 (w := 8) (n := n) ((Row.new w1 3 [.int .i64 8]).keep0 (hm2.tr ((Mods.refl _ _).alloc _))) (Row.new w2 42 [.int .u64 (n : Nat)]) (by decide) (by omega)).mono ?_; rintro e w3 ⟨q, rfl, HQ, hq8, hm3⟩; have HM3 := Lib.hid ((hm2'.alloc _).tr hm3); have p2 := (HB1.out _ HM3.out).cell (i := 2) rfl))
 go_loopw [3, 6, 7, 8, 20] (fun sv _ _ _ iv wr => ∃ (k : Nat) (s : ByteArray), k ≤ n ∧ iv = .int .i64 k ∧ sv = .string s ∧ Hid (s = bA (le8 8 n ++ (t.moved.take k).flatMap (le8 2))) ∧ s.size = 8 + 2 * k ∧ Hid (Mods [] w1 wr)) (fun _ _ _ _ iv _ => n - (intOf iv).toNat)
 case atStart => exact ⟨0, q, Nat.zero_le _, rfl, rfl, Lib.hid (by rw [HQ.out]; simp), by omega, HM3⟩
 case round =>
  obtain ⟨k, s, hk, rfl, rfl, HS, hss, HM⟩ := hrel
  by_cases hkn : k < n
  ·obtain ⟨x, hx⟩ : ∃ x, t.moved[k]? = some x := ⟨_, List.getElem?_eq_getElem (by rw [HN.out]; exact hkn)⟩
   obtain ⟨g, rfl, c0⟩ := HCE.out _ HM.out k x hx
   have hxl : x < 4096 := by
    have h1 := HO.out.each x (List.mem_of_getElem? hx)
    have h2 := HO.out.blocks
    omega
   have hwx : IntKind.u64.wrap (x : Int) = (x : Int) := by rw [IntKind.wrap_u64]; omega
   have HX := Lib.hid hx
   have hbig : ¬ 9223372036854775807 < 8 + 2 * k + 2 := by omega
   clear hx
   obtain ⟨r1, r2⟩ := rows2 wr 3 42 [.int .i64 2] [.int .u64 (x : Nat)]
   have R1 := Lib.hid r1
   have R2 := Lib.hid r2
   clear r1 r2
   go_wp2_with (go_at_call 163; refine (lWrite1 (w := 2) (n := x) R1.out R2.out (by decide) (by omega)).mono ?_; rintro e w4 ⟨q2, rfl, HQ2, hq2, hm4⟩; have HM4 := Lib.hid (((HM.out.alloc _).alloc _).tr hm4); clear hm4)
   go_roundw
   case rel =>
    refine ⟨k + 1, _, hkn, by simp, rfl, Lib.hid ?_, ?_, HM4⟩
    ·rw [HS.out, HQ2.out, bA_app, List.take_add_one, HX.out]
     simp
    ·rw [ByteArray.size_append, hss, hq2]; omega
   case measure => simp [intOf]; omega
  ·obtain rfl : k = n := by omega
   go_wp2_with fail
   go_ret
   refine ⟨?_, HM1.out.tr HM.out⟩
   have hs2 : s = bA (textL t.moved) := by
    rw [HS.out]
    unfold textL
    rw [HN.out, List.take_of_length_le (by rw [HN.out]; exact Nat.le_refl _)]
   rw [← hs2]; rfl
end Go.Proofs.YtkjpdfomppjiiaaGreatDoor
/- A table's Parse. -/
namespace Go.Proofs.YtkjpdfomppjiiaaGreatDoor
open Go.RowKit

theorem lRead1 {W : World} {A : Option Addr} {w c : Nat} (hA : Row W A [.int .i64 (w : Nat)]) (h : 1 ≤ w ∧ w ≤ 8) (s : ByteArray) (hs : w ≤ s.size) (hm : s.size ≤ 1000000) :
  Calls Tryz.prog 190 #[.slice A 1 c, .string s] W fun e w' => ∃ gu cap rest, e = .returned (.tuple #[.slice (some ⟨gu, 0, none⟩) 1 cap, .string rest, .bool true]) ∧ Hid (Row w' (some ⟨gu, 0, none⟩) [.int .u64 (un8 (s.toList.take w) : Nat)]) ∧ W.heap.size ≤ gu ∧ Mods [] W w' ∧ Hid (rest.toList = s.toList.drop w) := by
 refine (lRead_anyC (A := A) (ws := [w]) (c := c) hA rfl (by simp) (by simp) (by intro x hx; rw [List.mem_singleton.1 hx]; exact h) s (by simpa using hs) hm).mono ?_
 rintro e w4 ⟨u, rest, rfl, hu, hm4, hr⟩
 obtain ⟨A2, cap, rfl, hc⟩ := owns_shapeD hu
 obtain ⟨gu, rfl, _⟩ := hc 0 (.int .u64 (un8 (s.toList.take w) : Nat)) rfl
 exact ⟨gu, cap, rest, rfl, Lib.hid (own_row hu), (owns_ltF hu rfl).1, hm4, Lib.hid (by simpa using hr)⟩
theorem lRead0 {W : World} {A : Option Addr} {w c : Nat} (hA : Row W A [.int .i64 (w : Nat)]) (h : 1 ≤ w ∧ w ≤ 8) (s : ByteArray) (hs : s.size < w) :
  Calls Tryz.prog 190 #[.slice A 1 c, .string s] W fun e w' => e = .returned (.tuple #[.slice none 0 0, .string ⟨#[]⟩, .bool false]) ∧ W = w' :=
 lRead_shortC (A := A) (ws := [w]) (c := c) hA rfl (by simp) (by simp) (by intro x hx; rw [List.mem_singleton.1 hx]; exact h) s (by simpa using hs)
theorem rowS (w : World) (o : Obj) (t : TypeId) (l : List Value) : Row ((w.alloc o).alloc (.cells l.toArray t (0, 0))) (some ⟨w.heap.size + 1, 0, none⟩) l := by
 have h := Row.new (w.alloc o) t l
 have e : (w.alloc o).heap.size = w.heap.size + 1 := by simp
 rw [e] at h; exact h
theorem size_list (s : ByteArray) : s.toList.length = s.size := by rw [Lib.toList_data]; exact Array.length_toList
theorem Tab.zero_ok : Tab.zero.Ok := ⟨by decide, by decide, by decide, fun x hx => by cases hx⟩
def ParseSays (o : Option Tab) (t : Tab) (en : Nat) : Prop :=
 match o with
 | some u => t = u ∧ en = 0
 | none => t = Tab.zero ∧ en = 4
set_option maxRecDepth 100000 in
set_option maxHeartbeats 1600000 in
theorem tParse_short {W : World} (s : ByteArray) (hs : s.size < 8) (b n : Nat) (hb0 : 1 ≤ b) (hb1 : b ≤ 4096) (hn : n ≤ 32) :
  Calls Tryz.prog 187 #[.string s, .int .i64 (b : Nat), .int .i64 (n : Nat)] W fun e w' => e = .returned (.tuple #[tabV Tab.zero (.slice none 0 0), .int .i64 4]) ∧ Mods [] W w' := by
 have cNew := Lib.hid (fun W => tNew_any (W := W) b n hb0 hb1 hn)
 obtain ⟨w1, hw1⟩ : ∃ w1, W.alloc (.cells #[.int .i64 0, .int .i64 0, .slice none 0 0] 71) = w1 := ⟨_, rfl⟩
 have hx1 : Blk w1 W.heap.size 71 [.int .i64 0, .int .i64 0, .slice none 0 0] := by rw [← hw1]; exact Blk.new W 71 [.int .i64 0, .int .i64 0, .slice none 0 0]
 have hm1 : Mods [] W w1 := by rw [← hw1]; exact (Mods.refl _ _).alloc _
 have HR1 : Hid (∀ w', Mods [] w1 w' → Blk w' W.heap.size 71 [.int .i64 0, .int .i64 0, .slice none 0 0]) := Lib.hid (fun w' hm => hx1.keep hm (by simp))
 have HM1 := Lib.hid hm1
 have hge : W.heap.size < w1.heap.size := by rw [← hw1]; simp
 unfold tabV at cNew
 clear hx1 hm1
 go_enter Tryz.func187, Tryz.ntmps187
 go_wp2_with (first | (go_at_call 111; refine (cNew.out _).mono ?_; rintro e w2 ⟨rfl, hm2⟩; have HM2 := Lib.hid hm2; clear hm2; have R8 := Lib.hid (rowS w2 (.cells #[.int .i64 (b : Nat), .int .i64 (n : Nat), .slice none 0 0] 71) 3 [.int .i64 8])) | (go_at_call 190; refine (lRead0 (w := 8) R8.out (by decide) s hs).mono ?_; rintro e w4 ⟨rfl, hw4⟩; have HM4 : Hid (Mods [] w1 w4) := Lib.hid (by rw [← hw4]; exact (HM2.out.alloc _).alloc _); clear hw4))
 have hx4 := HR1.out w4 HM4.out
 have s0 := hx4.cell (i := 0) rfl
 have s1 := hx4.cell (i := 1) rfl
 have s2 := hx4.cell (i := 2) rfl
 have f0 := hx4.free 0
 have f1 := hx4.free 1
 have f2 := hx4.free 2
 refine wp_loop_rounds 1 ?_
 rw [rounds_succ]
 go_wp2_with fail
 go_quiet (fail)
 go_wp2_with fail
 obtain ⟨k1, k2⟩ := three_sets (hx4.drewN nq) (.int .i64 0) (.int .i64 0) (.slice none 0 0)
 refine bodyPost_ret (results_ct rfl rfl (load_tab k1)) rfl ?_
 exact ⟨rfl, ((HM1.out.tr HM4.out).drewN nq).trans k2 (fun k hk => .inr (by rw [List.mem_singleton.1 hk]; exact Nat.le_refl _))⟩
theorem Tab.Ok.mv {t : Tab} (h : t.Ok) (i : Int) : (t.move i).1.Ok := by
 unfold Tab.move
 split
 ·exact Tab.zero_ok
 ·split
  ·exact Tab.zero_ok
  ·rename_i h1 h2
   have hb : t.isB i = true := by simpa using h1
   obtain ⟨k, rfl, hk⟩ := Tab.isB_nat hb
   refine ⟨h.blocks, h.spares, ?_, ?_⟩
   ·simp; omega
   ·intro x hx
    rcases List.mem_append.1 hx with hx | hx
    ·exact h.each x hx
    ·rw [List.mem_singleton.1 hx]; simpa using hk
theorem eat_step (t : Tab) : ∀ l : List UInt8, 2 ≤ l.length → eatL t l = if (t.move (un8 (l.take 2) : Nat)).2 = 0 then eatL (t.move (un8 (l.take 2) : Nat)).1 (l.drop 2) else none
 | [], h => by simp at h
 | [_], h => by simp at h
 | a :: b :: l, _ => by rw [eatL]; rfl
theorem eat_one (t : Tab) : ∀ l : List UInt8, l.length = 1 → eatL t l = none
 | [], h => by simp at h
 | [_], _ => rfl
 | a :: b :: l, h => by simp at h
def okOf : Value → Nat
 | .bool true => 1
 | _ => 0
def szOf : Value → Nat
 | .string s => s.size
 | _ => 0
theorem tab_sets {w : World} {b : Nat} {mv0 mv : Value} {t0 t : Tab} (h : Blk w b 71 [.int .i64 (t0.blocks : Nat), .int .i64 (t0.spares : Nat), mv0]) :
  Blk (((w.setCell ⟨b, 0, none⟩ (.int .i64 (t.blocks : Nat))).setCell ⟨b, 1, none⟩ (.int .i64 (t.spares : Nat))).setCell ⟨b, 2, none⟩ mv) b 71 [.int .i64 (t.blocks : Nat), .int .i64 (t.spares : Nat), mv] := (three_sets h _ _ _).1
structure PInv (w4 wr : World) (tb : Nat) (t : Tab) (mv : Value) (r : ByteArray) (ok : Bool) (eat0 : Option Tab) : Prop where
 blk : Blk wr tb 71 [.int .i64 (t.blocks : Nat), .int .i64 (t.spares : Nat), mv]
 mvs : IsMv wr mv t.moved
 tok : t.Ok
 fresh : ∀ g, mv.ownBlock = some g → w4.heap.size ≤ g
 ms : Mods [tb] w4 wr
 eat : eat0 = if ok = true then eatL t r.toList else none
set_option maxRecDepth 100000 in
set_option maxHeartbeats 6400000 in
theorem tParse_long {W : World} (s : ByteArray) (hs : 8 ≤ s.size) (hs1 : s.size ≤ 1000000) (b n : Nat) (hb0 : 1 ≤ b) (hb1 : b ≤ 4096) (hn : n ≤ 32) :
  Calls Tryz.prog 187 #[.string s, .int .i64 (b : Nat), .int .i64 (n : Nat)] W fun e w' => ∃ (t : Tab) (mv : Value) (en : Nat), e = .returned (.tuple #[tabV t mv, .int .i64 (en : Nat)]) ∧ ParseSays (parseL s.toList b n) t en ∧ IsMv w' mv t.moved ∧ (∀ g, mv.ownBlock = some g → W.heap.size ≤ g) ∧ Mods [] W w' := by
 have cNew := Lib.hid (fun W => tNew_any (W := W) b n hb0 hb1 hn)
 obtain ⟨w1, hw1⟩ : ∃ w1, W.alloc (.cells #[.int .i64 0, .int .i64 0, .slice none 0 0] 71) = w1 := ⟨_, rfl⟩
 have hx1 : Blk w1 W.heap.size 71 [.int .i64 0, .int .i64 0, .slice none 0 0] := by rw [← hw1]; exact Blk.new W 71 [.int .i64 0, .int .i64 0, .slice none 0 0]
 have hm1 : Mods [] W w1 := by rw [← hw1]; exact (Mods.refl _ _).alloc _
 have HR1 : Hid (∀ w', Mods [] w1 w' → Blk w' W.heap.size 71 [.int .i64 0, .int .i64 0, .slice none 0 0]) := Lib.hid (fun w' hm => hx1.keep hm (by simp))
 have HM1 := Lib.hid hm1
 have hge : W.heap.size < w1.heap.size := by rw [← hw1]; simp
 obtain ⟨eat0, heat⟩ : ∃ o, eatL ⟨b, n, []⟩ (s.toList.drop 8) = o := ⟨_, rfl⟩
 have HEAT := Lib.hid heat
 unfold tabV at cNew
 clear hx1 hm1 heat
 go_enter Tryz.func187, Tryz.ntmps187
 go_wp2_with (first | (go_at_call 111; refine (cNew.out _).mono ?_; rintro e w2 ⟨rfl, hm2⟩; have R8 := Lib.hid (rowS w2 (.cells #[.int .i64 (b : Nat), .int .i64 (n : Nat), .slice none 0 0] 71) 3 [.int .i64 8])) | (go_at_call 190; refine (lRead1 (w := 8) R8.out (by decide) s hs hs1).mono ?_; rintro e w4 ⟨gg, gcap, rest, rfl, HGR, hgg, hm4, HREST⟩; have HM4 : Hid (Mods [] w1 w4) := Lib.hid (((hm2.alloc _).alloc _).tr hm4); have HT4 : Hid (Blk w4 w2.heap.size 71 [.int .i64 (b : Nat), .int .i64 (n : Nat), .slice none 0 0]) := Lib.hid ((Blk.new w2 71 [.int .i64 (b : Nat), .int .i64 (n : Nat), .slice none 0 0]).keep (((Mods.refl _ _).alloc _).tr hm4) (by simp)); have htb : w1.heap.size ≤ w2.heap.size := hm2.size; have hgt : w2.heap.size < gg := by (simp at hgg; omega)))
 obtain ⟨tb, htbe⟩ : ∃ tb, w2.heap.size = tb := ⟨_, rfl⟩
 rw [htbe] at HT4 hgt htb ⊢
 clear R8 hm2 hm4 hgg htbe
 go_loopw [0, 9, 11, 12] (fun sv _ okv _ wr => ∃ (t : Tab) (mv : Value) (r : ByteArray) (ok : Bool), sv = .string r ∧ okv = .bool ok ∧ r.size ≤ 1000000 ∧ Hid (PInv w4 wr tb t mv r ok eat0)) (fun sv _ okv _ _ => okOf okv + szOf sv)
 case atStart =>
  refine ⟨⟨b, n, []⟩, .slice none 0 0, rest, true, rfl, rfl, ?_, Lib.hid ⟨HT4.out, IsMv.nil _, ⟨hb1, hn, Nat.zero_le _, fun x hx => (by cases hx)⟩, fun g hg => (by cases hg), Mods.refl _ _, ?_⟩⟩
  ·have h := congrArg List.length HREST.out
   rw [List.length_drop, size_list, size_list] at h
   omega
  ·rw [if_pos rfl, HREST.out]; exact HEAT.out.symm
 case round =>
  obtain ⟨t, mv, r, ok, rfl, rfl, hrs, HI⟩ := hrel
  have HMW : Hid (Mods [] w1 wr) := Lib.hid (HM4.out.trans HI.out.ms (fun k hk => .inr (by rw [List.mem_singleton.1 hk]; exact htb)))
  cases ok with
  | false =>
   have he : parseL s.toList b n = none := by
    have h := HI.out.eat
    rw [if_neg (by decide)] at h
    unfold parseL
    rw [if_neg (by rw [size_list]; omega), HEAT.out, h]; rfl
   have HE := Lib.hid he
   have hx4 := HR1.out wr HMW.out
   have s0 := hx4.cell (i := 0) rfl
   have s1 := hx4.cell (i := 1) rfl
   have s2 := hx4.cell (i := 2) rfl
   have f0 := hx4.free 0
   have f1 := hx4.free 1
   have f2 := hx4.free 2
   clear he
   go_wp2_with fail
   go_quiet (fail)
   go_wp2_with fail
   obtain ⟨k1, k2⟩ := three_sets (hx4.drewN nq) (.int .i64 0) (.int .i64 0) (.slice none 0 0)
   refine bodyPost_ret (results_ct rfl rfl (load_tab k1)) rfl ?_
   rw [HE.out]
   exact ⟨Tab.zero, .slice none 0 0, 4, rfl, ⟨rfl, rfl⟩, IsMv.nil _, fun g hg => (by cases hg), ((HM1.out.tr HMW.out).drewN nq).trans k2 (fun k hk => .inr (by rw [List.mem_singleton.1 hk]; exact Nat.le_refl _))⟩
  | true =>
   by_cases hr0 : r.size = 0
   ·obtain rfl : r = ⟨#[]⟩ := ByteArray.ext (Array.eq_empty_of_size_eq_zero hr0)
    have he : eat0 = some t := by
     have h := HI.out.eat
     rw [if_pos rfl, show (⟨#[]⟩ : ByteArray).toList = [] by rw [Lib.toList_data]] at h
     exact h
    obtain ⟨A7, c7, e7, _⟩ := mv_shape HI.out.mvs
    subst e7
    have hgc : w4.cell? ⟨gg, 0, none⟩ = some (.int .u64 (un8 (s.toList.take 8) : Nat)) := HGR.out.c (i := 0) rfl
    have g0 : wr.cell? ⟨gg, 0, none⟩ = some (.int .u64 (un8 (s.toList.take 8) : Nat)) := (HI.out.ms.cell (World.block_lt_of_cell? _ _ hgc) (by simp; omega)).trans hgc
    have hbt := HI.out.blk
    have b0 := hbt.cell (i := 0) rfl
    have b1 := hbt.cell (i := 1) rfl
    have b2 := hbt.cell (i := 2) rfl
    obtain ⟨y, hy⟩ : ∃ y, un8 (s.toList.take 8) = y := ⟨_, rfl⟩
    have hp : parseL s.toList b n = if y = t.moved.length then some t else none := by
     unfold parseL
     rw [if_neg (by rw [size_list]; omega), HEAT.out, he, hy]; rfl
    have HPA := Lib.hid hp
    obtain ⟨m, hm⟩ : ∃ m, t.moved.length = m := ⟨_, rfl⟩
    have cGen := Lib.hid (fun W hm => tGen_any (W := W) t (mv := .slice A7 t.moved.length c7) hm HI.out.tok)
    rw [hm] at cGen b2 hbt
    rw [hy] at g0
    have HMM := Lib.hid hm
    unfold tabV at cGen
    have HMV5 : Hid (IsMv wr.drew (.slice A7 m c7) t.moved) := Lib.hid (by rw [← hm]; exact IsMv.keep HI.out.mvs (Mods.refl [] wr).drew (by simp))
    have hfresh := Lib.hid HI.out.fresh
    clear hgc hp hy hm he
    go_wp2_with fail
    go_region_held3 (fun w' => w'.cell? ⟨tb, 0, none⟩ = some (.int .i64 (t.blocks : Nat)) ∧ w'.cell? ⟨tb, 1, none⟩ = some (.int .i64 (t.spares : Nat)) ∧ w'.cell? ⟨tb, 2, none⟩ = some (.slice A7 m c7) ∧ w'.cell? ⟨gg, 0, none⟩ = some (.int .u64 (y : Nat)))
     (go_keep)
     (first | (go_at_call 104; refine (cGen.out _ HMV5.out).mono ?_; rintro e w6 ⟨rfl, hm6⟩; have HM6 : Hid (Mods [] wr w6) := Lib.hid (((Mods.refl _ _).drew).tr hm6); have hb6 := hbt.keep HM6.out (by simp); have b0 := hb6.cell (i := 0) rfl; have b1 := hb6.cell (i := 1) rfl; have b2 := hb6.cell (i := 2) rfl; have g0 := (HM6.out.cell (World.block_lt_of_cell? _ _ g0) (by simp)).trans g0))
    have hx6 := HR1.out w6 (HMW.out.tr HM6.out)
    have s0 := hx6.cell (i := 0) rfl
    have s1 := hx6.cell (i := 1) rfl
    have s2 := hx6.cell (i := 2) rfl
    have f0 := hx6.free 0
    have f1 := hx6.free 1
    have f2 := hx6.free 2
    by_cases hym : y = m
    ·subst hym
     go_wp2_with fail
     obtain ⟨k1, k2⟩ := three_sets hx6 (.int .i64 (t.blocks : Nat)) (.int .i64 (t.spares : Nat)) (.slice A7 y c7)
     refine bodyPost_ret (results_ct rfl rfl (load_tab k1)) rfl ?_
     rw [HPA.out, if_pos HMM.out.symm]
     have hsz4 : w1.heap.size ≤ w4.heap.size := HM4.out.size
     refine ⟨t, .slice A7 t.moved.length c7, 0, by rw [HMM.out]; rfl, ⟨rfl, rfl⟩, IsMv.keep (IsMv.keep HI.out.mvs HM6.out (by simp)) k2 (fun g hg => ?_), fun g hg => ?_, ((HM1.out.tr HMW.out).tr HM6.out).trans k2 (fun k hk => .inr (by rw [List.mem_singleton.1 hk]; exact Nat.le_refl _))⟩
     ·have := hfresh.out g hg
      simp; omega
     ·have := hfresh.out g hg
      omega
    ·have hne2 : ¬ (y : Int) = (m : Int) := by omega
     go_wp2_with fail
     obtain ⟨k1, k2⟩ := three_sets hx6 (.int .i64 0) (.int .i64 0) (.slice none 0 0)
     refine bodyPost_ret (results_ct rfl rfl (load_tab k1)) rfl ?_
     rw [HPA.out, if_neg (by rw [HMM.out]; exact hym)]
     exact ⟨Tab.zero, .slice none 0 0, 4, rfl, ⟨rfl, rfl⟩, IsMv.nil _, fun g hg => (by cases hg), ((HM1.out.tr HMW.out).tr HM6.out).trans k2 (fun k hk => .inr (by rw [List.mem_singleton.1 hk]; exact Nat.le_refl _))⟩
   ·by_cases hr2 : r.size < 2
    ·have hne : r.toList.isEmpty = false := by
      rw [List.isEmpty_eq_false_iff]
      intro h
      have h2 := congrArg List.length h
      rw [size_list] at h2
      exact hr0 h2
     go_wp2_with (go_at_call 190; refine (lRead0 (w := 2) (Row.new wr 3 [.int .i64 2]) (by decide) r hr2).mono ?_; rintro e w5 ⟨rfl, hw5⟩; have HM5 : Hid (Mods [] wr w5) := Lib.hid (by rw [← hw5]; exact (Mods.refl _ _).alloc _); clear hw5)
     go_roundw
     case rel =>
      refine ⟨t, mv, ⟨#[]⟩, false, rfl, rfl, by decide, Lib.hid ⟨HI.out.blk.keep HM5.out (by simp), IsMv.keep HI.out.mvs HM5.out (by simp), HI.out.tok, HI.out.fresh, HI.out.ms.trans HM5.out (by simp), ?_⟩⟩
      rw [HI.out.eat, if_pos rfl, eat_one _ _ (by rw [size_list]; omega)]; rfl
     case measure => simp [okOf, szOf]; show 0 < _; omega
    ·have hne : r.toList.isEmpty = false := by
      rw [List.isEmpty_eq_false_iff]
      intro h
      have h2 := congrArg List.length h
      rw [size_list] at h2
      exact hr0 h2
     obtain ⟨x, hx⟩ : ∃ x, un8 (r.toList.take 2) = x := ⟨_, rfl⟩
     have hxl : x < 65536 := by rw [← hx]; exact un8_lt _ 2 (by simp; omega)
     have hwx : IntKind.i64.wrap (x : Int) = (x : Int) := by rw [IntKind.wrap_i64]; omega
     obtain ⟨t2, ht2⟩ : ∃ t2, (t.move (x : Int)).1 = t2 := ⟨_, rfl⟩
     obtain ⟨en, hen⟩ : ∃ en, (t.move (x : Int)).2 = en := ⟨_, rfl⟩
     have cMove := Lib.hid (fun W hm => tMove_any (W := W) (t := t) (mv := mv) hm HI.out.tok (x : Int))
     rw [ht2, hen] at cMove
     unfold tabV at cMove
     have HX := Lib.hid hx
     have HT2 := Lib.hid (And.intro ht2 hen)
     have hRd := Lib.hid (fun (hA : Row (wr.alloc (.cells #[.int .i64 2] 3)) (some ⟨wr.heap.size, 0, none⟩) [.int .i64 (2 : Nat)]) => lRead1 (c := 1) hA (by decide) r (by omega) (by omega))
     rw [hx] at hRd
     clear hx ht2 hen
     have hmvb : ∀ g, mv.ownBlock = some g → g ∉ ([] : List Nat) := by simp
     go_wp2_with (go_at_call 190; refine (hRd.out (Row.new wr 3 [.int .i64 2])).mono ?_; rintro e w5 ⟨gu, gc, rest2, rfl, HGU, hgu, hm5, HR2⟩; have HM5 : Hid (Mods [] wr w5) := Lib.hid (((Mods.refl _ _).alloc _).tr hm5); have hb5 := HI.out.blk.keep HM5.out (by simp); have b0 := hb5.cell (i := 0) rfl; have b1 := hb5.cell (i := 1) rfl; have b2 := hb5.cell (i := 2) rfl; have u0 := HGU.out.c (i := 0) rfl)
     have HMV5 : Hid (IsMv w5.drew mv t.moved) := Lib.hid (IsMv.keep HI.out.mvs HM5.out.drew hmvb)
     go_region_with (first | (go_at_call 229; refine (cMove.out _ HMV5.out).mono ?_; rintro e w6 ⟨mv6, rfl, hmv6, hm6, hfr6⟩; obtain ⟨A6, c6, e6, _⟩ := mv_shape hmv6; subst e6; have HM6 : Hid (Mods [] w5 w6) := Lib.hid (((Mods.refl _ _).drew).tr hm6); have hb6 := hb5.keep HM6.out (by simp); have b0 := hb6.cell (i := 0) rfl; have b1 := hb6.cell (i := 1) rfl; have b2 := hb6.cell (i := 2) rfl; have f0 := hb6.free 0; have f1 := hb6.free 1; have f2 := hb6.free 2; have u0 := (HGU.out.keep0 HM6.out).c (i := 0) rfl))
     all_goals
      have HBB := Lib.hid hb6
      have HV6 := Lib.hid hmv6
      have hen2 : (en = 0) ∨ ¬ en = 0 := by omega
      have hst : eat0 = if en = 0 then eatL t2 rest2.toList else none := by
       rw [HI.out.eat, if_pos rfl, eat_step _ _ (by rw [size_list]; omega), HX.out, HT2.out.1, HT2.out.2, HR2.out]
      have HST := Lib.hid hst
      have hr3 : rest2.size + 2 = r.size := by
       have h := congrArg List.length HR2.out
       rw [List.length_drop, size_list, size_list] at h
       omega
      have HFR := Lib.hid hfr6
      clear hst hb6 hmv6 hfr6
      have hset : Mods [tb] w6 (((w6.setCell ⟨tb, 0, none⟩ (.int .i64 (t2.blocks : Nat))).setCell ⟨tb, 1, none⟩ (.int .i64 (t2.spares : Nat))).setCell ⟨tb, 2, none⟩ (.slice A6 t2.moved.length c6)) := (((Mods.refl _ _).setCell (.inl (by simp)) _).setCell (.inl (by simp)) _).setCell (.inl (by simp)) _
      have HSET := Lib.hid hset
      have hwsz : w4.heap.size ≤ w5.heap.size := Nat.le_trans HI.out.ms.size HM5.out.size
      have htw : tb < w4.heap.size := HT4.out.lt
      have HP : Hid (PInv w4 (((w6.setCell ⟨tb, 0, none⟩ (.int .i64 (t2.blocks : Nat))).setCell ⟨tb, 1, none⟩ (.int .i64 (t2.spares : Nat))).setCell ⟨tb, 2, none⟩ (.slice A6 t2.moved.length c6)) tb t2 (.slice A6 t2.moved.length c6) rest2 (decide (en = 0)) eat0) := by
       refine Lib.hid ⟨tab_sets HBB.out, IsMv.keep HV6.out HSET.out (fun g hg => ?_), ?_, fun g hg => ?_, ((HI.out.ms.trans HM5.out (by simp)).trans HM6.out (by simp)).trans HSET.out (by simp), ?_⟩
       ·have h := HFR.out g hg
        have h2 : w5.heap.size ≤ g := h
        simp; omega
       ·rw [← HT2.out.1]; exact HI.out.tok.mv _
       ·have h := HFR.out g hg
        have h2 : w5.heap.size ≤ g := h
        omega
       ·rw [HST.out]; simp
      clear hset hwsz htw
      rcases hen2 with rfl | hen0
      ·go_wp2_with fail
       go_roundw
       case rel => exact ⟨t2, _, rest2, true, rfl, rfl, by omega, HP⟩
       case measure => simp [okOf, szOf]; omega
      ·have hbe : ((en : Int) == 0) = false := by simpa using hen0
       go_wp2_with fail
       go_roundw
       case rel => exact ⟨t2, _, rest2, false, rfl, rfl, by omega, by rw [decide_eq_false hen0] at HP; exact HP⟩
       case measure => simp [okOf, szOf]; omega
theorem tParse_any {W : World} (s : ByteArray) (hs1 : s.size ≤ 1000000) (b n : Nat) (hb0 : 1 ≤ b) (hb1 : b ≤ 4096) (hn : n ≤ 32) :
  Calls Tryz.prog 187 #[.string s, .int .i64 (b : Nat), .int .i64 (n : Nat)] W fun e w' => ∃ (t : Tab) (mv : Value) (en : Nat), e = .returned (.tuple #[tabV t mv, .int .i64 (en : Nat)]) ∧ ParseSays (parseL s.toList b n) t en ∧ IsMv w' mv t.moved ∧ (∀ g, mv.ownBlock = some g → W.heap.size ≤ g) ∧ Mods [] W w' := by
 by_cases h : 8 ≤ s.size
 ·exact tParse_long s h hs1 b n hb0 hb1 hn
 ·refine (tParse_short s (by omega) b n hb0 hb1 hn).mono fun e w' h2 => ⟨Tab.zero, .slice none 0 0, 4, h2.1, ?_, IsMv.nil _, fun g hg => (by cases hg), h2.2⟩
  unfold parseL
  rw [if_pos (by rw [size_list]; omega)]
  exact ⟨rfl, rfl⟩
end Go.Proofs.YtkjpdfomppjiiaaGreatDoor
/- A pair of devices as it lies in memory; its least functions. -/
namespace Go.Proofs.YtkjpdfomppjiiaaGreatDoor
open Go.RowKit

def blocksI (sec size n : Int) : Int := if Dev.right sec size = true ∧ 0 ≤ n ∧ n ≤ 32 ∧ 8 + 2 * n ≤ size - 24 ∧ 2 ≤ sec - 4 - n then sec - 4 - n else 0
theorem rIs_any {W : World} (s : Int) : Calls Tryz.prog 52 #[.int .i64 s] W fun e w' => e = .returned (.bool (decide (0 ≤ s) && decide (s < 2))) ∧ W = w' := by
 go_enter Tryz.func52, Tryz.ntmps52
 go_wp2_with fail
 all_goals go_ret
 all_goals refine ⟨?_, rfl⟩
 all_goals simp [*]
 all_goals (intros; omega)
theorem rOther_any {W : World} (s : Nat) (hs : s < 2) : Calls Tryz.prog 54 #[.int .i64 (s : Nat)] W fun e w' => e = .returned (.int .i64 ((1 - s : Nat) : Nat)) ∧ W = w' := by
 obtain ⟨y, hy, hy2⟩ : ∃ y : Nat, 1 - (s : Int) = (y : Int) ∧ 1 - s = y := ⟨1 - s, by omega, rfl⟩
 rw [hy2]
 have hw : IntKind.i64.wrap (1 - (s : Int)) = (y : Int) := by rw [IntKind.wrap_i64]; omega
 clear hy hy2
 go_enter Tryz.func54, Tryz.ntmps54
 go_wp2_with fail
 go_ret
 refine ⟨?_, rfl⟩
 simp
theorem rSlot_any {W : World} (own : Bool) (g : Nat) (hg : g < 18446744073709551616) : Calls Tryz.prog 107 #[.bool own, .int .u64 (g : Nat)] W fun e w' => e = .returned (.int .i64 (slotOf own g : Nat)) ∧ W = w' := by
 have h2 : g % 2 < 2 := Nat.mod_lt _ (by omega)
 have hw : IntKind.i64.wrap ((g : Int) % 2) = ((g % 2 : Nat) : Int) := by rw [IntKind.wrap_i64]; omega
 unfold slotOf
 cases own
 all_goals
  go_enter Tryz.func107, Tryz.ntmps107
  go_wp2_with fail
  go_ret
  refine ⟨?_, rfl⟩
  try simp
  try omega
theorem rBlocks_any {W : World} (sec size n : Int) : Calls Tryz.prog 110 #[.agg #[.int .i64 sec, .int .i64 size], .int .i64 n] W fun e w' => e = .returned (.int .i64 (blocksI sec size n)) ∧ Mods [] W w' := by
 have cRight := Lib.hid (fun W => dRight_any (W := W) sec size)
 obtain ⟨w1, hw1⟩ : ∃ w1, W.alloc (.cells #[.int .i64 sec, .int .i64 size] 54) = w1 := ⟨_, rfl⟩
 have hb1 : Blk w1 W.heap.size 54 [.int .i64 sec, .int .i64 size] := by rw [← hw1]; exact Blk.new W 54 [.int .i64 sec, .int .i64 size]
 have hm1 : Mods [] W w1 := by rw [← hw1]; exact (Mods.refl _ _).alloc _
 have HB : Hid (∀ w', Mods [] w1 w' → Blk w' W.heap.size 54 [.int .i64 sec, .int .i64 size]) := Lib.hid (fun w' hm => hb1.keep hm (by simp))
 have HM1 := Lib.hid hm1
 have q0 := hb1.cell (i := 0) rfl
 have q1 := hb1.cell (i := 1) rfl
 unfold blocksI
 clear hb1 hm1
 cases hr : Dev.right sec size with
 | false =>
  rw [hr] at cRight
  rw [if_neg (by simp)]
  clear hr
  go_enter Tryz.func110, Tryz.ntmps110
  go_wp2_with (go_at_call 45; refine (cRight.out _).mono ?_; rintro e w2 ⟨rfl, hm2⟩)
  go_ret
  exact ⟨rfl, HM1.out.tr hm2⟩
 | true =>
  rw [hr] at cRight
  have hr1 := hr
  unfold Dev.right at hr1
  simp only [Bool.and_eq_true, decide_eq_true_eq] at hr1
  obtain ⟨⟨⟨⟨r1, r2⟩, r3⟩, r4⟩, _⟩ := hr1
  have cRoom := Lib.hid (fun W => eRoom_any (W := W) size)
  rw [if_pos (by unfold sizedE; simp; omega)] at cRoom
  by_cases h1 : n < 0
  ·rw [if_neg (by omega)]
   clear hr
   go_enter Tryz.func110, Tryz.ntmps110
   go_wp2_with (go_at_call 45; refine (cRight.out _).mono ?_; rintro e w2 ⟨rfl, hm2⟩)
   go_ret
   exact ⟨rfl, HM1.out.tr hm2⟩
  ·by_cases h2 : 32 < n
   ·rw [if_neg (by omega)]
    clear hr
    go_enter Tryz.func110, Tryz.ntmps110
    go_wp2_with (go_at_call 45; refine (cRight.out _).mono ?_; rintro e w2 ⟨rfl, hm2⟩)
    go_ret
    exact ⟨rfl, HM1.out.tr hm2⟩
   ·have hw1 : IntKind.i64.wrap (2 * n) = 2 * n := by rw [IntKind.wrap_i64]; omega
    have hw2 : IntKind.i64.wrap (8 + 2 * n) = 8 + 2 * n := by rw [IntKind.wrap_i64]; omega
    have hw3 : IntKind.i64.wrap (sec - 4) = sec - 4 := by rw [IntKind.wrap_i64]; omega
    have hw4 : IntKind.i64.wrap (sec - 4 - n) = sec - 4 - n := by rw [IntKind.wrap_i64]; omega
    by_cases h3 : size - 24 < 8 + 2 * n
    ·rw [if_neg (by omega)]
     clear hr
     go_enter Tryz.func110, Tryz.ntmps110
     go_wp2_with (first | (go_at_call 45; refine (cRight.out _).mono ?_; rintro e w2 ⟨rfl, hm2⟩; have hb2 := HB.out _ hm2; have q0 := hb2.cell (i := 0) rfl; have q1 := hb2.cell (i := 1) rfl) | (go_at_call 159; refine (cRoom.out _).mono ?_; rintro e w3 ⟨rfl, rfl⟩))
     go_ret
     exact ⟨rfl, HM1.out.tr hm2⟩
    ·by_cases h4 : sec - 4 - n < 2
     ·rw [if_neg (by omega)]
      clear hr
      go_enter Tryz.func110, Tryz.ntmps110
      go_wp2_with (first | (go_at_call 45; refine (cRight.out _).mono ?_; rintro e w2 ⟨rfl, hm2⟩; have hb2 := HB.out _ hm2; have q0 := hb2.cell (i := 0) rfl; have q1 := hb2.cell (i := 1) rfl) | (go_at_call 159; refine (cRoom.out _).mono ?_; rintro e w3 ⟨rfl, rfl⟩))
      go_ret
      exact ⟨rfl, HM1.out.tr hm2⟩
     ·rw [if_pos ⟨rfl, by omega, by omega, by omega, by omega⟩]
      clear hr
      go_enter Tryz.func110, Tryz.ntmps110
      go_wp2_with (first | (go_at_call 45; refine (cRight.out _).mono ?_; rintro e w2 ⟨rfl, hm2⟩; have hb2 := HB.out _ hm2; have q0 := hb2.cell (i := 0) rfl; have q1 := hb2.cell (i := 1) rfl) | (go_at_call 159; refine (cRoom.out _).mono ?_; rintro e w3 ⟨rfl, rfl⟩))
      go_ret
      exact ⟨by simp [*], HM1.out.tr hm2⟩
end Go.Proofs.YtkjpdfomppjiiaaGreatDoor
/- A pair of devices as it lies in memory; put. -/
namespace Go.Proofs.YtkjpdfomppjiiaaGreatDoor
open Go.RowKit

theorem write_cache (D : Dev) (i : Int) (s : ByteArray) : (D.write i s).2.cache.length ≤ D.cache.length + 1 := by
 have hb := (Dev.burn_same D).2.2.2.2.1
 unfold Dev.write
 split
 ·simp
 ·split
  ·simp
  ·split
   ·simp
   ·split
    ·rw [hb]; omega
    ·split
     ·simp [hb]
     ·unfold Dev.put
      simp only
      split
      ·split <;> simp [hb]
      ·split <;> simp [hb]
theorem dWrite_ex {W : World} {b : Nat} {fp : List Nat} {D : Dev} (h : IsDev W b fp D) (hc : D.cache.length < 1000000) (i : Int) (s : ByteArray) :
  Calls Tryz.prog 164 #[.pointer (some ⟨b, 0, none⟩), .int .i64 i, .string s] W fun e w' => ∃ fp', e = .returned (.int .i64 ((D.write i s).1 : Nat)) ∧ Hid (IsDev w' b fp' (D.write i s).2) ∧ Hid (∀ x ∈ fp', x ∈ fp ∨ W.heap.size ≤ x) ∧ Hid (Mods fp W w') :=
 (dWrite_any h hc i s).mono fun _ _ ⟨h1, ⟨fp', h2, h3⟩, h4⟩ => ⟨fp', h1, Lib.hid h2, Lib.hid h3, Lib.hid h4⟩
theorem dFlush_ex {W : World} {b : Nat} {fp : List Nat} {D : Dev} (h : IsDev W b fp D) (hc : D.cache.length < 1000000) :
  Calls Tryz.prog 156 #[.pointer (some ⟨b, 0, none⟩)] W fun e w' => ∃ fp', e = .returned (.int .i64 (D.flush.1 : Nat)) ∧ Hid (IsDev w' b fp' D.flush.2) ∧ Hid (∀ x ∈ fp', x ∈ fp ∨ W.heap.size ≤ x) ∧ Hid (Mods fp W w') :=
 (dFlush_any h hc).mono fun _ _ ⟨h1, ⟨fp', h2, h3⟩, h4⟩ => ⟨fp', h1, Lib.hid h2, Lib.hid h3, Lib.hid h4⟩
structure DevTo (W w' : World) (b : Nat) (fp fp' : List Nat) (D' : Dev) : Prop where
 dev : IsDev w' b fp' D'
 new : ∀ x ∈ fp', x ∈ fp ∨ W.heap.size ≤ x
 mods : Mods fp W w'
theorem DevTo.trans {W w1 w2 : World} {b : Nat} {fp fp1 fp2 : List Nat} {D1 D2 : Dev} (h : DevTo W w1 b fp fp1 D1) (g : DevTo w1 w2 b fp1 fp2 D2) : DevTo W w2 b fp fp2 D2 :=
 ⟨g.dev, fun x hx => (g.new x hx).elim (fun k => h.new x k) (fun k => .inr (Nat.le_trans h.mods.size k)), h.mods.trans g.mods (fun k hk => h.new k hk)⟩
set_option maxRecDepth 100000 in
set_option maxHeartbeats 1600000 in
theorem rPut_any {W : World} {b : Nat} {fp : List Nat} {D : Dev} (h : IsDev W b fp D) (hc : D.cache.length + 1 < 1000000) (k : Nat) (s : ByteArray) :
  Calls Tryz.prog 106 #[.pointer (some ⟨b, 0, none⟩), .int .i64 (k : Nat), .string s] W fun e w' => ∃ fp', e = .returned (.tuple #[.bool (putD D k s).1.1, .int .i64 ((putD D k s).1.2 : Nat)]) ∧ DevTo W w' b fp fp' (putD D k s).2 := by
 have hc1 := write_cache D k s
 have cWrite := Lib.hid (dWrite_ex h (by omega) k s)
 unfold putD
 simp only
 generalize D.write k s = r at cWrite hc1 ⊢
 obtain ⟨e1, D1⟩ := r
 simp only at cWrite hc1 ⊢
 have cFlush := Lib.hid (fun (W : World) (fp : List Nat) (h : IsDev W b fp D1) => dFlush_ex h (by omega))
 clear hc1 hc h
 by_cases h0 : e1 = 0
 ·subst h0
  simp only [if_true]
  generalize D1.flush = q at cFlush ⊢
  obtain ⟨e2, D2⟩ := q
  simp only at cFlush ⊢
  by_cases h6 : e2 = 6
  ·subst h6
   simp only [if_true]
   go_enter Tryz.func106, Tryz.ntmps106
   go_wp2_with (first | (go_at_call 164; refine cWrite.out.mono ?_; rintro e w1 ⟨fp1, rfl, hd1, hn1, hm1⟩) | (go_at_call 156; refine (cFlush.out _ _ hd1.out).mono ?_; rintro e w2 ⟨fp2, rfl, hd2, hn2, hm2⟩))
   go_ret2
   exact ⟨fp2, rfl, DevTo.trans ⟨hd1.out, hn1.out, hm1.out⟩ ⟨hd2.out, hn2.out, hm2.out⟩⟩
  ·rw [if_neg h6]
   have hb6 : ((e2 : Int) == 6) = false := by simp; omega
   go_enter Tryz.func106, Tryz.ntmps106
   go_wp2_with (first | (go_at_call 164; refine cWrite.out.mono ?_; rintro e w1 ⟨fp1, rfl, hd1, hn1, hm1⟩) | (go_at_call 156; refine (cFlush.out _ _ hd1.out).mono ?_; rintro e w2 ⟨fp2, rfl, hd2, hn2, hm2⟩))
   go_ret2
   refine ⟨fp2, ?_, DevTo.trans ⟨hd1.out, hn1.out, hm1.out⟩ ⟨hd2.out, hn2.out, hm2.out⟩⟩
   simp
   rw [Bool.eq_iff_iff]; simp
 ·rw [if_neg h0]
  have hb0 : ((e1 : Int) == 0) = false := by simp; omega
  simp only
  by_cases h6 : e1 = 6
  ·subst h6
   simp only [if_true]
   clear h0 hb0
   go_enter Tryz.func106, Tryz.ntmps106
   go_wp2_with (first | (go_at_call 164; refine cWrite.out.mono ?_; rintro e w1 ⟨fp1, rfl, hd1, hn1, hm1⟩))
   go_ret2
   exact ⟨fp1, rfl, ⟨hd1.out, hn1.out, hm1.out⟩⟩
  ·rw [if_neg h6]
   have hb6 : ((e1 : Int) == 6) = false := by simp; omega
   go_enter Tryz.func106, Tryz.ntmps106
   go_wp2_with (first | (go_at_call 164; refine cWrite.out.mono ?_; rintro e w1 ⟨fp1, rfl, hd1, hn1, hm1⟩))
   go_ret2
   refine ⟨fp1, ?_, ⟨hd1.out, hn1.out, hm1.out⟩⟩
   simp [h0]
def pairCells (sb n : Nat) (x : Nat → Nat) (t : Nat → Tab) (m : Nat → Value) : List Value :=
 [.pointer (some ⟨sb, 0, none⟩), .int .i64 (n : Nat), .pointer (some ⟨x 0, 0, none⟩), .pointer (some ⟨x 1, 0, none⟩), .int .i64 ((t 0).blocks : Nat), .int .i64 ((t 0).spares : Nat), m 0, .int .i64 ((t 1).blocks : Nat), .int .i64 ((t 1).spares : Nat), m 1]
def pairFoot (b sb : Nat) (m : Nat → Value) : List Nat := b :: sb :: ((m 0).ownBlock.toList ++ (m 1).ownBlock.toList)
structure PairIn (w : World) (b sb : Nat) (x : Nat → Nat) (m : Nat → Value) (n : Nat) (t : Nat → Tab) : Prop where
 blk : Blk w b 123 (pairCells sb n x t m)
 sum : Blk w sb 218 sumRow
 mv : ∀ s, s < 2 → IsMv w (m s) (t s).moved
 tok : ∀ s, s < 2 → (t s).Ok
 n : n ≤ 32
def PairB (w : World) (b : Nat) (gp : List Nat) (x : Nat → Nat) (n : Nat) (t : Nat → Tab) : Prop := ∃ sb m, PairIn w b sb x m n t ∧ gp = pairFoot b sb m ∧ b ≠ sb
theorem PairIn.keep {w w1 : World} {b sb : Nat} {x : Nat → Nat} {m : Nat → Value} {n : Nat} {t : Nat → Tab} (h : PairIn w b sb x m n t) {L : List Nat} (hm : Mods L w w1) (hL : ∀ g ∈ pairFoot b sb m, g ∉ L) : PairIn w1 b sb x m n t :=
 ⟨h.blk.keep hm (hL _ (by simp [pairFoot])), h.sum.keep hm (hL _ (by simp [pairFoot])), fun s hs => IsMv.keep (h.mv s hs) hm (fun g hg => hL g (by
  rcases (show s = 0 ∨ s = 1 by omega) with rfl | rfl <;> simp [pairFoot, hg])), h.tok, h.n⟩
theorem PairB.keep {w w1 : World} {b : Nat} {gp : List Nat} {x : Nat → Nat} {n : Nat} {t : Nat → Tab} (h : PairB w b gp x n t) {L : List Nat} (hm : Mods L w w1) (hL : ∀ g ∈ gp, g ∉ L) : PairB w1 b gp x n t := by
 obtain ⟨sb, m, h1, rfl, h2⟩ := h
 exact ⟨sb, m, h1.keep hm hL, rfl, h2⟩
theorem PairB.lt {w : World} {b : Nat} {gp : List Nat} {x : Nat → Nat} {n : Nat} {t : Nat → Tab} (h : PairB w b gp x n t) : ∀ g ∈ gp, g < w.heap.size := by
 obtain ⟨sb, m, h1, rfl, h2⟩ := h
 intro g hg
 simp only [pairFoot, List.mem_cons, List.mem_append, Option.mem_toList] at hg
 rcases hg with rfl | rfl | hg | hg
 ·exact h1.blk.lt
 ·exact h1.sum.lt
 ·exact (owns_ltF (h1.mv 0 (by omega)) hg).2
 ·exact (owns_ltF (h1.mv 1 (by omega)) hg).2
structure IsPair (w : World) (b : Nat) (gp : List Nat) (x : Nat → Nat) (fx : Nat → List Nat) (P : Pr) : Prop where
 pb : PairB w b gp x P.n P.tab
 dev : ∀ s, s < 2 → IsDev w (x s) (fx s) (P.dev s)
 apart : ∀ s, s < 2 → ∀ g ∈ fx s, g ∉ fx (1 - s)
 free : ∀ g ∈ gp, ∀ s, s < 2 → g ∉ fx s
 same : ∀ s, s < 2 → (P.dev s).size = (P.dev 0).size ∧ (P.dev s).sectors = (P.dev 0).sectors
 fit : P.Fit
theorem IsPair.keep {w w1 : World} {b : Nat} {gp : List Nat} {x : Nat → Nat} {fx : Nat → List Nat} {P : Pr} (h : IsPair w b gp x fx P) {L : List Nat} (hm : Mods L w w1) (hL : ∀ g ∈ gp, g ∉ L) (hF : ∀ s, s < 2 → ∀ g ∈ fx s, g ∉ L) : IsPair w1 b gp x fx P :=
 ⟨h.pb.keep hm hL, fun s hs => (h.dev s hs).keep hm (hF s hs), h.apart, h.free, h.same, h.fit⟩
theorem IsPair.keep0 {w w1 : World} {b : Nat} {gp : List Nat} {x : Nat → Nat} {fx : Nat → List Nat} {P : Pr} (h : IsPair w b gp x fx P) (hm : Mods [] w w1) : IsPair w1 b gp x fx P := h.keep hm (by simp) (by simp)
end Go.Proofs.YtkjpdfomppjiiaaGreatDoor
/- Pair.fresh: a table in which nothing is moved. -/
namespace Go.Proofs.YtkjpdfomppjiiaaGreatDoor
open Go.RowKit

theorem Blk.keep0 {w w' : World} {b : Nat} {t : TypeId} {l : List Value} (h : Blk w b t l) (hm : Mods [] w w') : Blk w' b t l := h.keep hm (by simp)
theorem Blk.newK {w w' : World} {t : TypeId} {l : List Value} (hm : Mods [] (w.alloc (.cells l.toArray t (0, 0))) w') : Blk w' w.heap.size t l := (Blk.new w t l).keep0 hm
theorem Blk.newD {w w' : World} {t : TypeId} {l : List Value} (hm : Mods [] (w.alloc (.cells l.toArray t (0, 0))).drew w') : Blk w' w.heap.size t l := (Blk.new w t l).keep0 (((Mods.refl _ _).drew).tr hm)
theorem Mods.set3 {a w : World} (h : Mods [] a w) {b : Nat} (hb : a.heap.size ≤ b) (v0 v1 v2 : Value) : Mods [] a (((w.setCell ⟨b, 0, none⟩ v0).setCell ⟨b, 1, none⟩ v1).setCell ⟨b, 2, none⟩ v2) :=
 ((h.setCell (.inr hb) v0).setCell (.inr hb) v1).setCell (.inr hb) v2
theorem right_parts {a b : Nat} (h : Dev.right (a : Int) (b : Int) = true) : 8 ≤ a ∧ a ≤ 4096 ∧ 128 ≤ b ∧ b ≤ 1024 := by
 unfold Dev.right at h
 simp only [Bool.and_eq_true, decide_eq_true_eq] at h
 omega
theorem Pr.Fit.blocks {P : Pr} (h : P.Fit) : blocksI (P.dev 0).sectors (P.dev 0).size P.n = ((blocksN (P.dev 0).sectors (P.dev 0).size P.n : Nat) : Int) ∧ 1 ≤ blocksN (P.dev 0).sectors (P.dev 0).size P.n ∧ blocksN (P.dev 0).sectors (P.dev 0).size P.n ≤ 4096 := by
 obtain ⟨h1, h2, h3, h4⟩ := h
 have h5 := right_parts h1
 unfold blocksI blocksN
 rw [if_pos ⟨h1, by omega, by omega, by omega, by omega⟩, if_pos ⟨h3, h4⟩]
 refine ⟨by omega, by omega, by omega⟩
theorem pair_cell {w : World} {b sb : Nat} {x : Nat → Nat} {m : Nat → Value} {n : Nat} {t : Nat → Tab} (h : PairIn w b sb x m n t) : w.cell? ⟨b, 0, none⟩ = some (.pointer (some ⟨sb, 0, none⟩)) ∧ w.cell? ⟨b, 1, none⟩ = some (.int .i64 (n : Nat)) ∧ ∀ s, s < 2 → w.cell? ⟨b, 2 + s, none⟩ = some (.pointer (some ⟨x s, 0, none⟩)) := by
 refine ⟨h.blk.cell (i := 0) rfl, h.blk.cell (i := 1) rfl, fun s hs => ?_⟩
 rcases (show s = 0 ∨ s = 1 by omega) with rfl | rfl
 ·exact h.blk.cell (i := 2) rfl
 ·exact h.blk.cell (i := 3) rfl
set_option maxRecDepth 100000 in
set_option maxHeartbeats 3200000 in
theorem rFresh_any {W : World} {b : Nat} {gp : List Nat} {x : Nat → Nat} {fx : Nat → List Nat} {P : Pr} (h : IsPair W b gp x fx P) :
  Calls Tryz.prog 58 #[.pointer (some ⟨b, 0, none⟩)] W fun e w' => e = .returned (tabV ⟨blocksN (P.dev 0).sectors (P.dev 0).size P.n, P.n, []⟩ (.slice none 0 0)) ∧ Mods [] W w' := by
 obtain ⟨hbl, hb1, hb2⟩ := h.fit.blocks
 obtain ⟨B, hB⟩ : ∃ B, blocksN (P.dev 0).sectors (P.dev 0).size P.n = B := ⟨_, rfl⟩
 rw [hB] at hbl hb1 hb2 ⊢
 have cBlocks := Lib.hid (fun W => rBlocks_any (W := W) (P.dev 0).sectors (P.dev 0).size P.n)
 rw [hbl] at cBlocks
 have cNew := Lib.hid (fun W => tNew_any (W := W) B P.n hb1 hb2 h.fit.2.1)
 unfold tabV at cNew
 obtain ⟨w1, hw1⟩ : ∃ w1, W.alloc (.cells #[.int .i64 0, .int .i64 0, .slice none 0 0] 71) = w1 := ⟨_, rfl⟩
 have hx1 : Blk w1 W.heap.size 71 [.int .i64 0, .int .i64 0, .slice none 0 0] := by rw [← hw1]; exact Blk.new W 71 [.int .i64 0, .int .i64 0, .slice none 0 0]
 have hm1 : Mods [] W w1 := by rw [← hw1]; exact (Mods.refl _ _).alloc _
 have HR1 : Hid (∀ w', Mods [] w1 w' → Blk w' W.heap.size 71 [.int .i64 0, .int .i64 0, .slice none 0 0]) := Lib.hid (fun w' hm => hx1.keep0 hm)
 have HP1 : Hid (∀ w', Mods [] w1 w' → IsPair w' b gp x fx P) := Lib.hid (fun w' hm => h.keep0 (hm1.tr hm))
 have HM1 := Lib.hid hm1
 have hge : W.heap.size < w1.heap.size := by rw [← hw1]; simp
 obtain ⟨sb, m, hin, _⟩ := h.pb
 have HC : Hid (∀ w', Mods [] w1 w' → w'.cell? ⟨b, 1, none⟩ = some (.int .i64 (P.n : Nat)) ∧ w'.cell? ⟨b, 2, none⟩ = some (.pointer (some ⟨x 0, 0, none⟩))) := Lib.hid (fun w' hm => by
  have hb := hin.blk.keep0 (hm1.tr hm)
  exact ⟨hb.cell (i := 1) rfl, hb.cell (i := 2) rfl⟩)
 obtain ⟨q1, q2⟩ := HC.out w1 (Mods.refl _ _)
 clear h hbl hb1 hb2 hB hx1 hm1 hin
 go_enter Tryz.func58, Tryz.ntmps58
 go_upto_region 1 with fail
 go_cut [3, 4] from 5 to 23 (fun p3 _ wx => ∃ tb, p3 = .pointer (some ⟨tb, 0, none⟩) ∧ Hid (Blk wx tb 71 [.int .i64 (B : Nat), .int .i64 (P.n : Nat), .slice none 0 0]) ∧ Hid (Mods [] w1 wx) ∧ w1.heap.size ≤ tb)
 case first =>
  go_region_held3 (fun w' => w'.cell? ⟨b, 1, none⟩ = some (.int .i64 (P.n : Nat)) ∧ w'.cell? ⟨b, 2, none⟩ = some (.pointer (some ⟨x 0, 0, none⟩)))
   (first | go_keep | exact HC.out _ HM4.out | exact HC.out _ HM3.out | exact HC.out _ HM2.out | exact HC.out _ (HM4.out.alloc _) | exact HC.out _ (HM4.out.set3 HM3.out.size _ _ _) | exact HC.out _ (HM4.out.set3 HM2.out.size _ _ _) | exact HC.out _ (HM4.out.set3 (Nat.le_refl _) _ _ _) | fail)
   (first | (go_at_call 53; refine (dShape_any ((HP1.out _ (by first | exact (Mods.refl _ _).drew | exact ((Mods.refl _ _).alloc _).drew)).dev 0 (by decide))).mono ?_; rintro e w2 ⟨rfl, hm2⟩; have HM2 : Hid (Mods [] w1 w2) := (by first | exact Lib.hid (((Mods.refl _ _).drew).tr hm2) | exact Lib.hid ((((Mods.refl _ _).alloc _).drew).tr hm2)); (first | (have hz : Blk w2 w1.heap.size 71 [.int .i64 0, .int .i64 0, .slice none 0 0] := Blk.newD hm2) | skip)) | (go_at_call 110; refine (cBlocks.out _).mono ?_; rintro e w3 ⟨rfl, hm3⟩; have HM3 : Hid (Mods [] w1 w3) := (by first | exact Lib.hid (HM2.out.tr hm3) | exact Lib.hid ((HM2.out.alloc _).tr hm3)); (first | (have hz := hz.keep0 hm3) | (have hz : Blk w3 w2.heap.size 71 [.int .i64 0, .int .i64 0, .slice none 0 0] := Blk.newK hm3) | skip)) | (go_at_call 111; refine (cNew.out _).mono ?_; rintro e w4 ⟨rfl, hm4⟩; have HM4 : Hid (Mods [] w1 w4) := (by first | exact Lib.hid (HM3.out.tr hm4) | exact Lib.hid ((HM3.out.alloc _).tr hm4)); (first | (have hz := hz.keep0 hm4) | (have hz : Blk w4 w3.heap.size 71 [.int .i64 0, .int .i64 0, .slice none 0 0] := Blk.newK hm4) | skip); (first | (have z0 := hz.cell (i := 0) rfl; have z1 := hz.cell (i := 1) rfl; have z2 := hz.cell (i := 2) rfl; have f0 := hz.free 0; have f1 := hz.free 1; have f2 := hz.free 2) | skip)))
  all_goals go_wp2_with fail
  all_goals go_meet
  all_goals
   first
    | exact ⟨_, rfl, Lib.hid (Blk.new w4 71 [.int .i64 (B : Nat), .int .i64 (P.n : Nat), .slice none 0 0]), Lib.hid (HM4.out.alloc _), HM4.out.size⟩
    | exact ⟨_, rfl, Lib.hid (three_sets hz _ _ _).1, Lib.hid (HM4.out.set3 HM3.out.size _ _ _), HM3.out.size⟩
    | exact ⟨_, rfl, Lib.hid (three_sets hz _ _ _).1, Lib.hid (HM4.out.set3 HM2.out.size _ _ _), HM2.out.size⟩
    | exact ⟨_, rfl, Lib.hid (three_sets hz _ _ _).1, Lib.hid (HM4.out.set3 (Nat.le_refl _) _ _ _), Nat.le_refl _⟩
 case rest =>
  obtain ⟨tb, rfl, HTB, HMX, htb⟩ := hcut
  have hr := HR1.out wc HMX.out
  have s0 := hr.cell (i := 0) rfl
  have s1 := hr.cell (i := 1) rfl
  have s2 := hr.cell (i := 2) rfl
  have f0 := hr.free 0
  have f1 := hr.free 1
  have f2 := hr.free 2
  have z0 := HTB.out.cell (i := 0) rfl
  have z1 := HTB.out.cell (i := 1) rfl
  have z2 := HTB.out.cell (i := 2) rfl
  go_wp2_with fail
  obtain ⟨k1, k2⟩ := three_sets hr (.int .i64 (B : Nat)) (.int .i64 (P.n : Nat)) (.slice none 0 0)
  refine bodyPost_ret (results_c rfl rfl (load_tab k1)) rfl ?_
  exact ⟨rfl, (HM1.out.tr HMX.out).trans k2 (fun k hk => .inr (by rw [List.mem_singleton.1 hk]; exact Nat.le_refl _))⟩
end Go.Proofs.YtkjpdfomppjiiaaGreatDoor
/- Pair.parse: the table of an image. -/
namespace Go.Proofs.YtkjpdfomppjiiaaGreatDoor
open Go.RowKit

def FoundSays (o : Option Tab) (t : Tab) (ok : Bool) : Prop :=
 match o with
 | some u => t = u ∧ ok = true
 | none => ok = false
theorem IsPair.sh {w : World} {b : Nat} {gp : List Nat} {x : Nat → Nat} {fx : Nat → List Nat} {P : Pr} (h : IsPair w b gp x fx P) {s : Nat} (hs : s < 2) :
  Calls Tryz.prog 53 #[.pointer (some ⟨x s, 0, none⟩)] w fun e w' => e = .returned (.agg #[.int .i64 ((P.dev 0).sectors : Nat), .int .i64 ((P.dev 0).size : Nat)]) ∧ Mods [] w w' := by
 have h2 := h.same s hs
 rw [← h2.1, ← h2.2]
 exact dShape_any (h.dev s hs)
structure ParseOut (w1 wx : World) (tb : Nat) (t : Tab) (mv : Value) (en : Nat) (o : Option Tab) : Prop where
 blk : Blk wx tb 71 [.int .i64 (t.blocks : Nat), .int .i64 (t.spares : Nat), mv]
 says : ParseSays o t en
 mvs : IsMv wx mv t.moved
 new : ∀ g, mv.ownBlock = some g → w1.heap.size ≤ g
 mods : Mods [] w1 wx
 tb : w1.heap.size ≤ tb
theorem new_ne {w : World} {zb : Nat} {ty : TypeId} {l : List Value} {mv : Value} (hz : Blk w zb ty l) (hn : ∀ g, mv.ownBlock = some g → w.heap.size ≤ g) : ∀ g, mv.ownBlock = some g → g ∉ [zb] := fun g hg => by
 have h1 := hn g hg
 have h2 := hz.lt
 simp; omega
theorem Tab.parse_ok {s : List UInt8} {b n : Nat} {t : Tab} (hb : b ≤ 4096) (hn : n ≤ 32) (h : parseL s b n = some t) : t.Ok := by
 have key : ∀ (k : Nat) (l : List UInt8) (u v : Tab), l.length ≤ k → u.Ok → eatL u l = some v → v.Ok := by
  intro k
  induction k with
  | zero =>
   intro l u v hl hu he
   obtain rfl : l = [] := List.eq_nil_of_length_eq_zero (by omega)
   injection he with he; rw [← he]; exact hu
  | succ k ih =>
   intro l u v hl hu he
   match l, hl, he with
   | [], _, he => injection he with he; rw [← he]; exact hu
   | [_], _, he => cases he
   | a :: c :: l, hl, he =>
    rw [eatL] at he
    split at he
    ·exact ih l _ v (by simp at hl; omega) (hu.mv _) he
    ·cases he
 unfold parseL at h
 split at h
 ·cases h
 ·obtain ⟨u, hu, h2⟩ := Option.bind_eq_some_iff.1 h
  split at h2
  ·injection h2 with h2
   rw [← h2]
   exact key _ _ ⟨b, n, []⟩ u (Nat.le_refl _) ⟨hb, hn, Nat.zero_le _, fun x hx => (by cases hx)⟩ hu
  ·cases h2
theorem pay_lt (x : List UInt8) : (ePayOf x).length < 65536 := by
 have h : eLenOf x < 65536 := un8_lt _ 2 (by simp; omega)
 unfold ePayOf
 rw [List.length_take]; omega
set_option maxRecDepth 100000 in
set_option maxHeartbeats 3200000 in
theorem rParse_any {W : World} {b : Nat} {gp : List Nat} {x : Nat → Nat} {fx : Nat → List Nat} {P : Pr} (h : IsPair W b gp x fx P) (s : Nat) (hs : s < 2) (img : ByteArray) :
  Calls Tryz.prog 136 #[.pointer (some ⟨b, 0, none⟩), .int .i64 (s : Nat), .string img] W fun e w' => ∃ (t : Tab) (mv : Value) (ok : Bool), e = .returned (.tuple #[tabV t mv, .bool ok]) ∧ FoundSays (parseP (blocksN (P.dev 0).sectors (P.dev 0).size P.n) P.n s img) t ok ∧ IsMv w' mv t.moved ∧ (∀ g, mv.ownBlock = some g → W.heap.size ≤ g) ∧ Mods [] W w' := by
 obtain ⟨hbl, hb1, hb2⟩ := h.fit.blocks
 obtain ⟨B, hB⟩ : ∃ B, blocksN (P.dev 0).sectors (P.dev 0).size P.n = B := ⟨_, rfl⟩
 rw [hB] at hbl hb1 hb2 ⊢
 have cBlocks := Lib.hid (fun W => rBlocks_any (W := W) (P.dev 0).sectors (P.dev 0).size P.n)
 rw [hbl] at cBlocks
 obtain ⟨w1, hw1⟩ : ∃ w1, W.alloc (.cells #[.int .i64 0, .int .i64 0, .slice none 0 0] 71) = w1 := ⟨_, rfl⟩
 have hx1 : Blk w1 W.heap.size 71 [.int .i64 0, .int .i64 0, .slice none 0 0] := by rw [← hw1]; exact Blk.new W 71 [.int .i64 0, .int .i64 0, .slice none 0 0]
 have hm1 : Mods [] W w1 := by rw [← hw1]; exact (Mods.refl _ _).alloc _
 have HR1 : Hid (∀ w', Mods [] w1 w' → Blk w' W.heap.size 71 [.int .i64 0, .int .i64 0, .slice none 0 0]) := Lib.hid (fun w' hm => hx1.keep0 hm)
 have HP1 : Hid (∀ w', Mods [] w1 w' → IsPair w' b gp x fx P) := Lib.hid (fun w' hm => h.keep0 (hm1.tr hm))
 have HM1 := Lib.hid hm1
 have hge : W.heap.size < w1.heap.size := by rw [← hw1]; simp
 obtain ⟨sb, m, hin, _⟩ := h.pb
 have HC : Hid (∀ w', Mods [] w1 w' → w'.cell? ⟨b, 1, none⟩ = some (.int .i64 (P.n : Nat)) ∧ w'.cell? ⟨b, 2 + s, none⟩ = some (.pointer (some ⟨x s, 0, none⟩))) := Lib.hid (fun w' hm => by
  have hb := pair_cell (hin.keep (hm1.tr hm) (by simp))
  exact ⟨hb.2.1, hb.2.2 s hs⟩)
 have HSB : Hid (∀ w', Mods [] w1 w' → Blk w' sb 218 sumRow) := Lib.hid (fun w' hm => hin.sum.keep0 (hm1.tr hm))
 have q0 := (pair_cell (hin.keep hm1 (by simp))).1
 have HN := Lib.hid h.fit.2.1
 have HB12 := Lib.hid (And.intro hb1 hb2)
 have hsi1 : (0 : Int) ≤ (s : Int) := by omega
 have hsi2 : (s : Int) < 2 := by omega
 have cOpen := Lib.hid (eOpen_any (HSB.out w1 (Mods.refl _ _)) img)
 unfold parseP
 cases ho : openL img.toList with
 | none =>
  rw [ho] at cOpen
  clear h hbl hb1 hb2 hB hx1 hm1 hin ho
  go_enter Tryz.func136, Tryz.ntmps136
  go_wp2_with (go_at_call 122; refine cOpen.out.mono ?_; rintro e w2 ⟨hv, p, en, rfl, ⟨rfl, rfl, hen⟩, hm2⟩; unfold noHead; have hb5 : ((en : Int) == 0) = false := (by simp; omega); have hr := (HR1.out w2 hm2).alloc (.cells #[.int .u8 0, .int .i64 0, .int .u64 0] 211); have s0 := hr.cell (i := 0) rfl; have s1 := hr.cell (i := 1) rfl; have s2 := hr.cell (i := 2) rfl; have f0 := hr.free 0; have f1 := hr.free 1; have f2 := hr.free 2)
  obtain ⟨k1, k2⟩ := three_sets hr (.int .i64 0) (.int .i64 0) (.slice none 0 0)
  refine bodyPost_ret (results_ct rfl rfl (load_tab k1)) rfl ?_
  exact ⟨Tab.zero, .slice none 0 0, false, rfl, rfl, IsMv.nil _, fun g hg => (by cases hg), ((HM1.out.tr hm2).alloc _).trans k2 (fun k hk => .inr (by rw [List.mem_singleton.1 hk]; exact Nat.le_refl _))⟩
 | some o =>
  obtain ⟨⟨k, a, g⟩, pl⟩ := o
  rw [ho] at cOpen
  have hpl : pl.length < 65536 := by
   rw [(open_some ho).2.2.1]; exact pay_lt _
  have hgl : g < 18446744073709551616 := by
   have h2 := congrArg EHead.gen (open_some ho).2.1
   simp only at h2
   rw [h2]; exact un8_lt _ 8 (by simp; omega)
  simp only
  by_cases hk : k = 2
  ·by_cases ha : a = (s : Int)
   ·subst hk
    subst ha
    rw [if_pos ⟨rfl, rfl⟩]
    have cParse := Lib.hid (fun W => tParse_any (W := W) (bA pl) (by rw [bA_size]; omega) B P.n HB12.out.1 HB12.out.2 HN.out)
    rw [bA_list] at cParse
    unfold tabV at cParse
    obtain ⟨o, hpo⟩ : ∃ o, parseL pl B P.n = o := ⟨_, rfl⟩
    have HOK : Hid (∀ t, o = some t → t.Ok) := Lib.hid (fun t ht => Tab.parse_ok HB12.out.2 HN.out (by rw [hpo]; exact ht))
    rw [hpo] at cParse ⊢
    obtain ⟨p, hp⟩ : ∃ p, bA pl = p := ⟨_, rfl⟩
    rw [hp] at cParse
    have HP := Lib.hid hp
    clear h hbl hb1 hb2 hB hx1 hm1 hin ho hpl hpo hp
    go_enter Tryz.func136, Tryz.ntmps136
    go_upto_region 4 with (go_at_call 122; refine cOpen.out.mono ?_; rintro e w2 ⟨hv, p2, en, rfl, ⟨rfl, hp2, rfl⟩, hm2⟩; rw [HP.out] at hp2; subst hp2; unfold headV; have HM2 := Lib.hid hm2; clear hm2)
    obtain ⟨hb, hhb⟩ : ∃ hb, w2.heap.size = hb := ⟨_, rfl⟩
    obtain ⟨wh, hwh⟩ : ∃ wh, w2.alloc (.cells #[.int .u8 2, .int .i64 (s : Nat), .int .u64 (g : Nat)] 211) = wh := ⟨_, rfl⟩
    have HH : Hid (∀ w', Mods [] wh w' → w'.cell? ⟨hb, 2, none⟩ = some (.int .u64 (g : Nat))) := Lib.hid (fun w' hm => by
     have h1 := Blk.new w2 211 [.int .u8 2, .int .i64 (s : Nat), .int .u64 (g : Nat)]
     rw [hhb] at h1
     rw [← hwh] at hm
     exact (h1.keep0 hm).cell (i := 2) rfl)
    have HMH : Hid (Mods [] w1 wh) := Lib.hid (by rw [← hwh]; exact HM2.out.alloc _)
    have hb1 : w1.heap.size ≤ hb := by rw [← hhb]; exact HM2.out.size
    have hbh : hb < wh.heap.size := by rw [← hwh, ← hhb]; simp
    rw [hwh, hhb]
    clear hwh hhb
    obtain ⟨q1, q2⟩ := HC.out wh HMH.out
    go_cut [10, 11] from 36 to 56 (fun ev pv wx => ∃ (tb : Nat) (t : Tab) (mv : Value) (en : Nat), ev = .int .i64 (en : Nat) ∧ pv = .pointer (some ⟨tb, 0, none⟩) ∧ Hid (ParseOut wh wx tb t mv en o))
    case first =>
     go_region_held3 (fun w' => w'.cell? ⟨b, 1, none⟩ = some (.int .i64 (P.n : Nat)) ∧ w'.cell? ⟨b, 2 + s, none⟩ = some (.pointer (some ⟨x s, 0, none⟩)))
      (first | go_keep | exact HC.out _ (HMH.out.tr HM5.out) | exact HC.out _ (HMH.out.tr HM4.out) | exact HC.out _ (HMH.out.tr HM3.out) | exact HC.out _ (HMH.out.tr (HM5.out.alloc _)) | exact HC.out _ (HMH.out.tr (HM5.out.set3 HM4.out.size _ _ _)) | exact HC.out _ (HMH.out.tr (HM5.out.set3 HM3.out.size _ _ _)) | exact HC.out _ (HMH.out.tr (HM5.out.set3 (Nat.le_refl _) _ _ _)) | fail)
      (first | (go_at_call 53; refine ((HP1.out _ (HMH.out.tr (by first | exact (Mods.refl _ _).drew | exact ((Mods.refl _ _).alloc _).drew))).sh hs).mono ?_; rintro e w3 ⟨rfl, hm3⟩; have HM3 : Hid (Mods [] wh w3) := (by first | exact Lib.hid (((Mods.refl _ _).drew).tr hm3) | exact Lib.hid ((((Mods.refl _ _).alloc _).drew).tr hm3)); (first | (have hz : Blk w3 wh.heap.size 71 [.int .i64 0, .int .i64 0, .slice none 0 0] := Blk.newD hm3) | skip)) | (go_at_call 110; refine (cBlocks.out _).mono ?_; rintro e w4 ⟨rfl, hm4⟩; have HM4 : Hid (Mods [] wh w4) := (by first | exact Lib.hid (HM3.out.tr hm4) | exact Lib.hid ((HM3.out.alloc _).tr hm4)); (first | (have hz := hz.keep0 hm4) | (have hz : Blk w4 w3.heap.size 71 [.int .i64 0, .int .i64 0, .slice none 0 0] := Blk.newK hm4) | skip)) | (go_at_call 187; refine (cParse.out _).mono ?_; rintro e w5 ⟨t, mv5, en, rfl, hsays, hmv, hnew, hm5⟩; have HM5 : Hid (Mods [] wh w5) := (by first | exact Lib.hid (HM4.out.tr hm5) | exact Lib.hid ((HM4.out.alloc _).tr hm5)); (first | (have hzn := new_ne hz hnew; have hz := hz.keep0 hm5) | (have hzn := new_ne (Blk.new w4 71 [.int .i64 0, .int .i64 0, .slice none 0 0]) hnew; have hz : Blk w5 w4.heap.size 71 [.int .i64 0, .int .i64 0, .slice none 0 0] := Blk.newK hm5) | skip); (have hnw : ∀ g, mv5.ownBlock = some g → wh.heap.size ≤ g := fun g hg => Nat.le_trans HM4.out.size (by have h7 := hnew g hg; (try simp at h7); omega)); obtain ⟨A5, c5, e5, _⟩ := mv_shape hmv; subst e5; (first | (have z0 := hz.cell (i := 0) rfl; have z1 := hz.cell (i := 1) rfl; have z2 := hz.cell (i := 2) rfl; have f0 := hz.free 0; have f1 := hz.free 1; have f2 := hz.free 2) | skip)))
     all_goals go_wp2_with fail
     all_goals go_meet
     all_goals
      first
       | exact ⟨_, t, _, en, rfl, rfl, Lib.hid ⟨Blk.new w5 71 [.int .i64 (t.blocks : Nat), .int .i64 (t.spares : Nat), .slice A5 t.moved.length c5], hsays, IsMv.keep hmv ((Mods.refl [] w5).alloc _) (by simp), hnw, HM5.out.alloc _, HM5.out.size⟩⟩
       | exact ⟨_, t, _, en, rfl, rfl, Lib.hid ⟨(three_sets hz _ _ _).1, hsays, IsMv.keep hmv (three_sets hz _ _ _).2 hzn, hnw, HM5.out.set3 HM4.out.size _ _ _, HM4.out.size⟩⟩
       | exact ⟨_, t, _, en, rfl, rfl, Lib.hid ⟨(three_sets hz _ _ _).1, hsays, IsMv.keep hmv (three_sets hz _ _ _).2 hzn, hnw, HM5.out.set3 HM3.out.size _ _ _, HM3.out.size⟩⟩
       | exact ⟨_, t, _, en, rfl, rfl, Lib.hid ⟨(three_sets hz _ _ _).1, hsays, IsMv.keep hmv (three_sets hz _ _ _).2 hzn, hnw, HM5.out.set3 (Nat.le_refl _) _ _ _, Nat.le_refl _⟩⟩
    case rest =>
     obtain ⟨tb, t, mv, en, rfl, rfl, HO⟩ := hcut
     obtain ⟨A7, c7, e7, _⟩ := mv_shape HO.out.mvs
     subst e7
     have hmx := HO.out.mods
     have htb := HO.out.tb
     have hr := HR1.out wc (HMH.out.tr hmx)
     have s0 := hr.cell (i := 0) rfl
     have s1 := hr.cell (i := 1) rfl
     have s2 := hr.cell (i := 2) rfl
     have f0 := hr.free 0
     have f1 := hr.free 1
     have f2 := hr.free 2
     have b0 := HO.out.blk.cell (i := 0) rfl
     have b1 := HO.out.blk.cell (i := 1) rfl
     have b2 := HO.out.blk.cell (i := 2) rfl
     have g0 := HH.out wc hmx
     have hne1 : ¬ W.heap.size = tb := by omega
     have hne2 : ¬ W.heap.size = hb := by omega
     have hsays := HO.out.says
     obtain ⟨m, hm⟩ : ∃ m, t.moved.length = m := ⟨_, rfl⟩
     rw [hm] at b2
     have HMM := Lib.hid hm
     clear hmx hm
     cases o with
     | none =>
      obtain ⟨rfl, rfl⟩ := hsays
      have hm0 : m = 0 := HMM.out.symm
      subst hm0
      have b0 : wc.cell? ⟨tb, 0, none⟩ = some (.int .i64 0) := b0
      have b1 : wc.cell? ⟨tb, 1, none⟩ = some (.int .i64 0) := b1
      go_wp2_with fail
      refine wp_region_held_drew (S := fun w' => w'.cell? ⟨tb, 0, none⟩ = some (.int .i64 0) ∧ w'.cell? ⟨tb, 1, none⟩ = some (.int .i64 0) ∧ w'.cell? ⟨tb, 2, none⟩ = some (.slice A7 0 c7)) (by kernel_rfl) ⟨b0, b1, b2⟩ (fun hHeld => ?_)
      refine wpAnyH_take (i := 0) (oi := { dst := some 57, op := Op.load 71 (Operand.tmp 11), type := 71, pos := "remap.go:130", after := #[], guard := none }) (v := .agg #[.int .i64 0, .int .i64 0, .slice A7 0 c7]) rfl (by kernel_rfl) (by kernel_rfl) (by kernel_rfl) (fun _ _ _ h => h) (Or.inl ⟨by rfl, ?_⟩) hHeld ?_
      ·intro w hSw
       try dsimp only at hSw
       obtain ⟨b0, b1, b2⟩ := hSw
       go_simp
      try simp only [Act.put, List.setIfInBounds_toArray, List.set_cons_zero, List.set_cons_succ]
      refine wpAnyH_take (i := 1) (oi := { dst := some 58, op := Op.move (Operand.tmp 10), type := 28, pos := "remap.go:130", after := #[], guard := none }) (v := .int .i64 4) rfl (by kernel_rfl) (by kernel_rfl) (by kernel_rfl) (fun _ _ _ h => h) (Or.inl ⟨by rfl, ?_⟩) hHeld ?_
      ·intro w hSw
       try dsimp only at hSw
       obtain ⟨b0, b1, b2⟩ := hSw
       go_simp
      try simp only [Act.put, List.setIfInBounds_toArray, List.set_cons_zero, List.set_cons_succ]
      refine wpAnyH_take (i := 2) (oi := { dst := some 59, op := Op.binOp BinOp.eql 28 (Operand.tmp 58) (Operand.const (Value.int IntKind.i64 0)) 28, type := 4, pos := "remap.go:130", after := #[{ on := 1, ground := Ground.data }], guard := none }) (v := .bool false) rfl (by kernel_rfl) (by kernel_rfl) (by kernel_rfl) (fun _ _ _ h => h) (Or.inl ⟨by rfl, ?_⟩) hHeld ?_
      ·intro w hSw
       try dsimp only at hSw
       obtain ⟨b0, b1, b2⟩ := hSw
       go_simp
      try simp only [Act.put, List.setIfInBounds_toArray, List.set_cons_zero, List.set_cons_succ]
      refine wpAnyH_take (i := 3) (oi := { dst := some 60, op := Op.move (Operand.tmp 59), type := 4, pos := "remap.go:130", after := #[{ on := 2, ground := Ground.data }], guard := none }) (v := .bool false) rfl (by kernel_rfl) (by kernel_rfl) (by kernel_rfl) (fun _ _ _ h => h) (Or.inl ⟨by rfl, ?_⟩) hHeld ?_
      ·intro w hSw
       try dsimp only at hSw
       obtain ⟨b0, b1, b2⟩ := hSw
       go_simp
      try simp only [Act.put, List.setIfInBounds_toArray, List.set_cons_zero, List.set_cons_succ]
      refine wpAnyH_take (i := 4) (oi := { dst := some 61, op := Op.load 71 (Operand.tmp 11), type := 71, pos := "remap.go:130", after := #[{ on := 3, ground := Ground.guard }], guard := some (3, true) }) (v := undef) rfl (by kernel_rfl) (by kernel_rfl) (by kernel_rfl) (fun _ _ _ h => h) (Or.inr ⟨by rfl, rfl⟩) hHeld ?_
      try simp only [Act.put, List.setIfInBounds_toArray, List.set_cons_zero, List.set_cons_succ]
      refine wpAnyH_take (i := 5) (oi := { dst := some 62, op := Op.call { callee := Callee.value (Operand.func 104), args := #[Operand.tmp 61], argTypes := #[71] }, type := 42, pos := "remap.go:130", after := #[{ on := 4, ground := Ground.data }, { on := 3, ground := Ground.chain }, { on := 3, ground := Ground.guard }], guard := some (3, true) }) (v := undef) rfl (by kernel_rfl) (by kernel_rfl) (by kernel_rfl) (fun _ _ _ h => h) (Or.inr ⟨by rfl, rfl⟩) hHeld ?_
      try simp only [Act.put, List.setIfInBounds_toArray, List.set_cons_zero, List.set_cons_succ]
      refine wpAnyH_take (i := 6) (oi := { dst := some 63, op := Op.fieldAddr 211 (Operand.tmp 8) 2, type := 0, pos := "remap.go:130", after := #[{ on := 3, ground := Ground.guard }, { on := 10, ground := Ground.gcOnly Departure.lateStores }], guard := some (3, true) }) (v := undef) rfl (by kernel_rfl) (by kernel_rfl) (by kernel_rfl) (fun _ _ _ h => h) (Or.inr ⟨by rfl, rfl⟩) hHeld ?_
      try simp only [Act.put, List.setIfInBounds_toArray, List.set_cons_zero, List.set_cons_succ]
      refine wpAnyH_take (i := 7) (oi := { dst := some 64, op := Op.load 42 (Operand.tmp 63), type := 42, pos := "remap.go:130", after := #[{ on := 6, ground := Ground.data }, { on := 3, ground := Ground.guard }, { on := 10, ground := Ground.gcOnly Departure.lateStores }], guard := some (3, true) }) (v := undef) rfl (by kernel_rfl) (by kernel_rfl) (by kernel_rfl) (fun _ _ _ h => h) (Or.inr ⟨by rfl, rfl⟩) hHeld ?_
      try simp only [Act.put, List.setIfInBounds_toArray, List.set_cons_zero, List.set_cons_succ]
      refine wpAnyH_take (i := 8) (oi := { dst := some 65, op := Op.binOp BinOp.eql 42 (Operand.tmp 62) (Operand.tmp 64) 42, type := 4, pos := "remap.go:130", after := #[{ on := 5, ground := Ground.data }, { on := 7, ground := Ground.data }, { on := 3, ground := Ground.guard }, { on := 10, ground := Ground.gcOnly Departure.lateStores }], guard := some (3, true) }) (v := undef) rfl (by kernel_rfl) (by kernel_rfl) (by kernel_rfl) (fun _ _ _ h => h) (Or.inr ⟨by rfl, rfl⟩) hHeld ?_
      try simp only [Act.put, List.setIfInBounds_toArray, List.set_cons_zero, List.set_cons_succ]
      refine wpAnyH_take (i := 9) (oi := { dst := some 66, op := Op.pick (Operand.tmp 60) (Operand.tmp 65) (Operand.const (Value.bool false)), type := 4, pos := "remap.go:130", after := #[{ on := 3, ground := Ground.data }, { on := 8, ground := Ground.data }, { on := 10, ground := Ground.gcOnly Departure.lateStores }], guard := none }) (v := .bool false) rfl (by kernel_rfl) (by kernel_rfl) (by kernel_rfl) (fun _ _ _ h => h) (Or.inl ⟨by rfl, ?_⟩) hHeld ?_
      ·intro w hSw
       try dsimp only at hSw
       obtain ⟨b0, b1, b2⟩ := hSw
       go_simp
      try simp only [Act.put, List.setIfInBounds_toArray, List.set_cons_zero, List.set_cons_succ]
      refine wpAnyH_ready (rs := [10]) (by kernel_rfl) (by simp) ?_
      refine AllReadyH.cons (o := { dst := none, op := Op.store 71 (Operand.tmp 6) (Operand.tmp 57), type := 0, pos := "remap.go:130", after := #[{ on := 0, ground := Ground.data }, { on := 5, ground := Ground.chain }, { on := 0, ground := Ground.phase }, { on := 1, ground := Ground.textOnly Departure.lateStores }, { on := 2, ground := Ground.textOnly Departure.lateStores }, { on := 3, ground := Ground.textOnly Departure.lateStores }, { on := 4, ground := Ground.textOnly Departure.lateStores }, { on := 5, ground := Ground.textOnly Departure.lateStoresUnsure }, { on := 6, ground := Ground.textOnly Departure.lateStores }, { on := 7, ground := Ground.textOnly Departure.lateStores }, { on := 8, ground := Ground.textOnly Departure.lateStores }, { on := 9, ground := Ground.textOnly Departure.lateStores }], guard := none }) rfl (fun K hK => ?_) AllReadyH.nil
      go_simp
      refine hK.out _ _ (by go_keep; all_goals first | exact ⟨rfl, rfl⟩ | trivial) (fun hHeld => ?_)
      clear hK K
      try simp only [Act.put, List.setIfInBounds_toArray, List.set_cons_zero, List.set_cons_succ]
      refine wpAnyH_ready (rs := [11]) (by kernel_rfl) (by simp) ?_
      refine AllReadyH.cons (o := { dst := some 7, op := Op.assign (Operand.tmp 66), type := 4, pos := "remap.go:130", after := #[{ on := 9, ground := Ground.data }, { on := 10, ground := Ground.chain }, { on := 0, ground := Ground.phase }, { on := 1, ground := Ground.phase }, { on := 2, ground := Ground.phase }, { on := 3, ground := Ground.phase }, { on := 4, ground := Ground.phase }, { on := 5, ground := Ground.phase }, { on := 6, ground := Ground.phase }, { on := 7, ground := Ground.phase }, { on := 8, ground := Ground.phase }, { on := 9, ground := Ground.phase }, { on := 10, ground := Ground.phase }], guard := none }) rfl (fun K hK => ?_) AllReadyH.nil
      go_simp
      refine hK.out _ _ (by go_keep; all_goals first | exact ⟨rfl, rfl⟩ | trivial) (fun hHeld => ?_)
      clear hK K
      try simp only [Act.put, List.setIfInBounds_toArray, List.set_cons_zero, List.set_cons_succ]
      refine wpAnyH_done (by kernel_rfl) ?_ _
      go_wp2_with fail
      have hrd := hr.keep0 ((Mods.refl [] wc).drew)
      obtain ⟨k1, k2⟩ := three_sets hrd (.int .i64 0) (.int .i64 0) (.slice A7 0 c7)
      refine bodyPost_ret (results_ct rfl rfl (load_tab k1)) rfl ?_
      refine ⟨Tab.zero, .slice A7 0 c7, false, rfl, rfl, IsMv.keep (IsMv.keep HO.out.mvs ((Mods.refl [] wc).drew) (by simp)) k2 (fun g hg => ?_), fun g hg => ?_, ((HM1.out.tr HMH.out).tr (HO.out.mods.tr ((Mods.refl [] wc).drew))).trans k2 (fun k hk => .inr (by rw [List.mem_singleton.1 hk]; exact Nat.le_refl _))⟩
      ·have := HO.out.new g hg
       simp; omega
      ·have := HO.out.new g hg
       omega
     | some u =>
      obtain ⟨rfl, rfl⟩ := hsays
      have hok := HOK.out t rfl
      have cGen := Lib.hid (fun W hm => tGen_any (W := W) t (mv := .slice A7 t.moved.length c7) hm hok)
      rw [HMM.out] at cGen
      unfold tabV at cGen
      have HMV5 : Hid (IsMv wc.drew (.slice A7 m c7) t.moved) := Lib.hid (by rw [← HMM.out]; exact IsMv.keep HO.out.mvs (Mods.refl [] wc).drew (by simp))
      clear hok
      have HNEW := Lib.hid HO.out.new
      by_cases hmg : m = g
      ·subst hmg
       go_wp2_with fail
       go_region_held3 (fun w' => w'.cell? ⟨tb, 0, none⟩ = some (.int .i64 (t.blocks : Nat)) ∧ w'.cell? ⟨tb, 1, none⟩ = some (.int .i64 (t.spares : Nat)) ∧ w'.cell? ⟨tb, 2, none⟩ = some (.slice A7 m c7) ∧ w'.cell? ⟨hb, 2, none⟩ = some (.int .u64 (m : Nat)))
        (go_keep)
        (first | (go_at_call 104; refine (cGen.out _ HMV5.out).mono ?_; rintro e w6 ⟨rfl, hm6⟩; have HM6 : Hid (Mods [] wc w6) := Lib.hid (((Mods.refl _ _).drew).tr hm6); have hb6 := HO.out.blk.keep0 HM6.out; have b0 := hb6.cell (i := 0) rfl; have b1 := hb6.cell (i := 1) rfl; have b2 := hb6.cell (i := 2) rfl; rw [HMM.out] at b2; have g0 := HH.out w6 (HO.out.mods.tr HM6.out); have hr6 := hr.keep0 HM6.out; have s0 := hr6.cell (i := 0) rfl; have s1 := hr6.cell (i := 1) rfl; have s2 := hr6.cell (i := 2) rfl; have f0 := hr6.free 0; have f1 := hr6.free 1; have f2 := hr6.free 2))
       go_wp2_with fail
       obtain ⟨k1, k2⟩ := three_sets hr6 (.int .i64 (t.blocks : Nat)) (.int .i64 (t.spares : Nat)) (.slice A7 m c7)
       refine bodyPost_ret (results_ct rfl rfl (load_tab k1)) rfl ?_
       refine ⟨t, .slice A7 t.moved.length c7, true, by rw [HMM.out]; rfl, ?_, IsMv.keep (IsMv.keep HO.out.mvs HM6.out (by simp)) k2 (fun g hg => ?_), fun g hg => ?_, ((HM1.out.tr HMH.out).tr (HO.out.mods.tr HM6.out)).trans k2 (fun k hk => .inr (by rw [List.mem_singleton.1 hk]; exact Nat.le_refl _))⟩
       ·show FoundSays (if t.moved.length = m then some t else none) t true
        rw [if_pos HMM.out]; exact ⟨rfl, rfl⟩
       ·have := HNEW.out g hg
        simp; omega
       ·have := HNEW.out g hg
        omega
      ·have hmg2 : ¬ (m : Int) = (g : Int) := by omega
       have hbf : ((m : Int) == (g : Int)) = false := beq_eq_false_iff_ne.2 hmg2
       go_wp2_with fail
       go_region_held3 (fun w' => w'.cell? ⟨tb, 0, none⟩ = some (.int .i64 (t.blocks : Nat)) ∧ w'.cell? ⟨tb, 1, none⟩ = some (.int .i64 (t.spares : Nat)) ∧ w'.cell? ⟨tb, 2, none⟩ = some (.slice A7 m c7) ∧ w'.cell? ⟨hb, 2, none⟩ = some (.int .u64 (g : Nat)))
        (go_keep)
        (first | (go_at_call 104; refine (cGen.out _ HMV5.out).mono ?_; rintro e w6 ⟨rfl, hm6⟩; have HM6 : Hid (Mods [] wc w6) := Lib.hid (((Mods.refl _ _).drew).tr hm6); have hb6 := HO.out.blk.keep0 HM6.out; have b0 := hb6.cell (i := 0) rfl; have b1 := hb6.cell (i := 1) rfl; have b2 := hb6.cell (i := 2) rfl; rw [HMM.out] at b2; have g0 := HH.out w6 (HO.out.mods.tr HM6.out); have hr6 := hr.keep0 HM6.out; have s0 := hr6.cell (i := 0) rfl; have s1 := hr6.cell (i := 1) rfl; have s2 := hr6.cell (i := 2) rfl; have f0 := hr6.free 0; have f1 := hr6.free 1; have f2 := hr6.free 2))
       go_wp2_with fail
       obtain ⟨k1, k2⟩ := three_sets hr6 (.int .i64 (t.blocks : Nat)) (.int .i64 (t.spares : Nat)) (.slice A7 m c7)
       refine bodyPost_ret (results_ct rfl rfl (load_tab k1)) rfl ?_
       refine ⟨t, .slice A7 t.moved.length c7, false, by rw [HMM.out, ← hbf]; rfl, ?_, IsMv.keep (IsMv.keep HO.out.mvs HM6.out (by simp)) k2 (fun g hg => ?_), fun g hg => ?_, ((HM1.out.tr HMH.out).tr (HO.out.mods.tr HM6.out)).trans k2 (fun k hk => .inr (by rw [List.mem_singleton.1 hk]; exact Nat.le_refl _))⟩
       ·show FoundSays (if t.moved.length = g then some t else none) t false
        rw [if_neg (by rw [HMM.out]; exact hmg)]; rfl
       ·have := HNEW.out g hg
        simp; omega
       ·have := HNEW.out g hg
        omega
   ·have ha2 : ¬ a = (s : Int) := ha
    rw [if_neg (fun h => ha h.2)]
    subst hk
    clear h hbl hb1 hb2 hB hx1 hm1 hin ho hpl ha
    go_enter Tryz.func136, Tryz.ntmps136
    go_wp2_with (go_at_call 122; refine cOpen.out.mono ?_; rintro e w2 ⟨hv, p, en, rfl, ⟨rfl, rfl, rfl⟩, hm2⟩; unfold headV; have hr := (HR1.out w2 hm2).alloc (.cells #[.int .u8 2, .int .i64 a, .int .u64 (g : Nat)] 211); have s0 := hr.cell (i := 0) rfl; have s1 := hr.cell (i := 1) rfl; have s2 := hr.cell (i := 2) rfl; have f0 := hr.free 0; have f1 := hr.free 1; have f2 := hr.free 2)
    obtain ⟨k1, k2⟩ := three_sets hr (.int .i64 0) (.int .i64 0) (.slice none 0 0)
    refine bodyPost_ret (results_ct rfl rfl (load_tab k1)) rfl ?_
    exact ⟨Tab.zero, .slice none 0 0, false, rfl, rfl, IsMv.nil _, fun g hg => (by cases hg), ((HM1.out.tr hm2).alloc _).trans k2 (fun k hk => .inr (by rw [List.mem_singleton.1 hk]; exact Nat.le_refl _))⟩
  ·have hk2 : ¬ (k : Int) = 2 := by omega
   rw [if_neg (fun h => hk h.1)]
   clear h hbl hb1 hb2 hB hx1 hm1 hin ho hpl hk
   go_enter Tryz.func136, Tryz.ntmps136
   go_wp2_with (go_at_call 122; refine cOpen.out.mono ?_; rintro e w2 ⟨hv, p, en, rfl, ⟨rfl, rfl, rfl⟩, hm2⟩; unfold headV; have hr := (HR1.out w2 hm2).alloc (.cells #[.int .u8 (k : Nat), .int .i64 a, .int .u64 (g : Nat)] 211); have s0 := hr.cell (i := 0) rfl; have s1 := hr.cell (i := 1) rfl; have s2 := hr.cell (i := 2) rfl; have f0 := hr.free 0; have f1 := hr.free 1; have f2 := hr.free 2)
   obtain ⟨k1, k2⟩ := three_sets hr (.int .i64 0) (.int .i64 0) (.slice none 0 0)
   refine bodyPost_ret (results_ct rfl rfl (load_tab k1)) rfl ?_
   exact ⟨Tab.zero, .slice none 0 0, false, rfl, rfl, IsMv.nil _, fun g hg => (by cases hg), ((HM1.out.tr hm2).alloc _).trans k2 (fun k hk => .inr (by rw [List.mem_singleton.1 hk]; exact Nat.le_refl _))⟩
end Go.Proofs.YtkjpdfomppjiiaaGreatDoor
namespace Go.Proofs.YtkjpdfomppjiiaaGreatDoor
open Go.RowKit

theorem write_shape (D : Dev) (i : Int) (s : ByteArray) : (D.write i s).2.size = D.size ∧ (D.write i s).2.sectors = D.sectors := by
 have hb := Dev.burn_same D
 unfold Dev.write
 split
 ·simp
 ·split
  ·simp
  ·split
   ·simp
   ·split
    ·exact ⟨hb.2.1, hb.1⟩
    ·split
     ·exact ⟨hb.2.1, hb.1⟩
     ·unfold Dev.put
      simp only
      split
      ·split <;> exact ⟨hb.2.1, hb.1⟩
      ·split <;> exact ⟨hb.2.1, hb.1⟩
theorem flush_shape (D : Dev) : D.flush.2.size = D.size ∧ D.flush.2.sectors = D.sectors := by
 have hb := Dev.burn_same D
 unfold Dev.flush
 split
 ·simp
 ·split
  ·exact ⟨hb.2.1, hb.1⟩
  ·exact ⟨hb.2.1, hb.1⟩
theorem put_shape (D : Dev) (k : Nat) (x : ByteArray) : (putD D k x).2.size = D.size ∧ (putD D k x).2.sectors = D.sectors := by
 have h1 := write_shape D k x
 unfold putD
 simp only
 split
 ·have h2 := flush_shape (D.write k x).2
  exact ⟨h2.1.trans h1.1, h2.2.trans h1.2⟩
 ·exact h1
def upd {α : Type} (f : Nat → α) (s : Nat) (v : α) : Nat → α := fun k => if k = s then v else f k
theorem upd_at {α : Type} (f : Nat → α) (s : Nat) (v : α) : upd f s v s = v := if_pos rfl
theorem upd_other {α : Type} (f : Nat → α) {s k : Nat} (v : α) (h : k ≠ s) : upd f s v k = f k := if_neg h
theorem IsPair.turn {W w' : World} {b : Nat} {gp : List Nat} {x : Nat → Nat} {fx : Nat → List Nat} {P : Pr} (h : IsPair W b gp x fx P) {s : Nat} (hs : s < 2) {fp' : List Nat} {D' : Dev} (g : DevTo W w' (x s) (fx s) fp' D') (hd : D'.size = (P.dev s).size ∧ D'.sectors = (P.dev s).sectors) :
  IsPair w' b gp x (upd fx s fp') (P.setDev s D') := by
 have hsz : ∀ k, ((P.setDev s D').dev k).size = (P.dev k).size ∧ ((P.setDev s D').dev k).sectors = (P.dev k).sectors := by
  intro k
  show (if k = s then D' else P.dev k).size = _ ∧ (if k = s then D' else P.dev k).sectors = _
  split
  ·rename_i e; subst e; exact hd
  ·exact ⟨rfl, rfl⟩
 refine ⟨h.pb.keep g.mods (fun z hz => h.free z hz s hs), fun k hk => ?_, fun k hk z hz => ?_, fun z hz k hk => ?_, fun k hk => ?_, ?_⟩
 ·show IsDev w' (x k) (upd fx s fp' k) (if k = s then D' else P.dev k)
  by_cases e : k = s
  ·subst e; rw [upd_at, if_pos rfl]; exact g.dev
  ·rw [upd_other _ _ e, if_neg e]
   exact (h.dev k hk).keep g.mods (fun z hz hz2 => h.apart k hk z hz (by rw [show 1 - k = s by omega]; exact hz2))
 ·by_cases e : k = s
  ·subst e
   rw [upd_at] at hz
   rw [upd_other _ _ (by omega)]
   intro hz2
   rcases g.new z hz with h1 | h1
   ·exact h.apart k hk z h1 hz2
   ·have := (h.dev (1 - k) (by omega)).lt z hz2; omega
  ·rw [upd_other _ _ e] at hz
   rw [show 1 - k = s by omega, upd_at]
   intro hz2
   rcases g.new z hz2 with h1 | h1
   ·exact h.apart k hk z hz (by rw [show 1 - k = s by omega]; exact h1)
   ·have := (h.dev k hk).lt z hz; omega
 ·by_cases e : k = s
  ·subst e
   rw [upd_at]
   intro hz2
   rcases g.new z hz2 with h1 | h1
   ·exact h.free z hz k hk h1
   ·have := h.pb.lt z hz; omega
  ·rw [upd_other _ _ e]; exact h.free z hz k hk
 ·rw [(hsz k).1, (hsz k).2, (hsz 0).1, (hsz 0).2]; exact h.same k hk
 ·have := h.fit
  unfold Pr.Fit at this ⊢
  rw [(hsz 0).1, (hsz 0).2]
  exact this
theorem mv_ne {w : World} {b : Nat} {l : List Value} {mv : Value} {m : List Nat} (hb : Blk w b 123 l) (hm : IsMv w mv m) : ∀ g, mv.ownBlock = some g → g ≠ b := by
 intro g hg e
 subst e
 rcases hm.2 with ⟨rfl, _⟩ | ⟨g2, cap, cur, rfl, _, hh, _⟩
 ·cases hg
 ·injection hg with hg
  subst hg
  unfold Blk at hb
  rw [hb] at hh
  injection hh with hh
  injection hh with _ h2
  exact absurd h2 (by decide)
theorem sum_ne {w : World} {b sb : Nat} {l : List Value} (hb : Blk w b 123 l) (hs : Blk w sb 218 sumRow) : sb ≠ b := by
 intro e
 subst e
 unfold Blk at hb hs
 rw [hb] at hs
 injection hs with hs
 injection hs with _ h2
 exact absurd h2 (by decide)
theorem PairIn.put {w : World} {b sb : Nat} {x : Nat → Nat} {m : Nat → Value} {n : Nat} {t : Nat → Tab} (h : PairIn w b sb x m n t) {s : Nat} (hs : s < 2) {u : Tab} {mv : Value} (hmv : IsMv w mv u.moved) (hu : u.Ok) :
  PairIn (((w.setCell ⟨b, 4 + 3 * s, none⟩ (.int .i64 (u.blocks : Nat))).setCell ⟨b, 4 + 3 * s + 1, none⟩ (.int .i64 (u.spares : Nat))).setCell ⟨b, 4 + 3 * s + 2, none⟩ mv) b sb x (upd m s mv) n (upd t s u) ∧
   Mods [b] w (((w.setCell ⟨b, 4 + 3 * s, none⟩ (.int .i64 (u.blocks : Nat))).setCell ⟨b, 4 + 3 * s + 1, none⟩ (.int .i64 (u.spares : Nat))).setCell ⟨b, 4 + 3 * s + 2, none⟩ mv) := by
 have hm : Mods [b] w (((w.setCell ⟨b, 4 + 3 * s, none⟩ (.int .i64 (u.blocks : Nat))).setCell ⟨b, 4 + 3 * s + 1, none⟩ (.int .i64 (u.spares : Nat))).setCell ⟨b, 4 + 3 * s + 2, none⟩ mv) := (((Mods.refl _ _).setCell (.inl (by simp)) _).setCell (.inl (by simp)) _).setCell (.inl (by simp)) _
 refine ⟨⟨?_, h.sum.keep hm (by simpa using sum_ne h.blk h.sum), fun k hk => ?_, fun k hk => ?_, h.n⟩, hm⟩
 ·have hb := ((h.blk.set (4 + 3 * s) (.int .i64 (u.blocks : Nat))).set (4 + 3 * s + 1) (.int .i64 (u.spares : Nat))).set (4 + 3 * s + 2) mv
  rcases (show s = 0 ∨ s = 1 by omega) with rfl | rfl
  ·exact hb
  ·exact hb
 ·by_cases e : k = s
  ·subst e
   rw [upd_at, upd_at]
   exact IsMv.keep hmv hm (fun g hg => by simpa using mv_ne h.blk hmv g hg)
  ·rw [upd_other _ _ e, upd_other _ _ e]
   exact IsMv.keep (h.mv k hk) hm (fun g hg => by simpa using mv_ne h.blk (h.mv k hk) g hg)
 ·by_cases e : k = s
  ·subst e; rw [upd_at]; exact hu
  ·rw [upd_other _ _ e]; exact h.tok k hk
theorem IsPair.putTab {w : World} {b : Nat} {gp : List Nat} {x : Nat → Nat} {fx : Nat → List Nat} {P : Pr} (h : IsPair w b gp x fx P) {s : Nat} (hs : s < 2) {u : Tab} {mv : Value} (hmv : IsMv w mv u.moved) (hu : u.Ok) (hf : ∀ g, mv.ownBlock = some g → ∀ k, k < 2 → g ∉ fx k) :
  ∃ gp', IsPair (((w.setCell ⟨b, 4 + 3 * s, none⟩ (.int .i64 (u.blocks : Nat))).setCell ⟨b, 4 + 3 * s + 1, none⟩ (.int .i64 (u.spares : Nat))).setCell ⟨b, 4 + 3 * s + 2, none⟩ mv) b gp' x fx (P.setTab s u) ∧
   Mods [b] w (((w.setCell ⟨b, 4 + 3 * s, none⟩ (.int .i64 (u.blocks : Nat))).setCell ⟨b, 4 + 3 * s + 1, none⟩ (.int .i64 (u.spares : Nat))).setCell ⟨b, 4 + 3 * s + 2, none⟩ mv) ∧ ∀ g ∈ gp', g ∈ gp ∨ mv.ownBlock = some g := by
 obtain ⟨sb, m, hin, hgp, hbs⟩ := h.pb
 obtain ⟨h1, h2⟩ := hin.put hs hmv hu
 have hsub : ∀ g ∈ pairFoot b sb (upd m s mv), g ∈ gp ∨ mv.ownBlock = some g := by
  intro g hg
  subst hgp
  simp only [pairFoot, List.mem_cons, List.mem_append, Option.mem_toList] at hg ⊢
  rcases hg with hg | hg | hg | hg
  ·exact .inl (.inl hg)
  ·exact .inl (.inr (.inl hg))
  ·unfold upd at hg
   split at hg
   ·exact .inr hg
   ·exact .inl (.inr (.inr (.inl hg)))
  ·unfold upd at hg
   split at hg
   ·exact .inr hg
   ·exact .inl (.inr (.inr (.inr hg)))
 refine ⟨_, ⟨⟨sb, upd m s mv, h1, rfl, hbs⟩, fun k hk => (h.dev k hk).keep h2 (fun z hz hz2 => ?_), h.apart, fun z hz k hk => ?_, h.same, h.fit⟩, h2, hsub⟩
 ·rw [List.mem_singleton.1 hz2] at hz
  exact h.free b (by rw [hgp]; simp [pairFoot]) k hk hz
 ·rcases hsub z hz with h3 | h3
  ·exact h.free z h3 k hk
  ·exact hf z h3 k hk
end Go.Proofs.YtkjpdfomppjiiaaGreatDoor
