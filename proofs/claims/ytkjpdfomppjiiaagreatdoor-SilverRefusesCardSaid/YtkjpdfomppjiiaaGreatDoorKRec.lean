/- A record out of its bytes. -/
import Derived.Test.YtkjpdfomppjiiaaGreatDoorKC
import Derived.Deep.RegionHeld3
import Derived.Test.YtkjpdfomppjiiaaGreatDoorKB
/- rec and lend: a text with its length ahead; an update's check; its bytes. -/
namespace Go.Proofs.YtkjpdfomppjiiaaGreatDoor
open Go.RowKit

theorem run_one_string (W : World) (x : Nat) (hx : x < 256) : (convert 197 9 (.slice (some ⟨W.heap.size, 0, none⟩) 1 1)).run Tryz.prog (W.alloc (.cells #[.int .u8 (x : Nat)] 5)) = .ok (.string ⟨#[UInt8.ofNat x]⟩) (W.alloc (.cells #[.int .u8 (x : Nat)] 5)) := by
 have hB := Blk.new W 5 [.int .u8 (x : Nat)]
 have c0 := hB.cell (i := 0) rfl
 have hxn : ((UInt8.ofNat x).toNat : Int) = (x : Int) := by simp; omega
 refine run_convert_bytes_back (P := Tryz.prog) _ 197 9 5 ⟨W.heap.size, 0, none⟩ 1 [UInt8.ofNat x] Tryz.underlying197 Tryz.underlying5 Tryz.underlying9 (fun j hj => ?_)
 have hj2 : j = 0 := by have : j < 1 := hj; omega
 subst hj2
 simp only [List.getElem_cons_zero, hxn]; exact c0
def joinL (s : ByteArray) : List UInt8 := UInt8.ofNat s.size :: s.toList
theorem join_bA (s : ByteArray) : (⟨#[UInt8.ofNat s.size]⟩ : ByteArray) ++ s = bA (joinL s) := by
 have h := bA_of s
 have h2 : (⟨#[UInt8.ofNat s.size]⟩ : ByteArray) = bA [UInt8.ofNat s.size] := rfl
 rw [h2]
 conv => lhs; rhs; rw [← h]
 rw [bA_app]; rfl
set_option maxRecDepth 100000 in
theorem lJoin_any {W : World} (s : ByteArray) (hs : s.size ≤ 255) : Calls Tryz.prog 253 #[.string s] W fun e w' => ∃ z, e = .returned (.tuple #[.string z, .bool true]) ∧ Hid (z = bA (joinL s)) ∧ Hid (Mods [] W w') := by
 have hi : ¬ (255 : Int) < (s.size : Int) := by omega
 have hw : IntKind.u8.wrap (s.size : Int) = (s.size : Int) := by rw [IntKind.wrap_u8]; omega
 have hcv := run_one_string W s.size (by omega)
 obtain ⟨w6, hw6⟩ : ∃ w6, W.alloc (.cells #[.int .u8 (s.size : Nat)] 5) = w6 := ⟨_, rfl⟩
 have HM6 : Hid (Mods [] W w6) := Lib.hid (by rw [← hw6]; exact (Mods.refl _ _).alloc _)
 obtain ⟨o, ho⟩ : ∃ o : ByteArray, (⟨#[UInt8.ofNat s.size]⟩ : ByteArray) = o := ⟨_, rfl⟩
 have hj : o ++ s = bA (joinL s) := by rw [← ho]; exact join_bA s
 have ho1 : o.size = 1 := by rw [← ho]; rfl
 have hcat : ¬ 9223372036854775807 < o.size + s.size := by omega
 rw [hw6, ho] at hcv
 clear ho
 go_enter Tryz.func253, Tryz.ntmps253
 go_wp2_with fail
 go_ret2
 exact ⟨_, rfl, Lib.hid rfl, HM6⟩
structure UpdE where
 kind : Nat
 key : ByteArray
 value : ByteArray
 delta : Nat
def updC (u : UpdE) : List Value := [.int .u8 (u.kind : Nat), .string u.key, .string u.value, .int .u64 (u.delta : Nat)]
def updV (u : UpdE) : Value := .agg #[.int .u8 (u.kind : Nat), .string u.key, .string u.value, .int .u64 (u.delta : Nat)]
def updLarge (u : UpdE) : Bool := u.key.toList == [] || decide (16 < u.key.size) || decide (32 < u.value.size)
def updWrong (u : UpdE) : Bool := decide (u.kind < 1) || decide (3 < u.kind) || (u.kind != 1 && u.value.toList != []) || (u.kind != 3 && u.delta != 0)
def updMay (u : UpdE) : Nat := if updLarge u = true then 13 else if updWrong u = true then 2 else 0
set_option maxRecDepth 100000 in
set_option maxHeartbeats 1600000 in
theorem updCheck_any {W : World} (u : UpdE) : Calls Tryz.prog 144 #[updV u] W fun e w' => e = .returned (.int .i64 (updMay u : Nat)) ∧ Hid (Mods [] W w') := by
 obtain ⟨d, k, v, dl⟩ := u
 obtain ⟨w1, hw1⟩ : ∃ w1, W.alloc (.cells #[.int .u8 (d : Nat), .string k, .string v, .int .u64 (dl : Nat)] 188) = w1 := ⟨_, rfl⟩
 have HM : Hid (Mods [] W w1) := Lib.hid (by rw [← hw1]; exact (Mods.refl _ _).alloc _)
 have hB : Blk w1 W.heap.size 188 [.int .u8 (d : Nat), .string k, .string v, .int .u64 (dl : Nat)] := by rw [← hw1]; exact Blk.new W 188 _
 have c0 := hB.cell (i := 0) rfl
 have c1 := hB.cell (i := 1) rfl
 have c2 := hB.cell (i := 2) rfl
 have c3 := hB.cell (i := 3) rfl
 clear hB
 unfold updV
 simp only
 go_enter Tryz.func144, Tryz.ntmps144
 by_cases hl : updLarge ⟨d, k, v, dl⟩ = true
 ·have hm : updMay ⟨d, k, v, dl⟩ = 13 := by unfold updMay; rw [if_pos hl]
  rw [hm]
  unfold updLarge at hl
  simp only at hl
  by_cases h1 : (k.toList == []) = true
  ·go_wp2_with fail
   go_ret
   exact ⟨rfl, HM⟩
  ·rw [Bool.not_eq_true] at h1
   by_cases h2 : (16 : Int) < (k.size : Int)
   ·go_wp2_with fail
    go_ret
    exact ⟨rfl, HM⟩
   ·have h3 : (32 : Int) < (v.size : Int) := by
     rw [h1, decide_eq_false (p := 16 < k.size) (by omega)] at hl
     have : 32 < v.size := by simpa using hl
     omega
    go_wp2_with fail
    go_ret
    exact ⟨rfl, HM⟩
 ·have h1 : (k.toList == []) = false := by unfold updLarge at hl; simp only at hl; cases h : (k.toList == []) <;> simp_all
  have h2 : ¬ (16 : Int) < (k.size : Int) := fun h => hl (by unfold updLarge; simp only; rw [decide_eq_true (p := 16 < k.size) (by omega)]; simp)
  have h3 : ¬ (32 : Int) < (v.size : Int) := fun h => hl (by unfold updLarge; simp only; rw [decide_eq_true (p := 32 < v.size) (by omega)]; simp)
  unfold updMay
  rw [if_neg hl]
  clear hl
  unfold updWrong
  simp only
  by_cases h4 : (d : Int) < 1
  ·rw [if_pos (by rw [decide_eq_true (p := d < 1) (by omega)]; simp)]
   go_wp2_with fail
   go_ret
   exact ⟨rfl, HM⟩
  ·have e4 : decide (d < 1) = false := decide_eq_false (by omega)
   by_cases h5 : (3 : Int) < (d : Int)
   ·rw [if_pos (by rw [decide_eq_true (p := 3 < d) (by omega)]; simp)]
    go_wp2_with fail
    go_ret
    exact ⟨rfl, HM⟩
   ·have e5 : decide (3 < d) = false := decide_eq_false (by omega)
    rw [e4, e5]
    obtain rfl | rfl | rfl : d = 1 ∨ d = 2 ∨ d = 3 := by omega
    ·by_cases h7 : (dl : Int) = 0
     ·obtain rfl : dl = 0 := by omega
      go_wp2_with fail
      go_ret
      exact ⟨rfl, Lib.hid ((Mods.refl _ _).alloc _)⟩
     ·have h7' : ¬ dl = 0 := by omega
      go_wp2_with fail
      go_ret
      simp []
      exact Lib.hid ((Mods.refl _ _).alloc _)
    ·by_cases h6 : (v.toList == []) = true
     ·have h6' : v.toList = [] := eq_of_beq h6
      by_cases h7 : (dl : Int) = 0
      ·obtain rfl : dl = 0 := by omega
       go_wp2_with fail
       go_ret
       simp []
       exact Lib.hid ((Mods.refl _ _).alloc _)
      ·have h7' : ¬ dl = 0 := by omega
       go_wp2_with fail
       go_ret
       simp []
       exact Lib.hid ((Mods.refl _ _).alloc _)
     ·rw [Bool.not_eq_true] at h6
      have h6' : ¬ v.toList = [] := by simpa using h6
      go_wp2_with fail
      go_ret
      simp []
      exact Lib.hid ((Mods.refl _ _).alloc _)
    ·by_cases h6 : (v.toList == []) = true
     ·have h6' : v.toList = [] := eq_of_beq h6
      go_wp2_with fail
      go_ret
      simp []
      exact Lib.hid ((Mods.refl _ _).alloc _)
     ·rw [Bool.not_eq_true] at h6
      have h6' : ¬ v.toList = [] := by simpa using h6
      go_wp2_with fail
      go_ret
      simp []
      exact Lib.hid ((Mods.refl _ _).alloc _)
def updL (u : UpdE) : List UInt8 := UInt8.ofNat u.kind :: (joinL u.key ++ (if u.kind = 1 then joinL u.value else if u.kind = 3 then le8 8 u.delta else []))
structure UpdE.Ok (u : UpdE) : Prop where
 k1 : 1 ≤ u.kind
 k3 : u.kind ≤ 3
 key : u.key.size ≤ 16
 key0 : u.key.size ≠ 0
 val : u.value.size ≤ 32
 val0 : u.kind ≠ 1 → u.value.size = 0
 del : u.delta < 18446744073709551616
 del0 : u.kind ≠ 3 → u.delta = 0
theorem size_nil {s : ByteArray} : (s.toList == []) = decide (s.size = 0) := by
 have h : s.toList.length = s.size := by rw [Lib.toList_data]; exact Array.length_toList
 cases hl : s.toList with
 | nil => rw [hl] at h; rw [decide_eq_true (p := s.size = 0) (by simpa using h.symm)]; rfl
 | cons a l => rw [hl] at h; rw [decide_eq_false (p := s.size = 0) (by rw [← h]; simp)]; rfl
theorem UpdE.Ok.may {u : UpdE} (h : u.Ok) : updMay u = 0 := by
 obtain ⟨h1, h2, h3, h4, h5, h6, _, h7⟩ := h
 have hl : updLarge u = false := by
  unfold updLarge
  rw [size_nil, decide_eq_false h4, decide_eq_false (by omega), decide_eq_false (by omega)]; rfl
 have hw : updWrong u = false := by
  unfold updWrong
  rw [decide_eq_false (by omega), decide_eq_false (by omega)]
  by_cases e1 : u.kind = 1
  ·have := h7 (by omega)
   rw [this, e1]; simp
  ·have e2 := h6 e1
   have e3 : (u.value.toList != []) = false := by rw [bne, size_nil, decide_eq_true e2]; rfl
   rw [e3]
   by_cases e4 : u.kind = 3
   ·rw [e4]; simp
   ·rw [h7 e4]; simp
 unfold updMay
 rw [hl, hw]; rfl
theorem ok_of_may {u : UpdE} (h : updMay u = 0) (hd : u.delta < 18446744073709551616) : u.Ok := by
 unfold updMay at h
 have hl : updLarge u = false := by
  cases hl : updLarge u with
  | false => rfl
  | true => rw [if_pos hl] at h; cases h
 have hw : updWrong u = false := by
  cases hw : updWrong u with
  | false => rfl
  | true => rw [hl, if_neg (by simp), if_pos hw] at h; cases h
 unfold updLarge at hl
 rw [size_nil] at hl
 unfold updWrong at hw
 rw [show (u.value.toList != []) = !(u.value.toList == []) from rfl, size_nil] at hw
 simp only [Bool.or_eq_false_iff, Bool.and_eq_false_iff, decide_eq_false_iff_not, bne_eq_false_iff_eq, decide_eq_true_eq, Bool.not_eq_eq_eq_not, Bool.not_false] at hl hw
 obtain ⟨⟨l1, l2⟩, l3⟩ := hl
 obtain ⟨⟨⟨w1, w2⟩, w3⟩, w4⟩ := hw
 refine ⟨by omega, by omega, by omega, l1, by omega, fun hk => ?_, hd, fun hk => ?_⟩
 ·rcases w3 with w3 | w3
  ·exact absurd w3 hk
  ·simpa using w3
 ·rcases w4 with w4 | w4
  ·exact absurd w4 hk
  ·simpa using w4
theorem upd_join (d : Nat) (a : List UInt8) : (⟨#[UInt8.ofNat d]⟩ : ByteArray) ++ bA a = bA (UInt8.ofNat d :: a) := by
 have h2 : (⟨#[UInt8.ofNat d]⟩ : ByteArray) = bA [UInt8.ofNat d] := rfl
 rw [h2, bA_app]; rfl
set_option maxRecDepth 100000 in
set_option maxHeartbeats 1600000 in
theorem updBytes_any {W : World} (u : UpdE) (hu : u.Ok) : Calls Tryz.prog 270 #[updV u] W fun e w' => ∃ z, e = .returned (.string z) ∧ Hid (z = bA (updL u)) ∧ Hid (Mods [] W w') := by
 obtain ⟨d, k, v, dl⟩ := u
 obtain ⟨h1, h2, h3, h4, h5, h6, h7, h8⟩ := hu
 simp only at h1 h2 h3 h4 h5 h6 h7 h8
 unfold updV
 simp only
 obtain ⟨w1, hw1⟩ : ∃ w1, W.alloc (.cells #[.int .u8 (d : Nat), .string k, .string v, .int .u64 (dl : Nat)] 188) = w1 := ⟨_, rfl⟩
 have HM : Hid (Mods [] W w1) := Lib.hid (by rw [← hw1]; exact (Mods.refl _ _).alloc _)
 obtain ⟨g, hg⟩ : ∃ g, W.heap.size = g := ⟨_, rfl⟩
 have HB : Hid (Blk w1 g 188 [.int .u8 (d : Nat), .string k, .string v, .int .u64 (dl : Nat)]) := Lib.hid (by rw [← hw1, ← hg]; exact Blk.new W 188 _)
 have c1 := HB.out.cell (i := 1) rfl
 go_enter Tryz.func270, Tryz.ntmps270
 go_upto_region 1 with fail
 clear hw1 hg
 go_upto_region 2 with (go_at_call 253; refine (lJoin_any k (by omega)).mono ?_; rintro e w2 ⟨z, rfl, HZ, HM2⟩)
 have HB2 := Lib.hid (HB.out.keep HM2.out (by simp))
 have HMM := Lib.hid (HM.out.trans HM2.out (by simp))
 have d0 := HB2.out.cell (i := 0) rfl
 have hcv := run_one_string w2 d (by omega)
 obtain ⟨w3, hw3⟩ : ∃ w3, w2.alloc (.cells #[.int .u8 (d : Nat)] 5) = w3 := ⟨_, rfl⟩
 obtain ⟨o, ho⟩ : ∃ o : ByteArray, (⟨#[UInt8.ofNat d]⟩ : ByteArray) = o := ⟨_, rfl⟩
 have HJ : Hid (o ++ z = bA (UInt8.ofNat d :: joinL k)) := Lib.hid (by rw [← ho, HZ.out]; exact upd_join d _)
 have hoz : (o ++ z).size = k.size + 2 := by rw [HJ.out, bA_size]; simp [joinL, Lib.toList_data]
 have hos : o.size = 1 := by rw [← ho]; rfl
 have hzs : z.size = k.size + 1 := by rw [HZ.out, bA_size]; simp [joinL, Lib.toList_data]
 have hcat : ¬ 9223372036854775807 < o.size + z.size := by omega
 have HB3 : Hid (Blk w3 g 188 [.int .u8 (d : Nat), .string k, .string v, .int .u64 (dl : Nat)]) := Lib.hid (by rw [← hw3]; exact HB2.out.alloc _)
 have HM3 : Hid (Mods [] W w3) := Lib.hid (by rw [← hw3]; exact HMM.out.alloc _)
 rw [hw3, ho] at hcv
 clear ho c1 HM2 HM HB HMM
 go_upto_region 3 with fail
 clear hcv hw3 d0 HB2 hcat
 obtain ⟨oz, hozq⟩ : ∃ oz, o ++ z = oz := ⟨_, rfl⟩
 rw [hozq] at HJ hoz
 rw [hozq]
 clear hozq HZ hos hzs
 have q0 := HB3.out.cell (i := 0) rfl
 have q2 := HB3.out.cell (i := 2) rfl
 have q3 := HB3.out.cell (i := 3) rfl
 obtain rfl | rfl | rfl : d = 1 ∨ d = 2 ∨ d = 3 := by omega
 ·go_wp2_with (go_at_call 253; refine (lJoin_any v (by omega)).mono ?_; rintro e w4 ⟨y, rfl, HY, HM4⟩; have hyc : ¬ 9223372036854775807 < oz.size + y.size := by (rw [HY.out, bA_size]; simp [joinL, Lib.toList_data]; omega))
  go_ret
  refine ⟨_, rfl, Lib.hid ?_, Lib.hid (HM3.out.trans HM4.out (by simp))⟩
  rw [HJ.out, HY.out, bA_app]; rfl
 ·go_wp2_with fail
  go_ret
  refine ⟨_, rfl, Lib.hid ?_, HM3⟩
  rw [HJ.out]; simp [updL]
 ·obtain ⟨wa, hwa⟩ : ∃ wa, w3.alloc (.cells #[.int .i64 8] 3) = wa := ⟨_, rfl⟩
  obtain ⟨ga, hga⟩ : ∃ ga, w3.heap.size = ga := ⟨_, rfl⟩
  obtain ⟨wb, hwb⟩ : ∃ wb, wa.alloc (.cells #[.int .u64 (dl : Nat)] 42) = wb := ⟨_, rfl⟩
  obtain ⟨gb, hgb⟩ : ∃ gb, wa.heap.size = gb := ⟨_, rfl⟩
  have hA : Row wb (some ⟨ga, 0, none⟩) (intsRow [8]) := by rw [← hwb, ← hwa, ← hga]; exact (Row.new w3 3 (intsRow [8])).keep0 ((Mods.refl _ _).alloc _)
  have hBr : Row wb (some ⟨gb, 0, none⟩) (u64sRow [dl]) := by rw [← hwb, ← hgb]; exact Row.new wa 42 (u64sRow [dl])
  have HM5 : Hid (Mods [] W wb) := Lib.hid (by rw [← hwb, ← hwa]; exact (HM3.out.alloc _).alloc _)
  have cW := Lib.hid (lWrite_ex (c := 1) (c2 := 1) (n := 1) hA hBr rfl (by decide) (by decide) ⟨rfl, fun i w m e1 e2 => by
   match i, e1, e2 with
   | 0, e1, e2 => cases e1; cases e2; exact ⟨by decide, by decide, h7⟩
   | i + 1, e1, e2 => simp at e1⟩)
  have q3' : wa.cell? ⟨g, 3, none⟩ = some (.int .u64 (dl : Nat)) := by rw [← hwa]; exact (HB3.out.alloc _).cell (i := 3) rfl
  clear hA hBr
  go_wp2_with (go_at_call 163; refine cW.out.mono ?_; rintro e w4 ⟨y, rfl, HY, hys, hm4⟩; have HM4 := Lib.hid hm4; clear hm4; have hyc : ¬ 9223372036854775807 < oz.size + y.size := by (rw [hys]; simp; omega))
  go_ret
  refine ⟨_, rfl, Lib.hid ?_, Lib.hid (HM5.out.trans HM4.out (by simp))⟩
  rw [HJ.out, HY.out, bA_app]; simp [updL, leW]
end Go.Proofs.YtkjpdfomppjiiaaGreatDoor
/- lend.Split; an update out of its bytes. -/
namespace Go.Proofs.YtkjpdfomppjiiaaGreatDoor
open Go.RowKit

theorem toL_len (s : ByteArray) : s.toList.length = s.size := by rw [Lib.toList_data]; exact Array.length_toList
theorem joinL_len (a : ByteArray) : (joinL a).length = a.size + 1 := by unfold joinL; rw [List.length_cons, toL_len]
theorem extract_bA (l : List UInt8) (i j : Nat) : (bA l).extract i j = bA ((l.take j).drop i) := by
 apply ByteArray.ext
 rw [ByteArray.data_extract]
 unfold bA
 simp
 rw [List.drop_take]
theorem bA_zero {l : List UInt8} {x : UInt8} {s : ByteArray} (hs : s = bA (x :: l)) (h : 0 < s.size) : s[0] = x := by
 subst hs
 rfl
set_option maxRecDepth 100000 in
theorem lSplit_any {W : World} (s : ByteArray) (a : ByteArray) (r : List UInt8) (ha : a.size ≤ 255) (hs : s = bA (joinL a ++ r)) (hm : s.size ≤ 1000000) :
  Calls Tryz.prog 264 #[.string s] W fun e w' => ∃ y z, e = .returned (.tuple #[.string y, .string z, .bool true]) ∧ Hid (y = a) ∧ Hid (z = bA r) ∧ Hid (Mods [] W w') := by
 have hsz : s.size = a.size + 1 + r.length := by rw [hs, bA_size, List.length_append, joinL_len]
 have hne : s.toList.isEmpty = false := by
  have := toL_len s
  cases h : s.toList with
  | nil => rw [h] at this; simp at this; omega
  | cons _ _ => rfl
 have hne2 : (s.toList == []) = false := by rw [size_nil]; exact decide_eq_false (by omega)
 have h0 : 0 < s.size := by omega
 have hx : (s[0]'h0).toNat = a.size := by
  rw [bA_zero (x := UInt8.ofNat a.size) (l := a.toList ++ r) hs h0]
  simp; omega
 have hw1 : wrap64 ((s.size : Int) - 1) = ((a.size + r.length : Nat) : Int) := by unfold wrap64; omega
 have hw2 : wrap64 (a.size : Int) = (a.size : Int) := by unfold wrap64; omega
 have hw5 : IntKind.i64.wrap (a.size : Int) = (a.size : Int) := by rw [IntKind.wrap_i64]; omega
 obtain ⟨n, hn⟩ : ∃ n : Nat, 1 + (a.size : Int) = (n : Int) := ⟨a.size + 1, by omega⟩
 have hw3 : wrap64 (n : Int) = (n : Int) := by unfold wrap64; omega
 have hw4 : IntKind.i64.wrap (n : Int) = (n : Int) := by rw [IntKind.wrap_i64]; omega
 have hlt : ¬ ((a.size + r.length : Nat) : Int) < (a.size : Int) := by omega
 have hlt2 : ¬ (a.size + r.length) < a.size := by omega
 have hns : n ≤ s.size := by omega
 have hn1 : 1 ≤ n := by omega
 have e1 : s.extract 1 n = a := by
  rw [hs, extract_bA]
  have : n = (joinL a).length := by rw [joinL_len]; omega
  rw [this, List.take_left]
  exact bA_of a
 have e2 : s.extract n s.size = bA r := by
  rw [hs, extract_bA]
  have : n = (joinL a).length := by rw [joinL_len]; omega
  rw [bA_size, List.take_length, this, List.drop_left]
 have E1 := Lib.hid e1
 have E2 := Lib.hid e2
 clear hs e1 e2 hsz
 go_enter Tryz.func264, Tryz.ntmps264
 go_wp2_with fail
 go_region
 go_wp2_with fail
 go_ret3
 exact ⟨_, _, rfl, E1, E2, Lib.hid ((Mods.refl _ _).drew)⟩
theorem read1_any {W : World} {A : Option Addr} {cp k m : Nat} (hA : Row W A (intsRow [k])) (hk : 1 ≤ k ∧ k ≤ 8) (s : ByteArray) (r : List UInt8) (hs : s = bA (le8 k m ++ r)) (hm : m < 256 ^ k) (hl : s.size ≤ 1000000) :
  Calls Tryz.prog 190 #[.slice A 1 cp, .string s] W fun e w' => ∃ g c z, e = .returned (.tuple #[.slice (some ⟨g, 0, none⟩) 1 c, .string z, .bool true]) ∧ w'.cell? ⟨g, 0, none⟩ = some (.int .u64 (m : Nat)) ∧ Hid (Mods [] W w') ∧ Hid (z = bA r) := by
 have hll : s.toList = le8 k m ++ r := by rw [hs, bA_list]
 have hU : unW [k] s.toList = [m] := by
  rw [hll]
  have hf : FitsW [k] [m] := ⟨rfl, fun i w n e1 e2 => by
   match i, e1, e2 with
   | 0, e1, e2 => cases e1; cases e2; exact ⟨hk.1, hk.2, hm⟩
   | i + 1, e1, e2 => simp at e1⟩
  have := unW_leW hf r
  simpa [leW] using this
 refine (lRead_anyC (n := 1) hA rfl Nat.one_pos (by omega) (fun w hw => by rw [List.mem_singleton.1 hw]; exact hk) s (by rw [hs, bA_size]; simp [le8_len]) hl).mono fun e w' ⟨u, rest, e1, h1, h2, h3⟩ => ?_
 rw [hU] at h1
 obtain ⟨g, c, rfl, _, _⟩ := h1.form Nat.one_pos
 refine ⟨g, c, rest, e1, Row.c (own_row h1) (i := 0) rfl, Lib.hid h2, Lib.hid ?_⟩
 rw [← bA_of rest, h3, hll]
 have : [k].sum = (le8 k m).length := by rw [le8_len]; simp
 rw [this, List.drop_left]
theorem load_upd {w : World} {b : Nat} {a0 a1 a2 a3 : Value} (h : Blk w b 188 [a0, a1, a2, a3]) : (loadVar 188 ⟨b, 0, none⟩).run Tryz.prog w = .ok (.agg #[a0, a1, a2, a3]) w := by
 have c0 := h.cell (i := 0) (v := a0) rfl
 have c1 := h.cell (i := 1) (v := a1) rfl
 have c2 := h.cell (i := 2) (v := a2) rfl
 have c3 := h.cell (i := 3) (v := a3) rfl
 go_simp
theorem Mods.setNew {W w : World} (h : Mods [] W w) {g : Nat} (hg : W.heap.size ≤ g) (i : Nat) (v : Value) : Mods [] W (w.setCell ⟨g, i, none⟩ v) :=
 h.trans (show Mods [g] w (w.setCell ⟨g, i, none⟩ v) from (Mods.refl [g] w).setCell (by simp) v) (fun k hk => .inr (by rw [List.mem_singleton.1 hk]; exact hg))
theorem Blk.other {w : World} {g g' : Nat} {t : TypeId} {l : List Value} (h : Blk w g t l) (hne : g ≠ g') (i : Nat) (v : Value) : Blk (w.setCell ⟨g', i, none⟩ v) g t l :=
 h.keep (L := [g']) ((Mods.refl [g'] w).setCell (by simp) v) (by simpa using hne)
set_option maxRecDepth 100000 in
set_option maxHeartbeats 3200000 in
theorem recFirst_any {W : World} (u : UpdE) (hu : u.Ok) (r : List UInt8) (s : ByteArray) (hs : s = bA (updL u ++ r)) (hl : s.size ≤ 1000000) :
  Calls Tryz.prog 269 #[.string s] W fun e w' => ∃ z, e = .returned (.tuple #[updV u, .string z, .bool true]) ∧ Hid (z = bA r) ∧ Hid (Mods [] W w') := by
 obtain ⟨d, k, v, dl⟩ := u
 have hu0 := hu
 obtain ⟨h1, h2, h3, h4, h5, h6, h7, h8⟩ := hu
 simp only at h1 h2 h3 h4 h5 h6 h7 h8
 obtain ⟨tl, htl⟩ : ∃ tl, (if d = 1 then joinL v else if d = 3 then le8 8 dl else []) ++ r = tl := ⟨_, rfl⟩
 have hs1 : s = bA (le8 1 d ++ (joinL k ++ tl)) := by
  rw [hs, ← htl]
  unfold updL
  rw [show le8 1 d = [UInt8.ofNat d] by unfold le8; rw [Nat.mod_eq_of_lt (by omega)]; rfl]
  simp only [List.cons_append, List.nil_append, List.append_assoc]
 have hl1 : s.size = 1 + (k.size + 1 + tl.length) := by rw [hs1, bA_size, List.length_append, List.length_append, joinL_len, le8_len]
 obtain ⟨w0, hw0⟩ : ∃ w0, W.alloc (.cells #[.int .u8 0, .string ⟨#[]⟩, .string ⟨#[]⟩, .int .u64 0] 188) = w0 := ⟨_, rfl⟩
 obtain ⟨g2, hg2⟩ : ∃ g2, W.heap.size = g2 := ⟨_, rfl⟩
 obtain ⟨w1, hw1⟩ : ∃ w1, w0.alloc (.cells #[.int .i64 1] 3) = w1 := ⟨_, rfl⟩
 obtain ⟨g1, hg1⟩ : ∃ g1, w0.heap.size = g1 := ⟨_, rfl⟩
 have HR : Hid (Row w1 (some ⟨g1, 0, none⟩) (intsRow [1])) := Lib.hid (by rw [← hw1, ← hg1]; exact Row.new w0 3 (intsRow [1]))
 have HM1 : Hid (Mods [] W w1) := Lib.hid (by rw [← hw1, ← hw0]; exact ((Mods.refl _ _).alloc _).alloc _)
 have HB1 : Hid (Blk w1 g2 188 [.int .u8 0, .string ⟨#[]⟩, .string ⟨#[]⟩, .int .u64 0]) := Lib.hid (by rw [← hw1, ← hw0, ← hg2]; exact (Blk.new W 188 _).alloc _)
 have cR := Lib.hid (read1_any (W := w1) (cp := 1) HR.out (by decide) s (joinL k ++ tl) hs1 (by omega) hl)
 have HT := Lib.hid htl
 have HU := Lib.hid hu0
 clear hs hs1 htl hu0
 go_enter Tryz.func269, Tryz.ntmps269
 go_upto_region 4 with (go_at_call 190; refine cR.out.mono ?_; rintro e w2 ⟨gu, c, z, rfl, hcu, HM2, HZ⟩)
 have HB2 := Lib.hid (HB1.out.keep HM2.out (by simp))
 have HMM := Lib.hid (HM1.out.trans HM2.out (by simp))
 have hd8 : IntKind.u8.wrap (d : Int) = (d : Int) := by rw [IntKind.wrap_u8]; omega
 go_upto_region 5 with fail
 obtain ⟨w3, hw3⟩ : ∃ w3, w2.alloc (.cells #[.int .u8 (d : Nat), .string ⟨#[]⟩, .string ⟨#[]⟩, .int .u64 0] 188) = w3 := ⟨_, rfl⟩
 obtain ⟨g7, hg7⟩ : ∃ g7, w2.heap.size = g7 := ⟨_, rfl⟩
 have HB3 : Hid (Blk w3 g2 188 [.int .u8 0, .string ⟨#[]⟩, .string ⟨#[]⟩, .int .u64 0]) := Lib.hid (by rw [← hw3]; exact HB2.out.alloc _)
 have HC3 : Hid (Blk w3 g7 188 [.int .u8 (d : Nat), .string ⟨#[]⟩, .string ⟨#[]⟩, .int .u64 0]) := Lib.hid (by rw [← hw3, ← hg7]; exact Blk.new w2 188 _)
 have HM3 : Hid (Mods [] W w3) := Lib.hid (by rw [← hw3]; exact HMM.out.alloc _)
 have hne : g2 ≠ g7 := by have := HB2.out.lt; omega
 have hsz : W.heap.size ≤ g7 := by have := HMM.out.size; omega
 have hsz2 : W.heap.size ≤ g2 := by omega
 rw [hw3, hg7]
 clear hw3 hg7 cR HB2 HMM hcu hd8 HB1 HM1 HR HM2
 have cS := Lib.hid (lSplit_any (W := w3) z k tl (by omega) HZ.out (by rw [HZ.out, bA_size, List.length_append, joinL_len]; omega))
 have f1 := HC3.out.free 1
 have c1 := HC3.out.cell (i := 1) rfl
 go_upto_region 8 with (go_at_call 264; refine cS.out.mono ?_; rintro e w4 ⟨y, z2, rfl, HY, HZ2, HM4⟩; have f1 := (HC3.out.keep HM4.out (by simp)).free 1; have c1 := (HC3.out.keep HM4.out (by simp)).cell (i := 1) rfl)
 obtain ⟨w5, hw5⟩ : ∃ w5, w4.setCell ⟨g7, 1, none⟩ (.string y) = w5 := ⟨_, rfl⟩
 have HC5 : Hid (Blk w5 g7 188 [.int .u8 (d : Nat), .string y, .string ⟨#[]⟩, .int .u64 0]) := Lib.hid (by rw [← hw5]; exact (HC3.out.keep HM4.out (by simp)).set 1 _)
 have HB5 : Hid (Blk w5 g2 188 [.int .u8 0, .string ⟨#[]⟩, .string ⟨#[]⟩, .int .u64 0]) := Lib.hid (by rw [← hw5]; exact (HB3.out.keep HM4.out (by simp)).other hne _ _)
 have HM5 : Hid (Mods [] W w5) := Lib.hid (by rw [← hw5]; exact (HM3.out.trans HM4.out (by simp)).setNew hsz _ _)
 rw [hw5]
 clear hw5 HC3 HB3 HM3 HM4 cS f1 c1 HZ
 have hz2 : z2.size ≤ 1000000 := by rw [HZ2.out, bA_size]; omega
 clear hl1 hl hw0 hg2 hw1 hg1
 have e0 := HC5.out.cell (i := 0) rfl
 have n2 : ¬ g7 = g2 := fun e => hne e.symm
 have n1 : ¬ g2 = g7 := hne
 obtain rfl | rfl | rfl : d = 1 ∨ d = 2 ∨ d = 3 := by omega
 ·as_aux_lemma =>
  have ht1 : tl = joinL v ++ r := by rw [← HT.out]; rfl
  have hd0 : dl = 0 := h8 (by decide)
  subst hd0
  have cS := Lib.hid (lSplit_any (W := w5) z2 v r (by omega) (by rw [HZ2.out, ht1]) hz2)
  have f1 := HC5.out.free 2
  have c1 := HC5.out.cell (i := 2) rfl
  go_upto_region 15 with (go_at_call 264; refine cS.out.mono ?_; rintro e w8 ⟨y2, z3, rfl, HY2, HZ3, HM9⟩; have f2 := (HC5.out.keep HM9.out (by simp)).free 2; have c2 := (HC5.out.keep HM9.out (by simp)).cell (i := 2) rfl)
  obtain ⟨w6, hw6⟩ : ∃ w6, w8.setCell ⟨g7, 2, none⟩ (.string y2) = w6 := ⟨_, rfl⟩
  have HC6 : Hid (Blk w6 g7 188 [.int .u8 1, .string y, .string y2, .int .u64 0]) := Lib.hid (by rw [← hw6]; exact (HC5.out.keep HM9.out (by simp)).set 2 _)
  have HB6 : Hid (Blk w6 g2 188 [.int .u8 0, .string ⟨#[]⟩, .string ⟨#[]⟩, .int .u64 0]) := Lib.hid (by rw [← hw6]; exact (HB5.out.keep HM9.out (by simp)).other hne _ _)
  have HM6 : Hid (Mods [] W w6) := Lib.hid (by rw [← hw6]; exact (HM5.out.trans HM9.out (by simp)).setNew hsz _ _)
  rw [hw6]
  clear hw6 e0 f1 c1 HC5 HB5 HM5 HM9 cS f2 c2
  have hUV : updV ⟨1, k, v, 0⟩ = .agg #[.int .u8 1, .string y, .string y2, .int .u64 0] := by rw [HY.out, HY2.out]; rfl
  have cK := Lib.hid (fun W => updCheck_any (W := W) ⟨1, y, y2, 0⟩)
  have hmay : updMay ⟨1, y, y2, 0⟩ = 0 := by
   have h := HU.out
   rw [← HY.out, ← HY2.out] at h
   exact h.may
  rw [hmay] at cK
  unfold updV at cK
  simp only at cK
  clear hmay
  have a0 := HB6.out.cell (i := 0) rfl
  have a1 := HB6.out.cell (i := 1) rfl
  have a2 := HB6.out.cell (i := 2) rfl
  have a3 := HB6.out.cell (i := 3) rfl
  have e0 := HC6.out.cell (i := 0) rfl
  have e1 := HC6.out.cell (i := 1) rfl
  have e2 := HC6.out.cell (i := 2) rfl
  have e3 := HC6.out.cell (i := 3) rfl
  have f0 := HB6.out.free 0
  have f1 := HB6.out.free 1
  have f2 := HB6.out.free 2
  have f3 := HB6.out.free 3
  go_region_with ((go_at_call 144; refine (cK.out _).mono ?_; rintro e w7 ⟨rfl, HM7⟩; have HM8 := Lib.hid (((Mods.refl [] w6).drew).trans HM7.out (by simp)); have HB7 := Lib.hid (HB6.out.keep HM8.out (by simp)); have HC7 := Lib.hid (HC6.out.keep HM8.out (by simp)); have b0 := HB7.out.cell (i := 0) rfl; have b1 := HB7.out.cell (i := 1) rfl; have b2 := HB7.out.cell (i := 2) rfl; have b3 := HB7.out.cell (i := 3) rfl; have t0 := HC7.out.cell (i := 0) rfl; have t1 := HC7.out.cell (i := 1) rfl; have t2 := HC7.out.cell (i := 2) rfl; have t3 := HC7.out.cell (i := 3) rfl; have u0 := HB7.out.free 0; have u1 := HB7.out.free 1; have u2 := HB7.out.free 2; have u3 := HB7.out.free 3))
  all_goals go_wp2_with fail
  all_goals refine bodyPost_ret (results_ctt rfl rfl (load_upd ((((HB7.out.set 0 _).set 1 _).set 2 _).set 3 _))) rfl ?_
  all_goals rw [hUV]
  all_goals exact ⟨_, rfl, HZ3, Lib.hid (((((HM6.out.trans HM8.out (by simp)).setNew hsz2 _ _).setNew hsz2 _ _).setNew hsz2 _ _).setNew hsz2 _ _)⟩
 ·as_aux_lemma =>
  have ht2 : tl = r := by rw [← HT.out]; rfl
  have hd0 : dl = 0 := h8 (by decide)
  subst hd0
  go_wp2_with fail
  clear e0
  have hv : v = ⟨#[]⟩ := by have := h6 (by decide); exact ByteArray.ext (Array.eq_empty_of_size_eq_zero this)
  have hUV : updV ⟨2, k, v, 0⟩ = .agg #[.int .u8 2, .string y, .string ⟨#[]⟩, .int .u64 0] := by rw [HY.out, hv]; rfl
  have cK := Lib.hid (fun W => updCheck_any (W := W) ⟨2, y, ⟨#[]⟩, 0⟩)
  have hmay : updMay ⟨2, y, ⟨#[]⟩, 0⟩ = 0 := by
   have h := HU.out
   rw [← HY.out, hv] at h
   exact h.may
  rw [hmay] at cK
  unfold updV at cK
  simp only at cK
  have HZ3 : Hid (z2 = bA r) := Lib.hid (by rw [HZ2.out, ht2])
  clear hmay hv ht2
  have a0 := HB5.out.cell (i := 0) rfl
  have a1 := HB5.out.cell (i := 1) rfl
  have a2 := HB5.out.cell (i := 2) rfl
  have a3 := HB5.out.cell (i := 3) rfl
  have e0 := HC5.out.cell (i := 0) rfl
  have e1 := HC5.out.cell (i := 1) rfl
  have e2 := HC5.out.cell (i := 2) rfl
  have e3 := HC5.out.cell (i := 3) rfl
  have f0 := HB5.out.free 0
  have f1 := HB5.out.free 1
  have f2 := HB5.out.free 2
  have f3 := HB5.out.free 3
  go_region_with ((go_at_call 144; refine (cK.out _).mono ?_; rintro e w7 ⟨rfl, HM7⟩; have HM8 := Lib.hid (((Mods.refl [] w5).drew).trans HM7.out (by simp)); have HB7 := Lib.hid (HB5.out.keep HM8.out (by simp)); have HC7 := Lib.hid (HC5.out.keep HM8.out (by simp)); have b0 := HB7.out.cell (i := 0) rfl; have b1 := HB7.out.cell (i := 1) rfl; have b2 := HB7.out.cell (i := 2) rfl; have b3 := HB7.out.cell (i := 3) rfl; have t0 := HC7.out.cell (i := 0) rfl; have t1 := HC7.out.cell (i := 1) rfl; have t2 := HC7.out.cell (i := 2) rfl; have t3 := HC7.out.cell (i := 3) rfl; have u0 := HB7.out.free 0; have u1 := HB7.out.free 1; have u2 := HB7.out.free 2; have u3 := HB7.out.free 3))
  all_goals go_wp2_with fail
  all_goals refine bodyPost_ret (results_ctt rfl rfl (load_upd ((((HB7.out.set 0 _).set 1 _).set 2 _).set 3 _))) rfl ?_
  all_goals rw [hUV]
  all_goals exact ⟨_, rfl, HZ3, Lib.hid (((((HM5.out.trans HM8.out (by simp)).setNew hsz2 _ _).setNew hsz2 _ _).setNew hsz2 _ _).setNew hsz2 _ _)⟩
 ·as_aux_lemma =>
  have ht3 : tl = le8 8 dl ++ r := by rw [← HT.out]; rfl
  have hv : v = ⟨#[]⟩ := by have := h6 (by decide); exact ByteArray.ext (Array.eq_empty_of_size_eq_zero this)
  obtain ⟨wa, hwa⟩ : ∃ wa, w5.alloc (.cells #[.int .i64 8] 3) = wa := ⟨_, rfl⟩
  obtain ⟨ga, hga⟩ : ∃ ga, w5.heap.size = ga := ⟨_, rfl⟩
  have hma : Mods [] w5 wa := by rw [← hwa]; exact (Mods.refl _ _).alloc _
  have hR : Row wa (some ⟨ga, 0, none⟩) (intsRow [8]) := by rw [← hwa, ← hga]; exact Row.new w5 3 (intsRow [8])
  have HCa := Lib.hid (HC5.out.keep hma (by simp))
  have HBa := Lib.hid (HB5.out.keep hma (by simp))
  have HMa := Lib.hid (HM5.out.trans hma (by simp))
  have cR := Lib.hid (read1_any (W := wa) (cp := 1) hR (by decide) z2 r (by rw [HZ2.out, ht3]) h7 hz2)
  clear hma hR
  go_upto_region 15 with (go_at_call 190; refine cR.out.mono ?_; rintro e w8 ⟨gv, c8, z3, rfl, hcv, HM9, HZ3⟩; have f2 := (HCa.out.keep HM9.out (by simp)).free 3; have c2 := (HCa.out.keep HM9.out (by simp)).cell (i := 3) rfl)
  obtain ⟨w6, hw6⟩ : ∃ w6, w8.setCell ⟨g7, 3, none⟩ (.int .u64 (dl : Nat)) = w6 := ⟨_, rfl⟩
  have HC6 : Hid (Blk w6 g7 188 [.int .u8 3, .string y, .string ⟨#[]⟩, .int .u64 (dl : Nat)]) := Lib.hid (by rw [← hw6]; exact (HCa.out.keep HM9.out (by simp)).set 3 _)
  have HB6 : Hid (Blk w6 g2 188 [.int .u8 0, .string ⟨#[]⟩, .string ⟨#[]⟩, .int .u64 0]) := Lib.hid (by rw [← hw6]; exact (HBa.out.keep HM9.out (by simp)).other hne _ _)
  have HM6 : Hid (Mods [] W w6) := Lib.hid (by rw [← hw6]; exact (HMa.out.trans HM9.out (by simp)).setNew hsz _ _)
  rw [hw6]
  clear hw6 e0 HC5 HB5 HM5 HM9 cR f2 c2 HCa HBa HMa hwa hga hcv
  have hUV : updV ⟨3, k, v, dl⟩ = .agg #[.int .u8 3, .string y, .string ⟨#[]⟩, .int .u64 (dl : Nat)] := by rw [HY.out, hv]; rfl
  have cK := Lib.hid (fun W => updCheck_any (W := W) ⟨3, y, ⟨#[]⟩, dl⟩)
  have hmay : updMay ⟨3, y, ⟨#[]⟩, dl⟩ = 0 := by
   have h := HU.out
   rw [← HY.out, hv] at h
   exact h.may
  rw [hmay] at cK
  unfold updV at cK
  simp only at cK
  clear hmay hv ht3
  have a0 := HB6.out.cell (i := 0) rfl
  have a1 := HB6.out.cell (i := 1) rfl
  have a2 := HB6.out.cell (i := 2) rfl
  have a3 := HB6.out.cell (i := 3) rfl
  have e0 := HC6.out.cell (i := 0) rfl
  have e1 := HC6.out.cell (i := 1) rfl
  have e2 := HC6.out.cell (i := 2) rfl
  have e3 := HC6.out.cell (i := 3) rfl
  have f0 := HB6.out.free 0
  have f1 := HB6.out.free 1
  have f2 := HB6.out.free 2
  have f3 := HB6.out.free 3
  go_region_with ((go_at_call 144; refine (cK.out _).mono ?_; rintro e w7 ⟨rfl, HM7⟩; have HM8 := Lib.hid (((Mods.refl [] w6).drew).trans HM7.out (by simp)); have HB7 := Lib.hid (HB6.out.keep HM8.out (by simp)); have HC7 := Lib.hid (HC6.out.keep HM8.out (by simp)); have b0 := HB7.out.cell (i := 0) rfl; have b1 := HB7.out.cell (i := 1) rfl; have b2 := HB7.out.cell (i := 2) rfl; have b3 := HB7.out.cell (i := 3) rfl; have t0 := HC7.out.cell (i := 0) rfl; have t1 := HC7.out.cell (i := 1) rfl; have t2 := HC7.out.cell (i := 2) rfl; have t3 := HC7.out.cell (i := 3) rfl; have u0 := HB7.out.free 0; have u1 := HB7.out.free 1; have u2 := HB7.out.free 2; have u3 := HB7.out.free 3))
  all_goals go_wp2_with fail
  all_goals refine bodyPost_ret (results_ctt rfl rfl (load_upd ((((HB7.out.set 0 _).set 1 _).set 2 _).set 3 _))) rfl ?_
  all_goals rw [hUV]
  all_goals exact ⟨_, rfl, HZ3, Lib.hid (((((HM6.out.trans HM8.out (by simp)).setNew hsz2 _ _).setNew hsz2 _ _).setNew hsz2 _ _).setNew hsz2 _ _)⟩
end Go.Proofs.YtkjpdfomppjiiaaGreatDoor
/- rec.Text: updates as bytes, one behind the other. -/
namespace Go.Proofs.YtkjpdfomppjiiaaGreatDoor
open Go.RowKit

def BldAt (B b : Nat) (l : List UInt8) (w : World) : Prop := Lib.IsBuilder 199 5 B b (Lib.byteCells l) w
section
variable {w w' : World} {B b : Nat} {l : List UInt8}
theorem BldAt.keep (h : BldAt B b l w) (hm : Mods [] w w') : BldAt B b l w' := by
 have key : ∀ p, Lib.BuilderAt 199 5 B b p (Lib.byteCells l) w → Lib.BuilderAt 199 5 B b p (Lib.byteCells l) w' := fun p ⟨h1, v, h2, h3, h4⟩ => ⟨h1, v, hm.keep h2 (by simp), owns_keepF h3 hm (by simp), h4⟩
 exact h.elim (fun x => .inl (key _ x)) (fun x => .inr (key _ x))
theorem BldAt.le (h : BldAt B b l w) : B ≤ b := h.elim (fun x => x.1) (fun x => x.1)
theorem bWrStr (h : BldAt B b l w) (s : ByteArray) (hl : l.length + s.size ≤ 1000000) (hB : B ≤ w.heap.size) :
  Calls Tryz.prog 96 #[.pointer (some ⟨b, 0, none⟩), .string s] w fun e w' => ∃ v, e = .returned v ∧ Hid (BldAt B b (l ++ s.toList) w') ∧ Hid (Below B w w') := by
 have := Any.Builder_WriteString (P := Tryz.prog) { Tryz.lays105 with } Tryz.Builder_Extra_105 B b (Lib.byteCells l) s w h (by rw [Lib.byteCells_length]; omega) hB
 refine (show Calls Tryz.prog 96 #[.pointer (some ⟨b, 0, none⟩), .string s] w _ from this).mono fun e w' ⟨h1, h2, h3⟩ => ⟨_, h1, Lib.hid ?_, Lib.hid h3⟩
 refine .inr ?_
 have e1 : Lib.byteCells (l ++ s.toList) = Lib.byteCells l ++ Lib.strCells s := by unfold Lib.byteCells Lib.strCells; rw [List.map_append, Lib.toList_data]
 rw [e1]
 exact h2
theorem bStr (h : BldAt B b l w) (hB : B ≤ w.heap.size) :
  Calls Tryz.prog 98 #[.pointer (some ⟨b, 0, none⟩)] w fun e w' => ∃ z, e = .returned (.string z) ∧ Hid (z = bA l) ∧ Hid (Below B w w') := by
 have := Any.Builder_String_any (P := Tryz.prog) { Tryz.lays105 with } Tryz.Builder_Extra_105 B b l w h hB
 exact (show Calls Tryz.prog 98 #[.pointer (some ⟨b, 0, none⟩)] w _ from this).mono fun e w' ⟨h1, h2⟩ => ⟨_, h1, Lib.hid rfl, Lib.hid h2⟩
end
def recL (us : List UpdE) : List UInt8 := us.flatMap updL
def recE : List UpdE → Nat
 | [] => 0
 | u :: us => if updMay u = 0 then recE us else updMay u
theorem recE_ok : ∀ {us : List UpdE}, (∀ u ∈ us, updMay u = 0) → recE us = 0
 | [], _ => rfl
 | u :: us, h => by
  unfold recE
  rw [if_pos (h u (by simp))]
  exact recE_ok fun v hv => h v (List.mem_cons_of_mem _ hv)
theorem recE_at : ∀ {us : List UpdE} {i : Nat} {u : UpdE}, us[i]? = some u → updMay u ≠ 0 → (∀ v ∈ us.take i, updMay v = 0) → recE us = updMay u
 | [], i, u, h, _, _ => by simp at h
 | a :: us, 0, u, h, hm, _ => by
  simp at h
  subst h
  unfold recE
  rw [if_neg hm]
 | a :: us, i + 1, u, h, hm, hb => by
  unfold recE
  rw [if_pos (hb a (by simp))]
  exact recE_at (by simpa using h) hm (fun v hv => hb v (by simp [hv]))
theorem updC_len (u : UpdE) : (updC u).length = 4 := rfl
def uRow (us : List UpdE) : List Value := us.flatMap updC
theorem uRow_at {w : World} {A : Option Addr} {R : List UpdE} (h : Row w A (uRow R)) {i : Nat} {x : UpdE} (hx : R[i]? = some x) : ∃ b off, A = some ⟨b, off, none⟩ ∧ w.cell? ⟨b, off + i * 4, none⟩ = some (.int .u8 (x.kind : Nat)) ∧ w.cell? ⟨b, off + i * 4 + 1, none⟩ = some (.string x.key) ∧
  w.cell? ⟨b, off + i * 4 + 2, none⟩ = some (.string x.value) ∧ w.cell? ⟨b, off + i * 4 + 3, none⟩ = some (.int .u64 (x.delta : Nat)) := by
 have g := fun (j : Nat) (hj : j < 4) => flat_get updC updC_len hx hj
 rcases h with h | ⟨b, off, h1, h2⟩
 ·have := g 0 (by omega)
  rw [show R.flatMap updC = uRow R from rfl, h] at this
  simp [updC] at this
 ·refine ⟨b, off, h1, ?_, ?_, ?_, ?_⟩
  ·exact h2 (i * 4) _ ((g 0 (by omega)).trans rfl)
  ·rw [Nat.add_assoc]; exact h2 (i * 4 + 1) _ ((g 1 (by omega)).trans rfl)
  ·rw [Nat.add_assoc]; exact h2 (i * 4 + 2) _ ((g 2 (by omega)).trans rfl)
  ·rw [Nat.add_assoc]; exact h2 (i * 4 + 3) _ ((g 3 (by omega)).trans rfl)
theorem updL_len {u : UpdE} (h : u.Ok) : (updL u).length ≤ 51 := by
 have h1 := h.key
 have h2 := h.val
 unfold updL
 rw [List.length_cons, List.length_append, joinL_len]
 split
 ·rw [joinL_len]; omega
 ·split
  ·rw [le8_len]; omega
  ·simp; omega
theorem recL_len : ∀ {us : List UpdE}, (∀ u ∈ us, u.Ok) → (recL us).length ≤ 51 * us.length
 | [], _ => by simp [recL]
 | u :: us, h => by
  have h1 := updL_len (h u (by simp))
  have h2 := recL_len (us := us) fun v hv => h v (List.mem_cons_of_mem _ hv)
  unfold recL at h2 ⊢
  rw [List.flatMap_cons, List.length_append, List.length_cons]
  omega
theorem recL_take {us : List UpdE} {i : Nat} {u : UpdE} (h : us[i]? = some u) : recL (us.take (i + 1)) = recL (us.take i) ++ updL u := by
 unfold recL
 rw [List.take_add_one, h]
 simp
set_option maxRecDepth 100000 in
set_option maxHeartbeats 3200000 in
theorem recText_any {W : World} {A : Option Addr} {len cap : Nat} {us : List UpdE} (hr : Row W A (uRow us)) (hn : us.length = len) (hl : len ≤ 10000) (hd : ∀ u ∈ us, u.delta < 18446744073709551616) :
  Calls Tryz.prog 236 #[.slice A len cap] W fun e w' => ∃ z, e = .returned (.tuple #[.string z, .int .i64 (recE us : Nat)]) ∧ Hid (recE us = 0 → z = bA (recL us)) ∧ Hid (Mods [] W w') := by
 have HR := Lib.hid hr
 have HN := Lib.hid hn
 have HD := Lib.hid hd
 clear hr hn hd
 obtain ⟨w0, hw0⟩ : ∃ w0, W.alloc (.cells #[.pointer none, .slice none 0 0] 199) = w0 := ⟨_, rfl⟩
 obtain ⟨b0, hb0⟩ : ∃ b0, W.heap.size = b0 := ⟨_, rfl⟩
 have HB0 : Hid (BldAt b0 b0 [] w0) := Lib.hid (by rw [← hw0, ← hb0]; exact Lib.fresh_isBuilder 199 5 W)
 have HM0 : Hid (Mods [] W w0) := Lib.hid (by rw [← hw0]; exact (Mods.refl _ _).alloc _)
 go_enter Tryz.func236, Tryz.ntmps236
 go_wp2_with fail
 clear hw0
 go_loopw [10] (fun iv wr => ∃ i : Nat, i ≤ len ∧ iv = .int .i64 (i : Nat) ∧ BldAt b0 b0 (recL (us.take i)) wr ∧ Mods [] W wr ∧ ∀ v ∈ us.take i, updMay v = 0) (fun iv _ => len - (intOf iv).toNat)
 case atStart => exact ⟨0, by omega, rfl, HB0.out, HM0.out, by simp⟩
 case round =>
  clear HB0 HM0
  obtain ⟨i, hi, rfl, hB, hM, hA⟩ := hrel
  have HB := Lib.hid hB
  have HM := Lib.hid hM
  have HA := Lib.hid hA
  clear hB hM hA
  by_cases hlt : i < len
  ·have hlti : (i : Int) < (len : Int) := by omega
   have hz : i < us.length := by rw [HN.out]; exact hlt
   have hx : us[i]? = some us[i] := List.getElem?_eq_getElem hz
   obtain ⟨bz, oz, rfl, d0, d1, d2, d3⟩ := uRow_at (HR.out.keep HM.out (fun _ _ => by simp)) hx
   have hdl := HD.out _ (List.getElem_mem hz)
   obtain ⟨u, hu⟩ : ∃ u, us[i] = u := ⟨_, rfl⟩
   rw [hu] at hx d0 d1 d2 d3 hdl
   have HX := Lib.hid hx
   obtain ⟨wa, hwa⟩ : ∃ wa, wr.alloc (.cells #[.int .u8 (u.kind : Nat), .string u.key, .string u.value, .int .u64 (u.delta : Nat)] 188) = wa := ⟨_, rfl⟩
   obtain ⟨bx, hbx⟩ : ∃ bx, wr.heap.size = bx := ⟨_, rfl⟩
   have HBX : Hid (Blk wa bx 188 [.int .u8 (u.kind : Nat), .string u.key, .string u.value, .int .u64 (u.delta : Nat)]) := Lib.hid (by rw [← hwa, ← hbx]; exact Blk.new wr 188 _)
   have HMA : Hid (Mods [] wr wa) := Lib.hid (by rw [← hwa]; exact (Mods.refl _ _).alloc _)
   have cK := Lib.hid (fun W => updCheck_any (W := W) u)
   unfold updV at cK
   clear hx hu
   go_upto_region 5 with fail
   try rw [hwa, hbx]
   clear hwa hbx d0 d1 d2 d3
   have c0 := HBX.out.cell (i := 0) rfl
   have c1 := HBX.out.cell (i := 1) rfl
   have c2 := HBX.out.cell (i := 2) rfl
   have c3 := HBX.out.cell (i := 3) rfl
   by_cases hmay : updMay u = 0
   ·have hok := ok_of_may hmay hdl
    have cY := Lib.hid (fun W => updBytes_any (W := W) u hok)
    unfold updV at cY
    rw [hmay] at cK
    have HOK := Lib.hid hok
    have HMAY := Lib.hid hmay
    clear hmay hok
    have hlenb : (recL (us.take i)).length ≤ 51 * i := by
     have h1 := recL_len (us := us.take i) (fun v hv => ok_of_may (HA.out v hv) (HD.out v (List.mem_of_mem_take hv)))
     rw [List.length_take] at h1
     omega
    have hub := updL_len HOK.out
    go_wp2_with (first
     | (go_at_call 96; refine (bWrStr (((HB.out.keep HMA.out).keep HM2.out).keep HM3.out) y (by rw [HY.out, bA_size]; omega) (by have h1 := HM.out.size; have h2 := HMA.out.size; have h3 := HM2.out.size; have h4 := HM3.out.size; omega)).mono ?_; rintro e w4 ⟨v4, rfl, HB4, HM4⟩)
     | (go_at_call 270; refine (cY.out _).mono ?_; rintro e w3 ⟨y, rfl, HY, HM3⟩)
     | (go_at_call 144; refine (cK.out _).mono ?_; rintro e w2 ⟨rfl, HM2⟩; have k0 := (HBX.out.keep HM2.out (by simp)).cell (i := 0) rfl; have k1 := (HBX.out.keep HM2.out (by simp)).cell (i := 1) rfl; have k2 := (HBX.out.keep HM2.out (by simp)).cell (i := 2) rfl; have k3 := (HBX.out.keep HM2.out (by simp)).cell (i := 3) rfl))
    go_roundw
    case rel =>
     refine ⟨i + 1, by omega, by go_num, ?_, ?_, ?_⟩
     ·rw [recL_take HX.out]
      have h := HB4.out
      rw [HY.out, bA_list] at h
      exact h
     ·have h3 := ((HM.out.trans HMA.out (by simp)).trans HM2.out (by simp)).trans HM3.out (by simp)
      exact Mods.of_below (h3.below.trans (by have h := HM4.out; rw [← hb0] at h; exact h)) []
     ·intro v hv
      rw [List.take_add_one, HX.out] at hv
      rcases List.mem_append.1 hv with hv | hv
      ·exact HA.out v hv
      ·simp at hv; subst hv; exact HMAY.out
    case measure => simp [intOf]; omega
   ·have hE := recE_at HX.out hmay HA.out
    obtain ⟨m, hm⟩ : ∃ m, updMay u = m := ⟨_, rfl⟩
    rw [hm] at cK hmay hE
    have hmi : ¬ (m : Int) = 0 := by omega
    have HE := Lib.hid hmay
    have HEE := Lib.hid hE
    clear hE hm
    go_wp2_with (go_at_call 144; refine (cK.out _).mono ?_; rintro e w2 ⟨rfl, HM2⟩)
    go_ret2
    rw [HEE.out]
    exact ⟨_, rfl, Lib.hid (fun h => absurd h HE.out), Lib.hid ((HM.out.trans HMA.out (by simp)).trans HM2.out (by simp))⟩
  ·obtain rfl : i = len := by omega
   have hall : us.take i = us := List.take_of_length_le (by rw [HN.out]; exact Nat.le_refl _)
   have hE : recE us = 0 := recE_ok (by have h := HA.out; rw [hall] at h; exact h)
   have HEE := Lib.hid hE
   rw [hall] at HB
   have cS := Lib.hid (bStr HB.out (by have := HM.out.size; omega))
   clear hall hE
   go_wp2_with (go_at_call 98; refine cS.out.mono ?_; rintro e w2 ⟨z, rfl, HZ, HM2⟩)
   go_ret2
   rw [HEE.out]
   exact ⟨_, rfl, Lib.hid (fun _ => HZ.out), Lib.hid (Mods.of_below (HM.out.below.trans (by have h := HM2.out; rw [← hb0] at h; exact h)) [])⟩
end Go.Proofs.YtkjpdfomppjiiaaGreatDoor
/- A record's payload and its link. -/
namespace Go.Proofs.YtkjpdfomppjiiaaGreatDoor
open Go.RowKit

def widthsR : List Nat := [8, 4, 2]
theorem recWidths_ex (W : World) : Calls Tryz.prog 234 #[] W fun e w' => ∃ b, e = .returned (.slice (some ⟨b, 0, none⟩) 3 3) ∧ Row w' (some ⟨b, 0, none⟩) (intsRow widthsR) ∧ Mods [] W w' := by
 go_enter Tryz.func234, Tryz.ntmps234
 go_wp2_with fail
 go_ret
 exact ⟨_, rfl, Row.new W 3 (intsRow widthsR), (Mods.refl _ _).alloc _⟩
def payL (seq chain : Nat) (us : List UpdE) : List UInt8 := leW widthsR [seq, chain, us.length] ++ recL us
theorem rec_fits {seq chain n : Nat} (h1 : seq < 18446744073709551616) (h2 : chain < 4294967296) (h3 : n < 65536) : FitsW widthsR [seq, chain, n] := by
 refine ⟨rfl, fun i w m e1 e2 => ?_⟩
 unfold widthsR at e1
 match i, e1, e2 with
 | 0, e1, e2 => cases e1; cases e2; exact ⟨by decide, by decide, h1⟩
 | 1, e1, e2 => cases e1; cases e2; exact ⟨by decide, by decide, h2⟩
 | 2, e1, e2 => cases e1; cases e2; exact ⟨by decide, by decide, h3⟩
 | i + 3, e1, e2 => simp at e1
theorem recText_ok {W : World} {A : Option Addr} {len cap : Nat} {us : List UpdE} (hr : Row W A (uRow us)) (hn : us.length = len) (hl : len ≤ 10000) (hd : ∀ u ∈ us, u.Ok) :
  Calls Tryz.prog 236 #[.slice A len cap] W fun e w' => ∃ z, e = .returned (.tuple #[.string z, .int .i64 0]) ∧ Hid (z = bA (recL us)) ∧ Hid (Mods [] W w') := by
 have hE : recE us = 0 := recE_ok fun u hu => (hd u hu).may
 refine (recText_any hr hn hl (fun u hu => (hd u hu).del)).mono fun e w' ⟨z, h1, h2, h3⟩ => ⟨z, ?_, Lib.hid (h2.out hE), h3⟩
 rw [hE] at h1
 exact h1
set_option maxRecDepth 100000 in
set_option maxHeartbeats 3200000 in
theorem recPay_any {W : World} {A : Option Addr} {len cap seq chain : Nat} {us : List UpdE} (hr : Row W A (uRow us)) (hn : us.length = len) (hl : len ≤ 10000) (hd : ∀ u ∈ us, u.Ok) (hs : seq < 18446744073709551616) (hc : chain < 4294967296) :
  Calls Tryz.prog 194 #[.agg #[.int .u64 (seq : Nat), .int .u32 (chain : Nat), .slice A len cap]] W fun e w' => ∃ z, e = .returned (.tuple #[.string z, .int .i64 0]) ∧ Hid (z = bA (payL seq chain us)) ∧ Hid (Mods [] W w') := by
 obtain ⟨w1, hw1⟩ : ∃ w1, W.alloc (.cells #[.int .u64 (seq : Nat), .int .u32 (chain : Nat), .slice A len cap] 180) = w1 := ⟨_, rfl⟩
 obtain ⟨g, hg⟩ : ∃ g, W.heap.size = g := ⟨_, rfl⟩
 have hb1 : Blk w1 g 180 [.int .u64 (seq : Nat), .int .u32 (chain : Nat), .slice A len cap] := by rw [← hw1, ← hg]; exact Blk.new W 180 _
 have hm1 : Mods [] W w1 := by rw [← hw1]; exact (Mods.refl _ _).alloc _
 have HB1 := Lib.hid hb1
 have HM1 := Lib.hid hm1
 have hf := rec_fits hs hc (n := len) (by omega)
 have HF := Lib.hid hf
 have cT := Lib.hid (recText_ok (cap := cap) (hr.keep0 hm1) hn hl hd)
 have HD := Lib.hid hd
 have HN := Lib.hid hn
 have c2 := hb1.cell (i := 2) rfl
 clear hb1 hm1 hf hr hd hn
 go_enter Tryz.func194, Tryz.ntmps194
 go_upto_region 1 with fail
 try rw [hw1, hg]
 clear hw1 hg
 have hlt : ¬ (65535 : Int) < (len : Int) := by omega
 go_upto_region 6 with (go_at_call 236; refine cT.out.mono ?_; rintro e w2 ⟨t, rfl, HT, HM2⟩; have c2 := (HB1.out.keep HM2.out (by simp)).cell (i := 2) rfl)
 have HB2 := Lib.hid (HB1.out.keep HM2.out (by simp))
 have HMM := Lib.hid (HM1.out.trans HM2.out (by simp))
 have q0 := HB2.out.cell (i := 0) rfl
 have q1 := HB2.out.cell (i := 1) rfl
 have q2 := HB2.out.cell (i := 2) rfl
 have HC : Hid (∀ w', Mods [] w2 w' → w'.cell? ⟨g, 0, none⟩ = some (.int .u64 (seq : Nat)) ∧ w'.cell? ⟨g, 1, none⟩ = some (.int .u32 (chain : Nat)) ∧ w'.cell? ⟨g, 2, none⟩ = some (.slice A len cap)) := Lib.hid (fun w' hm => by
  have hb := HB2.out.keep hm (by simp)
  exact ⟨hb.cell (i := 0) rfl, hb.cell (i := 1) rfl, hb.cell (i := 2) rfl⟩)
 have wk : IntKind.u64.wrap (chain : Int) = (chain : Int) := by rw [IntKind.wrap_u64]; omega
 have wl : IntKind.u64.wrap (len : Int) = (len : Int) := by rw [IntKind.wrap_u64]; omega
 clear c2 cT HB1 HM1 HM2
 go_region_held3 (fun w' => w'.cell? ⟨g, 0, none⟩ = some (.int .u64 (seq : Nat)) ∧ w'.cell? ⟨g, 1, none⟩ = some (.int .u32 (chain : Nat)) ∧ w'.cell? ⟨g, 2, none⟩ = some (.slice A len cap))
  (first | exact HC.out _ hM6' | exact HC.out _ hM5' | go_keep | fail)
  (first | (go_at_call 234; refine (recWidths_ex _).mono ?_; rintro e w5 ⟨b5, rfl, hR, hM5⟩; have hM5' : Mods [] w2 w5 := by (first | exact ((Mods.refl _ _).drew).tr hM5 | exact (((Mods.refl _ _).alloc _).drew).tr hM5 | exact (((Mods.refl _ _).drew).alloc _).tr hM5)) | (go_at_call 163; refine (lWrite_ex (ws := widthsR) (ns := [seq, chain, len]) (by first | exact hR | exact hR.keep0 ((Mods.refl _ _).alloc _)) (by first | exact Row.new w5 42 (u64sRow [seq, chain, len]) | exact (Row.new w2 42 (u64sRow [seq, chain, len])).keep0 (((Mods.refl _ _).drew).tr hM5)) (n := 3) rfl (by decide) (by decide) HF.out).mono ?_; rintro e w6 ⟨q, rfl, HQ, hq1, hM6⟩; replace hq1 : q.size = 14 := hq1; have hM6' : Mods [] w2 w6 := by (first | exact hM5'.tr hM6 | exact (hM5'.alloc _).tr hM6)) | fail)
 all_goals
  have HM6 := Lib.hid hM6'
  clear hR hM5 hM6 hM5' hM6'
  have ht := recL_len HD.out
  have hts : t.size ≤ 510000 := by rw [HT.out, bA_size]; have := HN.out; omega
  have hbig : ¬ 9223372036854775807 < q.size + t.size := by omega
  clear ht
  go_wp2_with fail
  go_ret2
  refine ⟨_, rfl, Lib.hid ?_, Lib.hid (HMM.out.trans HM6.out (by simp))⟩
  rw [HQ.out, HT.out, bA_app]
  unfold payL
  rw [HN.out]
end Go.Proofs.YtkjpdfomppjiiaaGreatDoor
/- A record's link; the updates of bytes. -/
namespace Go.Proofs.YtkjpdfomppjiiaaGreatDoor
open Go.RowKit

theorem load_rec {w : World} {b : Nat} {a0 a1 a2 : Value} (h : Blk w b 180 [a0, a1, a2]) : (loadVar 180 ⟨b, 0, none⟩).run Tryz.prog w = .ok (.agg #[a0, a1, a2]) w := by
 have c0 := h.cell (i := 0) (v := a0) rfl
 have c1 := h.cell (i := 1) (v := a1) rfl
 have c2 := h.cell (i := 2) (v := a2) rfl
 go_simp
set_option maxRecDepth 100000 in
set_option maxHeartbeats 1600000 in
theorem recLink_any {W : World} {sb : Nat} (hT : Blk W sb 218 sumRow) {A : Option Addr} {len cap seq chain : Nat} {us : List UpdE} (hr : Row W A (uRow us)) (hn : us.length = len) (hl : len ≤ 10000) (hd : ∀ u ∈ us, u.Ok) (hs : seq < 18446744073709551616) (hc : chain < 4294967296) :
  Calls Tryz.prog 143 #[.agg #[.int .u64 (seq : Nat), .int .u32 (chain : Nat), .slice A len cap], .pointer (some ⟨sb, 0, none⟩)] W fun e w' => e = .returned (.tuple #[.int .u32 (crcOn 0 (payL seq chain us) : Nat), .int .i64 0]) ∧ Hid (Mods [] W w') := by
 obtain ⟨w1, hw1⟩ : ∃ w1, W.alloc (.cells #[.int .u64 (seq : Nat), .int .u32 (chain : Nat), .slice A len cap] 180) = w1 := ⟨_, rfl⟩
 obtain ⟨g, hg⟩ : ∃ g, W.heap.size = g := ⟨_, rfl⟩
 have hb1 : Blk w1 g 180 [.int .u64 (seq : Nat), .int .u32 (chain : Nat), .slice A len cap] := by rw [← hw1, ← hg]; exact Blk.new W 180 _
 have hm1 : Mods [] W w1 := by rw [← hw1]; exact (Mods.refl _ _).alloc _
 have HM1 := Lib.hid hm1
 have HT := Lib.hid (hT.keep hm1 (by simp))
 have cP := Lib.hid (recPay_any (cap := cap) (hr.keep0 hm1) hn hl hd hs hc)
 have hpl : (payL seq chain us).length ≤ 600000 := by
  have h1 := recL_len hd
  unfold payL
  rw [List.length_append, leW_len (ws := widthsR) (ns := [seq, chain, us.length]) rfl]
  have : widthsR.sum = 14 := rfl
  omega
 have c0 := hb1.cell (i := 0) rfl
 have c1 := hb1.cell (i := 1) rfl
 have c2 := hb1.cell (i := 2) rfl
 clear hb1 hm1 hr hT
 go_enter Tryz.func143, Tryz.ntmps143
 go_upto_region 6 with (go_at_call 194; refine cP.out.mono ?_; rintro e w2 ⟨z, rfl, HZ, HM2⟩)
 obtain ⟨w3, hw3⟩ : ∃ w3, w2.alloc (.cells #[.string z] 9) = w3 := ⟨_, rfl⟩
 obtain ⟨g3, hg3⟩ : ∃ g3, w2.heap.size = g3 := ⟨_, rfl⟩
 have hR3 : Row w3 (some ⟨g3, 0, none⟩) [.string z] := by rw [← hw3, ← hg3]; exact Row.new w2 9 [.string z]
 have hm3 : Mods [] w2 w3 := by rw [← hw3]; exact (Mods.refl _ _).alloc _
 have cS := Lib.hid (sumOf_ex ((HT.out.keep HM2.out (by simp)).keep hm3 (by simp)) z hR3 (by rw [HZ.out, bA_size]; omega))
 have HM3 := Lib.hid ((HM1.out.trans HM2.out (by simp)).trans hm3 (by simp))
 clear hR3 hm3 c0 c1 c2
 go_wp2_with (go_at_call 161; refine cS.out.mono ?_; rintro e w4 ⟨c, rfl, HC, hm4⟩; have HM4 := Lib.hid hm4; clear hm4)
 go_ret2
 have hce : c = crcOn 0 (payL seq chain us) := by rw [HC.out, HZ.out, bA_list]
 subst hce
 exact ⟨rfl, Lib.hid (HM3.out.trans HM4.out.2 (by simp))⟩
theorem info_upd : (Tryz.prog.info? 188).map (fun i => (i.zero, i.size, i.bytes)) = some (some (.agg #[.int .u8 0, .string ⟨#[]⟩, .string ⟨#[]⟩, .int .u64 0]), 4, 48) := by kernel_rfl
def szR : Value → Nat
 | .string s => s.size
 | _ => 0
theorem cells_new4 (w : World) (a b c d : Value) (t : TypeId) (g : Nat) (hg : w.heap.size = g) : ∀ j u, [a, b, c, d][j]? = some u → (w.alloc (.cells #[a, b, c, d] t)).cell? ((⟨g, 0, none⟩ : Addr).add j) = some u := by
 intro j u hu
 subst hg
 have := (Blk.new w t [a, b, c, d]).cell hu
 rw [addr_add, Nat.zero_add]
 exact this
theorem updL_pos (u : UpdE) : 1 ≤ (updL u).length := by unfold updL; simp
set_option maxRecDepth 100000 in
set_option maxHeartbeats 3200000 in
theorem recParse_any {W : World} {us : List UpdE} (hd : ∀ u ∈ us, u.Ok) (s : ByteArray) (hs : s = bA (recL us)) (hl : us.length ≤ 10000) :
  Calls Tryz.prog 235 #[.string s] W fun e w' => ∃ A cap, e = .returned (.tuple #[.slice A us.length cap, .int .i64 0]) ∧ Hid (Row w' A (uRow us)) ∧ Hid (us.length ≤ cap ∧ cap ≤ maxLen) ∧ Hid (Mods [] W w') ∧ Hid (∀ a, A = some a → W.heap.size ≤ a.block) := by
 obtain ⟨i0, hi0, hz0, hz1, hz2⟩ := info_parts info_upd
 have HD := Lib.hid hd
 obtain ⟨n, hn⟩ : ∃ n, us.length = n := ⟨_, rfl⟩
 rw [hn] at hl ⊢
 have HN := Lib.hid hn
 have HS := Lib.hid hs
 have hsz : s.size ≤ 510000 := by rw [hs, bA_size]; have := recL_len hd; omega
 clear hd hn hs
 go_enter Tryz.func235, Tryz.ntmps235
 go_wp2_with fail
 go_loopw [0, 4] (fun sv ov wr => ∃ (i : Nat) (r : ByteArray), i ≤ n ∧ sv = .string r ∧ r = bA (recL (us.drop i)) ∧ r.size ≤ 510000 ∧ wr.ownsRow W.heap.size 188 4 ov i (uRow (us.take i)) ∧ Mods [] W wr) (fun sv _ _ => szR sv)
 case atStart => exact ⟨0, s, by omega, rfl, by rw [List.drop_zero]; exact HS.out, hsz, by simpa [uRow] using World.ownsRow_nil _ _ _ _, Mods.refl _ _⟩
 case round =>
  clear HS hsz
  obtain ⟨i, r, hi, rfl, hr, hrs, hown, hM⟩ := hrel
  have HR := Lib.hid hr
  have HO := Lib.hid hown
  have HM := Lib.hid hM
  clear hr hown hM
  by_cases hlt : i < n
  ·have hz : i < us.length := by rw [HN.out]; exact hlt
   have hdrop : us.drop i = us[i] :: us.drop (i + 1) := List.drop_eq_getElem_cons hz
   have htake : us.take (i + 1) = us.take i ++ [us[i]] := by rw [List.take_add_one, List.getElem?_eq_getElem hz]; rfl
   have hok := HD.out _ (List.getElem_mem hz)
   obtain ⟨u, hu⟩ : ∃ u, us[i] = u := ⟨_, rfl⟩
   rw [hu] at hdrop htake hok
   obtain ⟨r2, hr2⟩ : ∃ r2, recL (us.drop (i + 1)) = r2 := ⟨_, rfl⟩
   have hr3 : r = bA (updL u ++ r2) := by rw [HR.out, hdrop, ← hr2]; rfl
   have hup := updL_pos u
   have hsz : r.size = (updL u).length + r2.length := by rw [hr3, bA_size, List.length_append]
   have hne : r.toList.isEmpty = false := by
    have := toL_len r
    cases h : r.toList with
    | nil => rw [h] at this; simp at this; omega
    | cons _ _ => rfl
   have hne2 : (r.toList == []) = false := by rw [size_nil]; exact decide_eq_false (by omega)
   have cF := Lib.hid (recFirst_any (W := wr) u hok r2 r hr3 (by omega))
   unfold updV at cF
   have HT := Lib.hid htake
   have HR2 := Lib.hid hr2
   have HU := Lib.hid hup
   have HSZ := Lib.hid hsz
   clear hok hu hdrop htake hr3 hr2 hz hup hsz
   go_upto_region 6 with (go_at_call 269; refine cF.out.mono ?_; rintro e w2 ⟨z, rfl, HZ, HM2⟩)
   obtain ⟨w3, hw3⟩ : ∃ w3, w2.alloc (.cells #[.int .u8 (u.kind : Nat), .string u.key, .string u.value, .int .u64 (u.delta : Nat)] 188) = w3 := ⟨_, rfl⟩
   obtain ⟨bx, hbx⟩ : ∃ bx, w2.heap.size = bx := ⟨_, rfl⟩
   have hB3 : Blk w3 bx 188 [.int .u8 (u.kind : Nat), .string u.key, .string u.value, .int .u64 (u.delta : Nat)] := by rw [← hw3, ← hbx]; exact Blk.new w2 188 _
   have hm3 : Mods [] wr w3 := by rw [← hw3]; exact HM2.out.alloc _
   have HO3 := Lib.hid (owns_keepL HO.out hm3)
   have HM3 := Lib.hid (HM.out.trans hm3 (by simp))
   have c0 := hB3.cell (i := 0) rfl
   have c1 := hB3.cell (i := 1) rfl
   have c2 := hB3.cell (i := 2) rfl
   have c3 := hB3.cell (i := 3) rfl
   rw [hw3, hbx]
   clear hw3 hbx hB3 hm3 HO HM HM2 cF
   have hWs : W.heap.size ≤ w3.heap.size := HM3.out.size
   go_wp2_with (at_builtin; refine wpList_append_own _ rfl (.tmp 18) (.tmp 20) 82 rfl W.heap.size 188 i0 (.agg #[.int .u8 0, .string ⟨#[]⟩, .string ⟨#[]⟩, .int .u64 0]) 4 48 Tryz.underlying82 hi0 hz0 hz1 hz2 rfl (by decide) _ _ _ rfl (HO3.out.alloc _) ⟨w3.heap.size, 0, none⟩ 1 1 [.int .u8 (u.kind : Nat), .string u.key, .string u.value, .int .u64 (u.delta : Nat)] rfl rfl (cells_new4 _ _ _ _ _ _ _ rfl) (by simp [Value.oneCell']) (by unfold maxLen; omega) (by omega) (by simp; omega) ?_; intro v1 w4 hown1 hg1 _)
   have hm4 : Mods [] W w4 := (HM3.out.alloc _).grown hg1 (fun q hq => .inr (HO3.out.lt q hq).1)
   have HO4 := Lib.hid hown1
   have hzs : z.size = r2.length := by rw [HZ.out, bA_size]
   have h5 := HSZ.out
   have h6 := HU.out
   clear hown1 hg1
   go_roundw
   case rel =>
    refine ⟨i + 1, z, by omega, rfl, by rw [HZ.out, HR2.out], by omega, ?_, hm4⟩
    rw [HT.out]
    unfold uRow
    rw [List.flatMap_append]
    exact HO4.out
   case measure => simp only [szR]; omega
  ·obtain rfl : i = n := by omega
   have hdrop : us.drop i = [] := List.drop_of_length_le (by rw [HN.out]; exact Nat.le_refl _)
   have htake : us.take i = us := List.take_of_length_le (by rw [HN.out]; exact Nat.le_refl _)
   have h0 := HR.out
   rw [hdrop] at h0
   have hr0 : r = ⟨#[]⟩ := h0
   subst hr0
   rw [htake] at HO
   obtain ⟨A, cap, rfl, hrow⟩ : ∃ A cap, u4 = .slice A i cap ∧ Row wr A (uRow us) ∧ (i ≤ cap ∧ cap ≤ maxLen) ∧ ∀ a, A = some a → W.heap.size ≤ a.block := by
    rcases HO.out.2 with ⟨rfl, h1⟩ | ⟨g, cap, cur, rfl, hgb, hg, h2, h3, _, ht⟩
    ·subst h1
     exact ⟨none, 0, rfl, .inl (List.eq_nil_of_length_eq_zero (by have := HO.out.1; simpa using this)), ⟨Nat.le_refl _, Nat.zero_le _⟩, fun a e => by cases e⟩
    ·refine ⟨some ⟨g, 0, none⟩, cap, rfl, .inr ⟨g, 0, rfl, fun j v hj => ?_⟩, ⟨h2, h3⟩, fun a e => by cases e; exact hgb⟩
     rw [Nat.zero_add]
     have h4 := HO.out.cells rfl j v hj
     rw [addr_add, Nat.zero_add] at h4
     exact h4
   have HROW := Lib.hid hrow
   clear hrow hdrop htake h0 HO HR
   go_wp2_with fail
   go_ret2
   exact ⟨A, cap, rfl, Lib.hid HROW.out.1, Lib.hid HROW.out.2.1, HM, Lib.hid HROW.out.2.2⟩
end Go.Proofs.YtkjpdfomppjiiaaGreatDoor
namespace Go.Proofs.YtkjpdfomppjiiaaGreatDoor
open Go.RowKit

theorem Row.c2 {w : World} {b : Nat} {xs : List Value} (h : Row w (some ⟨b, 0, none⟩) xs) {i : Nat} {u : Value} (hi : xs[i]? = some u) : w.cell? ⟨b, i, none⟩ = some u := by
 obtain ⟨b', off, e, hc⟩ := h.at hi
 injection e with e
 injection e with e1 e2
 subst e1; subst e2
 rw [Nat.zero_add] at hc
 exact hc
theorem readR_any {W : World} {A : Option Addr} {cp a b m : Nat} (hA : Row W A (intsRow widthsR)) (hf : FitsW widthsR [a, b, m]) (s : ByteArray) (r : List UInt8) (hs : s = bA (leW widthsR [a, b, m] ++ r)) (hl : s.size ≤ 1000000) :
  Calls Tryz.prog 190 #[.slice A 3 cp, .string s] W fun e w' => ∃ g c z, e = .returned (.tuple #[.slice (some ⟨g, 0, none⟩) 3 c, .string z, .bool true]) ∧ Hid (Row w' (some ⟨g, 0, none⟩) (u64sRow [a, b, m])) ∧ Hid (Mods [] W w') ∧ Hid (z = bA r) := by
 have hll : s.toList = leW widthsR [a, b, m] ++ r := by rw [hs, bA_list]
 have hlen : (leW widthsR [a, b, m]).length = widthsR.sum := leW_len (ws := widthsR) (ns := [a, b, m]) rfl
 have hU : unW widthsR s.toList = [a, b, m] := by
  rw [hll]
  exact unW_leW hf r
 refine (lRead_anyC (n := 3) hA rfl (by decide) (by decide) (fits_widths hf) s (by rw [hs, bA_size, List.length_append, hlen]; omega) hl).mono fun e w' ⟨u, rest, e1, h1, h2, h3⟩ => ?_
 rw [hU] at h1
 obtain ⟨g, c, rfl, _, _⟩ := h1.form (by decide)
 refine ⟨g, c, rest, e1, Lib.hid (own_row h1), Lib.hid h2, Lib.hid ?_⟩
 rw [← bA_of rest, h3, hll, ← hlen, List.drop_left]
set_option maxRecDepth 100000 in
set_option maxHeartbeats 3200000 in
theorem recOpen_any {W : World} {us : List UpdE} (hd : ∀ u ∈ us, u.Ok) {seq chain : Nat} (hs : seq < 18446744073709551616) (hc : chain < 4294967296) (s : ByteArray) (hb : s = bA (payL seq chain us)) (hl : us.length ≤ 10000) :
  Calls Tryz.prog 193 #[.string s] W fun e w' => ∃ A cap, e = .returned (.tuple #[.agg #[.int .u64 (seq : Nat), .int .u32 (chain : Nat), .slice A us.length cap], .int .i64 0]) ∧ Hid (Row w' A (uRow us)) ∧ Hid (us.length ≤ cap ∧ cap ≤ maxLen) ∧ Hid (Mods [] W w') ∧ Hid (∀ a, A = some a → W.heap.size ≤ a.block) := by
 obtain ⟨n, hn⟩ : ∃ n, us.length = n := ⟨_, rfl⟩
 have hf := rec_fits hs hc (n := n) (by omega)
 have hrl := recL_len hd
 have hsz : s.size ≤ 1000000 := by
  rw [hb, bA_size]
  unfold payL
  rw [List.length_append, leW_len (ws := widthsR) (ns := [seq, chain, us.length]) rfl]
  have : widthsR.sum = 14 := rfl
  omega
 have cP := Lib.hid (fun (w : World) (z : ByteArray) (hz : z = bA (recL us)) => recParse_any (W := w) hd z hz hl)
 have hb2 : s = bA (leW widthsR [seq, chain, n] ++ recL us) := by rw [hb, ← hn]; rfl
 have cR := Lib.hid (fun (w : World) (A : Option Addr) (cp : Nat) (h : Row w A (intsRow widthsR)) => readR_any (cp := cp) h hf s (recL us) hb2 hsz)
 rw [hn] at hl cP ⊢
 clear hb hb2 hf hrl hd
 obtain ⟨w0, hw0⟩ : ∃ w0, W.alloc (.cells #[.int .u64 0, .int .u32 0, .slice none 0 0] 180) = w0 := ⟨_, rfl⟩
 obtain ⟨g2, hg2⟩ : ∃ g2, W.heap.size = g2 := ⟨_, rfl⟩
 have HB0 : Hid (Blk w0 g2 180 [.int .u64 0, .int .u32 0, .slice none 0 0]) := Lib.hid (by rw [← hw0, ← hg2]; exact Blk.new W 180 _)
 have HM0 : Hid (Mods [] W w0) := Lib.hid (by rw [← hw0]; exact (Mods.refl _ _).alloc _)
 have hnw : IntKind.u64.wrap (n : Int) = (n : Int) := by rw [IntKind.wrap_u64]; omega
 have hcw : IntKind.u32.wrap (chain : Int) = (chain : Int) := by rw [IntKind.wrap_u32]; omega
 go_enter Tryz.func193, Tryz.ntmps193
 go_upto_region 1 with fail
 try rw [hw0, hg2]
 clear hw0
 go_upto_region 7 with (first
  | (go_at_call 235; refine (cP.out _ _ HZ.out).mono ?_; rintro e w3 ⟨A, cap, rfl, HA, HCAP, HM3, HNA⟩; have hr3 := HRw.out.keep0 HM3.out; have r2 := hr3.c2 (i := 2) rfl)
  | (go_at_call 190; refine (cR.out _ _ _ HW1.out).mono ?_; rintro e w2 ⟨gu, c, z, rfl, HRw, HM2, HZ⟩)
  | (go_at_call 234; refine (recWidths_ex _).mono ?_; rintro e w1 ⟨bw, rfl, hw1, hm1⟩; have HW1 := Lib.hid hw1; have HM1 := Lib.hid hm1; clear hw1 hm1))
 have hM3 : Mods [] w0 w3 := (HM1.out.trans HM2.out (by simp)).trans HM3.out (by simp)
 have HB3 := Lib.hid (HB0.out.keep hM3 (by simp))
 have HMM := Lib.hid (HM0.out.trans hM3 (by simp))
 have q0 := hr3.c2 (i := 0) rfl
 have q1 := hr3.c2 (i := 1) rfl
 have p0 := HB3.out.cell (i := 0) rfl
 have p1 := HB3.out.cell (i := 1) rfl
 have p2 := HB3.out.cell (i := 2) rfl
 have f0 := HB3.out.free 0
 have f1 := HB3.out.free 1
 have f2 := HB3.out.free 2
 have hsz2 : W.heap.size ≤ g2 := by omega
 have HNG : Hid (∀ a, A = some a → a.block ≠ g2 ∧ W.heap.size ≤ a.block) := Lib.hid (fun a ha => by
  have h1 := HNA.out a ha
  have h2 := HB0.out.lt
  have h3 := HM1.out.size
  have h4 := HM2.out.size
  exact ⟨by omega, by omega⟩)
 clear hM3 hr3 HB0 HM0 HM1 HM2 HW1 HRw HNA
 go_region
 go_wp2_with fail
 have hm4 : Mods [g2] w3 ((((w3.setCell ⟨g2, 0, none⟩ (.int .u64 (seq : Nat))).setCell ⟨g2, 1, none⟩ (.int .u32 (chain : Nat))).setCell ⟨g2, 2, none⟩ (.slice A n cap)).drew) := ((((Mods.refl _ _).setCell (by simp) _).setCell (by simp) _).setCell (by simp) _).drew
 refine bodyPost_ret (results_ct rfl rfl (load_rec ((((HB3.out.set 0 _).set 1 _).set 2 _).keep (L := []) ((Mods.refl _ _).drew) (by simp)))) rfl ?_
 refine ⟨A, cap, rfl, Lib.hid (HA.out.keep hm4 (fun a ha => ?_)), HCAP, Lib.hid (HMM.out.trans hm4 (fun k hk => .inr (by rw [List.mem_singleton.1 hk]; exact hsz2))), Lib.hid (fun a ha => by have := (HNG.out a ha).2; omega)⟩
 simpa using (HNG.out a ha).1
end Go.Proofs.YtkjpdfomppjiiaaGreatDoor
