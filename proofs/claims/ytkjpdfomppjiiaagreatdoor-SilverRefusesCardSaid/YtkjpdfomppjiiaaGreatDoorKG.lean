/- What the laws of this seat have alike. -/
import Derived.Test.YtkjpdfomppjiiaaGreatDoorKF
import Derived.Laws.CopyOwn
import Derived.Deep.RegionWith
import Derived.Deep.CutRange
import Derived.Test.YtkjpdfomppjiiaaGreatDoorKA
import Derived.WideKeyArr
import Derived.Test.YtkjpdfomppjiiaaGreatDoorRows
import Derived.ProofKit
import Derived.OpenShut
import Derived.JoinedOf
import Derived.ChangeMaps5
/- slices.Repeat of one string. -/
namespace Go.Proofs.YtkjpdfomppjiiaaGreatDoor
open Go.RowKit

theorem info_strR : (Tryz.prog.info? 9).map (fun i => (i.zero, i.size, i.bytes)) = some (some (.string ⟨#[]⟩), 1, 16) := by kernel_rfl
theorem own_blk {w : World} {base : Nat} {e : TypeId} {g n : Nat} {xs : List Value} (h : w.ownsRow base e 1 (.slice (some ⟨g, 0, none⟩) n n) n xs) : Blk w g e xs := by
 obtain ⟨h0, h1⟩ := h
 rcases h1 with ⟨h1, _⟩ | ⟨g2, cap, cur, h1, _, hh, _, _, hs, ht⟩
 ·cases h1
 ·injection h1 with h1 h2 h3
  injection h1 with h1
  injection h1 with h1
  subst h1
  subst h3
  have : cur = xs.toArray := by
   apply Array.ext'
   rw [List.toList_toArray, ← ht, List.take_of_length_le]
   rw [Array.length_toList, hs]; exact Nat.le_refl _
  unfold Blk
  rw [hh, this]
def repRow (z : ByteArray) (m n : Nat) : List Value := List.replicate m (.string z) ++ List.replicate (n - m) (.string ⟨#[]⟩)
theorem repRow_len (z : ByteArray) {m n : Nat} (h : m ≤ n) : (repRow z m n).length = n := by simp [repRow]; omega
theorem repRow_splice (z : ByteArray) {m n c : Nat} (_h : m + c ≤ n) : splice (repRow z m n) m (List.replicate c (.string z)) = repRow z (m + c) n := by
 unfold splice repRow
 rw [List.take_left' (by simp), List.length_replicate, List.drop_append, List.length_replicate, List.drop_of_length_le (by simp), List.nil_append, show m + c - m = c by omega, List.drop_replicate, ← List.append_assoc, List.replicate_append_replicate, show n - m - c = n - (m + c) by omega]
theorem repRow_at (z : ByteArray) {m n j : Nat} (h : j < m) : (repRow z m n)[j]? = some (.string z) := by
 unfold repRow
 rw [List.getElem?_append_left (by simpa using h), List.getElem?_replicate, if_pos h]
theorem add_at (g o j : Nat) : (⟨g, o, none⟩ : Addr).add j = ⟨g, o + j, none⟩ := by
 unfold Addr.add; split <;> simp_all
theorem one_src {w : World} {g o : Nat} {u : Value} (h : w.cell? ⟨g, o, none⟩ = some u) : ∀ j v, [u][j]? = some v → w.cell? ((⟨g, o, none⟩ : Addr).add j) = some v := by
 intro j v hj
 cases j with
 | zero => injection hj with hj; rw [← hj, add_at]; exact h
 | succ j => cases hj
set_option maxRecDepth 100000 in
set_option maxHeartbeats 3200000 in
theorem sRepeatS_any {W : World} {A : Option Addr} {z : ByteArray} (hA : Row W A [.string z]) (n : Nat) (h1 : 1 ≤ n) (h2 : n ≤ 4096) :
  Calls Tryz.prog 47 #[.slice A 1 1, .int .i64 (n : Nat)] W fun e w' => ∃ g, e = .returned (.slice (some ⟨g, 0, none⟩) n n) ∧ Hid (Blk w' g 9 (List.replicate n (.string z))) ∧ Hid (Mods [] W w') ∧ W.heap.size ≤ g := by
 obtain ⟨i0, hi0, hz0, hz1, hz2⟩ := info_parts info_strR
 have cMul := Lib.hid (fun w => (Tryz.bits_Mul 1 n (by decide) (by omega) w).mono fun e w' h => (⟨h.1, h.2.symm⟩ : e = _ ∧ w = w'))
 have e1 : 1 * n / 18446744073709551616 = 0 := by omega
 have e2 : 1 * n % 18446744073709551616 = n := by omega
 rw [e1, e2] at cMul
 have hw1 : IntKind.u64.wrap (n : Int) = (n : Int) := by rw [IntKind.wrap_u64]; omega
 have hw2 : IntKind.i64.wrap (n : Int) = (n : Int) := by rw [IntKind.wrap_i64]; omega
 have HA := Lib.hid hA
 have hg0 : decide ((9223372036854775807 : Int) < (n : Int)) = false := decide_eq_false (by omega)
 have hg1 : decide ((n : Int) < 0) = false := decide_eq_false (by omega)
 have hg2 : ¬ (n : Int) < 0 := by omega
 have hg3 : ¬ (9223372036854775807 : Int) < (n : Int) := by omega
 obtain ⟨ga, oa, rfl, hc0⟩ : ∃ g o, A = some ⟨g, o, none⟩ ∧ W.cell? ⟨g, o, none⟩ = some (.string z) := by
  obtain ⟨b, o, e, hc⟩ := hA.at (i := 0) rfl
  exact ⟨b, o, e, hc⟩
 clear hA e1 e2
 go_enter Tryz.func47, Tryz.ntmps47
 have hsz : (Tryz.prog.info? 9).map (·.size) = some 1 := by kernel_rfl
 go_upto_region 7 with (first | (go_at_call 93; refine (cMul.out _).mono ?_; rintro e w' ⟨rfl, rfl⟩) | (at_make; refine wpList_make_full _ rfl (.tmp 29) (.tmp 29) 101 rfl W.heap.size 9 i0 (.string ⟨#[]⟩) 1 Tryz.underlying101 hi0 hz0 hz1 .i64 .i64 n n n rfl rfl rfl rfl (by rw [hz2]; omega) (by unfold maxLen; omega) (Nat.le_refl _) ?_; intro wm hown hgr; have HMW : Hid (Mods [] W wm) := Lib.hid ((Mods.refl _ _).grown hgr (fun q hq => by cases hq)); have HBM : Hid (Blk wm W.heap.size 9 (repRow z 0 n)) := Lib.hid (by have h := own_blk hown; rw [show (Value.string ⟨#[]⟩).cells = #[.string ⟨#[]⟩] from rfl, Nat.mul_one, toList_madeCells_one] at h; unfold repRow; simpa using h); have hcm := (HMW.out.cell (World.block_lt_of_cell? _ _ hc0) (by simp)).trans hc0; clear hown hgr))
 go_wp2_with (refine wpList_copy_splice (by rfl) (.tmp 31) (.tmp 32) 101 101 (by rfl) 9 Tryz.underlying101 hsz (some ⟨W.heap.size, 0, none⟩) (some ⟨ga, oa, none⟩) n n 1 1 (by rfl) (by rfl) W.heap.size 0 (repRow z 0 n) 9 HBM.out [.string z] (Nat.min_eq_left h1).symm (fun _ => ⟨rfl, ⟨ga, oa, none⟩, rfl, one_src hcm⟩) (by rw [repRow_len z (Nat.zero_le _)]; exact h1) (by simp [Value.oneCell']) W.heap.size W HMW.out.below (Nat.le_refl _) ?_; intro w7 hg7 hb7)
 have HB7 : Hid (Blk w7 W.heap.size 9 (repRow z 1 n)) := Lib.hid (by have h := hg7.out; rw [show [Value.string z] = List.replicate 1 (.string z) from rfl, repRow_splice z (by omega)] at h; exact h)
 have HM7 : Hid (Mods [] W w7) := Lib.hid (Mods.of_below hb7 [])
 clear hg7 hb7
 go_loopw [8] (fun mv wr => ∃ m : Nat, 1 ≤ m ∧ m ≤ n ∧ mv = .int .i64 (m : Nat) ∧ Hid (Blk wr W.heap.size 9 (repRow z m n)) ∧ Hid (Mods [] W wr)) (fun mv _ => n - (intOf mv).toNat)
 case atStart => exact ⟨1, Nat.le_refl _, h1, rfl, HB7, HM7⟩
 case round =>
  obtain ⟨m, hm1, hmn, rfl, HB, HM⟩ := hrel
  by_cases hlt : m < n
  ·have hi1 : (0 : Int) ≤ (m : Int) := by omega
   have hi2 : (m : Int) ≤ (n : Int) := by omega
   have hnm : ¬ n = m := by omega
   obtain ⟨c, hc⟩ : ∃ c, Nat.min m (n - m) = c := ⟨_, rfl⟩
   have hcm : c ≤ m := by rw [← hc]; exact Nat.min_le_left _ _
   have hcn : c ≤ n - m := by rw [← hc]; exact Nat.min_le_right _ _
   have hc0 : 1 ≤ c := by rw [← hc]; exact Nat.le_min.2 ⟨hm1, by omega⟩
   have hcl : (List.replicate c (Value.string z)).length = Nat.min m (n - m) := by rw [hc, List.length_replicate]
   have hsrc : ∀ j v, (List.replicate c (Value.string z))[j]? = some v → wr.drew.cell? ((⟨W.heap.size, 0, none⟩ : Addr).add j) = some v := by
    intro j v hj
    rw [List.getElem?_replicate] at hj
    split at hj
    ·rename_i hjc
     injection hj with hj
     rw [← hj, add_at, Nat.zero_add]
     exact HB.out.cell (repRow_at z (by omega))
    ·cases hj
   have hfit : m + (List.replicate c (Value.string z)).length ≤ (repRow z m n).length := by rw [repRow_len z hmn, List.length_replicate]; omega
   have hone : ∀ v ∈ List.replicate c (Value.string z), v.oneCell' = true := by
    intro v hv
    rw [List.eq_of_mem_replicate hv]; rfl
   have hh : wr.drew.heap[W.heap.size]? = some (.cells (repRow z m n).toArray 9 (0, 0)) := HB.out
   have hr := run_copy_row (P := Tryz.prog) wr.drew 101 101 3 9 W.heap.size m (n - m) (n - m) ⟨W.heap.size, 0, none⟩ m n (repRow z m n).toArray 9 (List.replicate c (.string z)) Tryz.underlying101 hsz hh hcl hsrc (by simpa using hfit) hone
   obtain ⟨R, hR⟩ : ∃ R : Array Value, ((repRow z m n).toArray.toList.take m ++ List.replicate c (Value.string z) ++ (repRow z m n).toArray.toList.drop (m + (List.replicate c (Value.string z)).length)).toArray = R := ⟨_, rfl⟩
   rw [hR] at hr
   have hg8 : (wr.drew.setRow W.heap.size R).heap[W.heap.size]? = some (.cells R 9 (0, 0)) := setRow_heap _ _ _ _ _ _ hh
   have hb8 : Below W.heap.size W (wr.drew.setRow W.heap.size R) := below_setRow HM.out.drew.below (Nat.le_refl _) R
   generalize wr.drew.setRow W.heap.size R = w8 at hr hg8 hb8
   rw [← hR] at hg8
   have hr2 : (Builtin.copy_ #[101, 101] 3 #[.slice (some ⟨W.heap.size, m, none⟩) (n - m) (n - m), .slice (some ⟨W.heap.size, 0, none⟩) m n]).run Tryz.prog wr.drew = .ok (.int .i64 (c : Nat)) w8 := by
    rw [hr, List.length_replicate]; rfl
   have HG8 : Hid (Blk w8 W.heap.size 9 (repRow z (m + c) n)) := Lib.hid (by
    rw [← repRow_splice z (by omega)]
    unfold splice
    rw [← List.append_assoc]
    exact hg8)
   have HB8' := Lib.hid hb8
   have hw3 : IntKind.i64.wrap ((m : Int) + (c : Int)) = ((m + c : Nat) : Int) := by rw [IntKind.wrap_i64]; omega
   clear hsrc hfit hone hcl hc hr hg8 hb8 hR hh
   go_wp2_with fail
   go_region_held3 (fun _ => True) (trivial) (fail)
   have HB8 := HG8
   have hb8 := HB8'.out
   have HM8 : Hid (Mods [] W w8) := Lib.hid (Mods.of_below hb8 [])
   clear hb8
   go_wp2_with fail
   go_roundw
   case rel => exact ⟨m + c, by omega, by omega, by simp, HB8, HM8⟩
   case measure => simp [intOf]; omega
  ·obtain rfl : m = n := by omega
   go_wp2_with fail
   go_ret
   refine ⟨W.heap.size, rfl, Lib.hid (by have h := HB.out; unfold repRow at h; simpa using h), HM, Nat.le_refl _⟩
end Go.Proofs.YtkjpdfomppjiiaaGreatDoor
/- dev.New. -/
namespace Go.Proofs.YtkjpdfomppjiiaaGreatDoor
open Go.RowKit

theorem info_boolR : (Tryz.prog.info? 4).map (fun i => (i.zero, i.size, i.bytes)) = some (some (.bool false), 1, 1) := by kernel_rfl
theorem Blk.kd {w w' : World} {b : Nat} {t : TypeId} {l : List Value} (hm : Mods [] w w') (h : Blk w b t l) : Blk w' b t l := h.keep0 hm
theorem blkS (w : World) (o : Obj) (t : TypeId) (l : List Value) : Blk ((w.alloc o).alloc (.cells l.toArray t (0, 0))) (w.heap.size + 1) t l := by
 have h := Blk.new (w.alloc o) t l
 have e : (w.alloc o).heap.size = w.heap.size + 1 := by simp
 rw [e] at h; exact h
theorem zero_str (s : Nat) : bA (zerosL s) = ⟨Array.replicate s 0⟩ := by
 unfold bA zerosL
 rw [List.toArray_replicate]
theorem new_dev {W X : World} {mb bb n s : Nat} {zs : ByteArray} (h2 : n ≤ 4096) (h3 : 128 ≤ s) (h4 : s ≤ 1024) (hz : zs = bA (zerosL s)) (hm : Blk X mb 9 (List.replicate n (.string zs))) (hb : Blk X bb 4 (List.replicate n (.bool false))) (hne : mb ≠ bb) (hW1 : W.heap.size ≤ mb) (hW2 : W.heap.size ≤ bb) :
  IsDev (X.alloc (.cells (devCells (Dev.new n s) mb bb (.slice none 0 0) 0 0 0).toArray 106 (0, 0))) X.heap.size [X.heap.size, mb, bb] (Dev.new n s) ∧ ∀ g ∈ [X.heap.size, mb, bb], W.heap.size ≤ g := by
 have l1 := hm.lt
 have l2 := hb.lt
 rw [hz, zero_str] at hm
 refine ⟨⟨mb, bb, .slice none 0 0, 0, 0, 0, ⟨⟨by simp [Dev.new], by simp [Dev.new], h2, h3, h4, ?_, fun x hx => by cases hx⟩, by simp [Dev.new], by simp [Dev.new], by simp [Dev.new], Blk.new X 106 (devCells (Dev.new n s) mb bb (.slice none 0 0) 0 0 0), ?_, ?_, World.ownsRow_nil _ _ _ _⟩, rfl, ?_⟩, ?_⟩
 ·intro x hx
  have hx2 : x ∈ List.replicate n (⟨Array.replicate s 0⟩ : ByteArray) := hx
  rw [List.eq_of_mem_replicate hx2]
  show (Array.replicate s (0 : UInt8)).size = s
  simp
 ·have h := hm.alloc (.cells (devCells (Dev.new n s) mb bb (.slice none 0 0) 0 0 0).toArray 106 (0, 0))
  rw [show (Dev.new n s).media.map Value.string = List.replicate n (.string ⟨Array.replicate s 0⟩) by simp [Dev.new]]
  exact h
 ·have h := hb.alloc (.cells (devCells (Dev.new n s) mb bb (.slice none 0 0) 0 0 0).toArray 106 (0, 0))
  rw [show (Dev.new n s).bad.map Value.bool = List.replicate n (.bool false) by simp [Dev.new]]
  exact h
 ·simp [hne]; omega
 ·intro g hg
  simp at hg
  rcases hg with rfl | rfl | rfl <;> omega
set_option maxRecDepth 100000 in
set_option maxHeartbeats 3200000 in
theorem dNew_any {W : World} (n s : Nat) (hr : Dev.right (n : Int) (s : Int) = true) :
  Calls Tryz.prog 18 #[.agg #[.int .i64 (n : Nat), .int .i64 (s : Nat)]] W fun e w' => ∃ b fp, e = .returned (.tuple #[.pointer (some ⟨b, 0, none⟩), .int .i64 0]) ∧ Hid (IsDev w' b fp (Dev.new n s)) ∧ Hid (Mods [] W w') ∧ Hid (∀ g ∈ fp, W.heap.size ≤ g) := by
 obtain ⟨r1, r2, r3, r4⟩ := right_parts hr
 have cRight := Lib.hid (fun W => dRight_any (W := W) (n : Int) (s : Int))
 rw [hr] at cRight
 obtain ⟨i0, hi0, hz0, hz1, hz2⟩ := info_parts info_boolR
 have hmk : ∀ w : World, (Instr.makeSlice 102 (.int .i64 (n : Nat)) (.int .i64 (n : Nat))).run Tryz.prog w = .ok (.slice (some ⟨w.heap.size, 0, none⟩) n n) (w.alloc (.cells (List.replicate n (Value.bool false)).toArray 4)) := by
  intro w
  have h := run_make (P := Tryz.prog) w 102 4 i0 (.bool false) Tryz.underlying102 hi0 hz0 .i64 .i64 (n : Int) (n : Int) (by omega) (by omega) (by rw [hz2]; omega) (by omega)
  have e : madeCells (Value.bool false).cells ((n : Int).toNat * i0.size) = (List.replicate n (Value.bool false)).toArray := by
   rw [hz1, Nat.mul_one, Int.toNat_natCast]
   apply Array.ext'
   rw [show (Value.bool false).cells = #[.bool false] from rfl, toList_madeCells_one]
  rw [e] at h
  exact h
 obtain ⟨w1, hw1⟩ : ∃ w1, W.alloc (.cells #[.int .i64 (n : Nat), .int .i64 (s : Nat)] 54) = w1 := ⟨_, rfl⟩
 have hb1 : Blk w1 W.heap.size 54 [.int .i64 (n : Nat), .int .i64 (s : Nat)] := by rw [← hw1]; exact Blk.new W 54 [.int .i64 (n : Nat), .int .i64 (s : Nat)]
 have hm1 : Mods [] W w1 := by rw [← hw1]; exact (Mods.refl _ _).alloc _
 have HC : Hid (∀ w', Mods [] w1 w' → w'.cell? ⟨W.heap.size, 0, none⟩ = some (.int .i64 (n : Nat)) ∧ w'.cell? ⟨W.heap.size, 1, none⟩ = some (.int .i64 (s : Nat))) := Lib.hid (fun w' hm => by
  have h := hb1.keep0 hm
  exact ⟨h.cell (i := 0) rfl, h.cell (i := 1) rfl⟩)
 have HM1 := Lib.hid hm1
 have q0 := hb1.cell (i := 0) rfl
 have q1 := hb1.cell (i := 1) rfl
 have HR := Lib.hid (And.intro r1 (And.intro r2 (And.intro r3 r4)))
 clear hb1 hm1 hr
 go_enter Tryz.func18, Tryz.ntmps18
 go_wp2_with (first | (go_at_call 45; refine (cRight.out _).mono ?_; rintro e w2 ⟨rfl, hm2⟩; have HM2 := Lib.hid hm2; obtain ⟨q0, q1⟩ := HC.out w2 hm2; clear hm2) | (go_at_call 46; refine (repeat0_ex s (by omega)).mono ?_; rintro e w3 ⟨zs, rfl, HZ, hzs, hm3⟩; have HM3 := Lib.hid (HM2.out.tr hm3); obtain ⟨q0, q1⟩ := HC.out w3 (HM2.out.tr hm3); clear hm3))
 go_region_held3 (fun w' => w'.cell? ⟨W.heap.size, 0, none⟩ = some (.int .i64 (n : Nat)) ∧ w'.cell? ⟨W.heap.size, 1, none⟩ = some (.int .i64 (s : Nat)))
  (first | go_keep | exact HC.out _ HM4.out | exact HC.out _ (HM4.out.alloc _) | exact HC.out _ ((HM4.out.alloc _).alloc _) | fail)
  (first | (go_at_call 47; refine (sRepeatS_any (z := zs) (by first | exact Row.new w3 9 [.string zs] | exact rowS w3 _ 9 [.string zs] | exact (rows2 w3 9 4 [.string zs] _).1) n (by omega) (by omega)).mono ?_; rintro e w4 ⟨gm, rfl, HG, hm4, hgm⟩; have HM4 : Hid (Mods [] w1 w4) := (by first | exact Lib.hid ((HM3.out.alloc _).tr hm4.out) | exact Lib.hid ((HM3.out.drew.alloc _).tr hm4.out) | exact Lib.hid (((HM3.out.alloc _).alloc _).tr hm4.out) | exact Lib.hid ((HM3.out.alloc _).drew.tr hm4.out) | exact Lib.hid (((HM3.out.alloc _).alloc _).drew.tr hm4.out)); (first | (have hbz := Blk.kd hm4.out (blkS w3 (.cells #[.string zs] 9) 4 (List.replicate n (.bool false))); have HBZ := Lib.hid hbz) | (have hbz := Blk.kd hm4.out ((Blk.new w3 4 (List.replicate n (.bool false))).alloc (.cells #[.string zs] 9)); have HBZ := Lib.hid hbz) | skip)))
 all_goals
  go_wp2_with fail
  go_ret2
 all_goals have hs1 := HM1.out.size
 all_goals have hs3 := HM3.out.size
 all_goals have hs4 := HM4.out.size
 all_goals have hgl := HG.out.lt
 ·have hg2 : w3.heap.size ≤ gm := by simp at hgm; omega
  have hx := new_dev (W := W) (X := w4.alloc (.cells (List.replicate n (Value.bool false)).toArray 4 (0, 0))) (mb := gm) (bb := w4.heap.size) (s := s) HR.out.2.1 HR.out.2.2.1 HR.out.2.2.2 HZ.out (HG.out.alloc _) (Blk.new w4 4 (List.replicate n (.bool false))) (by omega) (by omega) (by omega)
  rw [show (w4.alloc (.cells (List.replicate n (Value.bool false)).toArray 4 (0, 0))).heap.size = w4.heap.size + 1 by simp] at hx
  exact ⟨w4.heap.size + 1, _, rfl, Lib.hid hx.1, Lib.hid (((HM1.out.tr HM4.out).alloc _).alloc _), Lib.hid hx.2⟩
 ·have hg2 : w3.heap.size + 2 ≤ gm := by simp at hgm; omega
  have hx := new_dev (W := W) (X := w4) (mb := gm) (bb := w3.heap.size + 1) (s := s) HR.out.2.1 HR.out.2.2.1 HR.out.2.2.2 HZ.out HG.out HBZ.out (by omega) (by omega) (by omega)
  exact ⟨w4.heap.size, _, rfl, Lib.hid hx.1, Lib.hid ((HM1.out.tr HM4.out).alloc _), Lib.hid hx.2⟩
 ·have hg2 : w3.heap.size + 2 ≤ gm := by simp at hgm; omega
  have hx := new_dev (W := W) (X := w4) (mb := gm) (bb := w3.heap.size) (s := s) HR.out.2.1 HR.out.2.2.1 HR.out.2.2.2 HZ.out HG.out HBZ.out (by omega) (by omega) (by omega)
  exact ⟨w4.heap.size, _, rfl, Lib.hid hx.1, Lib.hid ((HM1.out.tr HM4.out).alloc _), Lib.hid hx.2⟩
end Go.Proofs.YtkjpdfomppjiiaaGreatDoor
/- The laws' own functions: full, devices, fresh. -/
namespace Go.Proofs.YtkjpdfomppjiiaaGreatDoor
open Go.RowKit

def two {α : Type} (a b : α) (k : Nat) : α := if k = 0 then a else b
theorem devs_two {w1 w2 : World} {b0 b1 : Nat} {f0 f1 : List Nat} {D : Dev} (h0 : IsDev w2 b0 f0 D) (h1 : IsDev w2 b1 f1 D) (l0 : ∀ g ∈ f0, g < w1.heap.size) (l1 : ∀ g ∈ f1, w1.heap.size ≤ g) : Devs w2 (two b0 b1) (two f0 f1) (fun _ => D) := by
 refine ⟨fun s hs => ?_, fun s hs g hg hx => ?_, fun _ _ => ⟨rfl, rfl⟩⟩
 ·rcases two_cases hs with rfl | rfl
  ·exact h0
  ·exact h1
 ·rcases two_cases hs with rfl | rfl
  ·have := l0 g hg; have := l1 g hx; omega
  ·have := l1 g hg; have := l0 g hx; omega
end Go.Proofs.YtkjpdfomppjiiaaGreatDoor
/- A map whose keys keep a law of their own (arrays, say), told as a function. No program is named here. -/
namespace Go.Proofs.YtkjpdfomppjiiaaGreatDoor
open Go.RowKit Go.MapKept

structure KLaw {κ : Type} (P : Program) (K : TypeId) (kv : κ → Value) : Prop where
 check : ∀ (w : World) (em : Bool) (a : κ), (Instr.checkKey em 10000 K (kv a)).run P w = .ok () w
 find : ∀ (w : World) (a : κ) (es : List MapEntry), (∀ e ∈ es, ∃ c, e.key = kv c) → ((Instr.findKey K (kv a) es).run P w = .ok none w ∧ ∀ e ∈ es, e.key ≠ kv a) ∨ ∃ j e, (Instr.findKey K (kv a) es).run P w = .ok (some (j, e.val)) w ∧ es[j]? = some e ∧ e.key = kv a
 stays : ∀ (w : World) (a : κ), (Instr.keyThatStays (kv a) (kv a)).run P w = .ok (kv a) w
 inj : ∀ a c, kv a = kv c → a = c
theorem KLaw.of {κ : Type} {P : Program} {K : TypeId} {kv : κ → Value} (h : WideMaps.KeyLaw P K) (hk : ∀ a, ∃ l, keyOf P K (kv a) = some l) (hinj : ∀ a c, kv a = kv c → a = c) : KLaw P K kv := by
 refine ⟨fun w em a => ?_, fun w a es hes => ?_, fun w a => ?_, hinj⟩
 ·obtain ⟨l, e⟩ := hk a
  exact h.check w em e
 ·obtain ⟨l, e⟩ := hk a
  exact h.find w e es (fun x hx => by obtain ⟨c, ec⟩ := hes x hx; rw [ec]; exact hk c)
 ·obtain ⟨l, e⟩ := hk a
  exact h.stays w e

section
variable {κ : Type} {kv : κ → Value} {P : Program} {w : World} {b : Nat} {F : κ → Option Value} {n : Nat}
theorem MapK.updateL [DecidableEq κ] {T K E : TypeId} (h : MapK kv w b F n) (hL : KLaw P K kv) (hT : P.underlying T = some (.map K E)) (a : κ) (v : Value) :
  ∃ w1, (Instr.mapUpdate T (.map (some b)) (kv a) v).run P w = .ok () w1 ∧ MapK kv w1 b (putF F a v) (if (F a).isSome then n else n + 1) ∧ Mods [b] w w1 ∧ w1.heap.size = w.heap.size := by
 obtain ⟨es, clock, h1, h2, h3, h4, h5⟩ := h
 have hmods : ∀ o, Mods [b] w { w with heap := w.heap.setIfInBounds b o } := fun o => ⟨rfl, rfl, rfl, by simp, fun k _ hn => (heap_set h1).2 k (by simpa using hn)⟩
 rcases hL.find w a es.toList h3 with ⟨hf, hno⟩ | ⟨j, e, hf, hj, he⟩
 ·have hFa : F a = none := by
   cases hF : F a with
   | none => rfl
   | some v =>
    obtain ⟨x, hx, hxk, _⟩ := (h4 a v).1 hF
    exact absurd hxk (hno x hx)
  refine ⟨{ w with heap := w.heap.setIfInBounds b (.map (es.push { key := kv a, val := v, born := clock }) (clock + 1)) }, ?_, ⟨_, _, (heap_set h1).1, stamped_push h2 hno, ?_, ?_, ?_⟩, hmods _, by simp⟩
  ·simp [Instr.mapUpdate, run_underlying hT, MapKept.run_getObj_map h1, hL.check w _ a, hf, run_setObj_map _ h1, Result.andThen]
  ·intro x hx
   simp only [Array.toList_push, List.mem_append, List.mem_singleton] at hx
   rcases hx with hx | rfl
   ·exact h3 x hx
   ·exact ⟨a, rfl⟩
  ·intro c u
   simp only [Array.toList_push, List.mem_append, List.mem_singleton, putF]
   by_cases hc : c = a
   ·subst hc
    rw [if_pos rfl]
    constructor
    ·intro hu; injection hu with hu; exact ⟨_, .inr rfl, rfl, hu⟩
    ·rintro ⟨x, hx | rfl, hxk, hxv⟩
     ·exact absurd hxk (hno x hx)
     ·exact congrArg some hxv
   ·rw [if_neg hc, h4 c u]
    constructor
    ·rintro ⟨x, hx, hxk, hxv⟩; exact ⟨x, .inl hx, hxk, hxv⟩
    ·rintro ⟨x, hx | rfl, hxk, hxv⟩
     ·exact ⟨x, hx, hxk, hxv⟩
     ·exact absurd (hL.inj _ _ hxk).symm hc
  ·rw [hFa]; simp [h5]
 ·have hj' : es[j]? = some e := by simpa using hj
  have hFa : F a = some e.val := (h4 a e.val).2 ⟨e, List.mem_of_getElem? hj, he, rfl⟩
  have hkey : ∀ e', es[j]? = some e' → ({ e' with key := kv a, val := v } : MapEntry).key = e'.key := fun e' he' => by rw [hj'] at he'; cases he'; exact he.symm
  have hst := stamped_modify h2 j (fun e' => { e' with key := kv a, val := v }) (fun _ _ => rfl) (fun e' _ he' => hkey e' he')
  have hjlt : j < es.size := by
   have := (Array.getElem?_eq_some_iff.1 hj').1; exact this
  have hmem : ∀ x : MapEntry, x ∈ (es.modify j fun e' => { e' with key := kv a, val := v }).toList ↔ (x = { e with key := kv a, val := v } ∨ (x ∈ es.toList ∧ x.key ≠ kv a)) := by
   intro x
   have hget : ∀ i, (es.modify j fun e' => { e' with key := kv a, val := v }).toList[i]? = if j = i then (es.toList[i]?).map (fun e' => { e' with key := kv a, val := v }) else es.toList[i]? := by
    intro i
    rw [Array.getElem?_toList, Array.getElem?_modify, Array.getElem?_toList]
   constructor
   ·intro hx
    obtain ⟨i, hi⟩ := List.getElem?_of_mem hx
    rw [hget] at hi
    by_cases hij : j = i
    ·subst hij
     rw [if_pos rfl, hj] at hi
     injection hi with hi
     exact .inl hi.symm
    ·rw [if_neg hij] at hi
     refine .inr ⟨List.mem_of_getElem? hi, fun hxk => hij ?_⟩
     have hn := h2.2.2
     have e1 : (es.toList.map (·.key))[j]? = some (kv a) := by rw [List.getElem?_map, hj]; exact congrArg some he
     have e2 : (es.toList.map (·.key))[i]? = some (kv a) := by rw [List.getElem?_map, hi]; exact congrArg some hxk
     exact (List.getElem?_inj (List.getElem?_eq_some_iff.1 e1).1 hn).1 (e1.trans e2.symm)
   ·rintro (rfl | ⟨hx, hxk⟩)
    ·apply List.mem_of_getElem? (i := j)
     rw [hget, if_pos rfl, hj]; rfl
    ·obtain ⟨i, hi⟩ := List.getElem?_of_mem hx
     apply List.mem_of_getElem? (i := i)
     rw [hget, if_neg, hi]
     rintro rfl
     rw [hj] at hi
     injection hi with hi
     subst hi
     exact hxk he
  refine ⟨{ w with heap := w.heap.setIfInBounds b (.map (es.modify j fun e' => { e' with key := kv a, val := v }) clock) }, ?_, ⟨_, _, (heap_set h1).1, hst, ?_, ?_, ?_⟩, hmods _, by simp⟩
  ·simp [Instr.mapUpdate, run_underlying hT, MapKept.run_getObj_map h1, hL.check w _ a, hf, hj', he, hL.stays w a, run_setObj_map _ h1, Result.andThen]
  ·intro x hx
   rcases (hmem x).1 hx with rfl | ⟨hx, _⟩
   ·exact ⟨a, rfl⟩
   ·exact h3 x hx
  ·intro c u
   unfold putF
   by_cases hc : c = a
   ·subst hc
    rw [if_pos rfl]
    constructor
    ·intro hu; injection hu with hu; exact ⟨_, (hmem _).2 (.inl rfl), rfl, hu⟩
    ·rintro ⟨x, hx, hxk, hxv⟩
     rcases (hmem x).1 hx with rfl | ⟨_, hne⟩
     ·exact congrArg some hxv
     ·exact absurd hxk hne
   ·rw [if_neg hc, h4 c u]
    constructor
    ·rintro ⟨x, hx, hxk, hxv⟩
     exact ⟨x, (hmem x).2 (.inr ⟨hx, fun e => hc (hL.inj _ _ (hxk.symm.trans e))⟩), hxk, hxv⟩
    ·rintro ⟨x, hx, hxk, hxv⟩
     rcases (hmem x).1 hx with rfl | ⟨hx, _⟩
     ·exact absurd (hL.inj _ _ hxk).symm hc
     ·exact ⟨x, hx, hxk, hxv⟩
  ·rw [hFa]; simp [h5]

theorem MapK.deleteL [DecidableEq κ] {T K E : TypeId} (h : MapK kv w b F n) (hL : KLaw P K kv) (hT : P.underlying T = some (.map K E)) (a : κ) :
  ∃ w1, (∀ ty, (Builtin.delete_ #[T, K] ty #[.map (some b), kv a]).run P w = .ok (.tuple #[]) w1) ∧ MapK kv w1 b (delF F a) (if (F a).isSome then n - 1 else n) ∧ Mods [b] w w1 ∧ w1.heap.size = w.heap.size := by
 obtain ⟨es, clock, h1, h2, h3, h4, h5⟩ := h
 have hmods : ∀ o, Mods [b] w { w with heap := w.heap.setIfInBounds b o } := fun o => ⟨rfl, rfl, rfl, by simp, fun k _ hn => (heap_set h1).2 k (by simpa using hn)⟩
 rcases hL.find w a es.toList h3 with ⟨hf, hno⟩ | ⟨j, e, hf, hj, he⟩
 ·have hFa : F a = none := by
   cases hF : F a with
   | none => rfl
   | some v =>
    obtain ⟨x, hx, hxk, _⟩ := (h4 a v).1 hF
    exact absurd hxk (hno x hx)
  refine ⟨{ w with heap := w.heap.setIfInBounds b (.map es clock) }, ?_, ⟨_, _, (heap_set h1).1, h2, h3, ?_, ?_⟩, hmods _, by simp⟩
  ·intro ty; simp [Builtin.delete_, run_underlying hT, MapKept.run_getObj_map h1, hL.check w _ a, hf, run_setObj_map _ h1, Result.andThen]
  ·intro c u
   unfold delF
   by_cases hc : c = a
   ·subst hc
    rw [if_pos rfl, ← hFa]; exact h4 c u
   ·rw [if_neg hc]; exact h4 c u
  ·rw [hFa]; simp [h5]
 ·have hj' : es[j]? = some e := by simpa using hj
  have hFa : F a = some e.val := (h4 a e.val).2 ⟨e, List.mem_of_getElem? hj, he, rfl⟩
  have hjlt : j < es.size := (Array.getElem?_eq_some_iff.1 hj').1
  have hl : (es.eraseIdxIfInBounds j).toList = es.toList.eraseIdx j := by
   unfold Array.eraseIdxIfInBounds
   rw [dif_pos hjlt]; simp
  have hmem : ∀ x : MapEntry, x ∈ es.toList.eraseIdx j ↔ (x ∈ es.toList ∧ x.key ≠ kv a) := by
   intro x
   rw [List.mem_eraseIdx_iff_getElem?]
   have hn := h2.2.2
   constructor
   ·rintro ⟨i, hij, hi⟩
    refine ⟨List.mem_of_getElem? hi, fun hxk => hij ?_⟩
    have e1 : (es.toList.map (·.key))[j]? = some (kv a) := by rw [List.getElem?_map, hj]; exact congrArg some he
    have e2 : (es.toList.map (·.key))[i]? = some (kv a) := by rw [List.getElem?_map, hi]; exact congrArg some hxk
    exact (List.getElem?_inj (List.getElem?_eq_some_iff.1 e2).1 hn).1 (e2.trans e1.symm)
   ·rintro ⟨hx, hxk⟩
    obtain ⟨i, hi⟩ := List.getElem?_of_mem hx
    refine ⟨i, ?_, hi⟩
    rintro rfl
    rw [hj] at hi
    injection hi with hi
    subst hi
    exact hxk he
  refine ⟨{ w with heap := w.heap.setIfInBounds b (.map (es.eraseIdxIfInBounds j) clock) }, ?_, ⟨_, _, (heap_set h1).1, stamped_erase h2 j, ?_, ?_, ?_⟩, hmods _, by simp⟩
  ·intro ty; simp [Builtin.delete_, run_underlying hT, MapKept.run_getObj_map h1, hL.check w _ a, hf, run_setObj_map _ h1, Result.andThen]
  ·intro x hx
   rw [hl] at hx
   exact h3 x ((hmem x).1 hx).1
  ·intro c u
   rw [hl]
   unfold delF
   by_cases hc : c = a
   ·subst hc
    rw [if_pos rfl]
    constructor
    ·intro hu; cases hu
    ·rintro ⟨x, hx, hxk, _⟩
     exact absurd hxk ((hmem x).1 hx).2
   ·rw [if_neg hc, h4 c u]
    constructor
    ·rintro ⟨x, hx, hxk, hxv⟩
     exact ⟨x, (hmem x).2 ⟨hx, fun e => hc (hL.inj _ _ (hxk.symm.trans e))⟩, hxk, hxv⟩
    ·rintro ⟨x, hx, hxk, hxv⟩
     exact ⟨x, ((hmem x).1 hx).1, hxk, hxv⟩
  ·have : (es.eraseIdxIfInBounds j).size = es.toList.length - 1 := by
    rw [← Array.length_toList, hl, List.length_eraseIdx]
    have : j < es.toList.length := by simpa using hjlt
    rw [if_pos this]
   rw [this, hFa]; simp [h5]
end
end Go.Proofs.YtkjpdfomppjiiaaGreatDoor
namespace Go.Proofs.YtkjpdfomppjiiaaGreatDoor
open Go.ChangeShapes Go.WideShapes Go.ChangeAt Go.RowKit
theorem own : ownKnob Tryz.prog.godebug = none := by kernel_rfl
theorem laidOut : laidOutB Tryz.prog = true := by kernel_rfl
theorem cellsU8 : Tryz.prog.cellsOf 5 = 1 := by kernel_rfl
end Go.Proofs.YtkjpdfomppjiiaaGreatDoor
