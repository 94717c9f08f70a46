/- What the laws of this seat have alike. -/
import Derived.Test.YtnpfhfgegjocoaaMF
import Derived.Laws.CopyOwn
import Derived.Deep.RegionWith
import Derived.Deep.CutRange
import Derived.Test.YtnpfhfgegjocoaaMA
import Derived.WideKeyArr
import Derived.SizedLaws
import Derived.Test.YtnpfhfgegjocoaaRows
import Derived.ProofKit
import Derived.OpenShut
import Derived.JoinedOf
import Derived.ChangeMaps5
/- slices.Repeat of one string. -/
namespace Go.Proofs.Ytnpfhfgegjocoaa
open Go.RowKit

theorem info_strR : (Try.prog.info? 9).map (fun i => (i.zero, i.size, i.bytes)) = some (some (.string ⟨#[]⟩), 1, 16) := by kernel_rfl
theorem own_blk {w : World} {base : Nat} {e : TypeId} {g n : Nat} {xs : List Value} (h : w.ownsRow base e 1 (.slice (some ⟨g, 0, none⟩) n n) n xs) : Blk w g e xs := by
  obtain ⟨h0, h1⟩ := h
  rcases h1 with ⟨h1, _⟩ | ⟨g2, cap, cur, h1, _, hh, _, _, hs, ht⟩
  · cases h1
  · injection h1 with h1 h2 h3
    injection h1 with h1
    injection h1 with h1
    subst h1
    subst h3
    have : cur = xs.toArray := by
      apply Array.ext'
      rw [List.toList_toArray, ← ht, List.take_of_length_le]
      rw [Array.length_toList, hs]; exact Nat.le_refl _
    unfold Blk
    rw [hh, this]
def repRow (z : ByteArray) (m n : Nat) : List Value := List.replicate m (.string z) ++ List.replicate (n - m) (.string ⟨#[]⟩)
theorem repRow_len (z : ByteArray) {m n : Nat} (h : m ≤ n) : (repRow z m n).length = n := by simp [repRow]; omega
theorem repRow_splice (z : ByteArray) {m n c : Nat} (_h : m + c ≤ n) : splice (repRow z m n) m (List.replicate c (.string z)) = repRow z (m + c) n := by
  unfold splice repRow
  rw [List.take_left' (by simp), List.length_replicate, List.drop_append, List.length_replicate, List.drop_of_length_le (by simp), List.nil_append, show m + c - m = c by omega, List.drop_replicate, ← List.append_assoc, List.replicate_append_replicate, show n - m - c = n - (m + c) by omega]
theorem repRow_at (z : ByteArray) {m n j : Nat} (h : j < m) : (repRow z m n)[j]? = some (.string z) := by
  unfold repRow
  rw [List.getElem?_append_left (by simpa using h), List.getElem?_replicate, if_pos h]
theorem add_at (g o j : Nat) : (⟨g, o, none⟩ : Addr).add j = ⟨g, o + j, none⟩ := by
  unfold Addr.add; split <;> simp_all
theorem one_src {w : World} {g o : Nat} {u : Value} (h : w.cell? ⟨g, o, none⟩ = some u) : ∀ j v, [u][j]? = some v → w.cell? ((⟨g, o, none⟩ : Addr).add j) = some v := by
  intro j v hj
  cases j with
  | zero => injection hj with hj; rw [← hj, add_at]; exact h
  | succ j => cases hj
set_option maxRecDepth 100000 in
set_option maxHeartbeats 3200000 in
theorem sRepeatS_any {W : World} {A : Option Addr} {z : ByteArray} (hA : Row W A [.string z]) (n : Nat) (h1 : 1 ≤ n) (h2 : n ≤ 4096) :
    Calls Try.prog 54 #[.slice A 1 1, .int .i64 (n : Nat)] W fun e w' => ∃ g, e = .returned (.slice (some ⟨g, 0, none⟩) n n) ∧ Hid (Blk w' g 9 (List.replicate n (.string z))) ∧ Hid (Mods [] W w') ∧ W.heap.size ≤ g := by
  obtain ⟨i0, hi0, hz0, hz1, hz2⟩ := info_parts info_strR
  have cMul := Lib.hid (fun w => (Try.bits_Mul 1 n (by decide) (by omega) w).mono fun e w' h => (⟨h.1, h.2.symm⟩ : e = _ ∧ w = w'))
  have e1 : 1 * n / 18446744073709551616 = 0 := by omega
  have e2 : 1 * n % 18446744073709551616 = n := by omega
  rw [e1, e2] at cMul
  have hw1 : IntKind.u64.wrap (n : Int) = (n : Int) := by rw [IntKind.wrap_u64]; omega
  have hw2 : IntKind.i64.wrap (n : Int) = (n : Int) := by rw [IntKind.wrap_i64]; omega
  have HA := Lib.hid hA
  have hg0 : decide ((9223372036854775807 : Int) < (n : Int)) = false := decide_eq_false (by omega)
  have hg1 : decide ((n : Int) < 0) = false := decide_eq_false (by omega)
  have hg2 : ¬ (n : Int) < 0 := by omega
  have hg3 : ¬ (9223372036854775807 : Int) < (n : Int) := by omega
  obtain ⟨ga, oa, rfl, hc0⟩ : ∃ g o, A = some ⟨g, o, none⟩ ∧ W.cell? ⟨g, o, none⟩ = some (.string z) := by
    obtain ⟨b, o, e, hc⟩ := hA.at (i := 0) rfl
    exact ⟨b, o, e, hc⟩
  clear hA e1 e2
  go_enter Try.func54, Try.ntmps54
  have hsz : (Try.prog.info? 9).map (·.size) = some 1 := by kernel_rfl
  go_upto_region 7 with (first | (go_at_call 59; refine (cMul.out _).mono ?_; rintro e w' ⟨rfl, rfl⟩) | (at_make; refine wpList_make_full _ rfl (.tmp 29) (.tmp 29) 81 rfl W.heap.size 9 i0 (.string ⟨#[]⟩) 1 Try.underlying81 hi0 hz0 hz1 .i64 .i64 n n n rfl rfl rfl rfl (by rw [hz2]; omega) (by unfold maxLen; omega) (Nat.le_refl _) ?_; intro wm hown hgr; have HMW : Hid (Mods [] W wm) := Lib.hid ((Mods.refl _ _).grown hgr (fun q hq => by cases hq)); have HBM : Hid (Blk wm W.heap.size 9 (repRow z 0 n)) := Lib.hid (by have h := own_blk hown; rw [show (Value.string ⟨#[]⟩).cells = #[.string ⟨#[]⟩] from rfl, Nat.mul_one, toList_madeCells_one] at h; unfold repRow; simpa using h); have hcm := (HMW.out.cell (World.block_lt_of_cell? _ _ hc0) (by simp)).trans hc0; clear hown hgr))
  go_wp2_with (refine wpList_copy_splice (by rfl) (.tmp 31) (.tmp 32) 81 81 (by rfl) 9 Try.underlying81 hsz (some ⟨W.heap.size, 0, none⟩) (some ⟨ga, oa, none⟩) n n 1 1 (by rfl) (by rfl) W.heap.size 0 (repRow z 0 n) 9 HBM.out [.string z] (Nat.min_eq_left h1).symm (fun _ => ⟨rfl, ⟨ga, oa, none⟩, rfl, one_src hcm⟩) (by rw [repRow_len z (Nat.zero_le _)]; exact h1) (by simp [Value.oneCell']) W.heap.size W HMW.out.below (Nat.le_refl _) ?_; intro w7 hg7 hb7)
  have HB7 : Hid (Blk w7 W.heap.size 9 (repRow z 1 n)) := Lib.hid (by have h := hg7.out; rw [show [Value.string z] = List.replicate 1 (.string z) from rfl, repRow_splice z (by omega)] at h; exact h)
  have HM7 : Hid (Mods [] W w7) := Lib.hid (Mods.of_below hb7 [])
  clear hg7 hb7
  go_loopw [8] (fun mv wr => ∃ m : Nat, 1 ≤ m ∧ m ≤ n ∧ mv = .int .i64 (m : Nat) ∧ Hid (Blk wr W.heap.size 9 (repRow z m n)) ∧ Hid (Mods [] W wr)) (fun mv _ => n - (intOf mv).toNat)
  case atStart => exact ⟨1, Nat.le_refl _, h1, rfl, HB7, HM7⟩
  case round =>
    obtain ⟨m, hm1, hmn, rfl, HB, HM⟩ := hrel
    by_cases hlt : m < n
    · have hi1 : (0 : Int) ≤ (m : Int) := by omega
      have hi2 : (m : Int) ≤ (n : Int) := by omega
      have hnm : ¬ n = m := by omega
      obtain ⟨c, hc⟩ : ∃ c, Nat.min m (n - m) = c := ⟨_, rfl⟩
      have hcm : c ≤ m := by rw [← hc]; exact Nat.min_le_left _ _
      have hcn : c ≤ n - m := by rw [← hc]; exact Nat.min_le_right _ _
      have hc0 : 1 ≤ c := by rw [← hc]; exact Nat.le_min.2 ⟨hm1, by omega⟩
      have hcl : (List.replicate c (Value.string z)).length = Nat.min m (n - m) := by rw [hc, List.length_replicate]
      have hsrc : ∀ j v, (List.replicate c (Value.string z))[j]? = some v → wr.drew.cell? ((⟨W.heap.size, 0, none⟩ : Addr).add j) = some v := by
        intro j v hj
        rw [List.getElem?_replicate] at hj
        split at hj
        · rename_i hjc
          injection hj with hj
          rw [← hj, add_at, Nat.zero_add]
          exact HB.out.cell (repRow_at z (by omega))
        · cases hj
      have hfit : m + (List.replicate c (Value.string z)).length ≤ (repRow z m n).length := by rw [repRow_len z hmn, List.length_replicate]; omega
      have hone : ∀ v ∈ List.replicate c (Value.string z), v.oneCell' = true := by
        intro v hv
        rw [List.eq_of_mem_replicate hv]; rfl
      have hh : wr.drew.heap[W.heap.size]? = some (.cells (repRow z m n).toArray 9 (0, 0)) := HB.out
      have hr := run_copy_row (P := Try.prog) wr.drew 81 81 3 9 W.heap.size m (n - m) (n - m) ⟨W.heap.size, 0, none⟩ m n (repRow z m n).toArray 9 (List.replicate c (.string z)) Try.underlying81 hsz hh hcl hsrc (by simpa using hfit) hone
      obtain ⟨R, hR⟩ : ∃ R : Array Value, ((repRow z m n).toArray.toList.take m ++ List.replicate c (Value.string z) ++ (repRow z m n).toArray.toList.drop (m + (List.replicate c (Value.string z)).length)).toArray = R := ⟨_, rfl⟩
      rw [hR] at hr
      have hg8 : (wr.drew.setRow W.heap.size R).heap[W.heap.size]? = some (.cells R 9 (0, 0)) := setRow_heap _ _ _ _ _ _ hh
      have hb8 : Below W.heap.size W (wr.drew.setRow W.heap.size R) := below_setRow HM.out.drew.below (Nat.le_refl _) R
      generalize wr.drew.setRow W.heap.size R = w8 at hr hg8 hb8
      rw [← hR] at hg8
      have hr2 : (Builtin.copy_ #[81, 81] 3 #[.slice (some ⟨W.heap.size, m, none⟩) (n - m) (n - m), .slice (some ⟨W.heap.size, 0, none⟩) m n]).run Try.prog wr.drew = .ok (.int .i64 (c : Nat)) w8 := by
        rw [hr, List.length_replicate]; rfl
      have HG8 : Hid (Blk w8 W.heap.size 9 (repRow z (m + c) n)) := Lib.hid (by
        rw [← repRow_splice z (by omega)]
        unfold splice
        rw [← List.append_assoc]
        exact hg8)
      have HB8' := Lib.hid hb8
      have hw3 : IntKind.i64.wrap ((m : Int) + (c : Int)) = ((m + c : Nat) : Int) := by rw [IntKind.wrap_i64]; omega
      clear hsrc hfit hone hcl hc hr hg8 hb8 hR hh
      go_wp2_with fail
      go_region_held3 (fun _ => True) (trivial) (fail)
      have HB8 := HG8
      have hb8 := HB8'.out
      have HM8 : Hid (Mods [] W w8) := Lib.hid (Mods.of_below hb8 [])
      clear hb8
      go_wp2_with fail
      go_roundw
      case rel => exact ⟨m + c, by omega, by omega, by simp, HB8, HM8⟩
      case measure => simp [intOf]; omega
    · obtain rfl : m = n := by omega
      go_wp2_with fail
      go_ret
      refine ⟨W.heap.size, rfl, Lib.hid (by have h := HB.out; unfold repRow at h; simpa using h), HM, Nat.le_refl _⟩
end Go.Proofs.Ytnpfhfgegjocoaa
/- dev.New. -/
namespace Go.Proofs.Ytnpfhfgegjocoaa
open Go.RowKit

theorem info_boolR : (Try.prog.info? 4).map (fun i => (i.zero, i.size, i.bytes)) = some (some (.bool false), 1, 1) := by kernel_rfl
theorem Blk.kd {w w' : World} {b : Nat} {t : TypeId} {l : List Value} (hm : Mods [] w w') (h : Blk w b t l) : Blk w' b t l := h.keep0 hm
theorem blkS (w : World) (o : Obj) (t : TypeId) (l : List Value) : Blk ((w.alloc o).alloc (.cells l.toArray t (0, 0))) (w.heap.size + 1) t l := by
  have h := Blk.new (w.alloc o) t l
  have e : (w.alloc o).heap.size = w.heap.size + 1 := by simp
  rw [e] at h; exact h
theorem zero_str (s : Nat) : bA (zerosL s) = ⟨Array.replicate s 0⟩ := by
  unfold bA zerosL
  rw [List.toArray_replicate]
theorem new_dev {W X : World} {mb bb n s : Nat} {zs : ByteArray} (h2 : n ≤ 4096) (h3 : 128 ≤ s) (h4 : s ≤ 1024) (hz : zs = bA (zerosL s)) (hm : Blk X mb 9 (List.replicate n (.string zs))) (hb : Blk X bb 4 (List.replicate n (.bool false))) (hne : mb ≠ bb) (hW1 : W.heap.size ≤ mb) (hW2 : W.heap.size ≤ bb) :
    IsDev (X.alloc (.cells (devCells (Dev.new n s) mb bb (.slice none 0 0) 0 0 0).toArray 85 (0, 0))) X.heap.size [X.heap.size, mb, bb] (Dev.new n s) ∧ ∀ g ∈ [X.heap.size, mb, bb], W.heap.size ≤ g := by
  have l1 := hm.lt
  have l2 := hb.lt
  rw [hz, zero_str] at hm
  refine ⟨⟨mb, bb, .slice none 0 0, 0, 0, 0, ⟨⟨by simp [Dev.new], by simp [Dev.new], h2, h3, h4, ?_, fun x hx => by cases hx⟩, by simp [Dev.new], by simp [Dev.new], by simp [Dev.new], Blk.new X 85 (devCells (Dev.new n s) mb bb (.slice none 0 0) 0 0 0), ?_, ?_, World.ownsRow_nil _ _ _ _⟩, rfl, ?_⟩, ?_⟩
  · intro x hx
    have hx2 : x ∈ List.replicate n (⟨Array.replicate s 0⟩ : ByteArray) := hx
    rw [List.eq_of_mem_replicate hx2]
    show (Array.replicate s (0 : UInt8)).size = s
    simp
  · have h := hm.alloc (.cells (devCells (Dev.new n s) mb bb (.slice none 0 0) 0 0 0).toArray 85 (0, 0))
    rw [show (Dev.new n s).media.map Value.string = List.replicate n (.string ⟨Array.replicate s 0⟩) by simp [Dev.new]]
    exact h
  · have h := hb.alloc (.cells (devCells (Dev.new n s) mb bb (.slice none 0 0) 0 0 0).toArray 85 (0, 0))
    rw [show (Dev.new n s).bad.map Value.bool = List.replicate n (.bool false) by simp [Dev.new]]
    exact h
  · simp [hne]; omega
  · intro g hg
    simp at hg
    rcases hg with rfl | rfl | rfl <;> omega
set_option maxRecDepth 100000 in
set_option maxHeartbeats 3200000 in
theorem dNew_any {W : World} (n s : Nat) (hr : Dev.right (n : Int) (s : Int) = true) :
    Calls Try.prog 26 #[.agg #[.int .i64 (n : Nat), .int .i64 (s : Nat)]] W fun e w' => ∃ b fp, e = .returned (.tuple #[.pointer (some ⟨b, 0, none⟩), .int .i64 0]) ∧ Hid (IsDev w' b fp (Dev.new n s)) ∧ Hid (Mods [] W w') ∧ Hid (∀ g ∈ fp, W.heap.size ≤ g) := by
  obtain ⟨r1, r2, r3, r4⟩ := right_parts hr
  have cRight := Lib.hid (fun W => dRight_any (W := W) (n : Int) (s : Int))
  rw [hr] at cRight
  obtain ⟨i0, hi0, hz0, hz1, hz2⟩ := info_parts info_boolR
  have hmk : ∀ w : World, (Instr.makeSlice 82 (.int .i64 (n : Nat)) (.int .i64 (n : Nat))).run Try.prog w = .ok (.slice (some ⟨w.heap.size, 0, none⟩) n n) (w.alloc (.cells (List.replicate n (Value.bool false)).toArray 4)) := by
    intro w
    have h := run_make (P := Try.prog) w 82 4 i0 (.bool false) Try.underlying82 hi0 hz0 .i64 .i64 (n : Int) (n : Int) (by omega) (by omega) (by rw [hz2]; omega) (by omega)
    have e : madeCells (Value.bool false).cells ((n : Int).toNat * i0.size) = (List.replicate n (Value.bool false)).toArray := by
      rw [hz1, Nat.mul_one, Int.toNat_natCast]
      apply Array.ext'
      rw [show (Value.bool false).cells = #[.bool false] from rfl, toList_madeCells_one]
    rw [e] at h
    exact h
  obtain ⟨w1, hw1⟩ : ∃ w1, W.alloc (.cells #[.int .i64 (n : Nat), .int .i64 (s : Nat)] 61) = w1 := ⟨_, rfl⟩
  have hb1 : Blk w1 W.heap.size 61 [.int .i64 (n : Nat), .int .i64 (s : Nat)] := by rw [← hw1]; exact Blk.new W 61 [.int .i64 (n : Nat), .int .i64 (s : Nat)]
  have hm1 : Mods [] W w1 := by rw [← hw1]; exact (Mods.refl _ _).alloc _
  have HC : Hid (∀ w', Mods [] w1 w' → w'.cell? ⟨W.heap.size, 0, none⟩ = some (.int .i64 (n : Nat)) ∧ w'.cell? ⟨W.heap.size, 1, none⟩ = some (.int .i64 (s : Nat))) := Lib.hid (fun w' hm => by
    have h := hb1.keep0 hm
    exact ⟨h.cell (i := 0) rfl, h.cell (i := 1) rfl⟩)
  have HM1 := Lib.hid hm1
  have q0 := hb1.cell (i := 0) rfl
  have q1 := hb1.cell (i := 1) rfl
  have HR := Lib.hid (And.intro r1 (And.intro r2 (And.intro r3 r4)))
  clear hb1 hm1 hr
  go_enter Try.func26, Try.ntmps26
  go_wp2_with (first | (go_at_call 24; refine (cRight.out _).mono ?_; rintro e w2 ⟨rfl, hm2⟩; have HM2 := Lib.hid hm2; obtain ⟨q0, q1⟩ := HC.out w2 hm2; clear hm2) | (go_at_call 33; refine (repeat0_ex s (by omega)).mono ?_; rintro e w3 ⟨zs, rfl, HZ, hzs, hm3⟩; have HM3 := Lib.hid (HM2.out.tr hm3); obtain ⟨q0, q1⟩ := HC.out w3 (HM2.out.tr hm3); clear hm3))
  go_region_held3 (fun w' => w'.cell? ⟨W.heap.size, 0, none⟩ = some (.int .i64 (n : Nat)) ∧ w'.cell? ⟨W.heap.size, 1, none⟩ = some (.int .i64 (s : Nat)))
    (first | go_keep | exact HC.out _ HM4.out | exact HC.out _ (HM4.out.alloc _) | exact HC.out _ ((HM4.out.alloc _).alloc _) | fail)
    (first | (go_at_call 54; refine (sRepeatS_any (z := zs) (by first | exact Row.new w3 9 [.string zs] | exact rowS w3 _ 9 [.string zs] | exact (rows2 w3 9 4 [.string zs] _).1) n (by omega) (by omega)).mono ?_; rintro e w4 ⟨gm, rfl, HG, hm4, hgm⟩; have HM4 : Hid (Mods [] w1 w4) := (by first | exact Lib.hid ((HM3.out.alloc _).tr hm4.out) | exact Lib.hid ((HM3.out.drew.alloc _).tr hm4.out) | exact Lib.hid (((HM3.out.alloc _).alloc _).tr hm4.out) | exact Lib.hid ((HM3.out.alloc _).drew.tr hm4.out) | exact Lib.hid (((HM3.out.alloc _).alloc _).drew.tr hm4.out)); (first | (have hbz := Blk.kd hm4.out (blkS w3 (.cells #[.string zs] 9) 4 (List.replicate n (.bool false))); have HBZ := Lib.hid hbz) | (have hbz := Blk.kd hm4.out ((Blk.new w3 4 (List.replicate n (.bool false))).alloc (.cells #[.string zs] 9)); have HBZ := Lib.hid hbz) | skip)))
  all_goals
    go_wp2_with fail
    go_ret2
  all_goals have hs1 := HM1.out.size
  all_goals have hs3 := HM3.out.size
  all_goals have hs4 := HM4.out.size
  all_goals have hgl := HG.out.lt
  · have hg2 : w3.heap.size ≤ gm := by simp at hgm; omega
    have hx := new_dev (W := W) (X := w4.alloc (.cells (List.replicate n (Value.bool false)).toArray 4 (0, 0))) (mb := gm) (bb := w4.heap.size) (s := s) HR.out.2.1 HR.out.2.2.1 HR.out.2.2.2 HZ.out (HG.out.alloc _) (Blk.new w4 4 (List.replicate n (.bool false))) (by omega) (by omega) (by omega)
    rw [show (w4.alloc (.cells (List.replicate n (Value.bool false)).toArray 4 (0, 0))).heap.size = w4.heap.size + 1 by simp] at hx
    exact ⟨w4.heap.size + 1, _, rfl, Lib.hid hx.1, Lib.hid (((HM1.out.tr HM4.out).alloc _).alloc _), Lib.hid hx.2⟩
  · have hg2 : w3.heap.size + 2 ≤ gm := by simp at hgm; omega
    have hx := new_dev (W := W) (X := w4) (mb := gm) (bb := w3.heap.size + 1) (s := s) HR.out.2.1 HR.out.2.2.1 HR.out.2.2.2 HZ.out HG.out HBZ.out (by omega) (by omega) (by omega)
    exact ⟨w4.heap.size, _, rfl, Lib.hid hx.1, Lib.hid ((HM1.out.tr HM4.out).alloc _), Lib.hid hx.2⟩
  · have hg2 : w3.heap.size + 2 ≤ gm := by simp at hgm; omega
    have hx := new_dev (W := W) (X := w4) (mb := gm) (bb := w3.heap.size) (s := s) HR.out.2.1 HR.out.2.2.1 HR.out.2.2.2 HZ.out HG.out HBZ.out (by omega) (by omega) (by omega)
    exact ⟨w4.heap.size, _, rfl, Lib.hid hx.1, Lib.hid ((HM1.out.tr HM4.out).alloc _), Lib.hid hx.2⟩
end Go.Proofs.Ytnpfhfgegjocoaa
/- The laws' own functions: full, devices, fresh. -/
namespace Go.Proofs.Ytnpfhfgegjocoaa
open Go.RowKit

theorem repC (c : UInt8) : ∀ n, Lib.repeatL [c] n = List.replicate n c
  | 0 => rfl
  | n + 1 => by rw [Lib.repeatL, repC c n]; rfl
def fullB (s : ByteArray) : ByteArray := bA ((s.toList ++ List.replicate 128 42).take 128)
theorem fullB_size (s : ByteArray) : (fullB s).size = 128 := by
  unfold fullB
  rw [bA_size, List.length_take, List.length_append, List.length_replicate]
  omega
theorem repeat42 {W : World} : Calls Try.prog 33 #[.string ⟨#[42]⟩, .int .i64 128] W fun e w' => ∃ z, e = .returned (.string z) ∧ Hid (z = bA (List.replicate 128 42)) ∧ z.size = 128 ∧ Mods [] W w' :=
  (Try.strings_Repeat ⟨#[42]⟩ 128 W (by omega) (by show 1 * 128 ≤ _; omega)).mono fun e w' h => ⟨bA (List.replicate 128 42), by rw [h.1]; show Ending.returned (.string ⟨(Lib.repeatL [42] 128).toArray⟩) = _; rw [repC]; rfl, Lib.hid rfl, by rw [bA_size]; simp, Mods.of_below h.2 []⟩
theorem full_eq (s z : ByteArray) (h : z = bA (List.replicate 128 42)) : (s ++ z).extract 0 128 = fullB s := by
  subst h
  unfold fullB
  have h := bA_of s
  generalize s.toList = l at h ⊢
  subst h
  rw [bA_app]
  apply ByteArray.ext
  rw [ByteArray.data_extract]
  simp [bA]
theorem qFull_any {W : World} (s : ByteArray) (hs : s.size ≤ 1000000) :
    Calls Try.prog 9 #[.string s] W fun e w' => ∃ z, e = .returned (.string z) ∧ Hid (z = fullB s) ∧ z.size = 128 ∧ Hid (Mods [] W w') := by
  go_enter Try.func9, Try.ntmps9
  go_wp2_with (go_at_call 33; refine repeat42.mono ?_; rintro e w1 ⟨z, rfl, HZ, hz, hm1⟩; have HM1 := Lib.hid hm1; clear hm1)
  have hx := full_eq s z HZ.out
  rw [hx]
  go_ret
  exact ⟨fullB s, rfl, Lib.hid rfl, fullB_size s, HM1⟩
theorem shape_right : Dev.right (20 : Nat) (128 : Nat) = true := by decide
/-- Two of anything. -/
def two {α : Type} (a b : α) (k : Nat) : α := if k = 0 then a else b
theorem devs_two {w1 w2 : World} {b0 b1 : Nat} {f0 f1 : List Nat} {D : Dev} (h0 : IsDev w2 b0 f0 D) (h1 : IsDev w2 b1 f1 D) (l0 : ∀ g ∈ f0, g < w1.heap.size) (l1 : ∀ g ∈ f1, w1.heap.size ≤ g) : Devs w2 (two b0 b1) (two f0 f1) (fun _ => D) := by
  refine ⟨fun s hs => ?_, fun s hs g hg hx => ?_, fun _ _ => ⟨rfl, rfl⟩⟩
  · rcases two_cases hs with rfl | rfl
    · exact h0
    · exact h1
  · rcases two_cases hs with rfl | rfl
    · have := l0 g hg; have := l1 g hx; omega
    · have := l1 g hg; have := l0 g hx; omega
theorem qDevices_any {W : World} :
    Calls Try.prog 28 #[] W fun e w' => ∃ x fx, e = .returned (.tuple #[.pointer (some ⟨x 0, 0, none⟩), .pointer (some ⟨x 1, 0, none⟩)]) ∧ Hid (Devs w' x fx (fun _ => Dev.new 20 128)) ∧ Hid (Mods [] W w') ∧ Hid (∀ k, k < 2 → ∀ g ∈ fx k, W.heap.size ≤ g) := by
  have cNew := Lib.hid (fun W => dNew_any (W := W) 20 128 shape_right)
  go_enter Try.func28, Try.ntmps28
  go_wp2_with (first | (go_at_call 26; have H2 := H0; refine (cNew.out _).mono ?_; rintro e w2 ⟨b1, f1, rfl, H1, HM1, HF1⟩) | (go_at_call 26; refine (cNew.out _).mono ?_; rintro e w1 ⟨b0, f0, rfl, H0, HM0, HF0⟩))
  go_ret2
  refine ⟨two b0 b1, two f0 f1, rfl, Lib.hid (devs_two (w1 := w1) (H0.out.keep HM1.out (by simp)) H1.out H0.out.lt HF1.out), Lib.hid (HM0.out.trans HM1.out (by simp)), Lib.hid (fun k hk g hg => ?_)⟩
  rcases two_cases hk with rfl | rfl
  · exact HF0.out g hg
  · have := HF1.out g hg; have := HM0.out.size; omega
end Go.Proofs.Ytnpfhfgegjocoaa
/- The laws' own pair, made anew; wakes. -/
namespace Go.Proofs.Ytnpfhfgegjocoaa
open Go.RowKit

/-- A pair that was just made. -/
structure Fr (W w : World) (x : Nat → Nat) (fx : Nat → List Nat) (b : Nat) (gp : List Nat) (P : Pr) : Prop where
  pair : IsPair w b gp x fx P
  gd : Gd P
  tab : ∀ s, s < 2 → P.tab s = ⟨12, 4, []⟩
  cache : ∀ d, d < 2 → (P.dev d).cache = []
  bad : ∀ d, d < 2 → ∀ j, 4 ≤ j → (P.dev d).bad.getD j false = false
  newF : ∀ k, k < 2 → ∀ g ∈ fx k, W.heap.size ≤ g
  newG : ∀ g ∈ gp, W.heap.size ≤ g
  mods : Mods [] W w
def P00 : Pr := newP 4 (fun _ => Dev.new 20 128)
theorem new_bad (n s j : Nat) : (Dev.new n s).bad.getD j false = false := by
  show (List.replicate n false).getD j false = false
  rw [List.getD_eq_getElem?_getD, List.getElem?_replicate]
  split <;> rfl
theorem p00_fit : P00.Fit := by
  refine ⟨shape_right, ?_, ?_, ?_⟩ <;> decide
theorem p00_inv : PInv0 P00 := ⟨fun _ _ => new_quiet 20 128 shape_right, fun _ _ => ⟨rfl, rfl⟩, p00_fit⟩
theorem tab00 : tab0 P00 = ⟨12, 4, []⟩ := rfl
theorem fresh_plain : ∃ P', (P00.keep 0 (tab0 P00)).1 = 0 ∧ ((P00.keep 0 (tab0 P00)).2.keep 1 (tab0 P00)) = (0, P') ∧ Gd P' ∧ (∀ s, s < 2 → P'.tab s = ⟨12, 4, []⟩) ∧ (∀ d, d < 2 → (P'.dev d).cache = []) ∧ (∀ d, d < 2 → ∀ j, 4 ≤ j → (P'.dev d).bad.getD j false = false) := by
  obtain ⟨P', h1, h2, h3, h4, h5, h6⟩ := format_inv p00_inv (fun _ _ => new_empty 20 128 (by omega))
  rw [tab00] at h4
  refine ⟨P', h1, h2, ⟨h3, h5.n, (h5.same 0 (by decide)).size, (h5.same 0 (by decide)).sectors⟩, h4, h6, fun d hd j hj => ?_⟩
  rw [(h5.same d hd).bad j hj]
  exact new_bad 20 128 j
theorem results_tmp4 {fn : Func} {t u v x : Tmp} (h : fn.results = #[.tmp t, .tmp u, .tmp v, .tmp x]) (tmps : Array Value) (P : Program) (w : World) :
    (results fn tmps).run P w = .ok (.tuple #[tmps.getD t undef, tmps.getD u undef, tmps.getD v undef, tmps.getD x undef]) w := by
  simp [results, h]
theorem qFresh_any {W : World} :
    Calls Try.prog 7 #[] W fun e w' => ∃ x fx b gp P, e = .returned (.tuple #[.pointer (some ⟨x 0, 0, none⟩), .pointer (some ⟨x 1, 0, none⟩), .pointer (some ⟨b, 0, none⟩), .bool true]) ∧ Hid (Fr W w' x fx b gp P) := by
  obtain ⟨P', k1, k2, k3, k4, k5, k6⟩ := fresh_plain
  have cF := Lib.hid (fun (w : World) (x : Nat → Nat) (fx : Nat → List Nat) (h : Devs w x fx (fun _ => Dev.new 20 128)) => rFormat_any h 4 p00_fit (fun _ _ => by show (0 : Nat) + 2 < 1000000; omega) k1 (by
    have h2 := k2
    unfold P00 at h2
    rw [h2]))
  have k2' := k2
  unfold P00 at k2'
  rw [k2'] at cF
  have HK := Lib.hid (And.intro k3 (And.intro k4 (And.intro k5 k6)))
  clear k1 k2 k2' k3 k4 k5 k6
  go_enter Try.func7, Try.ntmps7
  go_wp2_with (first | (go_at_call 28; refine qDevices_any.mono ?_; rintro e w1 ⟨x, fx0, rfl, HD, HM, HF⟩) | (go_at_call 27; refine (cF.out _ _ _ HD.out).mono ?_; rintro e w2 ⟨b, gp, fx, rfl, HP, HM2, HN2, HG2⟩))
  refine bodyPost_ret (results_tmp4 rfl _ _ _) rfl ?_
  obtain ⟨k3, k4, k5, k6⟩ := HK.out
  have hs := HM.out.size
  refine ⟨x, fx, b, gp, P', rfl, Lib.hid ⟨HP.out, k3, k4, k5, k6, fun k hk g hg => ?_, fun g hg => Nat.le_trans hs (HG2.out g hg), HM.out.trans HM2.out (fun k hk => .inr ?_)⟩⟩
  · rcases HN2.out k hk g hg with h | h
    · exact HF.out k hk g h
    · omega
  · rcases List.mem_append.1 hk with h | h
    · exact HF.out 0 (by decide) k h
    · exact HF.out 1 (by decide) k h
theorem Fr.own {W w : World} {x : Nat → Nat} {fx : Nat → List Nat} {b : Nat} {gp : List Nat} {P : Pr} (h : Fr W w x fx b gp P) : Own W w x fx b gp P := ⟨h.pair, h.gd, h.newF, h.newG, h.mods⟩
end Go.Proofs.Ytnpfhfgegjocoaa
/- The laws' wakes. -/
namespace Go.Proofs.Ytnpfhfgegjocoaa
open Go.RowKit

theorem few0 {P : Pr} (h : ∀ d, d < 2 → (P.dev d).cache = []) : Few P 0 := fun d hd => by rw [h d hd]; exact Nat.le_refl _
theorem Few.mono {P : Pr} {a b : Nat} (h : Few P a) (hl : a ≤ b) : Few P b := fun d hd => Nat.le_trans (h d hd) hl
theorem blocks56 {W : World} : Calls Try.prog 25 #[.agg #[.int .i64 64, .int .i64 128], .int .i64 4] W fun e w' => e = .returned (.int .i64 56) ∧ Mods [] W w' := by
  have h := rBlocks_any (W := W) 64 128 4
  have e : blocksI 64 128 4 = 56 := by decide
  rw [e] at h; exact h
theorem at_3 {W : World} {A : Option Addr} {c : Nat} (hm : IsMv W (.slice A 1 c) [3]) : Calls Try.prog 13 #[.agg #[.int .i64 12, .int .i64 4, .slice A 1 c], .int .i64 3] W fun e w' => e = .returned (.tuple #[.int .i64 12, .int .i64 0]) ∧ Mods [] W w' := by
  have ho : (⟨12, 4, [3]⟩ : Tab).Ok := ⟨by decide, by decide, by decide, by decide⟩
  exact tAt_any (t := ⟨12, 4, [3]⟩) hm ho 3
set_option maxRecDepth 100000 in
set_option maxHeartbeats 3200000 in
theorem qWakes_any {W : World} : Calls Try.prog 8 #[] W fun e w' => e = .returned (.bool true) ∧ Mods [] W w' := by
  obtain ⟨F, hF⟩ : ∃ F, fullB ⟨#[120]⟩ = F := ⟨_, rfl⟩
  have hFs : F.size = 128 := by rw [← hF]; exact fullB_size _
  have cFull := Lib.hid (fun W => show Calls Try.prog 9 #[.string ⟨#[120]⟩] W fun e w' => e = .returned (.string F) ∧ Hid (Mods [] W w') from (qFull_any (W := W) ⟨#[120]⟩ (by decide)).mono fun e w' ⟨z, h1, h2, _, h4⟩ => ⟨by rw [h1, h2.out, hF], h4⟩)
  have cTr := Lib.hid (fun (W w : World) (b : Nat) (gp : List Nat) (x : Nat → Nat) (fx : Nat → List Nat) (P : Pr) (h : Fr W w x fx b gp P) => gStick h.pair h.gd (s := 0) (k := 7) (by decide) (by decide) (by decide) ((few0 h.cache).mono (Nat.zero_le _)))
  go_enter Try.func8, Try.ntmps8
  go_wp2_with (first | (go_at_call 7; refine qFresh_any.mono ?_; rintro e w1 ⟨x, fx, b, gp, P, rfl, HF⟩) | (go_at_call 15; refine (cTr.out _ _ _ _ _ _ _ HF.out).mono ?_; rintro e w2 ⟨P2, rfl, HP2, HG2, HT2, HS2, HB2, HC2⟩) | (go_at_call 9; refine (cFull.out _).mono ?_; rintro e w3 ⟨rfl, HM3⟩))
  have hp3 := HP2.out.pair.keep0 HM3.out
  have ht2 : P2.tab 0 = ⟨12, 4, []⟩ := by rw [HT2.out]; exact HF.out.tab 0 (by decide)
  have hat : ((P2.tab 0).at_ ((3 : Nat) : Int)).1 + 4 = 7 := by rw [ht2]; decide
  have hc2 : Few P2 0 := fun d hd => Nat.le_trans (HC2.out d hd) (few0 HF.out.cache d hd)
  have cW := Lib.hid (gWriteMoved hp3 HG2.out (s := 0) (i := 3) (by decide) (by decide) (hc2.mono (Nat.zero_le _)) hFs (by rw [hat]; exact HB2.out) (by rw [ht2]; decide) (by
    rw [ht2]
    show (P2.dev 0).bad.getD 16 false = false
    rw [(HS2.out.same 0 (by decide)).bad 16 (by decide)]
    exact HF.out.bad 0 (by decide) 16 (by decide)))
  refine cW.out.mono ?_
  rintro e w4 ⟨P4, gp4, fx4, rfl, HP4, HG4, HT4, HR4, HC4⟩
  have hc4 : Few P4 1 := fun d hd => Nat.le_trans (HC4.out d hd) (Nat.add_le_add_right (hc2 d hd) 1)
  have ht4 : P4.tab 0 = ⟨12, 4, [3]⟩ := by rw [HT4.out, ht2]; rfl
  have cFl := Lib.hid (gFlush HP4.out.pair HG4.out (s := 0) (by decide) (hc4.mono (by decide)))
  clear hp3 hat
  go_wp2_with (go_at_call 17; refine cFl.out.mono ?_; rintro e w5 ⟨P5, fx5, rfl, HP5, HG5, HT5, HS5, HC5⟩)
  have hc5 : Few P5 1 := fun d hd => Nat.le_trans (HC5.out d hd) (hc4 d hd)
  have ht5 : P5.tab 0 = ⟨12, 4, [3]⟩ := by rw [HT5.out]; exact ht4
  have hr5 : P5.read 0 ((3 : Nat) : Int) = (F, 0) := (stay_read HG4.out HG5.out HS5.out (s := 0) (i := 3) (by decide) (by decide) (by rw [HT5.out]) trivial).trans HR4.out
  have cOp := Lib.hid (gOpen HP5.out.pair HG5.out (hc5.mono (by decide)))
  refine cOp.out.mono ?_
  rintro e w6 ⟨b6, gp6, rfl, HP6, HM6, HN6, HG6, HT6⟩
  have ht6 : (openP P5).tab 0 = ⟨12, 4, [3]⟩ := by rw [HT6.out 0 (by decide)]; exact ht5
  have hr6 : (openP P5).read 0 ((3 : Nat) : Int) = (F, 0) := (open_read (by decide) _).trans hr5
  have cRd := Lib.hid (gRead HP6.out (s := 0) (by decide) ((3 : Nat) : Int) (by
    have e : (openP P5).dev = P5.dev := rfl
    unfold Few
    rw [e]
    exact hc5.mono (by decide)))
  rw [hr6] at cRd
  have cTb := Lib.hid (fun (w : World) (hp : IsPair w b6 gp6 x fx5 (openP P5)) => gTable hp (s := 0) (by decide) ht6)
  clear hr6 hr5 ht5 ht6 cOp cFl cW cTr
  go_wp2_with (first | (go_at_call 16; refine cRd.out.mono ?_; rintro e w7 ⟨rfl, HP7, HM7⟩) | (go_at_call 10; refine (cTb.out _ HP7.out).mono ?_; rintro e w8 ⟨A, c, rfl, HV8, HA8, HM8⟩) | (go_at_call 13; refine (at_3 HV8.out).mono ?_; rintro e w9 ⟨rfl, hm9⟩; have HM9 := Lib.hid hm9; clear hm9) | (go_at_call 9; refine (cFull.out _).mono ?_; rintro e w10 ⟨rfl, HM10⟩) | (go_at_call 25; refine blocks56.mono ?_; rintro e w11 ⟨rfl, hm11⟩; have HM11 := Lib.hid hm11; clear hm11))
  go_ret
  refine ⟨rfl, ?_⟩
  have O5 := (((HF.out.own.to HP2.out HG2.out).still HM3.out).to HP4.out HG4.out).to HP5.out HG5.out
  have O7 := (O5.opened HP6.out HM6.out HN6.out HG6.out).same HP7.out HM7.out
  exact ((((O7.still HM8.out).still HM9.out).still HM10.out).still HM11.out).mods
end Go.Proofs.Ytnpfhfgegjocoaa
/- The laws' pair: a table's value and its methods, told by the table. -/
namespace Go.Proofs.Ytnpfhfgegjocoaa
open Go.RowKit

/-- A value is a table. -/
def TabAt (w : World) (v : Value) (T : Tab) : Prop := ∃ mv, v = tabV T mv ∧ IsMv w mv T.moved ∧ T.Ok
theorem TabAt.keep0 {w w' : World} {v : Value} {T : Tab} (h : TabAt w v T) (hm : Mods [] w w') : TabAt w' v T := by
  obtain ⟨mv, h1, h2, h3⟩ := h
  exact ⟨mv, h1, h2.keep hm (by simp), h3⟩
theorem oTable {W w : World} {x : Nat → Nat} {fx : Nat → List Nat} {b : Nat} {gp : List Nat} {P : Pr} (h : Own W w x fx b gp P) {s : Nat} (hs : s < 2) {T : Tab} (hT : P.tab s = T) :
    Calls Try.prog 10 #[.pointer (some ⟨b, 0, none⟩), .int .i64 (s : Nat)] w fun e w' => ∃ A c, e = .returned (.agg #[.int .i64 (T.blocks : Nat), .int .i64 (T.spares : Nat), .slice A T.moved.length c]) ∧ Hid (TabAt w' (.agg #[.int .i64 (T.blocks : Nat), .int .i64 (T.spares : Nat), .slice A T.moved.length c]) T) ∧ Hid (Mods [] w w') :=
  (gTable h.pair hs hT).mono fun e w' ⟨A, c, h1, h2, _, h4⟩ => ⟨A, c, h1, Lib.hid ⟨_, rfl, h2.out, by rw [← hT]; exact h.gd.tok hs⟩, h4⟩
theorem oLeft {w : World} {v : Value} {T : Tab} (h : Hid (TabAt w v T)) : Calls Try.prog 11 #[v] w fun e w' => e = .returned (.int .i64 ((T.spares - T.moved.length : Nat) : Nat)) ∧ Hid (Mods [] w w') := by
  obtain ⟨mv, rfl, h2, h3⟩ := h.out
  exact tLeft_any T h2 h3
theorem oText {w : World} {v : Value} {T : Tab} (h : Hid (TabAt w v T)) : Calls Try.prog 19 #[v] w fun e w' => e = .returned (.string (bA (textL T.moved))) ∧ Hid (Mods [] w w') := by
  obtain ⟨mv, rfl, h2, h3⟩ := h.out
  exact tText_any T h2 h3
theorem oAt {w : World} {v : Value} {T : Tab} (h : Hid (TabAt w v T)) (i : Int) : Calls Try.prog 13 #[v, .int .i64 i] w fun e w' => e = .returned (.tuple #[.int .i64 ((T.at_ i).1 : Nat), .int .i64 ((T.at_ i).2 : Nat)]) ∧ Hid (Mods [] w w') := by
  obtain ⟨mv, rfl, h2, h3⟩ := h.out
  exact tAt_any h2 h3 i
theorem oGen {w : World} {v : Value} {T : Tab} (h : Hid (TabAt w v T)) : Calls Try.prog 49 #[v] w fun e w' => e = .returned (.int .u64 (T.moved.length : Nat)) ∧ Hid (Mods [] w w') := by
  obtain ⟨mv, rfl, h2, h3⟩ := h.out
  exact tGen_any T h2 h3
end Go.Proofs.Ytnpfhfgegjocoaa
/- The laws' pair, no block of which is bad. -/
namespace Go.Proofs.Ytnpfhfgegjocoaa
open Go.RowKit

/-- No block's sector is bad. -/
def NoBad (P : Pr) : Prop := ∀ d, d < 2 → ∀ j, 4 ≤ j → (P.dev d).bad.getD j false = false
theorem NoBad.stays {P P' : Pr} (h : NoBad P) {J : Nat → Nat → Prop} (st : Stays P P' J) (hJ : ∀ d j, 4 ≤ j → J d j) : NoBad P' := fun d hd j hj => ((st.same d hd).bad j (hJ d j hj)).trans (h d hd j hj)
/-- Write at the laws' pair, of a block whose sector isn't bad. -/
theorem gWriteOk {W : World} {b : Nat} {gp : List Nat} {x : Nat → Nat} {fx : Nat → List Nat} {P : Pr} (hp : IsPair W b gp x fx P) (h : Gd P) {s i : Nat} (hs : s < 2) (hi : i < 12) (hc : Few P 900000) {img : ByteArray} (hx : img.size = 128) (hn : NoBad P) :
    Calls Try.prog 20 #[.pointer (some ⟨b, 0, none⟩), .int .i64 (s : Nat), .int .i64 (i : Nat), .string img] W fun e w' => ∃ P' gp' fx', e = .returned (.int .i64 0) ∧ Hid (PairTo W w' b gp gp' x fx fx' P') ∧ Hid (Gd P') ∧ Hid (P'.tab = P.tab) ∧ Hid (P'.read s (i : Int) = (img, 0)) ∧ Hid (NoBad P') ∧ Hid (∀ d, d < 2 → (P'.dev d).cache.length ≤ (P.dev d).cache.length + 1) := by
  have hib : i < (P.tab s).blocks := by rw [h.blocks hs]; exact hi
  obtain ⟨P1, e1, g1, t1, st1, r1, _⟩ := write_good h.pi hs hib (x := img) (by rw [hx, h.size]) (hn s hs _ (by omega)) 4
  refine (gWrite hp h hs hi hc hx).mono fun e w' ⟨c, P', gp', fx', m, h1, h2, h3, _, _, _, h7, h8⟩ => ?_
  have h9 := h8.out.symm.trans e1
  injection h9 with e2 e3
  subst e2
  subst e3
  refine ⟨P', gp', fx', h1, h2, h3, Lib.hid t1, Lib.hid r1, Lib.hid (fun d hd j hj => ?_), h7⟩
  have hb : ∀ (D : Dev) (k : Nat) (y : ByteArray), (D.write (k : Int) y).2.bad = D.bad := fun D k y => by
    unfold Dev.write
    split
    · rfl
    · split
      · rfl
      · split
        · rfl
        · split
          · exact (Dev.burn_same D).2.2.2.1
          · split
            · exact (Dev.burn_same D).2.2.2.1
            · have hpb : ∀ (E : Dev) (q : Nat), (E.put q y).bad = E.bad := fun E q => by
                unfold Dev.put
                simp only
                split
                · split <;> rfl
                · split <;> rfl
              rw [hpb]; exact (Dev.burn_same D).2.2.2.1
  have hP : P' = P.setDev s ((P.dev s).write ((((P.tab s).at_ (i : Int)).1 + 4 : Nat) : Int) img).2 := by
    have e5 := e1
    unfold Pr.write Pr.sector at e5
    rw [if_neg (by rw [Tab.at_in hib]; simp)] at e5
    simp only at e5
    have hw := Dev.write_quiet (h.pi.inv.dev s hs).q (h.pi.at_lt hs hib) (hn s hs _ (by omega)) (x := img) (by rw [hx, (h.pi.inv.same s hs).1, h.size])
    rw [hw] at e5 ⊢
    simp at e5
    exact e5.symm
  rw [hP]
  show ((if d = s then _ else P.dev d)).bad.getD j false = false
  split
  · rw [hb]; exact hn s hs j hj
  · exact hn d hd j hj
end Go.Proofs.Ytnpfhfgegjocoaa
/- A map whose keys keep a law of their own (arrays, say), told as a function. No program is named here. -/
namespace Go.Proofs.Ytnpfhfgegjocoaa
open Go.RowKit Go.MapKept

/-- What is asked of keys: they are checked, found, and stay. -/
structure KLaw {κ : Type} (P : Program) (K : TypeId) (kv : κ → Value) : Prop where
  check : ∀ (w : World) (em : Bool) (a : κ), (Instr.checkKey em 10000 K (kv a)).run P w = .ok () w
  find : ∀ (w : World) (a : κ) (es : List MapEntry), (∀ e ∈ es, ∃ c, e.key = kv c) → ((Instr.findKey K (kv a) es).run P w = .ok none w ∧ ∀ e ∈ es, e.key ≠ kv a) ∨ ∃ j e, (Instr.findKey K (kv a) es).run P w = .ok (some (j, e.val)) w ∧ es[j]? = some e ∧ e.key = kv a
  stays : ∀ (w : World) (a : κ), (Instr.keyThatStays (kv a) (kv a)).run P w = .ok (kv a) w
  inj : ∀ a c, kv a = kv c → a = c
theorem KLaw.of {κ : Type} {P : Program} {K : TypeId} {kv : κ → Value} (h : WideMaps.KeyLaw P K) (hk : ∀ a, ∃ l, keyOf P K (kv a) = some l) (hinj : ∀ a c, kv a = kv c → a = c) : KLaw P K kv := by
  refine ⟨fun w em a => ?_, fun w a es hes => ?_, fun w a => ?_, hinj⟩
  · obtain ⟨l, e⟩ := hk a
    exact h.check w em e
  · obtain ⟨l, e⟩ := hk a
    exact h.find w e es (fun x hx => by obtain ⟨c, ec⟩ := hes x hx; rw [ec]; exact hk c)
  · obtain ⟨l, e⟩ := hk a
    exact h.stays w e

section
variable {κ : Type} {kv : κ → Value} {P : Program} {w : World} {b : Nat} {F : κ → Option Value} {n : Nat}
theorem MapK.lookupL {T K E : TypeId} {z : Value} (h : MapK kv w b F n) (hL : KLaw P K kv) (hT : P.underlying T = some (.map K E)) (hz : (zeroValue E).run P w = .ok z w) (a : κ) (c : Bool) :
    (Instr.lookup T (.map (some b)) (kv a) c).run P w = .ok (if c then .tuple #[(F a).getD z, .bool (F a).isSome] else (F a).getD z) w := by
  obtain ⟨es, clock, h1, h2, h3, h4, h5⟩ := h
  rcases hL.find w a es.toList h3 with ⟨hf, hno⟩ | ⟨j, e, hf, hj, he⟩
  · have hFa : F a = none := by
      cases hF : F a with
      | none => rfl
      | some v =>
        obtain ⟨x, hx, hxk, _⟩ := (h4 a v).1 hF
        exact absurd hxk (hno x hx)
    cases c <;> simp [Instr.lookup, run_underlying hT, Result.andThen, MapKept.run_getObj_map h1, hL.check w _ a, hf, hz, hFa]
  · have hFa : F a = some e.val := (h4 a e.val).2 ⟨e, List.mem_of_getElem? hj, he, rfl⟩
    cases c <;> simp [Instr.lookup, run_underlying hT, Result.andThen, MapKept.run_getObj_map h1, hL.check w _ a, hf, hFa]

theorem MapK.updateL [DecidableEq κ] {T K E : TypeId} (h : MapK kv w b F n) (hL : KLaw P K kv) (hT : P.underlying T = some (.map K E)) (a : κ) (v : Value) :
    ∃ w1, (Instr.mapUpdate T (.map (some b)) (kv a) v).run P w = .ok () w1 ∧ MapK kv w1 b (putF F a v) (if (F a).isSome then n else n + 1) ∧ Mods [b] w w1 ∧ w1.heap.size = w.heap.size := by
  obtain ⟨es, clock, h1, h2, h3, h4, h5⟩ := h
  have hmods : ∀ o, Mods [b] w { w with heap := w.heap.setIfInBounds b o } := fun o => ⟨rfl, rfl, rfl, by simp, fun k _ hn => (heap_set h1).2 k (by simpa using hn)⟩
  rcases hL.find w a es.toList h3 with ⟨hf, hno⟩ | ⟨j, e, hf, hj, he⟩
  · have hFa : F a = none := by
      cases hF : F a with
      | none => rfl
      | some v =>
        obtain ⟨x, hx, hxk, _⟩ := (h4 a v).1 hF
        exact absurd hxk (hno x hx)
    refine ⟨{ w with heap := w.heap.setIfInBounds b (.map (es.push { key := kv a, val := v, born := clock }) (clock + 1)) }, ?_, ⟨_, _, (heap_set h1).1, stamped_push h2 hno, ?_, ?_, ?_⟩, hmods _, by simp⟩
    · simp [Instr.mapUpdate, run_underlying hT, MapKept.run_getObj_map h1, hL.check w _ a, hf, run_setObj_map _ h1, Result.andThen]
    · intro x hx
      simp only [Array.toList_push, List.mem_append, List.mem_singleton] at hx
      rcases hx with hx | rfl
      · exact h3 x hx
      · exact ⟨a, rfl⟩
    · intro c u
      simp only [Array.toList_push, List.mem_append, List.mem_singleton, putF]
      by_cases hc : c = a
      · subst hc
        rw [if_pos rfl]
        constructor
        · intro hu; injection hu with hu; exact ⟨_, .inr rfl, rfl, hu⟩
        · rintro ⟨x, hx | rfl, hxk, hxv⟩
          · exact absurd hxk (hno x hx)
          · exact congrArg some hxv
      · rw [if_neg hc, h4 c u]
        constructor
        · rintro ⟨x, hx, hxk, hxv⟩; exact ⟨x, .inl hx, hxk, hxv⟩
        · rintro ⟨x, hx | rfl, hxk, hxv⟩
          · exact ⟨x, hx, hxk, hxv⟩
          · exact absurd (hL.inj _ _ hxk).symm hc
    · rw [hFa]; simp [h5]
  · have hj' : es[j]? = some e := by simpa using hj
    have hFa : F a = some e.val := (h4 a e.val).2 ⟨e, List.mem_of_getElem? hj, he, rfl⟩
    have hkey : ∀ e', es[j]? = some e' → ({ e' with key := kv a, val := v } : MapEntry).key = e'.key := fun e' he' => by rw [hj'] at he'; cases he'; exact he.symm
    have hst := stamped_modify h2 j (fun e' => { e' with key := kv a, val := v }) (fun _ _ => rfl) (fun e' _ he' => hkey e' he')
    have hjlt : j < es.size := by
      have := (Array.getElem?_eq_some_iff.1 hj').1; exact this
    have hmem : ∀ x : MapEntry, x ∈ (es.modify j fun e' => { e' with key := kv a, val := v }).toList ↔ (x = { e with key := kv a, val := v } ∨ (x ∈ es.toList ∧ x.key ≠ kv a)) := by
      intro x
      have hget : ∀ i, (es.modify j fun e' => { e' with key := kv a, val := v }).toList[i]? = if j = i then (es.toList[i]?).map (fun e' => { e' with key := kv a, val := v }) else es.toList[i]? := by
        intro i
        rw [Array.getElem?_toList, Array.getElem?_modify, Array.getElem?_toList]
      constructor
      · intro hx
        obtain ⟨i, hi⟩ := List.getElem?_of_mem hx
        rw [hget] at hi
        by_cases hij : j = i
        · subst hij
          rw [if_pos rfl, hj] at hi
          injection hi with hi
          exact .inl hi.symm
        · rw [if_neg hij] at hi
          refine .inr ⟨List.mem_of_getElem? hi, fun hxk => hij ?_⟩
          have hn := h2.2.2
          have e1 : (es.toList.map (·.key))[j]? = some (kv a) := by rw [List.getElem?_map, hj]; exact congrArg some he
          have e2 : (es.toList.map (·.key))[i]? = some (kv a) := by rw [List.getElem?_map, hi]; exact congrArg some hxk
          exact (List.getElem?_inj (List.getElem?_eq_some_iff.1 e1).1 hn).1 (e1.trans e2.symm)
      · rintro (rfl | ⟨hx, hxk⟩)
        · apply List.mem_of_getElem? (i := j)
          rw [hget, if_pos rfl, hj]; rfl
        · obtain ⟨i, hi⟩ := List.getElem?_of_mem hx
          apply List.mem_of_getElem? (i := i)
          rw [hget, if_neg, hi]
          rintro rfl
          rw [hj] at hi
          injection hi with hi
          subst hi
          exact hxk he
    refine ⟨{ w with heap := w.heap.setIfInBounds b (.map (es.modify j fun e' => { e' with key := kv a, val := v }) clock) }, ?_, ⟨_, _, (heap_set h1).1, hst, ?_, ?_, ?_⟩, hmods _, by simp⟩
    · simp [Instr.mapUpdate, run_underlying hT, MapKept.run_getObj_map h1, hL.check w _ a, hf, hj', he, hL.stays w a, run_setObj_map _ h1, Result.andThen]
    · intro x hx
      rcases (hmem x).1 hx with rfl | ⟨hx, _⟩
      · exact ⟨a, rfl⟩
      · exact h3 x hx
    · intro c u
      unfold putF
      by_cases hc : c = a
      · subst hc
        rw [if_pos rfl]
        constructor
        · intro hu; injection hu with hu; exact ⟨_, (hmem _).2 (.inl rfl), rfl, hu⟩
        · rintro ⟨x, hx, hxk, hxv⟩
          rcases (hmem x).1 hx with rfl | ⟨_, hne⟩
          · exact congrArg some hxv
          · exact absurd hxk hne
      · rw [if_neg hc, h4 c u]
        constructor
        · rintro ⟨x, hx, hxk, hxv⟩
          exact ⟨x, (hmem x).2 (.inr ⟨hx, fun e => hc (hL.inj _ _ (hxk.symm.trans e))⟩), hxk, hxv⟩
        · rintro ⟨x, hx, hxk, hxv⟩
          rcases (hmem x).1 hx with rfl | ⟨hx, _⟩
          · exact absurd (hL.inj _ _ hxk).symm hc
          · exact ⟨x, hx, hxk, hxv⟩
    · rw [hFa]; simp [h5]

theorem MapK.deleteL [DecidableEq κ] {T K E : TypeId} (h : MapK kv w b F n) (hL : KLaw P K kv) (hT : P.underlying T = some (.map K E)) (a : κ) :
    ∃ w1, (∀ ty, (Builtin.delete_ #[T, K] ty #[.map (some b), kv a]).run P w = .ok (.tuple #[]) w1) ∧ MapK kv w1 b (delF F a) (if (F a).isSome then n - 1 else n) ∧ Mods [b] w w1 ∧ w1.heap.size = w.heap.size := by
  obtain ⟨es, clock, h1, h2, h3, h4, h5⟩ := h
  have hmods : ∀ o, Mods [b] w { w with heap := w.heap.setIfInBounds b o } := fun o => ⟨rfl, rfl, rfl, by simp, fun k _ hn => (heap_set h1).2 k (by simpa using hn)⟩
  rcases hL.find w a es.toList h3 with ⟨hf, hno⟩ | ⟨j, e, hf, hj, he⟩
  · have hFa : F a = none := by
      cases hF : F a with
      | none => rfl
      | some v =>
        obtain ⟨x, hx, hxk, _⟩ := (h4 a v).1 hF
        exact absurd hxk (hno x hx)
    refine ⟨{ w with heap := w.heap.setIfInBounds b (.map es clock) }, ?_, ⟨_, _, (heap_set h1).1, h2, h3, ?_, ?_⟩, hmods _, by simp⟩
    · intro ty; simp [Builtin.delete_, run_underlying hT, MapKept.run_getObj_map h1, hL.check w _ a, hf, run_setObj_map _ h1, Result.andThen]
    · intro c u
      unfold delF
      by_cases hc : c = a
      · subst hc
        rw [if_pos rfl, ← hFa]; exact h4 c u
      · rw [if_neg hc]; exact h4 c u
    · rw [hFa]; simp [h5]
  · have hj' : es[j]? = some e := by simpa using hj
    have hFa : F a = some e.val := (h4 a e.val).2 ⟨e, List.mem_of_getElem? hj, he, rfl⟩
    have hjlt : j < es.size := (Array.getElem?_eq_some_iff.1 hj').1
    have hl : (es.eraseIdxIfInBounds j).toList = es.toList.eraseIdx j := by
      unfold Array.eraseIdxIfInBounds
      rw [dif_pos hjlt]; simp
    have hmem : ∀ x : MapEntry, x ∈ es.toList.eraseIdx j ↔ (x ∈ es.toList ∧ x.key ≠ kv a) := by
      intro x
      rw [List.mem_eraseIdx_iff_getElem?]
      have hn := h2.2.2
      constructor
      · rintro ⟨i, hij, hi⟩
        refine ⟨List.mem_of_getElem? hi, fun hxk => hij ?_⟩
        have e1 : (es.toList.map (·.key))[j]? = some (kv a) := by rw [List.getElem?_map, hj]; exact congrArg some he
        have e2 : (es.toList.map (·.key))[i]? = some (kv a) := by rw [List.getElem?_map, hi]; exact congrArg some hxk
        exact (List.getElem?_inj (List.getElem?_eq_some_iff.1 e2).1 hn).1 (e2.trans e1.symm)
      · rintro ⟨hx, hxk⟩
        obtain ⟨i, hi⟩ := List.getElem?_of_mem hx
        refine ⟨i, ?_, hi⟩
        rintro rfl
        rw [hj] at hi
        injection hi with hi
        subst hi
        exact hxk he
    refine ⟨{ w with heap := w.heap.setIfInBounds b (.map (es.eraseIdxIfInBounds j) clock) }, ?_, ⟨_, _, (heap_set h1).1, stamped_erase h2 j, ?_, ?_, ?_⟩, hmods _, by simp⟩
    · intro ty; simp [Builtin.delete_, run_underlying hT, MapKept.run_getObj_map h1, hL.check w _ a, hf, run_setObj_map _ h1, Result.andThen]
    · intro x hx
      rw [hl] at hx
      exact h3 x ((hmem x).1 hx).1
    · intro c u
      rw [hl]
      unfold delF
      by_cases hc : c = a
      · subst hc
        rw [if_pos rfl]
        constructor
        · intro hu; cases hu
        · rintro ⟨x, hx, hxk, _⟩
          exact absurd hxk ((hmem x).1 hx).2
      · rw [if_neg hc, h4 c u]
        constructor
        · rintro ⟨x, hx, hxk, hxv⟩
          exact ⟨x, (hmem x).2 ⟨hx, fun e => hc (hL.inj _ _ (hxk.symm.trans e))⟩, hxk, hxv⟩
        · rintro ⟨x, hx, hxk, hxv⟩
          exact ⟨x, ((hmem x).1 hx).1, hxk, hxv⟩
    · have : (es.eraseIdxIfInBounds j).size = es.toList.length - 1 := by
        rw [← Array.length_toList, hl, List.length_eraseIdx]
        have : j < es.toList.length := by simpa using hjlt
        rw [if_pos this]
      rw [this, hFa]; simp [h5]
end
end Go.Proofs.Ytnpfhfgegjocoaa
/- Ranging over a map that stays as it is: the entries come one by one, each once, all of them. No program is named here. -/
namespace Go.Proofs.Ytnpfhfgegjocoaa
open Go.RowKit Go.MapKept
open Go.ChangeMaps (setBlock)

/-- Block r is a range over the map in block b; the keys of D have come; so many are left at most. -/
def RangeK {κ : Type} (kv : κ → Value) (w : World) (r b : Nat) (F : κ → Option Value) (D : κ → Prop) (left : Nat) : Prop :=
  ∃ es clock since seen c0, w.heap[b]? = some (.map es clock) ∧ Stamped es clock ∧ (∀ x ∈ es.toList, ∃ a, x.key = kv a) ∧ (∀ a v, F a = some v ↔ ∃ x ∈ es.toList, x.key = kv a ∧ x.val = v) ∧
    w.heap[r]? = some (.mapIter (some b) since seen c0) ∧ (∀ x ∈ es.toList, x.born < since) ∧ since ≤ c0 ∧ since ≤ clock ∧ (∀ x ∈ es.toList, ∀ a, x.key = kv a → (D a ↔ seen.contains x.born = true)) ∧ (leftOf es seen).size = left

section
variable {κ : Type} {kv : κ → Value} {P : Program} {w : World} {r b : Nat} {F : κ → Option Value} {D : κ → Prop} {left n : Nat}

theorem RangeK.keep {w1 : World} (h : RangeK kv w r b F D left) {L : List Nat} (hm : Mods L w w1) (hr : r ∉ L) (hb : b ∉ L) : RangeK kv w1 r b F D left := by
  obtain ⟨es, clock, since, seen, c0, h1, h2, h3, h4, h5, h6⟩ := h
  exact ⟨es, clock, since, seen, c0, hm.keep h1 hb, h2, h3, h4, hm.keep h5 hr, h6⟩
theorem RangeK.lt (h : RangeK kv w r b F D left) : r < w.heap.size ∧ b < w.heap.size := by
  obtain ⟨es, clock, since, seen, c0, h1, h2, h3, h4, h5, h6⟩ := h
  exact ⟨lt_of_block h5, lt_of_block h1⟩

/-- 'range m' lays an iterator. -/
theorem MapK.range {T K E : TypeId} (h : MapK kv w b F n) (hT : P.underlying T = some (.map K E)) :
    ∃ w1, (Instr.range T (.map (some b))).run P w = .ok (.pointer (some ⟨w.heap.size, 0, none⟩)) w1 ∧ RangeK kv w1 w.heap.size b F (fun _ => False) n ∧ Mods [] w w1 ∧ w1.heap.size = w.heap.size + 1 := by
  have hlt := h.lt
  obtain ⟨es, clock, h1, h2, h3, h4, h5⟩ := h
  refine ⟨w.alloc (.mapIter (some b) clock #[] clock), run_range_map w T K E b es clock hT h1, ⟨es, clock, clock, #[], clock, ?_, h2, h3, h4, (MapKept.heap_alloc w _).1, h2.1, Nat.le_refl _, Nat.le_refl _, by simp, by unfold leftOf; rw [Array.filter_eq_self.2 (by simp)]; exact h5⟩, (Mods.refl _ _).alloc _, by simp⟩
  rw [(MapKept.heap_alloc w _).2 b hlt]; exact h1

/-- A step: nothing is left; or one more key comes. -/
theorem RangeK.next (h : RangeK kv w r b F D left) (hinj : ∀ a c, kv a = kv c → a = c) (hrb : r ≠ b) (ty : TypeId) :
    (left = 0 ∧ (∀ a, F a ≠ none → D a) ∧ (Instr.next (.pointer (some ⟨r, 0, none⟩)) false ty).run P w = .ok (.tuple #[.bool false]) w) ∨
    ∃ a v w1 left1, F a = some v ∧ ¬ D a ∧ (Instr.next (.pointer (some ⟨r, 0, none⟩)) false ty).run P w = .ok (.tuple #[.bool true, kv a, v]) w1 ∧ (Instr.entry (.pointer (some ⟨r, 0, none⟩))).run P w1 = .ok (.tuple #[kv a, v]) w1 ∧
      RangeK kv w1 r b F (fun c => D c ∨ c = a) left1 ∧ left1 < left ∧ Mods [r] w w1 ∧ w1.heap.size = w.heap.size := by
  obtain ⟨es, clock, since, seen, c0, h1, h2, h3, h4, h5, h6, h7, h8, h9, h10⟩ := h
  rcases run_next_at (P := P) w ty r b since c0 seen es clock h5 h1 h6 h7 with ⟨hz, hrun⟩ | ⟨e, he, w1, hw1, hrun⟩
  · refine .inl ⟨by omega, fun a ha => ?_, hrun⟩
    cases hF : F a with
    | none => exact absurd hF ha
    | some v =>
      obtain ⟨x, hx, hxk, _⟩ := (h4 a v).1 hF
      exact (h9 x hx a hxk).2 (all_seen es seen hz x hx)
  · obtain ⟨hm, hns⟩ := mem_left he
    obtain ⟨a, ha⟩ := h3 e hm
    have hheap : w1.heap = w.heap := by rcases hw1 with rfl | rfl <;> rfl
    have hr1 : w1.heap[r]? = some (.mapIter (some b) since seen c0) := by rw [hheap]; exact h5
    have hset := heap_set (o' := .mapIter (some b) since (seen.push e.born) clock) hr1
    have hb1 : (setBlock w1 r (.mapIter (some b) since (seen.push e.born) clock)).heap[b]? = some (.map es clock) := by
      show (w1.heap.setIfInBounds r _)[b]? = _
      rw [hset.2 b (Ne.symm hrb), hheap]; exact h1
    have hent := run_entry_at (P := P) (setBlock w1 r (.mapIter (some b) since (seen.push e.born) clock)) r b since seen es clock e hset.1 hb1 hm h2.2.1
    have hD : ¬ D a := fun hd => by have := (h9 e hm a ha).1 hd; rw [hns] at this; cases this
    rw [ha] at hrun hent
    refine .inr ⟨a, e.val, _, _, (h4 a e.val).2 ⟨e, hm, ha, rfl⟩, hD, hrun, hent, ⟨es, clock, since, seen.push e.born, clock, hb1, h2, h3, h4, hset.1, h6, h8, h8, fun x hx c hc => ?_, rfl⟩, ?_, ?_, ?_⟩
    · have hcon : (seen.push e.born).contains x.born = true ↔ (seen.contains x.born = true ∨ x.born = e.born) := by
        simp
      rw [hcon, ← h9 x hx c hc]
      have hbe : x.born = e.born ↔ c = a := by
        constructor
        · intro hb
          have hx2 : x = e := by
            have hn := h2.2.1
            obtain ⟨i, hi⟩ := List.getElem?_of_mem hx
            obtain ⟨j, hj⟩ := List.getElem?_of_mem hm
            have e1 : (es.toList.map (·.born))[i]? = some x.born := by rw [List.getElem?_map, hi]; rfl
            have e2 : (es.toList.map (·.born))[j]? = some e.born := by rw [List.getElem?_map, hj]; rfl
            have hij : i = j := (List.getElem?_inj (List.getElem?_eq_some_iff.1 e1).1 hn).1 (by rw [e1, e2, hb])
            subst hij
            rw [hi] at hj; injection hj
          subst hx2
          exact hinj _ _ (hc.symm.trans ha)
        · rintro rfl
          have hn := h2.2.2
          obtain ⟨i, hi⟩ := List.getElem?_of_mem hx
          obtain ⟨j, hj⟩ := List.getElem?_of_mem hm
          have e1 : (es.toList.map (·.key))[i]? = some (kv c) := by rw [List.getElem?_map, hi]; exact congrArg some hc
          have e2 : (es.toList.map (·.key))[j]? = some (kv c) := by rw [List.getElem?_map, hj]; exact congrArg some ha
          have hij : i = j := (List.getElem?_inj (List.getElem?_eq_some_iff.1 e1).1 hn).1 (by rw [e1, e2])
          subst hij
          rw [hi] at hj; injection hj with hj; rw [hj]
      rw [hbe]
    · have := left_shrinks es seen e he; omega
    · refine ⟨?_, ?_, ?_, ?_, ?_⟩
      · rcases hw1 with rfl | rfl <;> rfl
      · rcases hw1 with rfl | rfl <;> rfl
      · rcases hw1 with rfl | rfl <;> rfl
      · show w.heap.size ≤ (w1.heap.setIfInBounds r _).size; rw [Array.size_setIfInBounds, hheap]; exact Nat.le_refl _
      · intro k _ hk
        show (w1.heap.setIfInBounds r _)[k]? = _
        rw [hset.2 k (by simpa using hk), hheap]
    · show (w1.heap.setIfInBounds r _).size = _; rw [Array.size_setIfInBounds, hheap]
end
end Go.Proofs.Ytnpfhfgegjocoaa
/- Arguments that are slices of structs, with what the form says of their sizes. No program is named here. -/
namespace Go.Proofs.Ytnpfhfgegjocoaa
open Go.ChangeShapes Go.WideShapes Go.ChangeAt Go.RowKit

theorem weightsAll_mem {H : Type} {P : Program} {e : TypeId} : ∀ {l : List (DataW H)} {d : DataW H}, d ∈ l → ∀ n ∈ d.weights P e, n ∈ DataW.weightsAll P e l
  | d' :: r, d, hd, n, hn => by
    simp only [DataW.weightsAll, List.mem_append]
    rcases List.mem_cons.1 hd with rfl | h
    · exact Or.inl hn
    · exact Or.inr (weightsAll_mem h n hn)
theorem structs_core {H : Type} {enc : TypeId × Value → H} {P : Program} {W : World} {t e : TypeId} {fuel : Nat} {c : Value} {x : DataW H × List MemPlace} {α : Type} [Inhabited α] (k : Nat) (hk0 : 0 < k) (f : α → List Value) (Q : α → DataW H → Prop) (hf : ∀ a, (f a).length = k) (ht : P.underlying t = some (.slice e)) (ce : P.cellsOf e = k)
    (hmk : ∀ (n : Nat) (cs : List Value) (y : DataW H × List MemPlace), DataW.trod enc P W 0 (fun _ => true) true n e cs = some y → cs.length = k → ∃ a : α, cs = f a ∧ Q a y.1)
    (hfu : DataW.trod enc P W 0 (fun _ => true) true fuel t [c] = some x) :
    ∃ (A : Option Addr) (len cap : Nat) (zs : List α), c = .slice A len cap ∧ Row W A (zs.flatMap f) ∧ zs.length = len ∧ len ≤ cap ∧ cap ≤ maxLen ∧ ∀ z ∈ zs, ∃ y, Q z y ∧ ∀ n ∈ y.weights P e, n ∈ x.1.weights P t := by
  rcases Deep.open_slice ht hfu with ⟨hcs, hx⟩ | ⟨a, len, cap, m, n, D, Pl, hcs, _, hl, hm, hmm, hx, hcell⟩
  · injection hcs with hcs _
    subst hcs
    exact ⟨none, 0, 0, [], rfl, .inl rfl, rfl, Nat.le_refl _, Nat.zero_le _, fun z hz => by cases hz⟩
  · injection hcs with hcs _
    subst hcs
    simp only [if_true] at hmm
    have hex : ∀ i, ∃ z : α, i < m → (∀ j, j < k → W.cell? ((a.add (i * k)).add j) = (f z)[j]?) ∧ Q z (D i) := by
      intro i
      by_cases hi : i < m
      · obtain ⟨cs', h1, h2⟩ := hcell i hi
        rw [ce] at h1
        obtain ⟨_, hlen, hc⟩ := World.cells?_some h1
        obtain ⟨z, rfl, hq⟩ := hmk _ _ _ h2 hlen
        exact ⟨z, fun _ => ⟨hc, hq⟩⟩
      · exact ⟨default, fun h => absurd h hi⟩
    obtain ⟨F, hF⟩ := Classical.axiomOfChoice hex
    refine ⟨some a, len, cap, (List.range len).map F, rfl, ?_, by simp, hl, hm, ?_⟩
    · rcases Nat.eq_zero_or_pos len with h0 | h0
      · subst h0; exact .inl rfl
      · obtain ⟨b, o, s⟩ := a
        cases s with
        | some s =>
          have h1 := (hF 0 (by omega)).1 0 hk0
          have h2 : ((f (F 0))[0]?).isSome = true := by rw [List.getElem?_eq_getElem (by rw [hf]; exact hk0)]; rfl
          rw [← h1] at h2
          simp [World.cell?, Addr.add] at h2
          split at h2 <;> simp_all
        | none =>
          refine .inr ⟨b, o, rfl, fun i u hi => ?_⟩
          have hil : i < len * k := by
            have := (List.getElem?_eq_some_iff.1 hi).1
            rw [flat_length f hf] at this
            simpa using this
          have hdiv : i / k < len := Nat.div_lt_of_lt_mul (by rw [Nat.mul_comm]; exact hil)
          have hmod : i % k < k := Nat.mod_lt _ hk0
          have hd := Nat.div_add_mod i k
          have hg := flat_get f hf (l := (List.range len).map F) (i := i / k) (a := F (i / k)) (j := i % k) (by rw [List.getElem?_map, List.getElem?_range hdiv]; rfl) hmod
          have h1 := (hF (i / k) (by omega)).1 (i % k) hmod
          rw [addr_add, addr_add] at h1
          rw [Nat.mul_comm] at hd
          rw [hd] at hg
          rw [hg] at hi
          rw [hi, Nat.add_assoc, hd] at h1
          exact h1
    · intro z hz
      obtain ⟨i, hi, rfl⟩ := List.mem_map.1 hz
      have hil := List.mem_range.1 hi
      refine ⟨D i, (hF i (by omega)).2, fun n hn => ?_⟩
      rw [hx]
      simp only [DataW.weights, ht, List.mem_cons, List.mem_append]
      exact .inr (.inl (weightsAll_mem (List.mem_map.2 ⟨i, hi, rfl⟩) n hn))
theorem reach_eq : reachBytes = 140737488351232 := rfl
end Go.Proofs.Ytnpfhfgegjocoaa
namespace Go.Proofs.Ytnpfhfgegjocoaa
open Go.ChangeShapes Go.WideShapes Go.ChangeAt Go.RowKit
theorem own : ownKnob Try.prog.godebug = none := by kernel_rfl
theorem laidOut : laidOutB Try.prog = true := by kernel_rfl
theorem cellsU8 : Try.prog.cellsOf 5 = 1 := by kernel_rfl
end Go.Proofs.Ytnpfhfgegjocoaa
