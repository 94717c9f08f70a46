/- The walks of package space: free, Settle, Undo, New. -/
import Derived.Test.YtkjpdfomppjiiaaGreatDoorRows
import Derived.Test.YtkjpdfomppjiiaaGreatDoorKA
import Derived.Test.YtkjpdfomppjiiaaGreatDoorKPb
import Derived.Deep.OwnRows
import Derived.OwnWalk
import Derived.Deep.LoopGhost
import Derived.Deep.RegionHeld3
import Derived.Deep.DeepFit
/- The walks of package bits, and of the two functions of math/bits that it calls: each says what one call does. -/
namespace Go.Proofs.YtkjpdfomppjiiaaGreatDoor
open Go.RowKit

def DbTab (w : World) : Prop := ∀ j, j < 64 → w.cell? ⟨2, j, none⟩ = some (.int .u8 (Lib.deBruijn64tab.getD j 0 : Nat))
theorem DbTab.lt {w : World} (h : DbTab w) : 2 < w.heap.size := World.block_lt_of_cell? w _ (h 0 (by decide))
theorem DbTab.keep {w w1 : World} (h : DbTab w) {L : List Nat} (hm : Mods L w w1) (hn : 2 ∉ L) : DbTab w1 := fun j hj => (hm.cell h.lt hn).trans (h j hj)
theorem DbTab.drewN {w : World} (h : DbTab w) (n : Nat) : DbTab (w.drewN n) := h

set_option maxHeartbeats 400000 in
theorem tz64_core (x k idx : Nat) (w : World) (hx0 : ((x : Int) == 0) = false)
  (key : IntKind.u64.wrap (bits BinOp.and IntKind.u64 (x : Int) (IntKind.u64.wrap (-(x : Int))) * 285870213051353865) / 288230376151711744 = (idx : Int))
  (_hi : idx < 64) (hcell : w.cell? ⟨2, idx, none⟩ = some (.int .u8 k)) (_hk : k < 64) :
  Calls Tryz.prog 260 #[.int .u64 x] w fun e w' => e = .returned (.int .i64 k) ∧ w = w' := by
 go_enter Tryz.func260, Tryz.ntmps260
 go_wp2_with (simp only [key])
 go_ret
 exact ⟨rfl, rfl⟩
theorem tz64_key (x a : Nat) (hx : x < 18446744073709551616) (hx0 : x ≠ 0) (hlow : x &&& (18446744073709551616 - x) = a) :
  IntKind.u64.wrap (bits BinOp.and IntKind.u64 (x : Int) (IntKind.u64.wrap (-(x : Int))) * 285870213051353865) / 288230376151711744 = ((a * 285870213051353865 % 18446744073709551616 / 288230376151711744 : Nat) : Int) := by
 have e1 : IntKind.u64.wrap (-(x : Int)) = ((18446744073709551616 - x : Nat) : Int) := by rw [IntKind.wrap_u64]; omega
 rw [e1, bits_and_u64_nat x _ hx (by omega), hlow, IntKind.wrap_u64]
 omega
theorem tz64_any (x : Nat) (hx : x < 18446744073709551616) (hx0 : x ≠ 0) (w : World) (hT : DbTab w) :
  Calls Tryz.prog 260 #[.int .u64 x] w fun e w' => e = .returned (.int .i64 (Lib.ctz 64 x)) ∧ w = w' := by
 obtain ⟨hlow, hk⟩ := Lib.lowest_bit 64 x hx0 hx
 obtain ⟨hi, htab⟩ := Lib.deBruijn64_at _ hk
 have hcell := hT _ hi
 rw [htab] at hcell
 exact tz64_core x _ _ w (by simp; omega) (tz64_key x _ hx hx0 hlow) hi hcell hk
set_option maxHeartbeats 400000 in
theorem tz_any (x : Nat) (hx : x < 18446744073709551616) (hx0 : x ≠ 0) (w : World) (hT : DbTab w) :
  Calls Tryz.prog 227 #[.int .u64 x] w fun e w' => e = .returned (.int .i64 (Lib.ctz 64 x)) ∧ w = w' := by
 have c := Lib.hid (tz64_any x hx hx0 w hT)
 go_enter Tryz.func227, Tryz.ntmps227
 go_wp2_with (go_at_call 260; refine c.out.mono ?_; rintro e w' ⟨rfl, rfl⟩)
 go_ret
 exact ⟨rfl, rfl⟩

theorem and64 (a M : Nat) (h : a < 18446744073709551616) (hM : M < 18446744073709551616) : bits .and .u64 (a : Int) (M : Int) = ((a &&& M : Nat) : Int) := bits_and_u64_nat a M h hM
end Go.Proofs.YtkjpdfomppjiiaaGreatDoor
/- The walks of package bits: one set, its numbers one by one. -/
namespace Go.Proofs.YtkjpdfomppjiiaaGreatDoor
open Go.RowKit

def IsSet (w : World) (b c : Nat) (l : List Bool) : Prop :=
 ∃ (ws : List Nat) (rest : List Value) (cap : Nat), Rep ws l ∧ 1 ≤ l.length ∧ l.length ≤ 4096 ∧ b ≠ c ∧ ws.length ≤ cap ∧ cap ≤ maxLen ∧
  Blk w b 227 [.int .i64 l.length, .slice (some ⟨c, 0, none⟩) ws.length cap] ∧ Blk w c 192 (ws.map (fun x => Value.int .u64 (x : Nat)) ++ rest)
theorem IsSet.keep {w w1 : World} {b c : Nat} {l : List Bool} (h : IsSet w b c l) {L : List Nat} (hm : Mods L w w1) (hb : b ∉ L) (hc : c ∉ L) : IsSet w1 b c l := by
 obtain ⟨ws, rest, cap, h1, h2, h3, h4, h5, h6, h7, h8⟩ := h
 exact ⟨ws, rest, cap, h1, h2, h3, h4, h5, h6, h7.keep hm hb, h8.keep hm hc⟩
theorem IsSet.drewN {w : World} {b c : Nat} {l : List Bool} (h : IsSet w b c l) (n : Nat) : IsSet (w.drewN n) b c l := h
theorem IsSet.lt {w : World} {b c : Nat} {l : List Bool} (h : IsSet w b c l) : b < w.heap.size ∧ c < w.heap.size ∧ b ≠ c := by
 obtain ⟨ws, rest, cap, h1, h2, h3, h4, h5, h6, h7, h8⟩ := h; exact ⟨h7.lt, h8.lt, h4⟩
theorem IsSet.len {w : World} {b c : Nat} {l : List Bool} (h : IsSet w b c l) : 1 ≤ l.length ∧ l.length ≤ 4096 := by
 obtain ⟨ws, rest, cap, h1, h2, h3, h4, h5, h6, h7, h8⟩ := h; exact ⟨h2, h3⟩
theorem IsSet.n {w : World} {b c : Nat} {l : List Bool} (h : IsSet w b c l) : w.cell? ⟨b, 0, none⟩ = some (.int .i64 l.length) := by
 obtain ⟨ws, rest, cap, h1, h2, h3, h4, h5, h6, h7, h8⟩ := h; exact h7.cell rfl
theorem word_cell {w : World} {c : Nat} {ws : List Nat} {rest : List Value} (h : Blk w c 192 (ws.map (fun x => Value.int .u64 (x : Nat)) ++ rest)) {i : Nat} (hi : i < ws.length) :
  w.cell? ⟨c, i, none⟩ = some (.int .u64 (wd ws i : Nat)) := by
 apply h.cell
 rw [List.getElem?_append_left (by simpa using hi), List.getElem?_map, List.getElem?_eq_getElem hi, wd_get hi]
 rfl

set_option maxHeartbeats 400000 in
theorem size_at (w : World) (b : Nat) (n : Int) (h : w.cell? ⟨b, 0, none⟩ = some (.int .i64 n)) :
  Calls Tryz.prog 116 #[.pointer (some ⟨b, 0, none⟩)] w fun e w' => e = .returned (.int .i64 n) ∧ w = w' := by
 go_enter Tryz.func116, Tryz.ntmps116
 go_wp2
 go_ret
 exact ⟨rfl, rfl⟩
theorem size_any {w : World} {b c : Nat} {l : List Bool} (h : IsSet w b c l) :
  Calls Tryz.prog 116 #[.pointer (some ⟨b, 0, none⟩)] w fun e w' => e = .returned (.int .i64 l.length) ∧ w = w' := size_at w b _ h.n

def inB (n k : Int) : Bool := decide (0 ≤ k) && decide (k < n)
theorem inB_true {n k : Int} (h : inB n k = true) : 0 ≤ k ∧ k < n := by simpa [inB] using h
set_option maxHeartbeats 400000 in
theorem is_at (w : World) (b : Nat) (n k : Int) (h : w.cell? ⟨b, 0, none⟩ = some (.int .i64 n)) :
  Calls Tryz.prog 114 #[.pointer (some ⟨b, 0, none⟩), .int .i64 k] w fun e w' => e = .returned (.bool (inB n k)) ∧ w = w' := by
 by_cases h0 : 0 ≤ k
 ·go_enter Tryz.func114, Tryz.ntmps114
  go_wp2_with (go_at_call 116; refine (size_at _ _ _ h).mono ?_; rintro e w' ⟨rfl, rfl⟩)
  go_ret
  exact ⟨by simp [h0, inB], rfl⟩
 ·have hd : decide (0 ≤ k) = false := by simpa using h0
  go_enter Tryz.func114, Tryz.ntmps114
  go_wp2_with (go_at_call 116; refine (size_at _ _ _ h).mono ?_; rintro e w' ⟨rfl, rfl⟩)
  go_ret
  exact ⟨by simp [inB, hd], rfl⟩
theorem is_any {w : World} {b c : Nat} {l : List Bool} (h : IsSet w b c l) (k : Int) :
  Calls Tryz.prog 114 #[.pointer (some ⟨b, 0, none⟩), .int .i64 k] w fun e w' => e = .returned (.bool (inB l.length k)) ∧ w = w' := is_at w b _ k h.n

theorem wrap_bit (k : Int) : IntKind.u64.wrap (2 ^ (k % 64).toNat) = ((2 ^ (k.toNat % 64) : Nat) : Int) ∨ k < 0 := by
 rcases Int.lt_or_le k 0 with h | h
 ·exact .inr h
 ·left
  obtain ⟨n, rfl⟩ := Int.eq_ofNat_of_zero_le h
  have e : ((n : Int) % 64).toNat = n % 64 := by omega
  rw [e, IntKind.wrap_u64, Int.toNat_natCast]
  have h1 : 2 ^ (n % 64) < 2 ^ 64 := Nat.pow_lt_pow_right (by decide) (by omega)
  have h2 : ((2 ^ (n % 64) : Nat) : Int) = (2 : Int) ^ (n % 64) := by simp
  rw [← h2]
  have : (2 : Nat) ^ 64 = 18446744073709551616 := by decide
  generalize 2 ^ (n % 64) = q at *
  omega
set_option maxHeartbeats 400000 in
theorem bit_any (w : World) (k : Int) (h0 : 0 ≤ k) (h1 : k < 4096) :
  Calls Tryz.prog 115 #[.int .i64 k] w fun e w' => e = .returned (.tuple #[.int .i64 (k / 64), .int .u64 ((2 ^ (k.toNat % 64) : Nat) : Int)]) ∧ ∃ n, w' = w.drewN n := by
 have hw : IntKind.u64.wrap (2 ^ (k % 64).toNat) = ((2 ^ (k.toNat % 64) : Nat) : Int) := by rcases wrap_bit k with h | h; exact h; omega
 generalize ((2 ^ (k.toNat % 64) : Nat) : Int) = z at *
 go_enter Tryz.func115, Tryz.ntmps115
 go_wp2
 go_quiet (fail)
 go_wp2
 go_ret2
 exact ⟨rfl, _, rfl⟩

theorem and_pow (x i : Nat) (hx : x < 18446744073709551616) (hi : i < 64) : (bits .and .u64 (x : Int) ((2 ^ i : Nat) : Int) != 0) = x.testBit i := by
 have h1 : 2 ^ i < 2 ^ 64 := Nat.pow_lt_pow_right (by decide) hi
 have h2 : (2 : Nat) ^ 64 = 18446744073709551616 := by decide
 rw [and64 x (2 ^ i) hx (by omega), nat_bit, Nat.testBit_eq_decide_div_mod_eq]
 have h3 : 0 < 2 ^ i := Nat.pow_pos (by decide)
 generalize 2 ^ i = q at *
 rcases Nat.mod_two_eq_zero_or_one (x / q) with e | e
 ·rw [e]; simp
 ·rw [e]; simp; omega

set_option maxHeartbeats 400000 in
theorem has_in (w : World) (b c k m cap x : Nat) (n : Int) (z : Int) (a0 : w.cell? ⟨b, 0, none⟩ = some (.int .i64 n)) (a1 : w.cell? ⟨b, 1, none⟩ = some (.slice (some ⟨c, 0, none⟩) m cap))
  (a2 : w.cell? ⟨c, k / 64, none⟩ = some (.int .u64 x)) (hm : k / 64 < m) (hk : k < 4096) (hi : inB n k = true)
  (hz : z = ((2 ^ (k % 64) : Nat) : Int)) :
  Calls Tryz.prog 113 #[.pointer (some ⟨b, 0, none⟩), .int .i64 k] w fun e w' => e = .returned (.bool (bits .and .u64 (x : Int) z != 0)) ∧ ∃ n, w' = w.drewN n := by
 have HZ := Lib.hid hz
 clear hz
 go_enter Tryz.func113, Tryz.ntmps113
 go_wp2_with (first
  | (go_at_call 114; refine (is_at _ _ _ _ a0).mono ?_; rintro e w' ⟨rfl, rfl⟩)
  | (go_at_call 115; refine (bit_any _ _ (by omega) (by omega)).mono ?_; rintro e w' ⟨rfl, nq, rfl⟩; rw [Int.toNat_natCast, ← HZ.out]))
 go_ret
 exact ⟨rfl, _, rfl⟩
set_option maxHeartbeats 400000 in
theorem has_out (w : World) (b : Nat) (n k : Int) (a0 : w.cell? ⟨b, 0, none⟩ = some (.int .i64 n)) (hi : inB n k = false) :
  Calls Tryz.prog 113 #[.pointer (some ⟨b, 0, none⟩), .int .i64 k] w fun e w' => e = .returned (.bool false) ∧ w = w' := by
 go_enter Tryz.func113, Tryz.ntmps113
 go_wp2_with (first
  | (go_at_call 114; refine (is_at _ _ _ _ a0).mono ?_; rintro e w' ⟨rfl, rfl⟩))
 go_ret
 exact ⟨rfl, rfl⟩
def memI (l : List Bool) (k : Int) : Bool := inB l.length k && mem l k.toNat
theorem memI_nat (l : List Bool) (k : Nat) : memI l k = mem l k := by
 unfold memI inB
 rw [Int.toNat_natCast]
 by_cases h : k < l.length
 ·simp [h]
 ·rw [mem_out (by omega)]; simp
theorem has_any {w : World} {b c : Nat} {l : List Bool} (h : IsSet w b c l) (k : Int) :
  Calls Tryz.prog 113 #[.pointer (some ⟨b, 0, none⟩), .int .i64 k] w fun e w' => e = .returned (.bool (memI l k)) ∧ ∃ n, w' = w.drewN n := by
 have hn := h.n
 obtain ⟨ws, rest, cap, h1, h2, h3, h4, h5, h6, h7, h8⟩ := h
 unfold memI
 cases hi : inB l.length k
 ·exact (has_out w b _ k hn hi).mono fun e w' ⟨he, hw⟩ => ⟨by rw [he]; rfl, 0, by rw [← hw]; rfl⟩
 ·have hb := inB_true hi
  obtain ⟨j, rfl⟩ := Int.eq_ofNat_of_zero_le hb.1
  have hj : j / 64 < ws.length := by rw [h1.len]; omega
  refine (has_in w b c j ws.length cap (wd ws (j / 64)) _ _ hn (h7.cell rfl) (word_cell h8 hj) hj (by omega) hi rfl).mono fun e w' ⟨he, hw⟩ => ⟨?_, hw⟩
  rw [he, and_pow _ _ (h1.lt _) (by omega), Int.toNat_natCast, ← h1.bit]
  rfl

set_option maxHeartbeats 400000 in
theorem put_same (w : World) (b : Nat) (n k : Int) (was is : Bool) (a0 : ∀ nq, (w.drewN nq).cell? ⟨b, 0, none⟩ = some (.int .i64 n)) (hs : inB n k = true → was = is)
  (c : Calls Tryz.prog 113 #[.pointer (some ⟨b, 0, none⟩), .int .i64 k] w fun e w' => e = .returned (.bool was) ∧ ∃ n, w' = w.drewN n) :
  Calls Tryz.prog 64 #[.pointer (some ⟨b, 0, none⟩), .int .i64 k, .bool is] w fun e w' => e = .returned (.bool was) ∧ ∃ n, w' = w.drewN n := by
 have C := Lib.hid c
 clear c
 have HS := Lib.hid hs
 clear hs
 have HA := Lib.hid a0
 clear a0
 cases hi : inB n k
 ·go_enter Tryz.func64, Tryz.ntmps64
  go_wp2_with (first
   | (go_at_call 113; refine C.out.mono ?_; rintro e w' ⟨rfl, nq, rfl⟩)
   | (go_at_call 114; refine (is_at _ _ _ _ (HA.out _)).mono ?_; rintro e w' ⟨rfl, rfl⟩))
  go_ret
  exact ⟨rfl, _, rfl⟩
 ·have e := HS.out hi
  subst e
  go_enter Tryz.func64, Tryz.ntmps64
  go_wp2_with (first
   | (go_at_call 113; refine C.out.mono ?_; rintro e w' ⟨rfl, nq, rfl⟩)
   | (go_at_call 114; refine (is_at _ _ _ _ (HA.out _)).mono ?_; rintro e w' ⟨rfl, rfl⟩))
  all_goals go_ret
  all_goals exact ⟨rfl, _, rfl⟩

set_option maxHeartbeats 800000 in
theorem put_turn (w : World) (b c k m cap x : Nat) (n : Int) (z y : Int) (was : Bool) (a0 : w.cell? ⟨b, 0, none⟩ = some (.int .i64 n)) (a1 : w.cell? ⟨b, 1, none⟩ = some (.slice (some ⟨c, 0, none⟩) m cap))
  (a2 : w.cell? ⟨c, k / 64, none⟩ = some (.int .u64 x)) (_f2 : w.frozen? ⟨c, k / 64, none⟩ = false) (hm : k / 64 < m) (hk : k < 4096) (hi : inB n k = true)
  (hz : z = ((2 ^ (k % 64) : Nat) : Int)) (_hy : bits .xor .u64 (x : Int) z = y)
  (cc : Calls Tryz.prog 113 #[.pointer (some ⟨b, 0, none⟩), .int .i64 k] w fun e w' => e = .returned (.bool was) ∧ ∃ n, w' = w.drewN n) :
  Calls Tryz.prog 64 #[.pointer (some ⟨b, 0, none⟩), .int .i64 k, .bool (!was)] w fun e w' => e = .returned (.bool was) ∧ ∃ n, w' = (w.setCell ⟨c, k / 64, none⟩ (.int .u64 y)).drewN n := by
 have C := Lib.hid cc
 clear cc
 have HZ := Lib.hid hz
 clear hz
 cases was
 all_goals
  go_enter Tryz.func64, Tryz.ntmps64
  go_wp2_with (first
   | (go_at_call 113; refine C.out.mono ?_; rintro e w' ⟨rfl, nq, rfl⟩)
   | (go_at_call 114; refine (is_at _ _ _ _ (by exact a0)).mono ?_; rintro e w' ⟨rfl, rfl⟩)
   | (go_at_call 115; refine (bit_any _ _ (by omega) (by omega)).mono ?_; rintro e w' ⟨rfl, nq, rfl⟩; rw [Int.toNat_natCast, ← HZ.out]))
  go_ret
  exact ⟨rfl, _, rfl⟩
end Go.Proofs.YtkjpdfomppjiiaaGreatDoor
/- The walks of package bits: Put, sought, Next, Count, New. -/
namespace Go.Proofs.YtkjpdfomppjiiaaGreatDoor
open Go.RowKit

def setI (l : List Bool) (k : Int) (is : Bool) : List Bool := if inB l.length k then l.set k.toNat is else l
theorem setI_length (l : List Bool) (k : Int) (is : Bool) : (setI l k is).length = l.length := by unfold setI; split <;> simp
theorem set_same {l : List Bool} {k : Nat} (is : Bool) (h : mem l k = is) (hk : k < l.length) : l.set k is = l := by
 rw [mem_get hk] at h
 subst h
 simp
theorem put_any {w : World} {b c : Nat} {l : List Bool} (h : IsSet w b c l) (k : Int) (is : Bool) :
  Calls Tryz.prog 64 #[.pointer (some ⟨b, 0, none⟩), .int .i64 k, .bool is] w fun e w' => e = .returned (.bool (memI l k)) ∧ Mods [c] w w' ∧ IsSet w' b c (setI l k is) := by
 by_cases hs : inB l.length k = true → memI l k = is
 ·refine (put_same w b l.length k (memI l k) is (fun _ => h.n) hs (has_any h k)).mono fun e w' ⟨he, n, hw⟩ => ⟨he, ?_, ?_⟩
  ·rw [hw]; exact (Mods.refl _ _).drewN n
  ·rw [hw]
   have : setI l k is = l := by
    unfold setI
    split
    ·rename_i hi
     have hm := hs hi
     unfold memI at hm
     rw [hi, Bool.true_and] at hm
     have := inB_true hi
     exact set_same is hm (by omega)
    ·rfl
   rw [this]; exact h.drewN n
 ·have hi : inB l.length k = true := by
   cases hi : inB l.length k
   ·exact absurd (fun h => by rw [hi] at h; cases h) hs
   ·rfl
  have hne : memI l k ≠ is := fun e => hs (fun _ => e)
  have hc := has_any h k
  have hn := h.n
  obtain ⟨ws, rest, cap, h1, h2, h3, h4, h5, h6, h7, h8⟩ := h
  have hb := inB_true hi
  obtain ⟨j, rfl⟩ := Int.eq_ofNat_of_zero_le hb.1
  have hj : j / 64 < ws.length := by rw [h1.len]; omega
  have hjl : j < l.length := by omega
  have hm : memI l (j : Int) = mem l j := memI_nat l j
  have hpow : (2 : Nat) ^ (j % 64) < 2 ^ 64 := Nat.pow_lt_pow_right (by decide) (by omega)
  have hp64 : (2 : Nat) ^ 64 = 18446744073709551616 := by decide
  have hx := h1.lt (j / 64)
  have hy : bits .xor .u64 ((wd ws (j / 64) : Nat) : Int) ((2 ^ (j % 64) : Nat) : Int) = ((wd ws (j / 64) ^^^ 2 ^ (j % 64) : Nat) : Int) := bits_xor_u64_nat _ _ (by omega) (by omega)
  have his : is = !memI l (j : Int) := by cases is <;> cases hq : memI l (j : Int) <;> simp_all
  subst his
  refine (put_turn w b c j ws.length cap (wd ws (j / 64)) l.length _ _ _ hn (h7.cell rfl) (word_cell h8 hj) (h8.free _) hj (by omega) hi rfl hy hc).mono fun e w' ⟨he, n, hw⟩ => ⟨he, ?_, ?_⟩
  ·rw [hw]; exact ((Mods.refl _ _).setCell (.inl (by simp)) _).drewN n
  ·rw [hw]
   refine IsSet.drewN ?_ n
   have e1 : setI l (j : Int) (!memI l (j : Int)) = l.set j (!memI l (j : Int)) := by unfold setI; rw [if_pos hi, Int.toNat_natCast]
   have hr := rep_put h1 hjl (is := !memI l (j : Int)) (by rw [hm]; cases mem l j <;> simp)
   rw [e1]
   refine ⟨_, rest, cap, hr, by simpa using h2, by simpa using h3, h4, by simpa using h5, h6, ?_, ?_⟩
   ·have := h7.setOther (p := ⟨c, j / 64, none⟩) h4 (.int .u64 ((wd ws (j / 64) ^^^ 2 ^ (j % 64) : Nat) : Int))
    simpa using this
   ·have := h8.set (j / 64) (.int .u64 ((wd ws (j / 64) ^^^ 2 ^ (j % 64) : Nat) : Int))
    rw [List.set_append, if_pos (by simpa using hj), ← List.map_set] at this
    exact this

theorem shl_shr (X f : Nat) (hX : X < 18446744073709551616) : IntKind.u64.wrap ((X : Int) / 2 ^ f * 2 ^ f) = ((X / 2 ^ f * 2 ^ f : Nat) : Int) := by
 have h1 : ((2 ^ f : Nat) : Int) = (2 : Int) ^ f := by simp
 rw [← h1, ← Int.natCast_ediv, ← Int.natCast_mul, IntKind.wrap_u64]
 have := Nat.div_mul_le_self X (2 ^ f)
 generalize X / 2 ^ f * 2 ^ f = q at *
 omega

theorem xor_ones (x : Nat) (hx : x < 2 ^ 64) : 18446744073709551615 ^^^ x = 18446744073709551615 - x := by
 apply Nat.eq_of_testBit_eq
 intro i
 have h64 : (2 : Nat) ^ 64 = 18446744073709551616 := by decide
 by_cases hi : i < 64
 ·rw [compl_bit x i hx hi, Nat.testBit_xor]
  have e : (18446744073709551615 : Nat).testBit i = true := by
   have := compl_bit 0 i (by decide) hi
   simpa using this
  rw [e]; simp
 ·have hp : 2 ^ 64 ≤ 2 ^ i := Nat.pow_le_pow_right (by decide) (by omega)
  rw [Nat.testBit_lt_two_pow (Nat.lt_of_lt_of_le (show 18446744073709551615 - x < 2 ^ 64 by omega) hp),
   Nat.testBit_lt_two_pow (Nat.lt_of_lt_of_le (Nat.xor_lt_two_pow (show 18446744073709551615 < 2 ^ 64 by decide) hx) hp)]
theorem not64 (x : Nat) (hx : x < 18446744073709551616) : bits .xor .u64 IntKind.u64.max (x : Int) = ((18446744073709551615 - x : Nat) : Int) := by
 have e : IntKind.u64.max = ((18446744073709551615 : Nat) : Int) := by decide
 have h := bits_xor_u64_nat 18446744073709551615 x (by decide) hx
 rw [e, h, xor_ones x (by have : (2 : Nat) ^ 64 = 18446744073709551616 := by decide
                          omega)]

set_option maxHeartbeats 400000 in
theorem sought_at (w : World) (b c j m cap x : Nat) (f : Int) (is : Bool) (a1 : w.cell? ⟨b, 1, none⟩ = some (.slice (some ⟨c, 0, none⟩) m cap))
  (a2 : w.cell? ⟨c, j, none⟩ = some (.int .u64 x)) (hm : j < m) (_hmax : m ≤ 64) (hf0 : 0 ≤ f) (hf : f < 64) (hx : x < 18446744073709551616) :
  Calls Tryz.prog 226 #[.pointer (some ⟨b, 0, none⟩), .int .i64 j, .int .i64 f, .bool is] w fun e w' => e = .returned (.int .u64 (soughtW x f.toNat is : Nat)) ∧ w = w' := by
 have hn := not64 x hx
 cases is
 all_goals
  go_enter Tryz.func226, Tryz.ntmps226
  go_wp2
  go_ret
 ·refine ⟨?_, rfl⟩
  show Ending.returned (.int .u64 _) = _
  rw [shl_shr _ _ (by omega)]
  simp [soughtW]
 ·refine ⟨?_, rfl⟩
  show Ending.returned (.int .u64 _) = _
  rw [shl_shr _ _ hx]
  simp [soughtW]

def nextI (l : List Bool) (from_ : Int) (is : Bool) : Option Nat := nextL l from_.toNat is

theorem next_step_zero {ws : List Nat} {l : List Bool} (h : Rep ws l) {F j f : Nat} {is : Bool}
  (hinv : ∀ k, F ≤ k → k < 64 * j + f % 64 → k < l.length → mem l k ≠ is) (h0 : soughtW (wd ws j) (f % 64) is = 0) :
  ∀ k, F ≤ k → k < 64 * (j + 1) → k < l.length → mem l k ≠ is := by
 intro k h1 h2 h3
 by_cases hk : k < 64 * j + f % 64
 ·exact hinv k h1 hk h3
 ·rw [← h.bit k]
  unfold bitOf
  have e1 : k / 64 = j := by omega
  have := sought_zero (h.lt j) h0 (k % 64) (by omega) (by omega)
  rw [e1]; exact this
theorem next_step_some {ws : List Nat} {l : List Bool} (h : Rep ws l) {F j f : Nat} {is : Bool} (hp : F ≤ 64 * j + f % 64)
  (hinv : ∀ k, F ≤ k → k < 64 * j + f % 64 → k < l.length → mem l k ≠ is) (h0 : soughtW (wd ws j) (f % 64) is ≠ 0) :
  (64 * j + Lib.ctz 64 (soughtW (wd ws j) (f % 64) is) < l.length → nextL l F is = some (64 * j + Lib.ctz 64 (soughtW (wd ws j) (f % 64) is))) ∧
   (l.length ≤ 64 * j + Lib.ctz 64 (soughtW (wd ws j) (f % 64) is) → nextL l F is = none) ∧ Lib.ctz 64 (soughtW (wd ws j) (f % 64) is) < 64 := by
 obtain ⟨a, b, c, d⟩ := sought_first (h.lt j) h0
 generalize Lib.ctz 64 (soughtW (wd ws j) (f % 64) is) = t at *
 have hall : ∀ k, F ≤ k → k < 64 * j + t → k < l.length → mem l k ≠ is := by
  intro k h1 h2 h3
  by_cases hk : k < 64 * j + f % 64
  ·exact hinv k h1 hk h3
  ·rw [← h.bit k]
   unfold bitOf
   have e1 : k / 64 = j := by omega
   have := d (k % 64) (by omega) (by omega)
   rw [e1]; exact this
 refine ⟨fun hl => ?_, fun hl => ?_, a⟩
 ·refine nextL_some (by omega) hl ?_ (fun k h1 h2 => hall k h1 h2 (by omega))
  rw [← h.bit]
  unfold bitOf
  have e1 : (64 * j + t) / 64 = j := by omega
  have e2 : (64 * j + t) % 64 = t := by omega
  rw [e1, e2]; exact c
 ·exact nextL_none (fun k h1 h2 => hall k h1 (by omega) h2)

def nxK (r : Option Nat) : Nat := r.getD 0
def nxB (r : Option Nat) : Bool := r.isSome

set_option maxHeartbeats 1000000 in
theorem next_any {w : World} {b c : Nat} {l : List Bool} (h : IsSet w b c l) (hT : DbTab w) (from_ : Int) (is : Bool) :
  Calls Tryz.prog 183 #[.pointer (some ⟨b, 0, none⟩), .int .i64 from_, .bool is] w fun e w' => e = .returned (.tuple #[.int .i64 (nxK (nextI l from_ is) : Nat), .bool (nxB (nextI l from_ is))]) ∧ w = w' := by
 have hs := Lib.hid h
 have hn := h.n
 obtain ⟨ws, rest, cap, h1, h2, h3, h4, h5, h6, h7, h8⟩ := h
 have a1 := h7.cell (i := 1) rfl
 have hlen := h1.len
 have hlen2 : ws.length ≤ 64 := by omega
 have HL := Lib.hid hlen
 clear hlen
 have HB := Lib.hid h8
 clear h7 h8
 have HT := Lib.hid hT
 clear hT
 obtain ⟨F, hF⟩ : ∃ F : Nat, F = from_.toNat := ⟨_, rfl⟩
 have hmax : (if from_ < 0 then 0 else from_) = (F : Int) := by split <;> omega
 unfold nextI
 rw [← hF]
 clear hF
 by_cases hr : F < l.length
 ·have hi : inB (l.length : Int) (F : Int) = true := by simp [inB]; omega
  go_enter Tryz.func183, Tryz.ntmps183
  go_wp2_with (first
   | (go_at_call 114; refine (is_any hs.out _).mono ?_; rintro e w' ⟨rfl, rfl⟩))
  clear hmax
  go_loop [1, 8] (fun fr wv => ∃ j f : Nat, j ≤ ws.length ∧ wv = .int .i64 j ∧ fr = .int .i64 f ∧ f < 4096 ∧ F ≤ 64 * j + f % 64 ∧ Hid (∀ k, F ≤ k → k < 64 * j + f % 64 → k < l.length → mem l k ≠ is) ∧ (j = ws.length → f = 0))
   (fun _ wv => ws.length - (intOf wv).toNat)
  case atStart => exact ⟨F / 64, F, by have := HL.out; omega, by go_num, rfl, by omega, by omega, fun k hk1 hk2 => by omega, by have := HL.out; omega⟩
  case round =>
   obtain ⟨j, f, hj, rfl, rfl, hf, hp, hinv, hend⟩ := hrel
   by_cases hlt : j < ws.length
   ·have hcell := word_cell HB.out hlt
    have hx := h1.lt j
    rw [show (2 : Nat) ^ 64 = 18446744073709551616 from rfl] at hx
    have HZ := Lib.hid (next_step_zero h1 (F := F) (j := j) (f := f) (is := is) hinv.out)
    have HS := Lib.hid (next_step_some h1 (F := F) (j := j) (f := f) (is := is) hp hinv.out)
    have hso := soughtW_lt (wd ws j) (f % 64) is (h1.lt j)
    rw [show (2 : Nat) ^ 64 = 18446744073709551616 from rfl] at hso
    have e64 : (((f : Int) % 64).toNat) = f % 64 := by omega
    have hfb : 0 ≤ (f : Int) % 64 := by omega
    generalize hq : soughtW (wd ws j) (f % 64) is = q at *
    have HQ := Lib.hid hq
    clear hq
    have E64 := Lib.hid e64
    clear e64
    by_cases hq0 : q = 0
    ·subst hq0
     go_wp2_with (first
      | (go_at_call 226; refine (sought_at _ b c j ws.length cap (wd ws j) _ is a1 hcell hlt hlen2 (by omega) (by omega) hx).mono ?_; rintro e w' ⟨rfl, rfl⟩; rw [E64.out, HQ.out]))
     go_round
     case rel => exact ⟨j + 1, 0, by omega, by go_num, rfl, by omega, by omega, HZ.out (by trivial), fun _ => rfl⟩
     case measure => simp [intOf]; omega
    ·have hne : ((q : Int) != 0) = true := by simp; omega
     obtain ⟨g1, g2, g3⟩ := HS.out hq0
     have G1 := Lib.hid g1
     have G2 := Lib.hid g2
     clear g1 g2
     by_cases hin : 64 * j + Lib.ctz 64 q < l.length
     ·have hi2 : inB (l.length : Int) ((j : Int) * 64 + (Lib.ctz 64 q : Int)) = true := by simp [inB]; omega
      go_wp2_with (first
       | (go_at_call 226; refine (sought_at _ b c j ws.length cap (wd ws j) _ is a1 hcell hlt hlen2 (by omega) (by omega) hx).mono ?_; rintro e w' ⟨rfl, rfl⟩; rw [E64.out, HQ.out])
       | (go_at_call 227; refine (tz_any q hso hq0 _ HT.out).mono ?_; rintro e w' ⟨rfl, rfl⟩)
       | (go_at_call 114; refine (is_any hs.out _).mono ?_; rintro e w' ⟨rfl, rfl⟩))
      go_ret2
      refine ⟨?_, rfl⟩
      rw [G1.out hin]
      simp [nxK, nxB]
      omega
     ·have hi2 : inB (l.length : Int) ((j : Int) * 64 + (Lib.ctz 64 q : Int)) = false := by simp [inB]; omega
      go_wp2_with (first
       | (go_at_call 226; refine (sought_at _ b c j ws.length cap (wd ws j) _ is a1 hcell hlt hlen2 (by omega) (by omega) hx).mono ?_; rintro e w' ⟨rfl, rfl⟩; rw [E64.out, HQ.out])
       | (go_at_call 227; refine (tz_any q hso hq0 _ HT.out).mono ?_; rintro e w' ⟨rfl, rfl⟩)
       | (go_at_call 114; refine (is_any hs.out _).mono ?_; rintro e w' ⟨rfl, rfl⟩))
      go_ret2
      refine ⟨?_, rfl⟩
      rw [G2.out (by omega)]
      rfl
   ·have hf0 := hend (by omega)
    go_wp2
    go_ret2
    refine ⟨?_, rfl⟩
    rw [nextL_none (fun k hk1 hk2 => hinv.out k hk1 (by have := HL.out; omega) hk2)]
    rfl
 ·have hi : inB (l.length : Int) (F : Int) = false := by simp [inB]; omega
  go_enter Tryz.func183, Tryz.ntmps183
  go_wp2_with (first
   | (go_at_call 114; refine (is_any hs.out _).mono ?_; rintro e w' ⟨rfl, rfl⟩))
  go_ret2
  refine ⟨?_, rfl⟩
  rw [nextL_none (fun k hk1 hk2 => by omega)]
  rfl
end Go.Proofs.YtkjpdfomppjiiaaGreatDoor
/- The walks of package bits: Count, New, List, Copy. -/
namespace Go.Proofs.YtkjpdfomppjiiaaGreatDoor
open Go.RowKit

theorem info_uint : (Tryz.prog.info? 192).map (fun i => (i.zero, i.size, i.bytes)) = some (some (.int .u64 0), 1, 8) := by kernel_rfl

set_option maxHeartbeats 400000 in
theorem new_at (w : World) (n m : Nat) (z : Int) (h0 : 1 ≤ n) (h1 : n ≤ 4096) (hz : z = (m : Int)) (hm : z = ((n : Int) + 64 - 1) / 64) (hm2 : m ≤ 64) :
  Calls Tryz.prog 63 #[.int .i64 n] w fun e w' => e = .returned (.tuple #[.pointer (some ⟨w.heap.size + 1, 0, none⟩), .int .i64 0]) ∧
   w' = (w.alloc (.cells (madeCells #[.int .u64 0] m) 192)).alloc (.cells #[.int .i64 n, .slice (some ⟨w.heap.size, 0, none⟩) m m] 227) := by
 have hmk := run_make_row' (P := Tryz.prog) 225 192 (.int .u64 0) 8 Tryz.underlying225 info_uint rfl .i64 .i64 m (by omega) (by omega)
 rw [← hz, hm] at hmk
 have hd : decide ((n : Int) < 1) = false := by simp; omega
 clear hz hm
 go_enter Tryz.func63, Tryz.ntmps63
 go_wp2
 go_ret2
 exact ⟨rfl, rfl⟩
theorem new_any (w : World) (n : Nat) (h0 : 1 ≤ n) (h1 : n ≤ 4096) :
  Calls Tryz.prog 63 #[.int .i64 n] w fun e w' => e = .returned (.tuple #[.pointer (some ⟨w.heap.size + 1, 0, none⟩), .int .i64 0]) ∧
   Mods [] w w' ∧ w'.heap.size = w.heap.size + 2 ∧ IsSet w' (w.heap.size + 1) w.heap.size (List.replicate n false) := by
 refine (new_at w n ((n + 63) / 64) _ h0 h1 rfl (by omega) (by omega)).mono fun e w' ⟨he, hw⟩ => ⟨he, ?_, ?_, ?_⟩
 ·rw [hw]; exact ((Mods.refl _ _).alloc _).alloc _
 ·rw [hw]; simp
 ·rw [hw]
  refine ⟨List.replicate ((n + 63) / 64) 0, [], (n + 63) / 64, rep_new n, by simpa using h0, by simpa using h1, by omega, by simp, by unfold maxLen; omega, ?_, ?_⟩
  ·have := Blk.new (w.alloc (.cells (madeCells #[.int .u64 0] ((n + 63) / 64)) 192)) 227 [.int .i64 n, .slice (some ⟨w.heap.size, 0, none⟩) ((n + 63) / 64) ((n + 63) / 64)]
   simpa using this
  ·apply Blk.alloc
   have := Blk.new w 192 (madeCells #[.int .u64 0] ((n + 63) / 64)).toList
   rw [toList_madeCells_one] at this
   rw [List.append_nil, List.map_replicate]
   have e : (madeCells #[.int .u64 0] ((n + 63) / 64)) = (List.replicate ((n + 63) / 64) (Value.int .u64 0)).toArray := by
    rw [← toList_madeCells_one]
   rw [e]
   exact this
end Go.Proofs.YtkjpdfomppjiiaaGreatDoor
/- The walks of package bits: List, Copy. -/
namespace Go.Proofs.YtkjpdfomppjiiaaGreatDoor
open Go.RowKit

def onTo (l : List Bool) (F : Nat) : List Nat := (List.range F).filter (fun k => mem l k)
theorem filter_none {p : Nat → Bool} {a b : Nat} (hab : a ≤ b) (h : ∀ k, a ≤ k → k < b → p k = false) : (List.range b).filter p = (List.range a).filter p := by
 obtain ⟨d, rfl⟩ : ∃ d, b = a + d := ⟨b - a, by omega⟩
 rw [List.range_add, List.filter_append]
 have : List.filter p ((List.range d).map (a + ·)) = [] := by
  rw [List.filter_eq_nil_iff]
  intro x hx
  obtain ⟨y, hy, rfl⟩ := List.mem_map.1 hx
  rw [h _ (by omega) (by have := List.mem_range.1 hy; omega)]; simp
 rw [this, List.append_nil]
theorem onTo_some {l : List Bool} {F k : Nat} (h : nextL l F true = some k) : onTo l (k + 1) = onTo l F ++ [k] ∧ F ≤ k ∧ k < l.length := by
 obtain ⟨h1, h2, h3, h4⟩ := nextL_iff.1 h
 refine ⟨?_, h1, h2⟩
 unfold onTo
 rw [List.range_succ, List.filter_append, filter_none h1 (fun j hj1 hj2 => by have := h4 j hj1 hj2; simpa using this)]
 simp [h3]
theorem onTo_none {l : List Bool} {F : Nat} (h : nextL l F true = none) : onTo l F = onL l := by
 have h4 := nextL_none_iff.1 h
 unfold onTo onL
 by_cases hF : F ≤ l.length
 ·exact (filter_none hF (fun j hj1 hj2 => by have := h4 j hj1 hj2; simpa using this)).symm
 ·exact filter_none (by omega) (fun j hj1 _ => mem_out hj1)
theorem onTo_length (l : List Bool) (F : Nat) : (onTo l F).length ≤ F := by
 unfold onTo; have := List.length_filter_le (fun k => mem l k) (List.range F); simpa using this

theorem info_int : (Tryz.prog.info? 3).map (fun i => (i.zero, i.size, i.bytes)) = some (some (.int .i64 0), 1, 8) := by kernel_rfl
def intsOf (xs : List Nat) : List Value := xs.map (fun x => Value.int .i64 (x : Nat))

theorem next_cases (r : Option Nat) : (r = none ∧ nxK r = 0 ∧ nxB r = false) ∨ ∃ k, r = some k ∧ nxK r = k ∧ nxB r = true := by
 cases r with
 | none => exact .inl ⟨rfl, rfl, rfl⟩
 | some k => exact .inr ⟨k, rfl, rfl, rfl⟩

set_option maxHeartbeats 1000000 in
theorem list_any {w : World} {b c : Nat} {l : List Bool} (h : IsSet w b c l) (hT : DbTab w) :
  Calls Tryz.prog 133 #[.pointer (some ⟨b, 0, none⟩)] w fun e w' => ∃ v, e = .returned v ∧ w'.ownsRow w.heap.size 3 1 v (onL l).length (intsOf (onL l)) ∧ Mods [] w w' ∧ (onL l = [] → v = .slice none 0 0) := by
 obtain ⟨i0, hi0, hz0, hz1, hz2⟩ := info_parts info_int
 have hl := h.len
 have hlt := h.lt
 have hTl := hT.lt
 have HS := Lib.hid h
 have HT := Lib.hid hT
 clear h hT
 go_enter Tryz.func133, Tryz.ntmps133
 go_wp2_with (first
  | (go_at_call 183; refine (next_any HS.out HT.out _ _).mono ?_; rintro e w' ⟨rfl, rfl⟩))
 go_loopg [3, 4, 5] (l.length) (fun g v kv bv wr => ∃ F : Nat, g = l.length - F ∧ F ≤ l.length ∧ kv = .int .i64 (nxK (nextL l F true) : Nat) ∧ bv = .bool (nxB (nextL l F true)) ∧
  wr.ownsRow w.heap.size 3 1 v (onTo l F).length (intsOf (onTo l F)) ∧ Mods [] w wr ∧ (onTo l F = [] → v = .slice none 0 0))
 case atStart => exact ⟨0, by omega, Nat.zero_le _, rfl, rfl, World.ownsRow_nil _ _ _ _, Mods.refl _ _, fun _ => rfl⟩
 case round =>
  obtain ⟨F, hg, hF, rfl, rfl, hown, hm, hnil⟩ := hrel
  rcases next_cases (nextL l F true) with ⟨hr, hk, hb⟩ | ⟨k, hr, hk, hb⟩
  ·rw [hk, hb]
   have HR := Lib.hid (onTo_none hr)
   clear hr hk hb hg
   go_wp2
   go_ret
   rw [HR.out] at hown hnil
   exact ⟨_, rfl, hown, hm, hnil⟩
  ·rw [hk, hb]
   obtain ⟨e1, e2, e3⟩ := onTo_some hr
   have HR := Lib.hid e1
   have HG := Lib.hid hg
   clear hr hk hb hg e1
   have hol := onTo_length l F
   have HO := Lib.hid hown
   clear hown
   have HSr := Lib.hid (HS.out.keep hm (by simp) (by simp))
   have HTr := Lib.hid (HT.out.keep hm (by simp))
   have hsz := hm.size
   go_wp2_with (at_builtin; refine wpList_append_own _ rfl (.tmp 19) (.tmp 21) 69 rfl w.heap.size 3 i0 (.int .i64 0) 1 8 Tryz.underlying69 hi0 hz0 hz1 hz2 rfl (by decide) _ _ _ rfl (HO.out.alloc _) ⟨wr.heap.size, 0, none⟩ 1 1 [.int .i64 (k : Nat)] rfl rfl (cell_one_new _ _ _) (by simp [Value.oneCell']) (by unfold maxLen; omega) (by omega) (by simp; omega) ?_; intro v1 w1 hown1 hg1 hn1)
   have hm1 : Mods [] w w1 := (hm.alloc _).grown hg1 (fun q hq => .inr (HO.out.lt q hq).1)
   have hv1 : v1 ≠ .slice none 0 0 := fun e => by have := hn1.1 e; omega
   have ek : nextI l ((k : Int) + 1) true = nextL l (k + 1) true := by unfold nextI; rw [show ((k : Int) + 1).toNat = k + 1 from by omega]
   have EK := Lib.hid ek
   have HV := Lib.hid hv1
   have HO1 := Lib.hid hown1
   clear ek hv1 hown1 hn1
   refine (next_any (b := b) (c := c) (l := l) (HS.out.keep hm1 (by simp) (by simp)) (HT.out.keep hm1 (by simp)) _ _).mono ?_
   rintro e w' ⟨rfl, rfl⟩
   rw [EK.out]
   go_wp2
   go_roundg (l.length - (k + 1))
   case measure => have := HG.out; omega
   case rel =>
    refine ⟨k + 1, rfl, by omega, rfl, rfl, ?_, hm1, fun h => absurd h ?_⟩
    ·rw [HR.out]
     simpa [intsOf] using HO1.out
    ·rw [HR.out]; simp

theorem row_blk {w : World} {base e n : Nat} {v : Value} {xs : List Value} (h : w.ownsRow base e 1 v n xs) (hv : v ≠ .slice none 0 0) :
  ∃ g cap rest, v = .slice (some ⟨g, 0, none⟩) n cap ∧ base ≤ g ∧ n ≤ cap ∧ cap ≤ maxLen ∧ Blk w g e (xs ++ rest) ∧ (xs ++ rest).length = cap := by
 obtain ⟨h1, h2⟩ := h
 rcases h2 with ⟨h2, _⟩ | ⟨g, cap, cur, hv2, hg, hh, hn, hc, hs, hx⟩
 ·exact absurd h2 hv
 ·refine ⟨g, cap, cur.toList.drop (n * 1), hv2, hg, hn, hc, ?_, ?_⟩
  ·rw [← hx, List.take_append_drop]
   exact hh
  ·rw [← hx, List.take_append_drop]; simp [hs]

set_option maxHeartbeats 1000000 in
theorem clone_row {w : World} {c m cap : Nat} {ws : List Nat} {rest : List Value} (h : Blk w c 192 (ws.map (fun x => Value.int .u64 (x : Nat)) ++ rest)) (hm0 : 1 ≤ m) (hm : ws.length = m) (hmax : m ≤ 64) :
  Calls Tryz.prog 168 #[.slice (some ⟨c, 0, none⟩) m cap] w fun e w' => ∃ v, e = .returned v ∧ w'.ownsRow w.heap.size 192 1 v m (ws.map (fun x => Value.int .u64 (x : Nat))) ∧ Mods [] w w' ∧ v ≠ .slice none 0 0 := by
 obtain ⟨i0, hi0, hz0, hz1, hz2⟩ := info_parts info_uint
 have hcl := h.lt
 have hcells : ∀ j u, (ws.map (fun x => Value.int .u64 (x : Nat)))[j]? = some u → (w.alloc (.cells #[] 192)).cell? ((⟨c, 0, none⟩ : Addr).add j) = some u := by
  intro j u hj
  have hjl : j < ws.length := by
   have := (List.getElem?_eq_some_iff.1 hj).1
   simpa using this
  rw [addr_add0, World.cell?_alloc_lt _ _ _ (by simpa using hcl), h.cell]
  rw [List.getElem?_append_left (by simpa using hjl)]
  exact hj
 have HC := Lib.hid hcells
 clear hcells
 have hone : ∀ u ∈ ws.map (fun x => Value.int .u64 (x : Nat)), u.oneCell' = true := by
  intro u hu
  obtain ⟨x, _, rfl⟩ := List.mem_map.1 hu
  rfl
 have H1 := Lib.hid hone
 have HM := Lib.hid hm
 clear hone hm
 have hne := fun W => Lib.run_eql_slice_nil (P := Tryz.prog) W 225 192 (some ⟨c, 0, none⟩) m cap 0 0 Tryz.underlying225
 go_enter Tryz.func168, Tryz.ntmps168
 go_wp2_with (at_builtin; refine wpList_append_own _ rfl (.tmp 5) (.tmp 6) 225 rfl w.heap.size 192 i0 (.int .u64 0) 1 8 Tryz.underlying225 hi0 hz0 hz1 hz2 rfl (by decide) (.slice (some ⟨w.heap.size, 0, none⟩) 0 0) 0 [] rfl (World.ownsRow_made w #[] 0 (Nat.le_refl _) (by decide) rfl) ⟨c, 0, none⟩ m cap (ws.map (fun x => Value.int .u64 (x : Nat))) rfl (by simp [HM.out]) HC.out H1.out (by unfold maxLen; omega) (by omega) (by simp) ?_; intro v1 w1 hown1 hg1 hn1)
 go_ret
 refine ⟨v1, rfl, by simpa using hown1, ((Mods.refl [] w).alloc _).grown hg1 (fun q hq => .inr (by simp [Value.ownBlock] at hq; omega)), fun e => ?_⟩
 have := (hn1.1 e).1
 cases this

theorem clone_any {w : World} {c m cap : Nat} {ws : List Nat} {rest : List Value} (h : Blk w c 192 (ws.map (fun x => Value.int .u64 (x : Nat)) ++ rest)) (hm0 : 1 ≤ m) (hm : ws.length = m) (hmax : m ≤ 64) :
  Calls Tryz.prog 168 #[.slice (some ⟨c, 0, none⟩) m cap] w fun e w' => ∃ g cap1 rest1, e = .returned (.slice (some ⟨g, 0, none⟩) m cap1) ∧ w.heap.size ≤ g ∧ m ≤ cap1 ∧ cap1 ≤ maxLen ∧
   Blk w' g 192 (ws.map (fun x => Value.int .u64 (x : Nat)) ++ rest1) ∧ Mods [] w w' := by
 refine (clone_row h hm0 hm hmax).mono fun e w' ⟨v, he, hown, hms, hv⟩ => ?_
 obtain ⟨g, cap1, rest1, rfl, h1, h2, h3, h4, h5⟩ := row_blk hown hv
 exact ⟨g, cap1, rest1, he, h1, h2, h3, h4, hms⟩

set_option maxHeartbeats 1000000 in
theorem copy_any {w : World} {b c : Nat} {l : List Bool} (h : IsSet w b c l) :
  Calls Tryz.prog 117 #[.pointer (some ⟨b, 0, none⟩)] w fun e w' => ∃ b1 c1, e = .returned (.pointer (some ⟨b1, 0, none⟩)) ∧ IsSet w' b1 c1 l ∧ Mods [] w w' ∧ w.heap.size ≤ b1 ∧ w.heap.size ≤ c1 := by
 obtain ⟨ws, rest, cap, h1, h2, h3, h4, h5, h6, h7, h8⟩ := h
 have a0 := h7.cell (i := 0) rfl
 have a1 := h7.cell (i := 1) rfl
 have hlen1 : 1 ≤ ws.length := by have := h1.len; omega
 have hlen2 : ws.length ≤ 64 := by have := h1.len; omega
 have hbl := h7.lt
 have H7 := Lib.hid h7
 have H8 := Lib.hid h8
 clear h7 h8
 go_enter Tryz.func117, Tryz.ntmps117
 go_wp2
 go_region_held3 (fun w' => w'.cell? ⟨b, 0, none⟩ = some (.int .i64 l.length) ∧ w'.cell? ⟨b, 1, none⟩ = some (.slice (some ⟨c, 0, none⟩) ws.length cap))
  (first | go_keep | exact ⟨(hm.cell (by exact hbl) (by simp)).trans a0, (hm.cell (by exact hbl) (by simp)).trans a1⟩)
  ((first | (go_at_call 168; refine (clone_any (w := w.drew) H8.out hlen1 rfl hlen2).mono ?_; rintro e w1 ⟨g, cap1, rest1, rfl, hg, hc1, hc2, hb1, hm⟩)))
 go_wp2
 go_ret
 have hm0 : Mods [] w w1 := ⟨hm.os, hm.tape, hm.output, hm.size, hm.block⟩
 refine ⟨w1.heap.size, g, rfl, ⟨ws, rest1, cap1, h1, h2, h3, ?_, hc1, hc2, ?_, hb1.alloc _⟩, hm0.alloc _, hm0.size, hg⟩
 ·have := hb1.lt; omega
 ·exact Blk.new w1 227 [.int .i64 l.length, .slice (some ⟨g, 0, none⟩) ws.length cap1]
end Go.Proofs.YtkjpdfomppjiiaaGreatDoor
/- The walk of layer 9's 'wakes': it answers true, and turns nothing that was there. -/
namespace Go.Proofs.YtkjpdfomppjiiaaGreatDoor
open Go.RowKit

theorem size_to {w : World} {b c : Nat} {l : List Bool} (h : IsSet w b c l) (n : Int) (hn : (l.length : Int) = n) :
  Calls Tryz.prog 116 #[.pointer (some ⟨b, 0, none⟩)] w fun e w' => e = .returned (.int .i64 n) ∧ w = w' := by
 subst hn; exact size_any h

end Go.Proofs.YtkjpdfomppjiiaaGreatDoor
/- Small contracts over a set: answers by name; a slice that is read; what is of a set is what isn't of the turned one. -/
namespace Go.Proofs.YtkjpdfomppjiiaaGreatDoor
open Go.RowKit

theorem onL_length (l : List Bool) : (onL l).length ≤ l.length := by
 unfold onL; have := List.length_filter_le (fun k => mem l k) (List.range l.length); simpa using this
theorem list_row {w : World} {b c : Nat} {l : List Bool} (h : IsSet w b c l) (hT : DbTab w) :
  Calls Tryz.prog 133 #[.pointer (some ⟨b, 0, none⟩)] w fun e w' => ∃ A cap, e = .returned (.slice A (onL l).length cap) ∧ Row w' A (intsOf (onL l)) ∧ Mods [] w w' ∧ (∀ a, A = some a → w.heap.size ≤ a.block) ∧
   (onL l).length ≤ cap ∧ (A = none → (onL l).length = 0 ∧ cap = 0) := by
 refine (list_any h hT).mono fun e w' ⟨v, he, hown, hm, _⟩ => ?_
 obtain ⟨A, cap, rfl, h1, h2, _, h4, h5⟩ := row_of_owns hown
 exact ⟨A, cap, he, h1, hm, h2, h4, h5⟩

end Go.Proofs.YtkjpdfomppjiiaaGreatDoor
/- The walks of package space, first half: begin, New, check, Step, Gen, Used, Free. -/
namespace Go.Proofs.YtkjpdfomppjiiaaGreatDoor
open Go.RowKit

structure Sp where
 first : Nat
 used : List Bool
 taken : List Bool
 given : List Bool
 gen : Nat
 last : Nat

def spHead (S : Sp) (bu : Nat) (x y : Value) : List Value := [.int .i64 S.first, .pointer (some ⟨bu, 0, none⟩), x, y, .int .u64 S.gen, .int .u64 S.last]
structure Sp.Ok (S : Sp) : Prop where
 len : S.first < S.used.length
 taken : S.taken.length = S.used.length
 given : S.given.length = S.used.length
 max : S.used.length ≤ 4096
 gen : S.gen < 18446744073709551616
 last : S.last < 18446744073709551616
def IsSpace (w : World) (b : Nat) (fp : List Nat) (S : Sp) : Prop :=
 ∃ bu cu bt ct bg cg, fp = [b, bu, cu, bt, ct, bg, cg] ∧ fp.Nodup ∧ Blk w b 137 (spHead S bu (.pointer (some ⟨bt, 0, none⟩)) (.pointer (some ⟨bg, 0, none⟩))) ∧ IsSet w bu cu S.used ∧ IsSet w bt ct S.taken ∧ IsSet w bg cg S.given ∧ S.Ok
theorem IsSpace.keep {w w1 : World} {b : Nat} {fp : List Nat} {S : Sp} (h : IsSpace w b fp S) {L : List Nat} (hm : Mods L w w1) (hd : ∀ k ∈ fp, k ∉ L) : IsSpace w1 b fp S := by
 obtain ⟨bu, cu, bt, ct, bg, cg, rfl, h0, h1, h2, h3, h4, h5⟩ := h
 exact ⟨bu, cu, bt, ct, bg, cg, rfl, h0, h1.keep hm (hd _ (by simp)), h2.keep hm (hd _ (by simp)) (hd _ (by simp)), h3.keep hm (hd _ (by simp)) (hd _ (by simp)), h4.keep hm (hd _ (by simp)) (hd _ (by simp)), h5⟩
theorem IsSpace.lt {w : World} {b : Nat} {fp : List Nat} {S : Sp} (h : IsSpace w b fp S) : ∀ k ∈ fp, k < w.heap.size := by
 obtain ⟨bu, cu, bt, ct, bg, cg, rfl, h0, h1, h2, h3, h4, h5⟩ := h
 intro k hk
 have := h1.lt; have := h2.lt; have := h3.lt; have := h4.lt
 simp only [List.mem_cons, List.not_mem_nil, or_false] at hk
 rcases hk with rfl | rfl | rfl | rfl | rfl | rfl | rfl <;> omega
theorem IsSpace.ok {w : World} {b : Nat} {fp : List Nat} {S : Sp} (h : IsSpace w b fp S) : S.Ok := by
 obtain ⟨bu, cu, bt, ct, bg, cg, rfl, h0, h1, h2, h3, h4, h5⟩ := h; exact h5
theorem IsSpace.drewN {w : World} {b : Nat} {fp : List Nat} {S : Sp} (h : IsSpace w b fp S) (n : Nat) : IsSpace (w.drewN n) b fp S := h
theorem IsSpace.nodup {w : World} {b : Nat} {fp : List Nat} {S : Sp} (h : IsSpace w b fp S) : fp.Nodup := by
 obtain ⟨bu, cu, bt, ct, bg, cg, rfl, h0, _⟩ := h; exact h0

def Sp.fresh (S : Sp) : Sp := { S with taken := List.replicate S.used.length false, given := List.replicate S.used.length false }

set_option maxHeartbeats 1000000 in
theorem begin_at (w : World) (b bu cu : Nat) (S : Sp) (x y : Value) (hb : Blk w b 137 (spHead S bu x y)) (hu : IsSet w bu cu S.used) (hd : b ≠ bu ∧ b ≠ cu) :
  Calls Tryz.prog 65 #[.pointer (some ⟨b, 0, none⟩)] w fun e w' => e = .returned (.tuple #[]) ∧ Mods [b] w w' ∧ ∃ bt ct bg cg, bt ≠ ct ∧ bg ≠ cg ∧ w.heap.size ≤ bt ∧ w.heap.size ≤ ct ∧ bt < bg ∧ bt < cg ∧ ct < bg ∧ ct < cg ∧
   Blk w' b 137 (spHead S bu (.pointer (some ⟨bt, 0, none⟩)) (.pointer (some ⟨bg, 0, none⟩))) ∧ IsSet w' bu cu S.used ∧ IsSet w' bt ct S.fresh.taken ∧ IsSet w' bg cg S.fresh.given := by
 have hlen := hu.len
 have hbl := hb.lt
 have hul := hu.lt
 have c1 := hb.cell (i := 1) rfl
 have c2 := hb.cell (i := 2) rfl
 have f2 := hb.free 2
 obtain ⟨n, hn⟩ : ∃ n, S.used.length = n := ⟨_, rfl⟩
 rw [hn] at hlen
 have hsz := size_to hu n (by rw [hn])
 have HSz := Lib.hid hsz
 have HU := Lib.hid hu
 have HB := Lib.hid hb
 have HN := Lib.hid hn
 clear hsz hu hb hn
 go_enter Tryz.func65, Tryz.ntmps65
 go_wp2_with fail
 refine HSz.out.mono ?_
 rintro e w' ⟨rfl, rfl⟩
 go_wp2_with fail
 refine (new_any w n (by omega) (by omega)).mono ?_
 rintro e w1 ⟨rfl, hm1, hz1, hs1⟩
 have hB1 := HB.out.keep hm1 (by simp)
 have hU1 := HU.out.keep hm1 (by simp) (by simp)
 have d2 := hB1.cell (i := 2) rfl
 have g2 := hB1.free 2
 have hset := hB1.set 2 (.pointer (some ⟨w.heap.size + 1, 0, none⟩))
 have hm2 : Mods [b] w (w1.setCell ⟨b, 2, none⟩ (.pointer (some ⟨w.heap.size + 1, 0, none⟩))) := (hm1.mono (by simp)).setCell (.inl (by simp)) _
 have hs2 : IsSet (w1.setCell ⟨b, 2, none⟩ (.pointer (some ⟨w.heap.size + 1, 0, none⟩))) (w.heap.size + 1) w.heap.size (List.replicate n false) := hs1.keep ((Mods.refl [b] w1).setCell (.inl (by simp)) _) (by simp; omega) (by simp; omega)
 have hU2 : IsSet (w1.setCell ⟨b, 2, none⟩ (.pointer (some ⟨w.heap.size + 1, 0, none⟩))) bu cu S.used := hU1.keep ((Mods.refl [b] w1).setCell (.inl (by simp)) _) (by simp; omega) (by simp; omega)
 have HS2 := Lib.hid hs2
 have HU2 := Lib.hid hU2
 have HM2 := Lib.hid hm2
 have HB2 := Lib.hid hset
 have hz1' : w1.heap.size = w.heap.size + 2 := hz1
 have HZ := Lib.hid hz1'
 clear hm1 hB1 hU1 hset hm2 hs2 hU2 hs1 hz1 hz1'
 go_wp2_with fail
 refine (copy_any HS2.out).mono ?_
 rintro e w3 ⟨b1, c3, rfl, hs3, hm3, hb1, hc3⟩
 have hz3 := hm3.size
 rw [World.size_setCell] at hz3 hb1 hc3
 have hB3 := HB2.out.keep hm3 (by simp)
 have e3 := hB3.cell (i := 3) rfl
 have g3 := hB3.free 3
 have hset3 := hB3.set 3 (.pointer (some ⟨b1, 0, none⟩))
 have hT3 := HS2.out.keep hm3 (by simp) (by simp)
 have hU3 := HU2.out.keep hm3 (by simp) (by simp)
 have hM3 := HM2.out.trans hm3 (by simp)
 have hb1c := hs3.lt
 have hz := HZ.out
 have HF : Hid (∃ bt ct bg cg, bt ≠ ct ∧ bg ≠ cg ∧ w.heap.size ≤ bt ∧ w.heap.size ≤ ct ∧ bt < bg ∧ bt < cg ∧ ct < bg ∧ ct < cg ∧
   Blk (w3.setCell ⟨b, 3, none⟩ (.pointer (some ⟨b1, 0, none⟩))) b 137 (spHead S bu (.pointer (some ⟨bt, 0, none⟩)) (.pointer (some ⟨bg, 0, none⟩))) ∧ IsSet (w3.setCell ⟨b, 3, none⟩ (.pointer (some ⟨b1, 0, none⟩))) bu cu S.used ∧
   IsSet (w3.setCell ⟨b, 3, none⟩ (.pointer (some ⟨b1, 0, none⟩))) bt ct S.fresh.taken ∧ IsSet (w3.setCell ⟨b, 3, none⟩ (.pointer (some ⟨b1, 0, none⟩))) bg cg S.fresh.given) := by
  have hmm : Mods [b] w3 (w3.setCell ⟨b, 3, none⟩ (.pointer (some ⟨b1, 0, none⟩))) := (Mods.refl [b] w3).setCell (.inl (by simp)) _
  have hfr : List.replicate n false = S.fresh.taken := by rw [← HN.out]; rfl
  have hfr2 : List.replicate n false = S.fresh.given := by rw [← HN.out]; rfl
  refine ⟨w.heap.size + 1, w.heap.size, b1, c3, by omega, by omega, by omega, by omega, by omega, by omega, by omega, by omega, ?_, hU3.keep hmm (by simp; omega) (by simp; omega), ?_, ?_⟩
  ·exact hset3
  ·rw [← hfr]; exact hT3.keep hmm (by simp; omega) (by simp; omega)
  ·rw [← hfr2]; exact hs3.keep hmm (by simp; omega) (by simp; omega)
 have HM4 : Hid (Mods [b] w (w3.setCell ⟨b, 3, none⟩ (.pointer (some ⟨b1, 0, none⟩)))) := hM3.setCell (.inl (by simp)) _
 clear hs3 hm3 hB3 hset3 hT3 hU3 hM3 hz hz3
 go_wp2_with fail
 go_end0
 exact ⟨rfl, HM4.out, HF.out⟩
end Go.Proofs.YtkjpdfomppjiiaaGreatDoor
/- The walks of package space, second half. -/
namespace Go.Proofs.YtkjpdfomppjiiaaGreatDoor
open Go.RowKit

theorem Sp.Ok.fresh {S : Sp} (h : S.Ok) : S.fresh.Ok := ⟨h.len, by simp [Sp.fresh], by simp [Sp.fresh], h.max, h.gen, h.last⟩
theorem space_mk {w : World} {b bu cu bt ct bg cg : Nat} {S : Sp} (hnd : [b, bu, cu, bt, ct, bg, cg].Nodup) (h1 : Blk w b 137 (spHead S bu (.pointer (some ⟨bt, 0, none⟩)) (.pointer (some ⟨bg, 0, none⟩)))) (h2 : IsSet w bu cu S.used) (h3 : IsSet w bt ct S.taken) (h4 : IsSet w bg cg S.given) (h5 : S.Ok) :
  IsSpace w b [b, bu, cu, bt, ct, bg, cg] S := ⟨bu, cu, bt, ct, bg, cg, rfl, hnd, h1, h2, h3, h4, h5⟩

theorem nodup_ne {b x : Nat} {l : List Nat} (h : (b :: l).Nodup) (hx : x ∈ l) : x ∉ [b] := by
 simp only [List.mem_singleton]
 rintro rfl
 exact (List.nodup_cons.1 h).1 hx
theorem begin_any (w : World) (b bu cu : Nat) (S : Sp) (x y : Value) (hb : Blk w b 137 (spHead S bu x y)) (hu : IsSet w bu cu S.used) (hd : b ≠ bu ∧ b ≠ cu) (hok : S.fresh.Ok) :
  Calls Tryz.prog 65 #[.pointer (some ⟨b, 0, none⟩)] w fun e w' => e = .returned (.tuple #[]) ∧ Mods [b] w w' ∧ ∃ fp, IsSpace w' b fp S.fresh ∧ (∀ k ∈ fp, k = b ∨ k = bu ∨ k = cu ∨ w.heap.size ≤ k) := by
 have hbl := hb.lt
 have hul := hu.lt
 refine (begin_at w b bu cu S x y hb hu hd).mono fun e w' ⟨he, hm, bt, ct, bg, cg, n1, n2, n3, n4, n5, n6, n7, n8, h1, h2, h3, h4⟩ => ⟨he, hm, _, space_mk (S := S.fresh) ?_ h1 h2 h3 h4 hok, ?_⟩
 ·simp only [List.nodup_cons, List.mem_cons, List.not_mem_nil, or_false, not_or, List.nodup_nil, and_true, not_false_eq_true]
  omega
 ·intro k hk
  simp only [List.mem_cons, List.not_mem_nil, or_false] at hk
  omega

def Sp.chk (S : Sp) (k : Int) : Int := if k < S.first ∨ (S.used.length : Int) ≤ k then 3 else 0
set_option maxHeartbeats 400000 in
theorem spCheck_any {w : World} {b : Nat} {fp : List Nat} {S : Sp} (h : IsSpace w b fp S) (k : Int) :
  Calls Tryz.prog 134 #[.pointer (some ⟨b, 0, none⟩), .int .i64 k] w fun e w' => e = .returned (.int .i64 (S.chk k)) ∧ w = w' := by
 obtain ⟨bu, cu, bt, ct, bg, cg, rfl, h0, h1, h2, h3, h4, h5⟩ := h
 have c0 := h1.cell (i := 0) rfl
 have c1 := h1.cell (i := 1) rfl
 have hsz := Lib.hid (size_any h2)
 have hok := h5.len
 clear h0 h1 h2 h3 h4 h5
 by_cases hk : k < (S.first : Int)
 ·go_enter Tryz.func134, Tryz.ntmps134
  go_wp2_with (go_at_call 116; refine hsz.out.mono ?_; rintro e w' ⟨rfl, rfl⟩)
  go_ret
  exact ⟨by rw [Sp.chk, if_pos (.inl hk)]; rfl, rfl⟩
 ·have hd : decide (k < (S.first : Int)) = false := by simpa using hk
  by_cases hk2 : (S.used.length : Int) ≤ k
  ·go_enter Tryz.func134, Tryz.ntmps134
   go_wp2_with (go_at_call 116; refine hsz.out.mono ?_; rintro e w' ⟨rfl, rfl⟩)
   go_ret
   exact ⟨by rw [Sp.chk, if_pos (.inr hk2)]; rfl, rfl⟩
  ·go_enter Tryz.func134, Tryz.ntmps134
   go_wp2_with (go_at_call 116; refine hsz.out.mono ?_; rintro e w' ⟨rfl, rfl⟩)
   go_ret
   exact ⟨by rw [Sp.chk, if_neg (by omega)]; rfl, rfl⟩
def Sp.step (S : Sp) : Sp := if S.last ≤ S.gen then S else { S with gen := S.gen + 1 }
def Sp.stepG (S : Sp) : Nat := if S.last ≤ S.gen then 0 else S.gen + 1
def Sp.stepE (S : Sp) : Int := if S.last ≤ S.gen then 12 else 0
set_option maxHeartbeats 400000 in
theorem spStep_any {w : World} {b : Nat} {fp : List Nat} {S : Sp} (h : IsSpace w b fp S) :
  Calls Tryz.prog 69 #[.pointer (some ⟨b, 0, none⟩)] w fun e w' => e = .returned (.tuple #[.int .u64 (S.stepG : Nat), .int .i64 S.stepE]) ∧ Mods fp w w' ∧ IsSpace w' b fp S.step := by
 have hS := h
 obtain ⟨bu, cu, bt, ct, bg, cg, rfl, h0, h1, h2, h3, h4, h5⟩ := h
 have c4 := h1.cell (i := 4) rfl
 have c5 := h1.cell (i := 5) rfl
 have f4 := h1.free 4
 have hg := h5.gen
 have hl := h5.last
 by_cases hk : S.last ≤ S.gen
 ·have HS := Lib.hid hS
  clear h0 h1 h2 h3 h4 h5 hS
  generalize hgg : S.gen = g at *
  generalize hll : S.last = l at *
  have HG := Lib.hid (And.intro hgg hll)
  clear hgg hll
  have hd : decide ((l : Int) ≤ (g : Int)) = true := by simpa using hk
  go_enter Tryz.func69, Tryz.ntmps69
  go_wp2
  go_quiet (fail)
  go_wp2
  go_ret2
  have hk2 : S.last ≤ S.gen := by rw [HG.out.1, HG.out.2]; exact hk
  refine ⟨by rw [Sp.stepG, Sp.stepE, if_pos hk2, if_pos hk2]; rfl, (Mods.refl _ _).drewN _, ?_⟩
  rw [Sp.step, if_pos hk2]; exact HS.out.drewN _
 ·have hs : Blk (w.setCell ⟨b, 4, none⟩ (.int .u64 ((S.gen : Int) + 1))) b 137 (spHead S.step bu (.pointer (some ⟨bt, 0, none⟩)) (.pointer (some ⟨bg, 0, none⟩))) := by
   have := h1.set 4 (.int .u64 ((S.gen : Int) + 1))
   rw [Sp.step, if_neg hk]; exact this
  have hm : Mods [b] w (w.setCell ⟨b, 4, none⟩ (.int .u64 ((S.gen : Int) + 1))) := (Mods.refl _ _).setCell (.inl (by simp)) _
  have hnd := h0
  have e2 : S.step.used = S.used ∧ S.step.taken = S.taken ∧ S.step.given = S.given := by rw [Sp.step, if_neg hk]; exact ⟨rfl, rfl, rfl⟩
  have HF : Hid (IsSpace (w.setCell ⟨b, 4, none⟩ (.int .u64 ((S.gen : Int) + 1))) b [b, bu, cu, bt, ct, bg, cg] S.step) := by
   refine ⟨bu, cu, bt, ct, bg, cg, rfl, hnd, hs, ?_, ?_, ?_, ?_⟩
   ·rw [e2.1]; exact h2.keep hm (nodup_ne hnd (by simp)) (nodup_ne hnd (by simp))
   ·rw [e2.2.1]; exact h3.keep hm (nodup_ne hnd (by simp)) (nodup_ne hnd (by simp))
   ·rw [e2.2.2]; exact h4.keep hm (nodup_ne hnd (by simp)) (nodup_ne hnd (by simp))
   ·rw [Sp.step, if_neg hk]; exact ⟨h5.len, h5.taken, h5.given, h5.max, by show S.gen + 1 < _; omega, h5.last⟩
  have HM := Lib.hid (hm.mono (L1 := [b, bu, cu, bt, ct, bg, cg]) (by simp))
  clear h0 h1 h2 h3 h4 h5 hS hs hm hnd e2
  have hk2 := Lib.hid hk
  generalize hgg : S.gen = g at *
  generalize hll : S.last = l at *
  have HG := Lib.hid (And.intro hgg hll)
  clear hgg hll
  have hd : decide ((l : Int) ≤ (g : Int)) = false := by simpa using hk
  go_enter Tryz.func69, Tryz.ntmps69
  go_wp2
  go_quiet (fail)
  go_wp2
  go_ret2
  have hk2 : ¬ S.last ≤ S.gen := by rw [HG.out.1, HG.out.2]; exact hk
  refine ⟨by rw [Sp.stepG, Sp.stepE, if_neg hk2, if_neg hk2, HG.out.1]; rfl, HM.out.drewN _, HF.out.drewN _⟩
end Go.Proofs.YtkjpdfomppjiiaaGreatDoor
/- The walks of package space: Use, Take, Give, free, Settle, Undo, New. -/
namespace Go.Proofs.YtkjpdfomppjiiaaGreatDoor
open Go.RowKit

def Sp.useS (S : Sp) (k : Int) : Sp := if S.chk k = 0 then { S with used := setI S.used k true } else S
def Sp.useE (S : Sp) (k : Int) : Int := if S.chk k = 0 then (if memI S.used k then 19 else 0) else S.chk k
theorem Sp.chk_cases (S : Sp) (k : Int) : S.chk k = 0 ∨ S.chk k = 3 := by unfold Sp.chk; split; exact .inr rfl; exact .inl rfl

theorem used_upd {w w1 : World} {b bu cu bt ct bg cg : Nat} {S : Sp} {l : List Bool} (hnd : [b, bu, cu, bt, ct, bg, cg].Nodup) (h1 : Blk w b 137 (spHead S bu (.pointer (some ⟨bt, 0, none⟩)) (.pointer (some ⟨bg, 0, none⟩))))
  (h3 : IsSet w bt ct S.taken) (h4 : IsSet w bg cg S.given) (h5 : S.Ok) (hm : Mods [cu] w w1) (h2 : IsSet w1 bu cu l) (hl : l.length = S.used.length) :
  IsSpace w1 b [b, bu, cu, bt, ct, bg, cg] { S with used := l } := by
 refine ⟨bu, cu, bt, ct, bg, cg, rfl, hnd, ?_, h2, ?_, ?_, ?_⟩
 ·exact h1.keep hm (by simp only [List.mem_singleton]; intro e; subst e; simp at hnd)
 ·exact h3.keep hm (by simp only [List.mem_singleton]; intro e; subst e; simp at hnd) (by simp only [List.mem_singleton]; intro e; subst e; simp at hnd)
 ·exact h4.keep hm (by simp only [List.mem_singleton]; intro e; subst e; simp at hnd) (by simp only [List.mem_singleton]; intro e; subst e; simp at hnd)
 ·exact ⟨by rw [hl]; exact h5.len, by rw [hl]; exact h5.taken, by rw [hl]; exact h5.given, by rw [hl]; exact h5.max, h5.gen, h5.last⟩
theorem taken_upd {w w1 : World} {b bu cu bt ct bg cg : Nat} {S : Sp} {l : List Bool} (hnd : [b, bu, cu, bt, ct, bg, cg].Nodup) (h1 : Blk w b 137 (spHead S bu (.pointer (some ⟨bt, 0, none⟩)) (.pointer (some ⟨bg, 0, none⟩))))
  (h2 : IsSet w bu cu S.used) (h4 : IsSet w bg cg S.given) (h5 : S.Ok) (hm : Mods [ct] w w1) (h3 : IsSet w1 bt ct l) (hl : l.length = S.taken.length) :
  IsSpace w1 b [b, bu, cu, bt, ct, bg, cg] { S with taken := l } := by
 refine ⟨bu, cu, bt, ct, bg, cg, rfl, hnd, ?_, ?_, h3, ?_, ?_⟩
 ·exact h1.keep hm (by simp only [List.mem_singleton]; intro e; subst e; simp at hnd)
 ·exact h2.keep hm (by simp only [List.mem_singleton]; intro e; subst e; simp at hnd) (by simp only [List.mem_singleton]; intro e; subst e; simp at hnd)
 ·exact h4.keep hm (by simp only [List.mem_singleton]; intro e; subst e; simp at hnd) (by simp only [List.mem_singleton]; intro e; subst e; simp at hnd)
 ·exact ⟨h5.len, by rw [hl]; exact h5.taken, h5.given, h5.max, h5.gen, h5.last⟩
set_option maxHeartbeats 800000 in
theorem spUse_any {w : World} {b : Nat} {fp : List Nat} {S : Sp} (h : IsSpace w b fp S) (k : Int) :
  Calls Tryz.prog 84 #[.pointer (some ⟨b, 0, none⟩), .int .i64 k] w fun e w' => e = .returned (.int .i64 (S.useE k)) ∧ Mods fp w w' ∧ IsSpace w' b fp (S.useS k) := by
 have hS := Lib.hid h
 have hck := Lib.hid (spCheck_any h k)
 obtain ⟨bu, cu, bt, ct, bg, cg, rfl, h0, h1, h2, h3, h4, h5⟩ := h
 have c1 := h1.cell (i := 1) rfl
 have HP := Lib.hid (put_any h2 k true)
 obtain ⟨c, hc⟩ : ∃ c, S.chk k = c := ⟨_, rfl⟩
 have hcc := S.chk_cases k
 rw [hc] at hcc
 have HC := Lib.hid hc
 have HF : Hid (∀ w1, Mods [cu] w w1 → IsSet w1 bu cu (setI S.used k true) → IsSpace w1 b [b, bu, cu, bt, ct, bg, cg] { S with used := setI S.used k true }) := fun w1 hm hs => used_upd h0 h1 h3 h4 h5 hm hs (setI_length _ _ _)
 clear h0 h1 h2 h3 h4 h5 hc
 rcases hcc with rfl | rfl
 ·obtain ⟨x, hx⟩ : ∃ x, memI S.used k = x := ⟨_, rfl⟩
  have HX := Lib.hid hx
  clear hx
  cases x
  all_goals
   go_enter Tryz.func84, Tryz.ntmps84
   go_wp2_with fail
   refine hck.out.mono ?_
   rintro e w' ⟨rfl, rfl⟩
   rw [HC.out]
   go_wp2_with fail
   refine HP.out.mono ?_
   rintro e w1 ⟨rfl, hm1, hs1⟩
   rw [HX.out]
   have hfin := HF.out w1 hm1 hs1
   have HFin := Lib.hid (And.intro hm1 hfin)
   clear hm1 hs1 hfin
   go_wp2_with fail
   go_ret
   refine ⟨?_, HFin.out.1.mono (by simp), ?_⟩
   ·rw [Sp.useE, if_pos HC.out, HX.out]; rfl
   ·rw [Sp.useS, if_pos HC.out]; exact HFin.out.2
 ·go_enter Tryz.func84, Tryz.ntmps84
  go_wp2_with fail
  refine hck.out.mono ?_
  rintro e w' ⟨rfl, rfl⟩
  rw [HC.out]
  go_wp2_with fail
  go_ret
  refine ⟨?_, Mods.refl _ _, ?_⟩
  ·rw [Sp.useE, if_neg (by rw [HC.out]; decide), HC.out]; rfl
  ·rw [Sp.useS, if_neg (by rw [HC.out]; decide)]; exact hS.out
def Sp.tk (S : Sp) : Option Nat := nextL S.used S.first false
def Sp.takeS (S : Sp) : Sp := match S.tk with | none => S | some k => { S with used := setI S.used k true, taken := setI S.taken k true }
def Sp.takeE (S : Sp) : Int := if nxB S.tk then 0 else 11
set_option maxHeartbeats 800000 in
theorem spTake_any {w : World} {b : Nat} {fp : List Nat} {S : Sp} (h : IsSpace w b fp S) (hT : DbTab w) :
  Calls Tryz.prog 181 #[.pointer (some ⟨b, 0, none⟩)] w fun e w' => e = .returned (.tuple #[.int .i64 (nxK S.tk : Nat), .int .i64 S.takeE]) ∧ Mods fp w w' ∧ IsSpace w' b fp S.takeS := by
 have hS := Lib.hid h
 obtain ⟨bu, cu, bt, ct, bg, cg, rfl, h0, h1, h2, h3, h4, h5⟩ := h
 have c0 := h1.cell (i := 0) rfl
 have c1 := h1.cell (i := 1) rfl
 have HNx : Hid (∀ d, Calls Tryz.prog 183 #[.pointer (some ⟨bu, 0, none⟩), .int .i64 S.first, .bool false] (w.drewN d) fun e w' => e = .returned (.tuple #[.int .i64 (nxK S.tk : Nat), .bool (nxB S.tk)]) ∧ w' = w.drewN d) := by
  intro d
  refine (next_any (h2.drewN d) (hT.drewN d) S.first false).mono fun e w' ⟨he, hw⟩ => ⟨?_, hw.symm⟩
  have : nextI S.used (S.first : Int) false = S.tk := by unfold nextI Sp.tk; rw [Int.toNat_natCast]
  rw [he, this]
 obtain ⟨f, hf⟩ : ∃ f, S.first = f := ⟨_, rfl⟩
 rw [hf] at c0
 rw [hf] at HNx
 have HFst := Lib.hid hf
 have H0 := Lib.hid h0
 have H1 := Lib.hid h1
 have H2 := Lib.hid h2
 have H3 := Lib.hid h3
 have H4 := Lib.hid h4
 have H5 := Lib.hid h5
 clear h0 h1 h2 h3 h4 h5 hf hT
 rcases next_cases S.tk with ⟨hr, hk, hb⟩ | ⟨k, hr, hk, hb⟩
 ·rw [hk, hb] at HNx
  rw [hk]
  have HR := Lib.hid (And.intro hr hb)
  clear hr hk hb
  go_enter Tryz.func181, Tryz.ntmps181
  go_wp2
  go_quiet ((go_at_call 183; exact Calls.quiet_of_same (HNx.out _)))
  go_wp2
  go_ret2
  refine ⟨?_, (Mods.refl _ _).drewN _, ?_⟩
  ·rw [Sp.takeE, HR.out.2]; rfl
  ·rw [Sp.takeS, HR.out.1]; exact hS.out.drewN _
 ·rw [hk, hb] at HNx
  rw [hk]
  have HR := Lib.hid (And.intro hr hb)
  clear hr hk hb
  go_enter Tryz.func181, Tryz.ntmps181
  go_wp2
  go_quiet ((go_at_call 183; exact Calls.quiet_of_same (HNx.out _)))
  go_wp2_with fail
  refine (put_any (w := w.drewN _) (H2.out.drewN _) _ _).mono ?_
  rintro e w1 ⟨rfl, hm1, hs1⟩
  have hm1' : Mods [cu] w w1 := ⟨hm1.os, hm1.tape, hm1.output, hm1.size, hm1.block⟩
  have hA := used_upd H0.out H1.out H3.out H4.out H5.out hm1' hs1 (setI_length _ _ _)
  have hnd := H0.out
  have hb1 := H1.out.keep hm1' (by simp only [List.mem_singleton]; intro e; subst e; simp at hnd)
  have ht1 := H3.out.keep hm1' (by simp only [List.mem_singleton]; intro e; subst e; simp at hnd) (by simp only [List.mem_singleton]; intro e; subst e; simp at hnd)
  have hg1 := H4.out.keep hm1' (by simp only [List.mem_singleton]; intro e; subst e; simp at hnd) (by simp only [List.mem_singleton]; intro e; subst e; simp at hnd)
  have d2 := hb1.cell (i := 2) rfl
  have hok := hA.ok
  have HB1 := Lib.hid hb1
  have HT1 := Lib.hid ht1
  have HG1 := Lib.hid hg1
  have HS1 := Lib.hid hs1
  have HM1 := Lib.hid hm1'
  have HOk := Lib.hid hok
  clear hm1 hm1' hA hnd hb1 ht1 hg1 hs1 hok c0 c1
  go_wp2_with fail
  refine (put_any HT1.out _ _).mono ?_
  rintro e w2 ⟨rfl, hm2, hs2⟩
  have hfin := taken_upd (S := { S with used := setI S.used k true }) H0.out HB1.out HS1.out HG1.out HOk.out hm2 hs2 (setI_length _ _ _)
  have HFin := Lib.hid hfin
  have HM2 := Lib.hid ((HM1.out.mono (L1 := [b, bu, cu, bt, ct, bg, cg]) (by simp)).trans hm2 (by simp))
  clear hm2 hs2 hfin
  go_wp2_with fail
  go_ret2
  refine ⟨?_, HM2.out, ?_⟩
  ·rw [Sp.takeE, HR.out.2]; rfl
  ·rw [Sp.takeS, HR.out.1]; exact HFin.out
end Go.Proofs.YtkjpdfomppjiiaaGreatDoor
namespace Go.Proofs.YtkjpdfomppjiiaaGreatDoor
open Go.RowKit

def minus (u : List Bool) (ks : List Nat) : List Bool := ks.foldl (fun u (k : Nat) => setI u (k : Int) false) u
theorem minus_length : ∀ (ks : List Nat) (u : List Bool), (minus u ks).length = u.length
 | [], _ => rfl
 | k :: ks, u => by
  show (minus (setI u k false) ks).length = _
  rw [minus_length ks, setI_length]
theorem minus_snoc (u : List Bool) (ks : List Nat) (k : Nat) : minus u (ks ++ [k]) = setI (minus u ks) k false := by simp [minus]
def Sp.freeS (S : Sp) (ks : List Nat) : Sp := { S with used := minus S.used ks }.fresh

set_option maxHeartbeats 1000000 in
theorem spFreeL_any {w : World} {b : Nat} {fp : List Nat} {S : Sp} (h : IsSpace w b fp S) {Ad : Option Addr} {cap : Nat} {ks : List Nat} (hr : Row w Ad (intsOf ks)) (hoff : Off Ad fp) (hmax : ks.length ≤ 4096) :
  Calls Tryz.prog 132 #[.pointer (some ⟨b, 0, none⟩), .slice Ad ks.length cap] w fun e w' => e = .returned (.tuple #[]) ∧ Mods fp w w' ∧ ∃ fp1, IsSpace w' b fp1 (S.freeS ks) ∧ (∀ k ∈ fp1, k ∈ fp ∨ w.heap.size ≤ k) := by
 obtain ⟨bu, cu, bt, ct, bg, cg, rfl, h0, h1, h2, h3, h4, h5⟩ := h
 have hR := Lib.hid hr
 have hO := Lib.hid hoff
 obtain ⟨N, hN⟩ : ∃ N, ks.length = N := ⟨_, rfl⟩
 rw [hN] at hmax ⊢
 have HN := Lib.hid hN
 have H0 := Lib.hid h0
 have H1 := Lib.hid h1
 have H2 := Lib.hid h2
 have H5 := Lib.hid h5
 clear hr hoff hN h0 h1 h2 h3 h4 h5
 go_enter Tryz.func132, Tryz.ntmps132
 go_wp2_with fail
 go_loopw [8] (fun iv wr => ∃ i : Nat, i ≤ N ∧ iv = .int .i64 i ∧ Mods [cu] w wr ∧ IsSet wr bu cu (minus S.used (ks.take i))) (fun iv _ => N - (intOf iv).toNat)
 case atStart => exact ⟨0, Nat.zero_le _, rfl, Mods.refl _ _, H2.out⟩
 case round =>
  obtain ⟨i, hi, rfl, hm, hu⟩ := hrel
  have hnd := H0.out
  have hb := H1.out.keep hm (by simp only [List.mem_singleton]; intro e; subst e; simp at hnd)
  clear hnd
  have c1 := hb.cell (i := 1) rfl
  have HU := Lib.hid hu
  have HM := Lib.hid hm
  have HB := Lib.hid hb
  clear hu hm hb
  by_cases hlt : i < N
  ·have hil : i < ks.length := by rw [HN.out]; exact hlt
   have hget : (intsOf ks)[i]? = some (.int .i64 (ks[i] : Nat)) := by simp [intsOf, hil]
   obtain ⟨br, or, rfl, hc⟩ := (hR.out.keep HM.out (fun a ha hk => hO.out a ha (by simp only [List.mem_singleton] at hk; simp [hk]))).at hget
   have hsn : ks.take (i + 1) = ks.take i ++ [ks[i]] := by rw [List.take_succ_eq_append_getElem hil]
   obtain ⟨k, hk⟩ : ∃ k, ks[i] = k := ⟨_, rfl⟩
   rw [hk] at hc hsn
   have HSN := Lib.hid hsn
   clear hget hk hsn
   go_wp2_with fail
   refine (put_any HU.out _ _).mono ?_
   rintro e w1 ⟨rfl, hm1, hs1⟩
   rw [← minus_snoc] at hs1
   have HS1 := Lib.hid hs1
   have HM1 := Lib.hid (HM.out.trans hm1 (by simp))
   clear hs1 hm1
   go_wp2_with fail
   go_roundw
   case rel => exact ⟨i + 1, by omega, by go_num, HM1.out, by rw [HSN.out]; exact HS1.out⟩
   case measure => simp [intOf]; omega
  ·obtain rfl : i = N := by omega
   have e1 : ks.take i = ks := List.take_of_length_le (by rw [HN.out]; exact Nat.le_refl _)
   have HU2 : Hid (IsSet wr bu cu (minus S.used ks)) := by have := HU.out; rw [e1] at this; exact this
   clear e1
   have hok : ({ S with used := minus S.used ks } : Sp).fresh.Ok :=
    ⟨by show S.first < (minus S.used ks).length; rw [minus_length]; exact H5.out.len, by simp [Sp.fresh], by simp [Sp.fresh], by show (minus S.used ks).length ≤ _; rw [minus_length]; exact H5.out.max, H5.out.gen, H5.out.last⟩
   have hnd := H0.out
   have hbb : b ≠ bu ∧ b ≠ cu := ⟨by intro e; subst e; simp at hnd, by intro e; subst e; simp at hnd⟩
   have hbeg := begin_any wr b bu cu { S with used := minus S.used ks } _ _ HB.out HU2.out hbb hok
   have HBeg := Lib.hid hbeg
   have hwr := HM.out.size
   clear hok hnd hbb hbeg hlt
   go_wp2_with fail
   refine HBeg.out.mono ?_
   rintro e w2 ⟨rfl, hm2, fp1, hs2, hfp⟩
   have HF : Hid (Mods [b, bu, cu, bt, ct, bg, cg] w w2) := (HM.out.mono (by simp)).trans hm2 (by simp)
   have HS2 := Lib.hid hs2
   clear hm2 hs2
   go_wp2_with fail
   go_end0
   refine ⟨rfl, HF.out, fp1, HS2.out, fun k hk => ?_⟩
   rcases hfp k hk with h | h | h | h
   ·left; simp [h]
   ·left; simp [h]
   ·left; simp [h]
   ·right; omega

def Sp.settleS (S : Sp) : Sp := S.freeS (onL S.given)
set_option maxHeartbeats 800000 in
theorem spSettle_any {w : World} {b : Nat} {fp : List Nat} {S : Sp} (h : IsSpace w b fp S) (hT : DbTab w) :
  Calls Tryz.prog 75 #[.pointer (some ⟨b, 0, none⟩)] w fun e w' => e = .returned (.tuple #[]) ∧ Mods fp w w' ∧ ∃ fp1, IsSpace w' b fp1 S.settleS ∧ (∀ k ∈ fp1, k ∈ fp ∨ w.heap.size ≤ k) := by
 have hS := Lib.hid h
 have hlt := h.lt
 have hmx := h.ok
 obtain ⟨bu, cu, bt, ct, bg, cg, hfp, h0, h1, h2, h3, h4, h5⟩ := h
 have c3 := h1.cell (i := 3) rfl
 have hL := Lib.hid (list_row h4 hT)
 have hg := h5.given
 have hgm := h5.max
 have hln := onL_length S.given
 have HLn : Hid ((onL S.given).length ≤ 4096) := by unfold Hid; omega
 have HLt := Lib.hid hlt
 clear h0 h1 h2 h3 h4 h5 hT hg hgm hln hlt hmx hfp
 go_enter Tryz.func75, Tryz.ntmps75
 go_wp2_with fail
 refine hL.out.mono ?_
 rintro e w1 ⟨A1, cap1, rfl, hr1, hm1, hoff1, hcap1, hnil1⟩
 have hS1 := hS.out.keep hm1 (by simp)
 have hfr := spFreeL_any hS1 (cap := cap1) hr1 (fun a ha hk => by have := hoff1 a ha; have := HLt.out _ hk; omega) HLn.out
 have HF := Lib.hid hfr
 have HM1 := Lib.hid hm1
 have hsz := hm1.size
 clear hr1 hm1 hoff1 hnil1 hS1 hfr
 go_wp2_with fail
 refine HF.out.mono ?_
 rintro e w2 ⟨rfl, hm2, fp1, hs2, hfp⟩
 have HM2 := Lib.hid ((HM1.out.mono (L1 := fp) (by simp)).trans hm2 (fun k hk => .inl hk))
 have HS2 := Lib.hid hs2
 have HFP := Lib.hid hfp
 clear hm2 hs2 hfp
 go_wp2_with fail
 go_end0
 exact ⟨rfl, HM2.out, fp1, HS2.out, fun k hk => by rcases HFP.out k hk with h | h; exact .inl h; right; omega⟩
def begun (blocks k : Nat) : List Bool := List.replicate k true ++ List.replicate (blocks - k) false
theorem begun_zero (blocks : Nat) : begun blocks 0 = List.replicate blocks false := by simp [begun]
theorem begun_length (blocks k : Nat) (h : k ≤ blocks) : (begun blocks k).length = blocks := by simp [begun]; omega
def Sp.new (blocks first gen last : Nat) : Sp := { first := first, used := begun blocks first, taken := List.replicate blocks false, given := List.replicate blocks false, gen := gen, last := last }
theorem begun_step (blocks first k : Nat) (hk : k < first) (hf : first ≤ blocks) : setI (begun blocks k) (k : Int) true = begun blocks (k + 1) := by
 unfold begun
 have hi : inB ((List.replicate k true ++ List.replicate (blocks - k) false).length : Int) (k : Int) = true := by simp [inB]; omega
 unfold setI
 rw [if_pos hi, Int.toNat_natCast, List.set_append, if_neg (by simp), List.length_replicate, Nat.sub_self, show blocks - k = blocks - (k + 1) + 1 from by omega, List.replicate_succ, List.set_cons_zero, List.replicate_succ']
 simp

set_option maxHeartbeats 1000000 in
theorem spNew_any (w : World) (blocks first gen last : Nat) (h1 : blocks ≤ 4096) (h2 : first < blocks) (h3 : gen ≤ last) (h4 : last < 18446744073709551616) :
  Calls Tryz.prog 30 #[.int .i64 blocks, .int .i64 first, .int .u64 gen, .int .u64 last] w fun e w' => ∃ b fp, e = .returned (.tuple #[.pointer (some ⟨b, 0, none⟩), .int .i64 0]) ∧ Mods [] w w' ∧ IsSpace w' b fp (Sp.new blocks first gen last) ∧ (∀ k ∈ fp, w.heap.size ≤ k) := by
 have hn := Lib.hid (new_any w blocks (by omega) h1)
 have hd : decide ((first : Int) < 0) = false := by simp
 have hd2 : decide (blocks ≤ first) = false := by simp; omega
 have hd3 : decide (last < gen) = false := by simp; omega
 go_enter Tryz.func30, Tryz.ntmps30
 go_wp2_with fail
 refine hn.out.mono ?_
 rintro e w1 ⟨rfl, hm1, hz1, hs1⟩
 have HM1 := Lib.hid hm1
 have HS1 := Lib.hid hs1
 clear hm1 hs1
 go_wp2_with fail
 obtain ⟨W2, hW2⟩ : ∃ W2 : World, W2 = w1.alloc (.cells #[.int .i64 first, .pointer (some ⟨w.heap.size + 1, 0, none⟩), .pointer none, .pointer none, .int .u64 gen, .int .u64 last] 137) := ⟨_, rfl⟩
 have hb2 : Blk W2 (w.heap.size + 2) 137 [.int .i64 first, .pointer (some ⟨w.heap.size + 1, 0, none⟩), .pointer none, .pointer none, .int .u64 gen, .int .u64 last] := by
  rw [hW2, ← hz1]; exact Blk.new w1 137 _
 have hm2 : Mods [] w1 W2 := by rw [hW2]; exact (Mods.refl _ _).alloc _
 have hz2 : W2.heap.size = w.heap.size + 3 := by rw [hW2]; simp [hz1]
 rw [← hW2]
 have HB2 := Lib.hid hb2
 have HS2 := Lib.hid (HS1.out.keep hm2 (by simp) (by simp))
 have HM2 := Lib.hid (HM1.out.trans hm2 (by simp))
 have HZ2 := Lib.hid hz2
 clear hW2 hb2 hm2 hz1 hz2 HM1 HS1
 go_loopw [42] (fun iv wr => ∃ k : Nat, k ≤ first ∧ iv = .int .i64 k ∧ IsSet wr (w.heap.size + 1) w.heap.size (begun blocks k) ∧ Mods [w.heap.size] W2 wr) (fun iv _ => first - (intOf iv).toNat)
 case atStart => exact ⟨0, Nat.zero_le _, rfl, by rw [begun_zero]; exact HS2.out, Mods.refl _ _⟩
 case round =>
  obtain ⟨k, hk, rfl, hsk, hmk⟩ := hrel
  have HSK := Lib.hid hsk
  have HMK := Lib.hid hmk
  clear hsk hmk
  by_cases hlt : k < first
  ·have hst := begun_step blocks first k hlt (by omega)
   have HST := Lib.hid hst
   clear hst
   go_wp2_with fail
   refine (put_any HSK.out _ _).mono ?_
   rintro e w3 ⟨rfl, hm3, hs3⟩
   rw [HST.out] at hs3
   have HS3 := Lib.hid hs3
   have HM3 := Lib.hid (HMK.out.trans hm3 (by simp))
   clear hs3 hm3
   go_wp2_with fail
   go_roundw
   case rel => exact ⟨k + 1, by omega, by go_num, HS3.out, HM3.out⟩
   case measure => simp [intOf]; omega
  ·obtain rfl : k = first := by omega
   have hbk := HB2.out.keep HMK.out (by simp)
   have hok : (Sp.new blocks k gen last).fresh.Ok := ⟨by show k < (begun blocks k).length; rw [begun_length _ _ (by omega)]; omega, by simp [Sp.new, Sp.fresh], by simp [Sp.new, Sp.fresh], by show (begun blocks k).length ≤ _; rw [begun_length _ _ (by omega)]; omega, by show gen < _; omega, h4⟩
   have hbeg := begin_any wr (w.heap.size + 2) (w.heap.size + 1) w.heap.size (Sp.new blocks k gen last) _ _ hbk HSK.out ⟨by omega, by omega⟩ hok
   have efr : (Sp.new blocks k gen last).fresh = Sp.new blocks k gen last := by
    unfold Sp.fresh Sp.new
    simp only [begun_length blocks k (by omega)]
   rw [efr] at hbeg
   have HBeg := Lib.hid hbeg
   have hwr := HMK.out.size
   rw [HZ2.out] at hwr
   clear hbk hok hbeg efr hlt
   go_wp2_with fail
   refine HBeg.out.mono ?_
   rintro e w4 ⟨rfl, hm4, fp, hs4, hfp⟩
   have HM4 : Hid (Mods [] w w4) := (HM2.out.trans HMK.out (by simp)).trans hm4 (by simp)
   have HS4 := Lib.hid hs4
   have HFP := Lib.hid hfp
   clear hm4 hs4 hfp
   go_wp2_with fail
   go_ret2
   exact ⟨_, fp, rfl, HM4.out, HS4.out, fun k hk => by rcases HFP.out k hk with h | h | h | h <;> omega⟩
end Go.Proofs.YtkjpdfomppjiiaaGreatDoor
