/- The walks of package bits, and of the two functions of math/bits that it calls: each says what one call does. -/
import Derived.Test.YtahaecieklfhkaaDoorRows
import Derived.Test.YtahaecieklfhkaaDoorBase
import Derived.Test.YtahaecieklfhkaaDoorPPop
namespace Go.Proofs.YtahaecieklfhkaaDoor
open Go.RowKit

/-- The table of math/bits.TrailingZeros64 lies as its initialiser lays it. -/
def Tab (w : World) : Prop := ∀ j, j < 64 → w.cell? ⟨1, j, none⟩ = some (.int .u8 (Lib.deBruijn64tab.getD j 0 : Nat))
theorem Tab.lt {w : World} (h : Tab w) : 1 < w.heap.size := World.block_lt_of_cell? w _ (h 0 (by decide))
theorem Tab.keep {w w1 : World} (h : Tab w) {L : List Nat} (hm : Mods L w w1) (hn : 1 ∉ L) : Tab w1 := fun j hj => (hm.cell h.lt hn).trans (h j hj)
theorem Tab.drewN {w : World} (h : Tab w) (n : Nat) : Tab (w.drewN n) := h

set_option maxHeartbeats 400000 in
theorem tz64_core (x k idx : Nat) (w : World) (hx0 : ((x : Int) == 0) = false)
    (key : IntKind.u64.wrap (bits BinOp.and IntKind.u64 (x : Int) (IntKind.u64.wrap (-(x : Int))) * 285870213051353865) / 288230376151711744 = (idx : Int))
    (_hi : idx < 64) (hcell : w.cell? ⟨1, idx, none⟩ = some (.int .u8 k)) (_hk : k < 64) :
    Calls Tryd.prog 55 #[.int .u64 x] w fun e w' => e = .returned (.int .i64 k) ∧ w = w' := by
  go_enter Tryd.func55, Tryd.ntmps55
  go_wp2_with (simp only [key])
  go_ret
  exact ⟨rfl, rfl⟩
theorem tz64_key (x a : Nat) (hx : x < 18446744073709551616) (hx0 : x ≠ 0) (hlow : x &&& (18446744073709551616 - x) = a) :
    IntKind.u64.wrap (bits BinOp.and IntKind.u64 (x : Int) (IntKind.u64.wrap (-(x : Int))) * 285870213051353865) / 288230376151711744 = ((a * 285870213051353865 % 18446744073709551616 / 288230376151711744 : Nat) : Int) := by
  have e1 : IntKind.u64.wrap (-(x : Int)) = ((18446744073709551616 - x : Nat) : Int) := by rw [IntKind.wrap_u64]; omega
  rw [e1, bits_and_u64_nat x _ hx (by omega), hlow, IntKind.wrap_u64]
  omega
theorem tz64_any (x : Nat) (hx : x < 18446744073709551616) (hx0 : x ≠ 0) (w : World) (hT : Tab w) :
    Calls Tryd.prog 55 #[.int .u64 x] w fun e w' => e = .returned (.int .i64 (Lib.ctz 64 x)) ∧ w = w' := by
  obtain ⟨hlow, hk⟩ := Lib.lowest_bit 64 x hx0 hx
  obtain ⟨hi, htab⟩ := Lib.deBruijn64_at _ hk
  have hcell := hT _ hi
  rw [htab] at hcell
  exact tz64_core x _ _ w (by simp; omega) (tz64_key x _ hx hx0 hlow) hi hcell hk
set_option maxHeartbeats 400000 in
theorem tz_any (x : Nat) (hx : x < 18446744073709551616) (hx0 : x ≠ 0) (w : World) (hT : Tab w) :
    Calls Tryd.prog 45 #[.int .u64 x] w fun e w' => e = .returned (.int .i64 (Lib.ctz 64 x)) ∧ w = w' := by
  have c := Lib.hid (tz64_any x hx hx0 w hT)
  go_enter Tryd.func45, Tryd.ntmps45
  go_wp2_with (go_at_call 55; refine c.out.mono ?_; rintro e w' ⟨rfl, rfl⟩)
  go_ret
  exact ⟨rfl, rfl⟩

theorem and64 (a M : Nat) (h : a < 18446744073709551616) (hM : M < 18446744073709551616) : bits .and .u64 (a : Int) (M : Int) = ((a &&& M : Nat) : Int) := bits_and_u64_nat a M h hM
theorem half64 (a d M : Nat) (h : a < 18446744073709551616) (hM : M < 18446744073709551616) : bits .and .u64 ((a : Int) / (d : Int)) (M : Int) = ((a / d &&& M : Nat) : Int) := by
  rw [← Int.natCast_ediv]; exact and64 _ _ (Nat.lt_of_le_of_lt (Nat.div_le_self _ _) h) hM
theorem sum64 (a b : Nat) (h : a + b < 18446744073709551616) : IntKind.u64.wrap ((a : Int) + (b : Int)) = ((a + b : Nat) : Int) := by rw [IntKind.wrap_u64]; omega

set_option maxHeartbeats 800000 in
theorem pop64_core (x x1 x2 y y1 y2 y3 p : Nat) (w : World)
    (_e1 : IntKind.u64.wrap (bits .and .u64 ((x : Int) / 2) 6148914691236517205 + bits .and .u64 (x : Int) 6148914691236517205) = (x1 : Int))
    (_e2 : IntKind.u64.wrap (bits .and .u64 ((x1 : Int) / 4) 3689348814741910323 + bits .and .u64 (x1 : Int) 3689348814741910323) = (x2 : Int))
    (_e3 : bits .and .u64 (IntKind.u64.wrap ((x2 : Int) / 16 + (x2 : Int))) 1085102592571150095 = (y : Int))
    (_e4 : IntKind.u64.wrap ((y : Int) + (y : Int) / 256) = (y1 : Int)) (_e5 : IntKind.u64.wrap ((y1 : Int) + (y1 : Int) / 65536) = (y2 : Int))
    (_e6 : IntKind.u64.wrap ((y2 : Int) + (y2 : Int) / 4294967296) = (y3 : Int)) (_e7 : bits .and .i64 (y3 : Int) 127 = (p : Int)) (_h3 : y3 < 9223372036854775808) :
    Calls Tryd.prog 57 #[.int .u64 x] w fun e w' => e = .returned (.int .i64 p) ∧ w = w' := by
  go_enter Tryd.func57, Tryd.ntmps57
  go_wp2
  go_ret
  exact ⟨rfl, rfl⟩

theorem i64and127 (a : Nat) (h : a < 9223372036854775808) : bits .and .i64 (a : Int) 127 = ((a % 128 : Nat) : Int) := by
  have hx : a &&& 127 = a % 128 := Nat.and_two_pow_sub_one_eq_mod a 7
  have e1 : (BitVec.ofInt 64 (a : Int)).toNat = a := by
    rw [BitVec.ofInt_natCast, BitVec.toNat_ofNat]; exact Nat.mod_eq_of_lt (by omega)
  have e2 : (BitVec.ofInt 64 (127 : Int)).toNat = 127 := by decide
  show IntKind.i64.wrap ((BitVec.ofInt 64 (a : Int) &&& BitVec.ofInt 64 (127 : Int)).toNat : Int) = _
  rw [BitVec.toNat_and, e1, e2, hx, IntKind.wrap_i64]
  omega

theorem pop64_any (x : Nat) (hx : x < 18446744073709551616) (w : World) :
    Calls Tryd.prog 57 #[.int .u64 x] w fun e w' => e = .returned (.int .i64 (popc x)) ∧ w = w' := by
  have hsw := swar x hx
  have hpe := pop_end x hx
  have l1 : x &&& 6148914691236517205 ≤ 6148914691236517205 := Nat.and_le_right
  have l2 : x / 2 &&& 6148914691236517205 ≤ 6148914691236517205 := Nat.and_le_right
  simp only [] at hsw hpe
  obtain ⟨h0, h1, h2, h3, h4⟩ := hpe
  have hb : (2 : Nat) ^ 60 = 1152921504606846976 ∧ (2 : Nat) ^ 61 = 2305843009213693952 ∧ (2 : Nat) ^ 62 = 4611686018427387904 ∧ (2 : Nat) ^ 63 = 9223372036854775808 := by decide
  obtain ⟨g1, g2, g3, g4⟩ := hb
  rw [g1] at h1; rw [g2] at h2; rw [g3] at h3; rw [g4] at h4
  have k1 : (x / 2 &&& 6148914691236517205) + (x &&& 6148914691236517205) < 18446744073709551616 := by omega
  have l3 : ((x / 2 &&& 6148914691236517205) + (x &&& 6148914691236517205)) / 4 &&& 3689348814741910323 ≤ 3689348814741910323 := Nat.and_le_right
  have l4 : ((x / 2 &&& 6148914691236517205) + (x &&& 6148914691236517205)) &&& 3689348814741910323 ≤ 3689348814741910323 := Nat.and_le_right
  have e1 : IntKind.u64.wrap (bits .and .u64 ((x : Int) / 2) 6148914691236517205 + bits .and .u64 (x : Int) 6148914691236517205) = (((x / 2 &&& 6148914691236517205) + (x &&& 6148914691236517205) : Nat) : Int) := by
    have a := half64 x 2 6148914691236517205 hx (by omega)
    have b := and64 x 6148914691236517205 hx (by omega)
    have c := sum64 _ _ k1
    simp only [Int.cast_ofNat_Int] at a b
    rw [a, b, c]
  generalize (x / 2 &&& 6148914691236517205) + (x &&& 6148914691236517205) = x1 at *
  have e2 : IntKind.u64.wrap (bits .and .u64 ((x1 : Int) / 4) 3689348814741910323 + bits .and .u64 (x1 : Int) 3689348814741910323) = (((x1 / 4 &&& 3689348814741910323) + (x1 &&& 3689348814741910323) : Nat) : Int) := by
    have a := half64 x1 4 3689348814741910323 k1 (by omega)
    have b := and64 x1 3689348814741910323 k1 (by omega)
    have c := sum64 (x1 / 4 &&& 3689348814741910323) (x1 &&& 3689348814741910323) (by omega)
    simp only [Int.cast_ofNat_Int] at a b
    rw [a, b, c]
  have k2 : (x1 / 4 &&& 3689348814741910323) + (x1 &&& 3689348814741910323) < 7378697629483820647 := by omega
  generalize (x1 / 4 &&& 3689348814741910323) + (x1 &&& 3689348814741910323) = x2 at *
  have e3 : bits .and .u64 (IntKind.u64.wrap ((x2 : Int) / 16 + (x2 : Int))) 1085102592571150095 = ((swar3 x : Nat) : Int) := by
    have c : IntKind.u64.wrap ((x2 : Int) / 16 + (x2 : Int)) = ((x2 / 16 + x2 : Nat) : Int) := by rw [IntKind.wrap_u64]; omega
    have b := and64 (x2 / 16 + x2) 1085102592571150095 (by omega) (by omega)
    simp only [Int.cast_ofNat_Int] at b
    rw [c, b, hsw]
  generalize swar3 x = y at *
  have e4 : IntKind.u64.wrap ((y : Int) + (y : Int) / 256) = ((y + y / 256 : Nat) : Int) := by rw [IntKind.wrap_u64]; omega
  generalize y + y / 256 = y1 at *
  have e5 : IntKind.u64.wrap ((y1 : Int) + (y1 : Int) / 65536) = ((y1 + y1 / 65536 : Nat) : Int) := by rw [IntKind.wrap_u64]; omega
  generalize y1 + y1 / 65536 = y2 at *
  have e6 : IntKind.u64.wrap ((y2 : Int) + (y2 : Int) / 4294967296) = ((y2 + y2 / 4294967296 : Nat) : Int) := by rw [IntKind.wrap_u64]; omega
  generalize y2 + y2 / 4294967296 = y3 at *
  exact pop64_core x x1 x2 y y1 y2 y3 (popc x) w e1 e2 e3 e4 e5 e6 (by rw [i64and127 y3 h4, h0]) h4

set_option maxHeartbeats 400000 in
theorem pop_any (x : Nat) (hx : x < 18446744073709551616) (w : World) :
    Calls Tryd.prog 46 #[.int .u64 x] w fun e w' => e = .returned (.int .i64 (popc x)) ∧ w = w' := by
  have c := Lib.hid (pop64_any x hx w)
  go_enter Tryd.func46, Tryd.ntmps46
  go_wp2_with (go_at_call 57; refine c.out.mono ?_; rintro e w' ⟨rfl, rfl⟩)
  go_ret
  exact ⟨rfl, rfl⟩

end Go.Proofs.YtahaecieklfhkaaDoor
