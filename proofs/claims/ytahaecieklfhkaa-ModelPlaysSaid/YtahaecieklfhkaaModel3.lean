/- What an update makes of a value: the program's and the document's. -/
import Derived.Test.YtahaecieklfhkaaModel2
namespace Go.Proofs.Ytahaecieklfhkaa
open Go.RowKit

theorem leNum_8 {s : ByteArray} (h : s.size ≤ 8) : leNum s.toList < 18446744073709551616 := by
  have h1 := leNum_lt s.toList
  have h2 : s.toList.length = s.size := by rw [Lib.toList_data]; exact Array.length_toList
  exact Nat.lt_of_lt_of_le h1 (by rw [h2]; exact Nat.le_trans (Nat.pow_le_pow_right (by omega) h) (by decide))
theorem wrap_sum (a b : Nat) : IntKind.u64.wrap ((a : Int) + (b : Int)) = (((a + b) % 18446744073709551616 : Nat) : Int) := by rw [IntKind.wrap_u64]; omega
set_option maxRecDepth 100000 in
set_option maxHeartbeats 1600000 in
theorem msgOn_any {W : World} (old : Option ByteArray) (u : Upd) (hm : mayU old u) (hk1 : 1 ≤ u.kind) (hk3 : u.kind ≤ 3) :
    Calls Try.prog 39 #[.string (old.getD ⟨#[]⟩), .bool old.isSome, updV u] W fun e w' => e = .returned (.tuple #[.string ((onV old u).getD ⟨#[]⟩), .bool (onV old u).isSome]) ∧ Mods [] W w' := by
  obtain ⟨k, key, val, d⟩ := u
  simp only at hk1 hk3
  unfold updV
  rcases (show k = 1 ∨ k = 2 ∨ k = 3 by omega) with rfl | rfl | rfl
  · cases old with
    | none =>
      go_enter Try.func39, Try.ntmps39
      go_wp2_with fail
      go_ret2
      exact ⟨rfl, (Mods.refl _ _).alloc _⟩
    | some v =>
      go_enter Try.func39, Try.ntmps39
      go_wp2_with fail
      go_ret2
      exact ⟨rfl, (Mods.refl _ _).alloc _⟩
  · cases old with
    | none =>
      go_enter Try.func39, Try.ntmps39
      go_wp2_with fail
      go_ret2
      exact ⟨rfl, (Mods.refl _ _).alloc _⟩
    | some v =>
      go_enter Try.func39, Try.ntmps39
      go_wp2_with fail
      go_ret2
      exact ⟨rfl, (Mods.refl _ _).alloc _⟩
  · obtain ⟨w1, hw1⟩ : ∃ w1, W.alloc (.cells #[.int .u8 3, .string key, .string val, .int .u64 d] 30) = w1 := ⟨_, rfl⟩
    have hm1 : Mods [] W w1 := by rw [← hw1]; exact (Mods.refl _ _).alloc _
    have hB1 : Blk w1 W.heap.size 30 [.int .u8 3, .string key, .string val, .int .u64 d] := by rw [← hw1]; exact Blk.new W 30 _
    cases old with
    | none =>
      have hn := Lib.hid (msgNumber_any (W := w1) ⟨#[]⟩ (Nat.zero_le _))
      rw [show numOf ⟨#[]⟩ = none from rfl] at hn
      have b0 := hB1.cell (i := 0) rfl
      obtain ⟨y, hy⟩ : ∃ y, d % 18446744073709551616 = y := ⟨_, rfl⟩
      have hx : IntKind.u64.wrap (d : Int) = (y : Int) := by rw [IntKind.wrap_u64]; omega
      have hyl : y < 18446744073709551616 := by omega
      have hv : onV none ⟨3, key, val, d⟩ = some (num8 y) := by
        unfold onV
        rw [if_neg (by simp), if_neg (by simp), show leNum (Option.getD none (⟨#[]⟩ : ByteArray)).toList = 0 by rw [Lib.toList_data]; rfl, Nat.zero_add, hy]
      rw [hv]
      go_enter Try.func39, Try.ntmps39
      go_wp2_with fail
      refine hn.out.mono ?_
      rintro x w2 ⟨rfl, hm2⟩
      have b3 := (hB1.keep hm2 (by simp)).cell (i := 3) rfl
      go_wp2_with fail
      refine (msgValue_any hyl).mono ?_
      rintro x w3 ⟨rfl, hm3⟩
      go_wp2_with fail
      go_ret2
      exact ⟨by simp, (hm1.trans hm2 (by simp)).trans hm3 (by simp)⟩
    | some v =>
      have h8 : v.size = 8 := hm rfl v rfl
      have hn := Lib.hid (msgNumber_any (W := w1) v (by rw [h8]; decide))
      rw [show numOf v = some (leNum v.toList) by unfold numOf; rw [if_pos h8]] at hn
      have b0 := hB1.cell (i := 0) rfl
      obtain ⟨y, hy⟩ : ∃ y, (leNum v.toList + d) % 18446744073709551616 = y := ⟨_, rfl⟩
      have hx : IntKind.u64.wrap ((leNum v.toList : Int) + (d : Int)) = (y : Int) := by rw [IntKind.wrap_u64]; omega
      have hyl : y < 18446744073709551616 := by omega
      have hv : onV (some v) ⟨3, key, val, d⟩ = some (num8 y) := by
        unfold onV
        rw [if_neg (by simp), if_neg (by simp), Option.getD_some, hy]
      rw [hv]
      clear hy
      go_enter Try.func39, Try.ntmps39
      go_wp2_with fail
      refine hn.out.mono ?_
      rintro x w2 ⟨rfl, hm2⟩
      have b3 := (hB1.keep hm2 (by simp)).cell (i := 3) rfl
      go_wp2_with fail
      refine (msgValue_any hyl).mono ?_
      rintro x w3 ⟨rfl, hm3⟩
      go_wp2_with fail
      go_ret2
      exact ⟨by simp, (hm1.trans hm2 (by simp)).trans hm3 (by simp)⟩

set_option maxRecDepth 100000 in
set_option maxHeartbeats 1600000 in
theorem rOn14_any {W : World} (old : Option ByteArray) (u : Upd) (hm : mayU old u) (hk1 : 1 ≤ u.kind) (hk3 : u.kind ≤ 3) :
    Calls Try.prog 51 #[.string (old.getD ⟨#[]⟩), .bool old.isSome, updV u] W fun e w' => e = .returned (.tuple #[.string ((onV old u).getD ⟨#[]⟩), .bool (onV old u).isSome]) ∧ Mods [] W w' := by
  obtain ⟨k, key, val, d⟩ := u
  simp only at hk1 hk3
  unfold updV
  rcases (show k = 1 ∨ k = 2 ∨ k = 3 by omega) with rfl | rfl | rfl
  · cases old with
    | none =>
      go_enter Try.func51, Try.ntmps51
      go_wp2_with fail
      go_ret2
      exact ⟨rfl, (Mods.refl _ _).alloc _⟩
    | some v =>
      go_enter Try.func51, Try.ntmps51
      go_wp2_with fail
      go_ret2
      exact ⟨rfl, (Mods.refl _ _).alloc _⟩
  · cases old with
    | none =>
      go_enter Try.func51, Try.ntmps51
      go_wp2_with fail
      go_ret2
      exact ⟨rfl, (Mods.refl _ _).alloc _⟩
    | some v =>
      go_enter Try.func51, Try.ntmps51
      go_wp2_with fail
      go_ret2
      exact ⟨rfl, (Mods.refl _ _).alloc _⟩
  · obtain ⟨w1, hw1⟩ : ∃ w1, W.alloc (.cells #[.int .u8 3, .string key, .string val, .int .u64 d] 31) = w1 := ⟨_, rfl⟩
    have hm1 : Mods [] W w1 := by rw [← hw1]; exact (Mods.refl _ _).alloc _
    have hB1 : Blk w1 W.heap.size 31 [.int .u8 3, .string key, .string val, .int .u64 d] := by rw [← hw1]; exact Blk.new W 31 _
    have b0 := hB1.cell (i := 0) rfl
    have b3 := hB1.cell (i := 3) rfl
    cases old with
    | none =>
      obtain ⟨y, hy⟩ : ∃ y, d % 18446744073709551616 = y := ⟨_, rfl⟩
      have hx : IntKind.u64.wrap (d : Int) = (y : Int) := by rw [IntKind.wrap_u64]; omega
      have hyl : y < 18446744073709551616 := by omega
      have hv : onV none ⟨3, key, val, d⟩ = some (num8 y) := by
        unfold onV
        rw [if_neg (by simp), if_neg (by simp), show leNum (Option.getD none (⟨#[]⟩ : ByteArray)).toList = 0 by rw [Lib.toList_data]; rfl, Nat.zero_add, hy]
      rw [hv]
      have hg := Lib.hid (rGet01_any (W := w1) ⟨#[]⟩ (Nat.zero_le _))
      rw [show leNum (ByteArray.toList ⟨#[]⟩) = 0 by rw [Lib.toList_data]; rfl] at hg
      go_enter Try.func51, Try.ntmps51
      go_wp2_with fail
      refine hg.out.mono ?_
      rintro x w2 ⟨rfl, rfl⟩
      go_wp2_with fail
      refine (rPut01_any hyl).mono ?_
      rintro x w3 ⟨rfl, hm3⟩
      go_wp2_with fail
      go_ret2
      exact ⟨by simp, hm1.trans hm3 (by simp)⟩
    | some v =>
      have h8 : v.size = 8 := hm rfl v rfl
      obtain ⟨y, hy⟩ : ∃ y, (leNum v.toList + d) % 18446744073709551616 = y := ⟨_, rfl⟩
      have hx : IntKind.u64.wrap ((leNum v.toList : Int) + (d : Int)) = (y : Int) := by rw [IntKind.wrap_u64]; omega
      have hyl : y < 18446744073709551616 := by omega
      have hv : onV (some v) ⟨3, key, val, d⟩ = some (num8 y) := by
        unfold onV
        rw [if_neg (by simp), if_neg (by simp), Option.getD_some, hy]
      rw [hv]
      clear hy
      have hg := Lib.hid (rGet01_any (W := w1) v (by omega))
      go_enter Try.func51, Try.ntmps51
      go_wp2_with fail
      refine hg.out.mono ?_
      rintro x w2 ⟨rfl, rfl⟩
      go_wp2_with fail
      refine (rPut01_any hyl).mono ?_
      rintro x w3 ⟨rfl, hm3⟩
      go_wp2_with fail
      go_ret2
      exact ⟨by simp, hm1.trans hm3 (by simp)⟩
end Go.Proofs.Ytahaecieklfhkaa
