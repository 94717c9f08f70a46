/- The walks of package bits: one set, its numbers one by one. -/
import Derived.Test.YtahaecieklfhkaaDoorBits1
namespace Go.Proofs.YtahaecieklfhkaaDoor
open Go.RowKit

/-- A set lies at block b, its words at block c: it is the set l. -/
def IsSet (w : World) (b c : Nat) (l : List Bool) : Prop :=
  ∃ (ws : List Nat) (rest : List Value) (cap : Nat), Rep ws l ∧ 1 ≤ l.length ∧ l.length ≤ 4096 ∧ b ≠ c ∧ ws.length ≤ cap ∧ cap ≤ maxLen ∧
    Blk w b 78 [.int .i64 l.length, .slice (some ⟨c, 0, none⟩) ws.length cap] ∧ Blk w c 79 (ws.map (fun x => Value.int .u64 (x : Nat)) ++ rest)
theorem IsSet.keep {w w1 : World} {b c : Nat} {l : List Bool} (h : IsSet w b c l) {L : List Nat} (hm : Mods L w w1) (hb : b ∉ L) (hc : c ∉ L) : IsSet w1 b c l := by
  obtain ⟨ws, rest, cap, h1, h2, h3, h4, h5, h6, h7, h8⟩ := h
  exact ⟨ws, rest, cap, h1, h2, h3, h4, h5, h6, h7.keep hm hb, h8.keep hm hc⟩
theorem IsSet.drewN {w : World} {b c : Nat} {l : List Bool} (h : IsSet w b c l) (n : Nat) : IsSet (w.drewN n) b c l := h
theorem IsSet.lt {w : World} {b c : Nat} {l : List Bool} (h : IsSet w b c l) : b < w.heap.size ∧ c < w.heap.size ∧ b ≠ c := by
  obtain ⟨ws, rest, cap, h1, h2, h3, h4, h5, h6, h7, h8⟩ := h; exact ⟨h7.lt, h8.lt, h4⟩
theorem IsSet.len {w : World} {b c : Nat} {l : List Bool} (h : IsSet w b c l) : 1 ≤ l.length ∧ l.length ≤ 4096 := by
  obtain ⟨ws, rest, cap, h1, h2, h3, h4, h5, h6, h7, h8⟩ := h; exact ⟨h2, h3⟩
theorem IsSet.n {w : World} {b c : Nat} {l : List Bool} (h : IsSet w b c l) : w.cell? ⟨b, 0, none⟩ = some (.int .i64 l.length) := by
  obtain ⟨ws, rest, cap, h1, h2, h3, h4, h5, h6, h7, h8⟩ := h; exact h7.cell rfl
theorem word_cell {w : World} {c : Nat} {ws : List Nat} {rest : List Value} (h : Blk w c 79 (ws.map (fun x => Value.int .u64 (x : Nat)) ++ rest)) {i : Nat} (hi : i < ws.length) :
    w.cell? ⟨c, i, none⟩ = some (.int .u64 (wd ws i : Nat)) := by
  apply h.cell
  rw [List.getElem?_append_left (by simpa using hi), List.getElem?_map, List.getElem?_eq_getElem hi, wd_get hi]
  rfl

set_option maxHeartbeats 400000 in
theorem size_nil (w : World) :
    Calls Tryd.prog 22 #[.pointer none] w fun e w' => e = .returned (.int .i64 0) ∧ w = w' := by
  go_enter Tryd.func22, Tryd.ntmps22
  go_wp2
  go_ret
  exact ⟨rfl, rfl⟩

set_option maxHeartbeats 400000 in
theorem size_at (w : World) (b : Nat) (n : Int) (h : w.cell? ⟨b, 0, none⟩ = some (.int .i64 n)) :
    Calls Tryd.prog 22 #[.pointer (some ⟨b, 0, none⟩)] w fun e w' => e = .returned (.int .i64 n) ∧ w = w' := by
  go_enter Tryd.func22, Tryd.ntmps22
  go_wp2
  go_ret
  exact ⟨rfl, rfl⟩
theorem size_any {w : World} {b c : Nat} {l : List Bool} (h : IsSet w b c l) :
    Calls Tryd.prog 22 #[.pointer (some ⟨b, 0, none⟩)] w fun e w' => e = .returned (.int .i64 l.length) ∧ w = w' := size_at w b _ h.n

/-- Is there such a number? -/
def inB (n k : Int) : Bool := decide (0 ≤ k) && decide (k < n)
theorem inB_true {n k : Int} (h : inB n k = true) : 0 ≤ k ∧ k < n := by simpa [inB] using h
theorem inB_false {n k : Int} (h : inB n k = false) : k < 0 ∨ n ≤ k := by
  simp only [inB, Bool.and_eq_false_iff, decide_eq_false_iff_not] at h; omega

set_option maxHeartbeats 400000 in
theorem is_at (w : World) (b : Nat) (n k : Int) (h : w.cell? ⟨b, 0, none⟩ = some (.int .i64 n)) :
    Calls Tryd.prog 42 #[.pointer (some ⟨b, 0, none⟩), .int .i64 k] w fun e w' => e = .returned (.bool (inB n k)) ∧ w = w' := by
  by_cases h0 : 0 ≤ k
  · go_enter Tryd.func42, Tryd.ntmps42
    go_wp2_with (go_at_call 22; refine (size_at _ _ _ h).mono ?_; rintro e w' ⟨rfl, rfl⟩)
    go_ret
    exact ⟨by simp [h0, inB], rfl⟩
  · have hd : decide (0 ≤ k) = false := by simpa using h0
    go_enter Tryd.func42, Tryd.ntmps42
    go_wp2_with (go_at_call 22; refine (size_at _ _ _ h).mono ?_; rintro e w' ⟨rfl, rfl⟩)
    go_ret
    exact ⟨by simp [inB, hd], rfl⟩
set_option maxHeartbeats 400000 in
theorem is_nil (w : World) (k : Int) :
    Calls Tryd.prog 42 #[.pointer none, .int .i64 k] w fun e w' => e = .returned (.bool false) ∧ w = w' := by
  by_cases h0 : 0 ≤ k
  · go_enter Tryd.func42, Tryd.ntmps42
    go_wp2_with (go_at_call 22; refine (size_nil _).mono ?_; rintro e w' ⟨rfl, rfl⟩)
    go_ret
    exact ⟨by simp [h0], rfl⟩
  · have hd : decide (0 ≤ k) = false := by simpa using h0
    go_enter Tryd.func42, Tryd.ntmps42
    go_wp2_with (go_at_call 22; refine (size_nil _).mono ?_; rintro e w' ⟨rfl, rfl⟩)
    go_ret
    exact ⟨rfl, rfl⟩
theorem is_any {w : World} {b c : Nat} {l : List Bool} (h : IsSet w b c l) (k : Int) :
    Calls Tryd.prog 42 #[.pointer (some ⟨b, 0, none⟩), .int .i64 k] w fun e w' => e = .returned (.bool (inB l.length k)) ∧ w = w' := is_at w b _ k h.n

theorem wrap_bit (k : Int) : IntKind.u64.wrap (2 ^ (k % 64).toNat) = ((2 ^ (k.toNat % 64) : Nat) : Int) ∨ k < 0 := by
  rcases Int.lt_or_le k 0 with h | h
  · exact .inr h
  · left
    obtain ⟨n, rfl⟩ := Int.eq_ofNat_of_zero_le h
    have e : ((n : Int) % 64).toNat = n % 64 := by omega
    rw [e, IntKind.wrap_u64, Int.toNat_natCast]
    have h1 : 2 ^ (n % 64) < 2 ^ 64 := Nat.pow_lt_pow_right (by decide) (by omega)
    have h2 : ((2 ^ (n % 64) : Nat) : Int) = (2 : Int) ^ (n % 64) := by simp
    rw [← h2]
    have : (2 : Nat) ^ 64 = 18446744073709551616 := by decide
    generalize 2 ^ (n % 64) = q at *
    omega
set_option maxHeartbeats 400000 in
theorem bit_any (w : World) (k : Int) (h0 : 0 ≤ k) (h1 : k < 4096) :
    Calls Tryd.prog 43 #[.int .i64 k] w fun e w' => e = .returned (.tuple #[.int .i64 (k / 64), .int .u64 ((2 ^ (k.toNat % 64) : Nat) : Int)]) ∧ ∃ n, w' = w.drewN n := by
  have hw : IntKind.u64.wrap (2 ^ (k % 64).toNat) = ((2 ^ (k.toNat % 64) : Nat) : Int) := by rcases wrap_bit k with h | h; exact h; omega
  generalize ((2 ^ (k.toNat % 64) : Nat) : Int) = z at *
  go_enter Tryd.func43, Tryd.ntmps43
  go_wp2
  go_quiet (fail)
  go_wp2
  go_ret2
  exact ⟨rfl, _, rfl⟩

theorem and_pow (x i : Nat) (hx : x < 18446744073709551616) (hi : i < 64) : (bits .and .u64 (x : Int) ((2 ^ i : Nat) : Int) != 0) = x.testBit i := by
  have h1 : 2 ^ i < 2 ^ 64 := Nat.pow_lt_pow_right (by decide) hi
  have h2 : (2 : Nat) ^ 64 = 18446744073709551616 := by decide
  rw [and64 x (2 ^ i) hx (by omega), nat_bit, Nat.testBit_eq_decide_div_mod_eq]
  have h3 : 0 < 2 ^ i := Nat.pow_pos (by decide)
  generalize 2 ^ i = q at *
  rcases Nat.mod_two_eq_zero_or_one (x / q) with e | e
  · rw [e]; simp
  · rw [e]; simp; omega

set_option maxHeartbeats 400000 in
theorem has_in (w : World) (b c k m cap x : Nat) (n : Int) (z : Int) (a0 : w.cell? ⟨b, 0, none⟩ = some (.int .i64 n)) (a1 : w.cell? ⟨b, 1, none⟩ = some (.slice (some ⟨c, 0, none⟩) m cap))
    (a2 : w.cell? ⟨c, k / 64, none⟩ = some (.int .u64 x)) (hm : k / 64 < m) (hk : k < 4096) (hi : inB n k = true)
    (hz : z = ((2 ^ (k % 64) : Nat) : Int)) :
    Calls Tryd.prog 14 #[.pointer (some ⟨b, 0, none⟩), .int .i64 k] w fun e w' => e = .returned (.bool (bits .and .u64 (x : Int) z != 0)) ∧ ∃ n, w' = w.drewN n := by
  have HZ := Lib.hid hz
  clear hz
  go_enter Tryd.func14, Tryd.ntmps14
  go_wp2_with (first
    | (go_at_call 42; refine (is_at _ _ _ _ a0).mono ?_; rintro e w' ⟨rfl, rfl⟩)
    | (go_at_call 43; refine (bit_any _ _ (by omega) (by omega)).mono ?_; rintro e w' ⟨rfl, nq, rfl⟩; rw [Int.toNat_natCast, ← HZ.out]))
  go_ret
  exact ⟨rfl, _, rfl⟩
set_option maxHeartbeats 400000 in
theorem has_out (w : World) (b : Nat) (n k : Int) (a0 : w.cell? ⟨b, 0, none⟩ = some (.int .i64 n)) (hi : inB n k = false) :
    Calls Tryd.prog 14 #[.pointer (some ⟨b, 0, none⟩), .int .i64 k] w fun e w' => e = .returned (.bool false) ∧ w = w' := by
  go_enter Tryd.func14, Tryd.ntmps14
  go_wp2_with (first
    | (go_at_call 42; refine (is_at _ _ _ _ a0).mono ?_; rintro e w' ⟨rfl, rfl⟩))
  go_ret
  exact ⟨rfl, rfl⟩
set_option maxHeartbeats 400000 in
theorem has_nil (w : World) (k : Int) :
    Calls Tryd.prog 14 #[.pointer none, .int .i64 k] w fun e w' => e = .returned (.bool false) ∧ w = w' := by
  go_enter Tryd.func14, Tryd.ntmps14
  go_wp2_with (first
    | (go_at_call 42; refine (is_nil _ _).mono ?_; rintro e w' ⟨rfl, rfl⟩))
  go_ret
  exact ⟨rfl, rfl⟩

/-- Is a whole number of a set? -/
def memI (l : List Bool) (k : Int) : Bool := inB l.length k && mem l k.toNat
theorem memI_nat (l : List Bool) (k : Nat) : memI l k = mem l k := by
  unfold memI inB
  rw [Int.toNat_natCast]
  by_cases h : k < l.length
  · simp [h]
  · rw [mem_out (by omega)]; simp
theorem has_any {w : World} {b c : Nat} {l : List Bool} (h : IsSet w b c l) (k : Int) :
    Calls Tryd.prog 14 #[.pointer (some ⟨b, 0, none⟩), .int .i64 k] w fun e w' => e = .returned (.bool (memI l k)) ∧ ∃ n, w' = w.drewN n := by
  have hn := h.n
  obtain ⟨ws, rest, cap, h1, h2, h3, h4, h5, h6, h7, h8⟩ := h
  unfold memI
  cases hi : inB l.length k
  · exact (has_out w b _ k hn hi).mono fun e w' ⟨he, hw⟩ => ⟨by rw [he]; rfl, 0, by rw [← hw]; rfl⟩
  · have hb := inB_true hi
    obtain ⟨j, rfl⟩ := Int.eq_ofNat_of_zero_le hb.1
    have hj : j / 64 < ws.length := by rw [h1.len]; omega
    refine (has_in w b c j ws.length cap (wd ws (j / 64)) _ _ hn (h7.cell rfl) (word_cell h8 hj) hj (by omega) hi rfl).mono fun e w' ⟨he, hw⟩ => ⟨?_, hw⟩
    rw [he, and_pow _ _ (h1.lt _) (by omega), Int.toNat_natCast, ← h1.bit]
    rfl

set_option maxHeartbeats 400000 in
theorem put_same (w : World) (b : Nat) (n k : Int) (was is : Bool) (a0 : ∀ nq, (w.drewN nq).cell? ⟨b, 0, none⟩ = some (.int .i64 n)) (hs : inB n k = true → was = is)
    (c : Calls Tryd.prog 14 #[.pointer (some ⟨b, 0, none⟩), .int .i64 k] w fun e w' => e = .returned (.bool was) ∧ ∃ n, w' = w.drewN n) :
    Calls Tryd.prog 13 #[.pointer (some ⟨b, 0, none⟩), .int .i64 k, .bool is] w fun e w' => e = .returned (.bool was) ∧ ∃ n, w' = w.drewN n := by
  have C := Lib.hid c
  clear c
  have HS := Lib.hid hs
  clear hs
  have HA := Lib.hid a0
  clear a0
  cases hi : inB n k
  · go_enter Tryd.func13, Tryd.ntmps13
    go_wp2_with (first
      | (go_at_call 14; refine C.out.mono ?_; rintro e w' ⟨rfl, nq, rfl⟩)
      | (go_at_call 42; refine (is_at _ _ _ _ (HA.out _)).mono ?_; rintro e w' ⟨rfl, rfl⟩))
    go_ret
    exact ⟨rfl, _, rfl⟩
  · have e := HS.out hi
    subst e
    go_enter Tryd.func13, Tryd.ntmps13
    go_wp2_with (first
      | (go_at_call 14; refine C.out.mono ?_; rintro e w' ⟨rfl, nq, rfl⟩)
      | (go_at_call 42; refine (is_at _ _ _ _ (HA.out _)).mono ?_; rintro e w' ⟨rfl, rfl⟩))
    all_goals go_ret
    all_goals exact ⟨rfl, _, rfl⟩

set_option maxHeartbeats 800000 in
theorem put_turn (w : World) (b c k m cap x : Nat) (n : Int) (z y : Int) (was : Bool) (a0 : w.cell? ⟨b, 0, none⟩ = some (.int .i64 n)) (a1 : w.cell? ⟨b, 1, none⟩ = some (.slice (some ⟨c, 0, none⟩) m cap))
    (a2 : w.cell? ⟨c, k / 64, none⟩ = some (.int .u64 x)) (_f2 : w.frozen? ⟨c, k / 64, none⟩ = false) (hm : k / 64 < m) (hk : k < 4096) (hi : inB n k = true)
    (hz : z = ((2 ^ (k % 64) : Nat) : Int)) (_hy : bits .xor .u64 (x : Int) z = y)
    (cc : Calls Tryd.prog 14 #[.pointer (some ⟨b, 0, none⟩), .int .i64 k] w fun e w' => e = .returned (.bool was) ∧ ∃ n, w' = w.drewN n) :
    Calls Tryd.prog 13 #[.pointer (some ⟨b, 0, none⟩), .int .i64 k, .bool (!was)] w fun e w' => e = .returned (.bool was) ∧ ∃ n, w' = (w.setCell ⟨c, k / 64, none⟩ (.int .u64 y)).drewN n := by
  have C := Lib.hid cc
  clear cc
  have HZ := Lib.hid hz
  clear hz
  cases was
  all_goals
    go_enter Tryd.func13, Tryd.ntmps13
    go_wp2_with (first
      | (go_at_call 14; refine C.out.mono ?_; rintro e w' ⟨rfl, nq, rfl⟩)
      | (go_at_call 42; refine (is_at _ _ _ _ (by exact a0)).mono ?_; rintro e w' ⟨rfl, rfl⟩)
      | (go_at_call 43; refine (bit_any _ _ (by omega) (by omega)).mono ?_; rintro e w' ⟨rfl, nq, rfl⟩; rw [Int.toNat_natCast, ← HZ.out]))
    go_ret
    exact ⟨rfl, _, rfl⟩
end Go.Proofs.YtahaecieklfhkaaDoor
