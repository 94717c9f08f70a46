/- The walks of package bits: Put, sought, Next, Count, New. -/
import Derived.Test.YtahaecieklfhkaaDoorBits2
namespace Go.Proofs.YtahaecieklfhkaaDoor
open Go.RowKit

/-- A number is of a set from then on, or isn't; where there is no such number, nothing turns. -/
def setI (l : List Bool) (k : Int) (is : Bool) : List Bool := if inB l.length k then l.set k.toNat is else l
theorem setI_length (l : List Bool) (k : Int) (is : Bool) : (setI l k is).length = l.length := by unfold setI; split <;> simp
theorem set_same {l : List Bool} {k : Nat} (is : Bool) (h : mem l k = is) (hk : k < l.length) : l.set k is = l := by
  rw [mem_get hk] at h
  subst h
  simp
theorem put_any {w : World} {b c : Nat} {l : List Bool} (h : IsSet w b c l) (k : Int) (is : Bool) :
    Calls Tryd.prog 13 #[.pointer (some ⟨b, 0, none⟩), .int .i64 k, .bool is] w fun e w' => e = .returned (.bool (memI l k)) ∧ Mods [c] w w' ∧ IsSet w' b c (setI l k is) := by
  by_cases hs : inB l.length k = true → memI l k = is
  · refine (put_same w b l.length k (memI l k) is (fun _ => h.n) hs (has_any h k)).mono fun e w' ⟨he, n, hw⟩ => ⟨he, ?_, ?_⟩
    · rw [hw]; exact (Mods.refl _ _).drewN n
    · rw [hw]
      have : setI l k is = l := by
        unfold setI
        split
        · rename_i hi
          have hm := hs hi
          unfold memI at hm
          rw [hi, Bool.true_and] at hm
          have := inB_true hi
          exact set_same is hm (by omega)
        · rfl
      rw [this]; exact h.drewN n
  · have hi : inB l.length k = true := by
      cases hi : inB l.length k
      · exact absurd (fun h => by rw [hi] at h; cases h) hs
      · rfl
    have hne : memI l k ≠ is := fun e => hs (fun _ => e)
    have hc := has_any h k
    have hn := h.n
    obtain ⟨ws, rest, cap, h1, h2, h3, h4, h5, h6, h7, h8⟩ := h
    have hb := inB_true hi
    obtain ⟨j, rfl⟩ := Int.eq_ofNat_of_zero_le hb.1
    have hj : j / 64 < ws.length := by rw [h1.len]; omega
    have hjl : j < l.length := by omega
    have hm : memI l (j : Int) = mem l j := memI_nat l j
    have hpow : (2 : Nat) ^ (j % 64) < 2 ^ 64 := Nat.pow_lt_pow_right (by decide) (by omega)
    have hp64 : (2 : Nat) ^ 64 = 18446744073709551616 := by decide
    have hx := h1.lt (j / 64)
    have hy : bits .xor .u64 ((wd ws (j / 64) : Nat) : Int) ((2 ^ (j % 64) : Nat) : Int) = ((wd ws (j / 64) ^^^ 2 ^ (j % 64) : Nat) : Int) := bits_xor_u64_nat _ _ (by omega) (by omega)
    have his : is = !memI l (j : Int) := by cases is <;> cases hq : memI l (j : Int) <;> simp_all
    subst his
    refine (put_turn w b c j ws.length cap (wd ws (j / 64)) l.length _ _ _ hn (h7.cell rfl) (word_cell h8 hj) (h8.free _) hj (by omega) hi rfl hy hc).mono fun e w' ⟨he, n, hw⟩ => ⟨he, ?_, ?_⟩
    · rw [hw]; exact ((Mods.refl _ _).setCell (.inl (by simp)) _).drewN n
    · rw [hw]
      refine IsSet.drewN ?_ n
      have e1 : setI l (j : Int) (!memI l (j : Int)) = l.set j (!memI l (j : Int)) := by unfold setI; rw [if_pos hi, Int.toNat_natCast]
      have hr := rep_put h1 hjl (is := !memI l (j : Int)) (by rw [hm]; cases mem l j <;> simp)
      rw [e1]
      refine ⟨_, rest, cap, hr, by simpa using h2, by simpa using h3, h4, by simpa using h5, h6, ?_, ?_⟩
      · have := h7.setOther (p := ⟨c, j / 64, none⟩) h4 (.int .u64 ((wd ws (j / 64) ^^^ 2 ^ (j % 64) : Nat) : Int))
        simpa using this
      · have := h8.set (j / 64) (.int .u64 ((wd ws (j / 64) ^^^ 2 ^ (j % 64) : Nat) : Int))
        rw [List.set_append, if_pos (by simpa using hj), ← List.map_set] at this
        exact this

theorem shl_shr (X f : Nat) (hX : X < 18446744073709551616) : IntKind.u64.wrap ((X : Int) / 2 ^ f * 2 ^ f) = ((X / 2 ^ f * 2 ^ f : Nat) : Int) := by
  have h1 : ((2 ^ f : Nat) : Int) = (2 : Int) ^ f := by simp
  rw [← h1, ← Int.natCast_ediv, ← Int.natCast_mul, IntKind.wrap_u64]
  have := Nat.div_mul_le_self X (2 ^ f)
  generalize X / 2 ^ f * 2 ^ f = q at *
  omega

theorem xor_ones (x : Nat) (hx : x < 2 ^ 64) : 18446744073709551615 ^^^ x = 18446744073709551615 - x := by
  apply Nat.eq_of_testBit_eq
  intro i
  have h64 : (2 : Nat) ^ 64 = 18446744073709551616 := by decide
  by_cases hi : i < 64
  · rw [compl_bit x i hx hi, Nat.testBit_xor]
    have e : (18446744073709551615 : Nat).testBit i = true := by
      have := compl_bit 0 i (by decide) hi
      simpa using this
    rw [e]; simp
  · have hp : 2 ^ 64 ≤ 2 ^ i := Nat.pow_le_pow_right (by decide) (by omega)
    rw [Nat.testBit_lt_two_pow (Nat.lt_of_lt_of_le (show 18446744073709551615 - x < 2 ^ 64 by omega) hp),
      Nat.testBit_lt_two_pow (Nat.lt_of_lt_of_le (Nat.xor_lt_two_pow (show 18446744073709551615 < 2 ^ 64 by decide) hx) hp)]
theorem not64 (x : Nat) (hx : x < 18446744073709551616) : bits .xor .u64 IntKind.u64.max (x : Int) = ((18446744073709551615 - x : Nat) : Int) := by
  have e : IntKind.u64.max = ((18446744073709551615 : Nat) : Int) := by decide
  have h := bits_xor_u64_nat 18446744073709551615 x (by decide) hx
  rw [e, h, xor_ones x (by have : (2 : Nat) ^ 64 = 18446744073709551616 := by decide
                           omega)]

set_option maxHeartbeats 400000 in
theorem sought_at (w : World) (b c j m cap x : Nat) (f : Int) (is : Bool) (a1 : w.cell? ⟨b, 1, none⟩ = some (.slice (some ⟨c, 0, none⟩) m cap))
    (a2 : w.cell? ⟨c, j, none⟩ = some (.int .u64 x)) (hm : j < m) (_hmax : m ≤ 64) (hf0 : 0 ≤ f) (hf : f < 64) (hx : x < 18446744073709551616) :
    Calls Tryd.prog 44 #[.pointer (some ⟨b, 0, none⟩), .int .i64 j, .int .i64 f, .bool is] w fun e w' => e = .returned (.int .u64 (soughtW x f.toNat is : Nat)) ∧ w = w' := by
  have hn := not64 x hx
  cases is
  all_goals
    go_enter Tryd.func44, Tryd.ntmps44
    go_wp2
    go_ret
  · refine ⟨?_, rfl⟩
    show Ending.returned (.int .u64 _) = _
    rw [shl_shr _ _ (by omega)]
    simp [soughtW]
  · refine ⟨?_, rfl⟩
    show Ending.returned (.int .u64 _) = _
    rw [shl_shr _ _ hx]
    simp [soughtW]

/-- What Next answers. -/
def nextI (l : List Bool) (from_ : Int) (is : Bool) : Option Nat := nextL l from_.toNat is

theorem next_step_zero {ws : List Nat} {l : List Bool} (h : Rep ws l) {F j f : Nat} {is : Bool}
    (hinv : ∀ k, F ≤ k → k < 64 * j + f % 64 → k < l.length → mem l k ≠ is) (h0 : soughtW (wd ws j) (f % 64) is = 0) :
    ∀ k, F ≤ k → k < 64 * (j + 1) → k < l.length → mem l k ≠ is := by
  intro k h1 h2 h3
  by_cases hk : k < 64 * j + f % 64
  · exact hinv k h1 hk h3
  · rw [← h.bit k]
    unfold bitOf
    have e1 : k / 64 = j := by omega
    have := sought_zero (h.lt j) h0 (k % 64) (by omega) (by omega)
    rw [e1]; exact this
theorem next_step_some {ws : List Nat} {l : List Bool} (h : Rep ws l) {F j f : Nat} {is : Bool} (hp : F ≤ 64 * j + f % 64)
    (hinv : ∀ k, F ≤ k → k < 64 * j + f % 64 → k < l.length → mem l k ≠ is) (h0 : soughtW (wd ws j) (f % 64) is ≠ 0) :
    (64 * j + Lib.ctz 64 (soughtW (wd ws j) (f % 64) is) < l.length → nextL l F is = some (64 * j + Lib.ctz 64 (soughtW (wd ws j) (f % 64) is))) ∧
      (l.length ≤ 64 * j + Lib.ctz 64 (soughtW (wd ws j) (f % 64) is) → nextL l F is = none) ∧ Lib.ctz 64 (soughtW (wd ws j) (f % 64) is) < 64 := by
  obtain ⟨a, b, c, d⟩ := sought_first (h.lt j) h0
  generalize Lib.ctz 64 (soughtW (wd ws j) (f % 64) is) = t at *
  have hall : ∀ k, F ≤ k → k < 64 * j + t → k < l.length → mem l k ≠ is := by
    intro k h1 h2 h3
    by_cases hk : k < 64 * j + f % 64
    · exact hinv k h1 hk h3
    · rw [← h.bit k]
      unfold bitOf
      have e1 : k / 64 = j := by omega
      have := d (k % 64) (by omega) (by omega)
      rw [e1]; exact this
  refine ⟨fun hl => ?_, fun hl => ?_, a⟩
  · refine nextL_some (by omega) hl ?_ (fun k h1 h2 => hall k h1 h2 (by omega))
    rw [← h.bit]
    unfold bitOf
    have e1 : (64 * j + t) / 64 = j := by omega
    have e2 : (64 * j + t) % 64 = t := by omega
    rw [e1, e2]; exact c
  · exact nextL_none (fun k h1 h2 => hall k h1 (by omega) h2)

/-- The answer of Next: the number, and whether there is one. -/
def nxK (r : Option Nat) : Nat := r.getD 0
def nxB (r : Option Nat) : Bool := r.isSome

set_option maxHeartbeats 1000000 in
theorem next_any {w : World} {b c : Nat} {l : List Bool} (h : IsSet w b c l) (hT : Tab w) (from_ : Int) (is : Bool) :
    Calls Tryd.prog 15 #[.pointer (some ⟨b, 0, none⟩), .int .i64 from_, .bool is] w fun e w' => e = .returned (.tuple #[.int .i64 (nxK (nextI l from_ is) : Nat), .bool (nxB (nextI l from_ is))]) ∧ w = w' := by
  have hs := Lib.hid h
  have hn := h.n
  obtain ⟨ws, rest, cap, h1, h2, h3, h4, h5, h6, h7, h8⟩ := h
  have a1 := h7.cell (i := 1) rfl
  have hlen := h1.len
  have hlen2 : ws.length ≤ 64 := by omega
  have HL := Lib.hid hlen
  clear hlen
  have HB := Lib.hid h8
  clear h7 h8
  have HT := Lib.hid hT
  clear hT
  obtain ⟨F, hF⟩ : ∃ F : Nat, F = from_.toNat := ⟨_, rfl⟩
  have hmax : (if from_ < 0 then 0 else from_) = (F : Int) := by split <;> omega
  unfold nextI
  rw [← hF]
  clear hF
  by_cases hr : F < l.length
  · have hi : inB (l.length : Int) (F : Int) = true := by simp [inB]; omega
    go_enter Tryd.func15, Tryd.ntmps15
    go_wp2_with (first
      | (go_at_call 42; refine (is_any hs.out _).mono ?_; rintro e w' ⟨rfl, rfl⟩))
    clear hmax
    go_loop [1, 8] (fun fr wv => ∃ j f : Nat, j ≤ ws.length ∧ wv = .int .i64 j ∧ fr = .int .i64 f ∧ f < 4096 ∧ F ≤ 64 * j + f % 64 ∧ Hid (∀ k, F ≤ k → k < 64 * j + f % 64 → k < l.length → mem l k ≠ is) ∧ (j = ws.length → f = 0))
      (fun _ wv => ws.length - (intOf wv).toNat)
    case atStart => exact ⟨F / 64, F, by have := HL.out; omega, by go_num, rfl, by omega, by omega, fun k hk1 hk2 => by omega, by have := HL.out; omega⟩
    case round =>
      obtain ⟨j, f, hj, rfl, rfl, hf, hp, hinv, hend⟩ := hrel
      by_cases hlt : j < ws.length
      · have hcell := word_cell HB.out hlt
        have hx := h1.lt j
        rw [show (2 : Nat) ^ 64 = 18446744073709551616 from rfl] at hx
        have HZ := Lib.hid (next_step_zero h1 (F := F) (j := j) (f := f) (is := is) hinv.out)
        have HS := Lib.hid (next_step_some h1 (F := F) (j := j) (f := f) (is := is) hp hinv.out)
        have hso := soughtW_lt (wd ws j) (f % 64) is (h1.lt j)
        rw [show (2 : Nat) ^ 64 = 18446744073709551616 from rfl] at hso
        have e64 : (((f : Int) % 64).toNat) = f % 64 := by omega
        have hfb : 0 ≤ (f : Int) % 64 := by omega
        generalize hq : soughtW (wd ws j) (f % 64) is = q at *
        have HQ := Lib.hid hq
        clear hq
        have E64 := Lib.hid e64
        clear e64
        by_cases hq0 : q = 0
        · subst hq0
          go_wp2_with (first
            | (go_at_call 44; refine (sought_at _ b c j ws.length cap (wd ws j) _ is a1 hcell hlt hlen2 (by omega) (by omega) hx).mono ?_; rintro e w' ⟨rfl, rfl⟩; rw [E64.out, HQ.out]))
          go_round
          case rel => exact ⟨j + 1, 0, by omega, by go_num, rfl, by omega, by omega, HZ.out (by trivial), fun _ => rfl⟩
          case measure => simp [intOf]; omega
        · have hne : ((q : Int) != 0) = true := by simp; omega
          obtain ⟨g1, g2, g3⟩ := HS.out hq0
          have G1 := Lib.hid g1
          have G2 := Lib.hid g2
          clear g1 g2
          by_cases hin : 64 * j + Lib.ctz 64 q < l.length
          · have hi2 : inB (l.length : Int) ((j : Int) * 64 + (Lib.ctz 64 q : Int)) = true := by simp [inB]; omega
            go_wp2_with (first
              | (go_at_call 44; refine (sought_at _ b c j ws.length cap (wd ws j) _ is a1 hcell hlt hlen2 (by omega) (by omega) hx).mono ?_; rintro e w' ⟨rfl, rfl⟩; rw [E64.out, HQ.out])
              | (go_at_call 45; refine (tz_any q hso hq0 _ HT.out).mono ?_; rintro e w' ⟨rfl, rfl⟩)
              | (go_at_call 42; refine (is_any hs.out _).mono ?_; rintro e w' ⟨rfl, rfl⟩))
            go_ret2
            refine ⟨?_, rfl⟩
            rw [G1.out hin]
            simp [nxK, nxB]
            omega
          · have hi2 : inB (l.length : Int) ((j : Int) * 64 + (Lib.ctz 64 q : Int)) = false := by simp [inB]; omega
            go_wp2_with (first
              | (go_at_call 44; refine (sought_at _ b c j ws.length cap (wd ws j) _ is a1 hcell hlt hlen2 (by omega) (by omega) hx).mono ?_; rintro e w' ⟨rfl, rfl⟩; rw [E64.out, HQ.out])
              | (go_at_call 45; refine (tz_any q hso hq0 _ HT.out).mono ?_; rintro e w' ⟨rfl, rfl⟩)
              | (go_at_call 42; refine (is_any hs.out _).mono ?_; rintro e w' ⟨rfl, rfl⟩))
            go_ret2
            refine ⟨?_, rfl⟩
            rw [G2.out (by omega)]
            rfl
      · have hf0 := hend (by omega)
        go_wp2
        go_ret2
        refine ⟨?_, rfl⟩
        rw [nextL_none (fun k hk1 hk2 => hinv.out k hk1 (by have := HL.out; omega) hk2)]
        rfl
  · have hi : inB (l.length : Int) (F : Int) = false := by simp [inB]; omega
    go_enter Tryd.func15, Tryd.ntmps15
    go_wp2_with (first
      | (go_at_call 42; refine (is_any hs.out _).mono ?_; rintro e w' ⟨rfl, rfl⟩))
    go_ret2
    refine ⟨?_, rfl⟩
    rw [nextL_none (fun k hk1 hk2 => by omega)]
    rfl
end Go.Proofs.YtahaecieklfhkaaDoor
