/- The plain arithmetic behind math/bits.OnesCount64: summing bits side by side gives how many bits are. No program is named here. -/
import Derived.Test.YtahaecieklfhkaaDoorPBits
namespace Go.Proofs.YtahaecieklfhkaaDoor

/-- f of each of n bytes. -/
def mapB (f : Nat → Nat) : Nat → Nat → Nat
  | 0, _ => 0
  | n + 1, x => f (x % 256) + 256 * mapB f n (x / 256)

theorem mapB_congr (f g : Nat → Nat) (h : ∀ b, b < 256 → f b = g b) : ∀ n x, mapB f n x = mapB g n x
  | 0, _ => rfl
  | n + 1, x => by simp only [mapB]; rw [h _ (by omega), mapB_congr f g h n]
theorem mapB_add (f g : Nat → Nat) : ∀ n x, mapB f n x + mapB g n x = mapB (fun b => f b + g b) n x
  | 0, _ => rfl
  | n + 1, x => by have := mapB_add f g n (x / 256); simp only [mapB]; omega
theorem mapB_comp (f g : Nat → Nat) (hg : ∀ b, b < 256 → g b < 256) : ∀ n x, mapB f n (mapB g n x) = mapB (fun b => f (g b)) n x
  | 0, _ => rfl
  | n + 1, x => by
    have h := hg (x % 256) (by omega)
    have h1 : (g (x % 256) + 256 * mapB g n (x / 256)) % 256 = g (x % 256) := by omega
    have h2 : (g (x % 256) + 256 * mapB g n (x / 256)) / 256 = mapB g n (x / 256) := by omega
    simp only [mapB]
    rw [h1, h2, mapB_comp f g hg n]

theorem lane_bit (a b i : Nat) (h : a < 256) : (a + 256 * b).testBit i = if i < 8 then a.testBit i else b.testBit (i - 8) := by
  have := Nat.testBit_two_pow_mul_add b (i := 8) (b := a) (by omega) i
  rw [← this]; congr 1; omega

theorem and_lane (k b x m M : Nat) (hk : k ≤ 8) (hb : b < 256) (hm : m < 2 ^ (8 - k)) :
    (b + 256 * x) / 2 ^ k &&& (m + 256 * M) = (b / 2 ^ k &&& m) + 256 * (x / 2 ^ k &&& M) := by
  have hm8 : m < 256 := Nat.lt_of_lt_of_le hm (by have := Nat.pow_le_pow_right (n := 2) (by decide) (show 8 - k ≤ 8 by omega); simpa using this)
  have hr : b / 2 ^ k &&& m < 256 := Nat.lt_of_le_of_lt Nat.and_le_right hm8
  apply Nat.eq_of_testBit_eq
  intro i
  rw [Nat.testBit_and, Nat.testBit_div_two_pow, lane_bit b x _ hb, lane_bit m M _ hm8, lane_bit _ _ _ hr]
  by_cases hi : i < 8
  · rw [if_pos hi, if_pos hi, Nat.testBit_and, Nat.testBit_div_two_pow]
    by_cases hik : i + k < 8
    · rw [if_pos hik]
    · have hz : m.testBit i = false := Nat.testBit_lt_two_pow (Nat.lt_of_lt_of_le hm (Nat.pow_le_pow_right (by decide) (by omega)))
      rw [hz]; simp
  · rw [if_neg hi, if_neg hi, if_neg (by omega), Nat.testBit_and, Nat.testBit_div_two_pow]
    congr 2; omega

theorem and_mapB (k m : Nat) (hk : k ≤ 8) (hm : m < 2 ^ (8 - k)) : ∀ n x y, x / 2 ^ k &&& mapB (fun _ => m) n y = mapB (fun b => b / 2 ^ k &&& m) n x
  | 0, _, _ => by simp [mapB]
  | n + 1, x, y => by
    simp only [mapB]
    have e : x = x % 256 + 256 * (x / 256) := by omega
    conv => lhs; lhs; lhs; rw [e]
    rw [and_lane k _ _ m _ hk (by omega) hm, and_mapB k m hk hm n (x / 256)]

theorem fold16 (m : Nat) (g : Nat → Nat) (hg : ∀ b, b < 256 → g b / 16 ≤ 4 ∧ g b % 16 ≤ 4) (hm : m = 15) : ∀ n x y,
    (mapB g n x / 16 + mapB g n x) &&& mapB (fun _ => m) n y = mapB (fun b => g b / 16 + g b % 16) n x
  | 0, _, _ => by simp [mapB]
  | n + 1, x, y => by
    simp only [mapB]
    have ih := fold16 m g hg hm n (x / 256) (y / 256)
    have h0 := hg (x % 256) (by omega)
    generalize hX : mapB g n (x / 256) = X at ih ⊢
    generalize g (x % 256) = c at h0 ⊢
    have hx4 : X % 16 ≤ 4 := by
      rw [← hX]
      cases n with
      | zero => simp [mapB]
      | succ n =>
        simp only [mapB]
        have := hg (x / 256 % 256) (by omega)
        omega
    have e : (c + 256 * X) / 16 + (c + 256 * X) = (c / 16 + c + 16 * (X % 16)) + 256 * (X / 16 + X) := by omega
    have hl := and_lane 0 (c / 16 + c + 16 * (X % 16)) (X / 16 + X) m (mapB (fun _ => m) n (y / 256)) (by omega) (by omega) (by rw [hm]; decide)
    simp only [Nat.pow_zero, Nat.div_one] at hl
    rw [e, hl, ih]
    have e2 : (c / 16 + c + 16 * (X % 16)) &&& m = c / 16 + c % 16 := by
      rw [hm, show (15 : Nat) = 2 ^ 4 - 1 from rfl, Nat.and_two_pow_sub_one_eq_mod]; omega
    rw [e2]

/-- The count of a byte, as the side by side sums give it. -/
def b1 (b : Nat) : Nat := (b / 2 ^ 1 &&& 85) + (b / 2 ^ 0 &&& 85)
def b2 (b : Nat) : Nat := (b / 2 ^ 2 &&& 51) + (b / 2 ^ 0 &&& 51)
def b3 (b : Nat) : Nat := b / 16 + b % 16
def pop8 (b : Nat) : Nat := (List.range 8).countP (fun i => b.testBit i)
theorem byte_all : ∀ b, b < 256 → b1 b < 256 ∧ b2 (b1 b) / 16 ≤ 4 ∧ b2 (b1 b) % 16 ≤ 4 ∧ b3 (b2 (b1 b)) = pop8 b ∧ pop8 b ≤ 8 := by decide +kernel

theorem ones (m : Nat) (y : Nat) : mapB (fun _ => m) 8 y = m * 72340172838076673 := by simp only [mapB]; omega

def swar3 (x : Nat) : Nat := mapB pop8 8 x
theorem swar (x : Nat) (_h : x < 2 ^ 64) :
    let x1 := (x / 2 &&& 6148914691236517205) + (x &&& 6148914691236517205)
    let x2 := (x1 / 4 &&& 3689348814741910323) + (x1 &&& 3689348814741910323)
    (x2 / 16 + x2) &&& 1085102592571150095 = swar3 x := by
  intro x1 x2
  have m0 : (6148914691236517205 : Nat) = mapB (fun _ => 85) 8 0 := by rw [ones]
  have m1 : (3689348814741910323 : Nat) = mapB (fun _ => 51) 8 0 := by rw [ones]
  have m2 : (1085102592571150095 : Nat) = mapB (fun _ => 15) 8 0 := by rw [ones]
  have e1 : x1 = mapB b1 8 x := by
    have a := and_mapB 1 85 (by decide) (by decide) 8 x 0
    have b := and_mapB 0 85 (by decide) (by decide) 8 x 0
    show (x / 2 &&& 6148914691236517205) + (x &&& 6148914691236517205) = _
    simp only [Nat.pow_zero, Nat.div_one, Nat.pow_one] at a b
    rw [m0, a, b, mapB_add]; exact mapB_congr _ _ (fun b _ => by simp [b1]) _ _
  have e2 : x2 = mapB (fun b => b2 (b1 b)) 8 x := by
    have a := and_mapB 2 51 (by decide) (by decide) 8 x1 0
    have b := and_mapB 0 51 (by decide) (by decide) 8 x1 0
    show (x1 / 4 &&& 3689348814741910323) + (x1 &&& 3689348814741910323) = _
    simp only [Nat.pow_zero, Nat.div_one, show (2 : Nat) ^ 2 = 4 from rfl] at a b
    rw [m1, a, b, mapB_add, e1, mapB_comp _ _ (fun b hb => (byte_all b hb).1)]
    exact mapB_congr _ _ (fun b _ => by simp [b2]) _ _
  rw [e2, m2, fold16 15 _ (fun b hb => ⟨(byte_all b hb).2.1, (byte_all b hb).2.2.1⟩) rfl]
  exact mapB_congr _ _ (fun b hb => (byte_all b hb).2.2.2.1) _ _

theorem popN (x : Nat) : ∀ n, (List.range (8 * (n + 1))).countP (fun i => x.testBit i) = pop8 (x % 256) + (List.range (8 * n)).countP (fun i => (x / 256).testBit i) := by
  intro n
  have e : 8 * (n + 1) = 8 + 8 * n := by omega
  rw [e, List.range_add, List.countP_append, List.countP_map]
  congr 1
  · unfold pop8
    apply List.countP_congr
    intro i hi
    have hi := List.mem_range.1 hi
    rw [show (256 : Nat) = 2 ^ 8 from rfl, Nat.testBit_mod_two_pow]; simp [hi]
  · apply List.countP_congr
    intro i _
    simp only [Function.comp]
    rw [show (256 : Nat) = 2 ^ 8 from rfl, Nat.testBit_div_two_pow, Nat.add_comm]

theorem pop_end (x : Nat) (_h : x < 2 ^ 64) :
    let y := swar3 x
    let y1 := y + y / 256
    let y2 := y1 + y1 / 65536
    let y3 := y2 + y2 / 4294967296
    y3 % 128 = popc x ∧ y < 2 ^ 60 ∧ y1 < 2 ^ 61 ∧ y2 < 2 ^ 62 ∧ y3 < 2 ^ 63 := by
  intro y y1 y2 y3
  have hp : popc x = pop8 (x % 256) + (pop8 (x / 256 % 256) + (pop8 (x / 256 / 256 % 256) + (pop8 (x / 256 / 256 / 256 % 256) + (pop8 (x / 256 / 256 / 256 / 256 % 256) + (pop8 (x / 256 / 256 / 256 / 256 / 256 % 256) + (pop8 (x / 256 / 256 / 256 / 256 / 256 / 256 % 256) + pop8 (x / 256 / 256 / 256 / 256 / 256 / 256 / 256 % 256))))))) := by
    unfold popc
    rw [show (64 : Nat) = 8 * (7 + 1) from rfl, popN x 7, show (8 * 7 : Nat) = 8 * (6 + 1) from rfl, popN _ 6, popN _ 5, popN _ 4, popN _ 3, popN _ 2, popN _ 1, popN _ 0]
    simp
  have c0 := (byte_all (x % 256) (by omega)).2.2.2.2
  have c1 := (byte_all (x / 256 % 256) (by omega)).2.2.2.2
  have c2 := (byte_all (x / 256 / 256 % 256) (by omega)).2.2.2.2
  have c3 := (byte_all (x / 256 / 256 / 256 % 256) (by omega)).2.2.2.2
  have c4 := (byte_all (x / 256 / 256 / 256 / 256 % 256) (by omega)).2.2.2.2
  have c5 := (byte_all (x / 256 / 256 / 256 / 256 / 256 % 256) (by omega)).2.2.2.2
  have c6 := (byte_all (x / 256 / 256 / 256 / 256 / 256 / 256 % 256) (by omega)).2.2.2.2
  have c7 := (byte_all (x / 256 / 256 / 256 / 256 / 256 / 256 / 256 % 256) (by omega)).2.2.2.2
  have hy : y = swar3 x := rfl
  have h1 : y1 = y + y / 256 := rfl
  have h2 : y2 = y1 + y1 / 65536 := rfl
  have h3 : y3 = y2 + y2 / 4294967296 := rfl
  clear_value y3 y2 y1 y
  rw [hp]
  simp only [swar3, mapB] at hy
  clear hp
  generalize pop8 (x % 256) = p0 at *
  generalize pop8 (x / 256 % 256) = p1 at *
  generalize pop8 (x / 256 / 256 % 256) = p2 at *
  generalize pop8 (x / 256 / 256 / 256 % 256) = p3 at *
  generalize pop8 (x / 256 / 256 / 256 / 256 % 256) = p4 at *
  generalize pop8 (x / 256 / 256 / 256 / 256 / 256 % 256) = p5 at *
  generalize pop8 (x / 256 / 256 / 256 / 256 / 256 / 256 % 256) = p6 at *
  generalize pop8 (x / 256 / 256 / 256 / 256 / 256 / 256 / 256 % 256) = p7 at *
  have k1 : y / 256 = p1 + 256 * (p2 + 256 * (p3 + 256 * (p4 + 256 * (p5 + 256 * (p6 + 256 * p7))))) := by omega
  have k2 : y1 / 65536 = (p2 + 256 * (p3 + 256 * (p4 + 256 * (p5 + 256 * (p6 + 256 * p7))))) + (p3 + 256 * (p4 + 256 * (p5 + 256 * (p6 + 256 * p7)))) := by omega
  have k3 : y2 / 4294967296 = (p4 + 256 * (p5 + 256 * (p6 + 256 * p7))) + (p5 + 256 * (p6 + 256 * p7)) + (p6 + 256 * p7) + p7 := by omega
  have hb : (2 : Nat) ^ 60 = 1152921504606846976 ∧ (2 : Nat) ^ 61 = 2305843009213693952 ∧ (2 : Nat) ^ 62 = 4611686018427387904 ∧ (2 : Nat) ^ 63 = 9223372036854775808 := by decide
  refine ⟨by omega, by omega, by omega, by omega, by omega⟩
end Go.Proofs.YtahaecieklfhkaaDoor
