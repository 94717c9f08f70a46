/- RemapTorn: the pair that was just made. -/
import Derived.Test.YtnpfhfgegjocoaaMC
import Derived.Test.YtnpfhfgegjocoaaMA
import Derived.Test.YtnpfhfgegjocoaaMF
import Derived.Test.YtnpfhfgegjocoaaMG
/- Sums are linear: what a few bytes do to a byte of a sum; of tables' images, at the first four generations. -/
namespace Go.Proofs.Ytnpfhfgegjocoaa

theorem xor_half (a b : Nat) : (a ^^^ b) / 2 = (a / 2) ^^^ (b / 2) := by
  have e : ∀ n : Nat, n / 2 = n >>> 1 := fun n => by rw [Nat.shiftRight_eq_div_pow]
  rw [e, e, e, Nat.shiftRight_xor_distrib]
theorem xor_div256 (a b : Nat) : (a ^^^ b) / 256 = (a / 256) ^^^ (b / 256) := by
  have e : ∀ n : Nat, n / 256 = n >>> 8 := fun n => by rw [Nat.shiftRight_eq_div_pow]
  rw [e, e, e, Nat.shiftRight_xor_distrib]
theorem xor_mod256 (a b : Nat) : (a ^^^ b) % 256 = (a % 256) ^^^ (b % 256) := Nat.xor_mod_two_pow (n := 8)
theorem xor_mod2 (a b : Nat) : (a ^^^ b) % 2 = (a % 2) ^^^ (b % 2) := Nat.xor_mod_two_pow (n := 1)
theorem crcBit_xor (a b : Nat) : crcBit (a ^^^ b) = crcBit a ^^^ crcBit b := by
  unfold crcBit
  rw [xor_half, xor_mod2]
  rcases Nat.mod_two_eq_zero_or_one a with h | h <;> rcases Nat.mod_two_eq_zero_or_one b with g | g <;> rw [h, g]
  · simp
  · simp [Nat.xor_assoc]
  · simp only [show (1 : Nat) ^^^ 0 = 1 by rfl, if_true, show ¬ ((0 : Nat) = 1) by decide, if_false]
    rw [Nat.xor_assoc, Nat.xor_assoc, Nat.xor_comm (b / 2)]
  · simp only [show (1 : Nat) ^^^ 1 = 0 by rfl, if_true, show ¬ ((0 : Nat) = 1) by decide, if_false]
    rw [Nat.xor_assoc, Nat.xor_comm (b / 2), ← Nat.xor_assoc 2197175160, Nat.xor_self, Nat.zero_xor]
theorem crcIt_xor : ∀ (k a b : Nat), crcIt k (a ^^^ b) = crcIt k a ^^^ crcIt k b
  | 0, _, _ => rfl
  | k + 1, a, b => by unfold crcIt; rw [crcBit_xor, crcIt_xor k]
theorem xor_swap (a b c d : Nat) : (a ^^^ b) ^^^ (c ^^^ d) = (a ^^^ c) ^^^ (b ^^^ d) := by
  rw [Nat.xor_assoc, ← Nat.xor_assoc b, Nat.xor_comm b c, Nat.xor_assoc c, ← Nat.xor_assoc]
theorem crcStep_xor (r s x y : Nat) : crcStep (r ^^^ s) (x ^^^ y) = crcStep r x ^^^ crcStep s y := by
  unfold crcStep crcTab
  rw [xor_div256, xor_mod256, xor_swap (r % 256), crcIt_xor, xor_swap]
/-- A sum's state behind so many noughts. -/
def crcZ : Nat → Nat → Nat
  | 0, r => r
  | m + 1, r => crcZ m (crcStep r 0)
theorem crcZ_xor : ∀ (m r s : Nat), crcZ m (r ^^^ s) = crcZ m r ^^^ crcZ m s
  | 0, _, _ => rfl
  | m + 1, r, s => by
    unfold crcZ
    have h := crcStep_xor r s 0 0
    rw [Nat.xor_self] at h
    rw [h, crcZ_xor m]
theorem crcRun_zeros : ∀ (m r : Nat), crcRun r (zerosL m) = crcZ m r
  | 0, _ => rfl
  | m + 1, r => by
    have h := crcRun_zeros m (crcStep r 0)
    unfold zerosL crcRun at *
    rw [List.replicate_succ, List.foldl_cons]
    exact h
/-- A run from whatever state: the state's part, and the text's. -/
theorem crcRun_split : ∀ (l : List UInt8) (r s : Nat), crcRun (r ^^^ s) l = crcZ l.length r ^^^ crcRun s l
  | [], _, _ => rfl
  | b :: l, r, s => by
    have h := crcStep_xor r s 0 b.toNat
    rw [Nat.zero_xor] at h
    have h2 := crcRun_split l (crcStep r 0) (crcStep s b.toNat)
    unfold crcRun at *
    rw [List.foldl_cons, List.foldl_cons, h]
    exact h2
def byt (b v : Nat) : Nat := v / 256 ^ b % 256
theorem byt_xor (b u v : Nat) : byt b (u ^^^ v) = byt b u ^^^ byt b v := by
  unfold byt
  have e : ∀ n : Nat, n / 256 ^ b = n >>> (8 * b) := fun n => by rw [Nat.shiftRight_eq_div_pow, Nat.pow_mul]
  rw [e, e, e, Nat.shiftRight_xor_distrib, xor_mod256]
theorem not32n (a : Nat) (h : a < 4294967296) : 4294967295 - a = 4294967295 ^^^ a := by
  have h := congrArg BitVec.toNat (show BitVec.allOnes 32 ^^^ BitVec.ofNat 32 a = ~~~ BitVec.ofNat 32 a by first | exact BitVec.allOnes_xor | (apply BitVec.eq_of_getLsbD_eq; intro i hi; rw [BitVec.getLsbD_xor, BitVec.getLsbD_not, BitVec.getLsbD_allOnes]; simp [hi]))
  rw [BitVec.toNat_xor, BitVec.toNat_not, BitVec.toNat_allOnes, BitVec.toNat_ofNat, Nat.mod_eq_of_lt (by omega)] at h
  exact h.symm
theorem xor_left_cancel {a b t : Nat} (h : t ^^^ a = t ^^^ b) : a = b := by
  have h2 := congrArg (t ^^^ ·) h
  simp only [← Nat.xor_assoc, Nat.xor_self, Nat.zero_xor] at h2
  exact h2
/-- Bytes of the sums of two texts that begin alike. -/
theorem byt_crc {p u v : List UInt8} (hl : u.length = v.length) {b : Nat} (h : byt b (crcOn 0 (p ++ u)) = byt b (crcOn 0 (p ++ v))) : byt b (crcRun 0 u) = byt b (crcRun 0 v) := by
  unfold crcOn at h
  rw [Nat.sub_zero, not32n _ (crcRun_lt _ _ (by omega)), not32n _ (crcRun_lt _ _ (by omega)), byt_xor, byt_xor] at h
  have h := xor_left_cancel h
  have e : ∀ w : List UInt8, crcRun 4294967295 (p ++ w) = crcZ w.length (crcRun 4294967295 p) ^^^ crcRun 0 w := fun w => by
    rw [← crcRun_split, Nat.xor_zero]
    unfold crcRun
    rw [List.foldl_append]
  rw [e, e, hl, byt_xor, byt_xor] at h
  exact xor_left_cancel h
/-- What two entries do to a sum, with so many noughts behind them. -/
def twoZ (m e x : Nat) : Nat := crcZ m (crcStep (crcStep (crcStep (crcStep 0 e) 0) x) 0)
theorem twoZ_xor (m e x e' x' : Nat) : twoZ m (e ^^^ e') (x ^^^ x') = twoZ m e x ^^^ twoZ m e' x' := by
  unfold twoZ
  have h0 := crcStep_xor 0 0 e e'
  rw [Nat.xor_self] at h0
  have s0 := fun r s => crcStep_xor r s 0 0
  simp only [Nat.xor_self] at s0
  rw [h0, s0, crcStep_xor, s0, crcZ_xor]
theorem twoZ_run {e x : Nat} (he : e < 256) (hx : x < 256) (m : Nat) : crcRun 0 ([UInt8.ofNat e, 0, UInt8.ofNat x, 0] ++ zerosL m) = twoZ m e x := by
  have h : crcRun 0 ([UInt8.ofNat e, 0, UInt8.ofNat x, 0] ++ zerosL m) = crcRun (crcRun 0 [UInt8.ofNat e, 0, UInt8.ofNat x, 0]) (zerosL m) := by unfold crcRun; rw [List.foldl_append]
  rw [h, crcRun_zeros]
  unfold twoZ crcRun
  simp only [List.foldl_cons, List.foldl_nil]
  rw [show (UInt8.ofNat e).toNat = e by simp; omega, show (UInt8.ofNat x).toNat = x by simp; omega]
  rfl
set_option maxRecDepth 100000 in
theorem two_inj : ∀ q ∈ [(92, 2), (90, 2), (88, 0)], ∀ i, i < 256 → byt q.2 (twoZ q.1 (i / 16) (i % 16)) = 0 → i = 0 := by decide +kernel
set_option maxRecDepth 100000 in
theorem one_inj : ∀ m ∈ [94, 92, 90, 88], ∀ b, b < 4 → ∀ i, i < 16 → byt b (twoZ m 0 i) = 0 → i = 0 := by decide +kernel
theorem xor_lt16 {a b : Nat} (ha : a < 16) (hb : b < 16) : a ^^^ b < 16 := Nat.xor_lt_two_pow (n := 4) ha hb
theorem xor_zero_eq {a b : Nat} (h : a ^^^ b = 0) : a = b := by
  have h2 := congrArg (· ^^^ b) h
  simp only [Nat.xor_assoc, Nat.xor_self, Nat.xor_zero, Nat.zero_xor] at h2
  exact h2
theorem two_eq {m b e x e' x' : Nat} (hm : (m, b) ∈ [(92, 2), (90, 2), (88, 0)]) (he : e < 16) (hx : x < 16) (he' : e' < 16) (hx' : x' < 16) (h : byt b (twoZ m e x) = byt b (twoZ m e' x')) : e = e' ∧ x = x' := by
  have h1 : byt b (twoZ m (e ^^^ e') (x ^^^ x')) = 0 := by rw [twoZ_xor, byt_xor, h, Nat.xor_self]
  have a := xor_lt16 he he'
  have c := xor_lt16 hx hx'
  have h2 := two_inj (m, b) hm ((e ^^^ e') * 16 + (x ^^^ x')) (by omega) (by rw [show ((e ^^^ e') * 16 + (x ^^^ x')) / 16 = e ^^^ e' by omega, show ((e ^^^ e') * 16 + (x ^^^ x')) % 16 = x ^^^ x' by omega]; exact h1)
  exact ⟨xor_zero_eq (by omega), xor_zero_eq (by omega)⟩
theorem one_eq {m b x x' : Nat} (hm : m ∈ [94, 92, 90, 88]) (hb : b < 4) (e : Nat) (hx : x < 16) (hx' : x' < 16) (h : byt b (twoZ m e x) = byt b (twoZ m e x')) : x = x' := by
  have h1 : byt b (twoZ m 0 (x ^^^ x')) = 0 := by
    have := twoZ_xor m e x e x'
    rw [Nat.xor_self] at this
    rw [this, byt_xor, h, Nat.xor_self]
  exact xor_zero_eq (one_inj m hm b hb _ (xor_lt16 hx hx') h1)
end Go.Proofs.Ytnpfhfgegjocoaa
/- RemapTorn, plainly: torn images of tables. -/
namespace Go.Proofs.Ytnpfhfgegjocoaa

def at8 (X : List UInt8) (i : Nat) : UInt8 := X.getD i 0
theorem at8_app (a b : List UInt8) (i : Nat) : at8 (a ++ b) i = if i < a.length then at8 a i else at8 b (i - a.length) := by
  unfold at8
  rw [List.getD_eq_getElem?_getD, List.getD_eq_getElem?_getD, List.getD_eq_getElem?_getD, List.getElem?_append]
  split <;> rfl
theorem at8_ext {X Y : List UInt8} (hl : X.length = Y.length) (h : ∀ i, i < X.length → at8 X i = at8 Y i) : X = Y := by
  refine List.ext_getElem hl fun i h1 h2 => ?_
  have := h i h1
  unfold at8 at this
  rw [List.getD_eq_getElem?_getD, List.getD_eq_getElem?_getD, List.getElem?_eq_getElem h1, List.getElem?_eq_getElem h2] at this
  exact this
theorem at8_out {X : List UInt8} {i : Nat} (h : X.length ≤ i) : at8 X i = 0 := by
  unfold at8
  rw [List.getD_eq_getElem?_getD, List.getElem?_eq_none h]; rfl
def tearL (n : Nat) (w m : List UInt8) : List UInt8 := w.take n ++ m.drop n
theorem tearL_len {n : Nat} {w m : List UInt8} (h : w.length = m.length) : (tearL n w m).length = m.length := by
  unfold tearL
  rw [List.length_append, List.length_take, List.length_drop]
  omega
theorem at8_tear {n : Nat} {w m : List UInt8} (h : w.length = m.length) (i : Nat) : at8 (tearL n w m) i = if i < n then at8 w i else at8 m i := by
  by_cases hi : i < m.length
  · unfold tearL
    rw [at8_app, List.length_take]
    by_cases hn : i < n
    · rw [if_pos hn, if_pos (by omega)]
      unfold at8
      rw [List.getD_eq_getElem?_getD, List.getElem?_take, if_pos hn, List.getD_eq_getElem?_getD]
    · rw [if_neg hn, if_neg (by omega)]
      unfold at8
      rw [List.getD_eq_getElem?_getD, List.getElem?_drop, List.getD_eq_getElem?_getD]
      congr 2
      omega
  · rw [at8_out (by rw [tearL_len h]; omega), at8_out (X := w) (by omega), at8_out (X := m) (by omega)]
    split <;> rfl
theorem tearL_zero (w m : List UInt8) : tearL 0 w m = m := by unfold tearL; simp
theorem tearL_all {n : Nat} {w m : List UInt8} (h : w.length = m.length) (hn : m.length ≤ n) : tearL n w m = w := by
  unfold tearL
  rw [List.take_of_length_le (by omega), List.drop_of_length_le hn, List.append_nil]

/-! an image, byte by byte -/
def sumOf (s : Nat) (l : List Nat) : Nat := crcOn 0 (bareL 128 ⟨2, (s : Nat), l.length⟩ (textL l))
theorem image_form {s : Nat} {l : List Nat} : imageOf 128 s l = headL ⟨2, (s : Nat), l.length⟩ (8 + 2 * l.length) ++ (le8 4 (sumOf s l) ++ (le8 8 l.length ++ (l.flatMap (le8 2) ++ zerosL (96 - 2 * l.length)))) := by
  unfold imageOf sealL
  rw [withL_bare, textL_len, show 128 - 24 - (8 + 2 * l.length) = 96 - 2 * l.length by omega]
  show _ ++ (le8 4 (sumOf s l) ++ (textL l ++ _)) = _
  unfold textL
  rw [List.append_assoc]
theorem le8_at : ∀ (k n b : Nat), b < k → at8 (le8 k n) b = UInt8.ofNat (byt b n)
  | 0, _, _, h => absurd h (Nat.not_lt_zero _)
  | k + 1, n, 0, _ => by unfold byt le8 at8; simp
  | k + 1, n, b + 1, h => by
    have ih := le8_at k (n / 256) b (by omega)
    unfold byt at *
    rw [Nat.pow_succ, Nat.mul_comm, ← Nat.div_div_eq_div_mul, ← ih]
    rfl
theorem flat_len (l : List Nat) : (l.flatMap (le8 2)).length = 2 * l.length := by
  have h := textL_len l
  unfold textL at h
  rw [List.length_append, le8_len] at h
  omega
theorem flat_at : ∀ (l : List Nat) (k j : Nat), k < l.length → j < 2 → at8 (l.flatMap (le8 2)) (2 * k + j) = UInt8.ofNat (byt j (l.getD k 0))
  | [], _, _, h, _ => absurd h (Nat.not_lt_zero _)
  | x :: l, 0, j, _, hj => by
    rw [List.flatMap_cons, at8_app, le8_len, if_pos (by omega), Nat.mul_zero, Nat.zero_add]
    exact le8_at 2 x j hj
  | x :: l, k + 1, j, h, hj => by
    rw [List.flatMap_cons, at8_app, le8_len, if_neg (by omega), show 2 * (k + 1) + j - 2 = 2 * k + j by omega]
    exact flat_at l k j (by simpa using h) hj
section
variable {s : Nat} {l : List Nat}
theorem im_len (h : l.length ≤ 4) : (imageOf 128 s l).length = 128 := by
  unfold imageOf
  exact sealL_len _ (by rw [textL_len]; omega)
theorem im_head {i : Nat} (hi : i < 20) : at8 (imageOf 128 s l) i = at8 (headL ⟨2, (s : Nat), l.length⟩ (8 + 2 * l.length)) i := by
  rw [image_form, at8_app, headL_len, if_pos hi]
theorem im_sum {b : Nat} (hb : b < 4) : at8 (imageOf 128 s l) (20 + b) = UInt8.ofNat (byt b (sumOf s l)) := by
  rw [image_form, at8_app, headL_len, if_neg (by omega), at8_app, le8_len, if_pos (by omega), show 20 + b - 20 = b by omega]
  exact le8_at _ _ _ hb
theorem im_gen {j : Nat} (hj : j < 8) : at8 (imageOf 128 s l) (24 + j) = UInt8.ofNat (byt j l.length) := by
  rw [image_form, at8_app, headL_len, if_neg (by omega), at8_app, le8_len, if_neg (by omega), at8_app, le8_len, if_pos (by omega), show 24 + j - 20 - 4 = j by omega]
  exact le8_at _ _ _ hj
theorem im_ent {k j : Nat} (hk : k < l.length) (hj : j < 2) : at8 (imageOf 128 s l) (32 + (2 * k + j)) = UInt8.ofNat (byt j (l.getD k 0)) := by
  rw [image_form, at8_app, headL_len, if_neg (by omega), at8_app, le8_len, if_neg (by omega), at8_app, le8_len, if_neg (by omega), at8_app, flat_len, if_pos (by omega), show 32 + (2 * k + j) - 20 - 4 - 8 = 2 * k + j by omega]
  exact flat_at l k j hk hj
theorem im_zero {i : Nat} (hi : 32 + 2 * l.length ≤ i) : at8 (imageOf 128 s l) i = 0 := by
  rw [image_form, at8_app, headL_len, if_neg (by omega), at8_app, le8_len, if_neg (by omega), at8_app, le8_len, if_neg (by omega), at8_app, flat_len, if_neg (by omega)]
  unfold at8 zerosL
  rw [List.getD_eq_getElem?_getD, List.getElem?_replicate]
  split <;> rfl
end
theorem byt0 {x : Nat} (h : x < 256) : byt 0 x = x := by unfold byt; omega
theorem byt1 {x : Nat} (h : x < 256) : byt 1 x = 0 := by unfold byt; omega
theorem byt_lt (b v : Nat) : byt b v < 256 := Nat.mod_lt _ (by decide)
theorem of_inj {a b : Nat} (ha : a < 256) (hb : b < 256) (h : UInt8.ofNat a = UInt8.ofNat b) : a = b := by
  have h2 := congrArg UInt8.toNat h
  simp at h2
  omega
/-- Two images of as many entries differ in entries and sums alone. -/
theorem im_like {s : Nat} {l m : List Nat} (h : l.length = m.length) {i : Nat} (hi : i < 20 ∨ 24 ≤ i ∧ i < 32) : at8 (imageOf 128 s l) i = at8 (imageOf 128 s m) i := by
  rcases hi with hi | ⟨h1, h2⟩
  · rw [im_head hi, im_head hi, h]
  · obtain ⟨j, rfl⟩ : ∃ j, i = 24 + j := ⟨i - 24, by omega⟩
    rw [im_gen (by omega), im_gen (by omega), h]

/-! generations -/
structure LowG (c : Nat) (X : List UInt8) : Prop where
  len : X.length = 128
  low : (at8 X 12).toNat ≤ c
  top : ∀ i, 13 ≤ i → i < 20 → at8 X i = 0
theorem LowG.mono {c d : Nat} {X : List UInt8} (h : LowG c X) (hd : c ≤ d) : LowG d X := ⟨h.len, Nat.le_trans h.low hd, h.top⟩
theorem LowG.tear {c n : Nat} {w m : List UInt8} (h : LowG c w) (g : LowG c m) : LowG c (tearL n w m) := by
  have hl := h.len.trans g.len.symm
  refine ⟨(tearL_len hl).trans g.len, ?_, fun i h1 h2 => ?_⟩
  · rw [at8_tear hl]
    split
    · exact h.low
    · exact g.low
  · rw [at8_tear hl]
    split
    · exact h.top i h1 h2
    · exact g.top i h1 h2
set_option maxRecDepth 100000 in
theorem head_low : ∀ s, s < 2 → ∀ g, g < 5 → (at8 (headL ⟨2, (s : Nat), g⟩ (8 + 2 * g)) 12).toNat = g ∧ ∀ i, i < 7 → at8 (headL ⟨2, (s : Nat), g⟩ (8 + 2 * g)) (13 + i) = 0 := by decide +kernel
theorem lowg_image {s c : Nat} {l : List Nat} (hs : s < 2) (hl : l.length ≤ c) (h4 : l.length ≤ 4) : LowG c (imageOf 128 s l) := by
  obtain ⟨h1, h2⟩ := head_low s hs l.length (by omega)
  refine ⟨im_len h4, by rw [im_head (by omega), h1]; exact hl, fun i h3 h5 => ?_⟩
  have := h2 (i - 13) (by omega)
  rw [show 13 + (i - 13) = i by omega] at this
  rw [im_head h5, this]
theorem zeros_at (n i : Nat) : at8 (zerosL n) i = 0 := by
  unfold at8 zerosL
  rw [List.getD_eq_getElem?_getD, List.getElem?_replicate]
  split <;> rfl
theorem lowg_zeros (c : Nat) : LowG c (zerosL 128) := ⟨by unfold zerosL; simp, by rw [zeros_at]; exact Nat.zero_le _, fun i _ _ => zeros_at _ _⟩
theorem drop_at (X : List UInt8) (k i : Nat) : at8 (X.drop k) i = at8 X (k + i) := by
  unfold at8
  rw [List.getD_eq_getElem?_getD, List.getElem?_drop, List.getD_eq_getElem?_getD]
theorem take_at (X : List UInt8) {k i : Nat} (h : i < k) : at8 (X.take k) i = at8 X i := by
  unfold at8
  rw [List.getD_eq_getElem?_getD, List.getElem?_take, if_pos h, List.getD_eq_getElem?_getD]
theorem lowg_gen {c : Nat} {X : List UInt8} (h : LowG c X) : (eHeadOf X).gen ≤ c := by
  have e : (X.drop 12).take 8 = [at8 X 12, 0, 0, 0, 0, 0, 0, 0] := by
    refine at8_ext ?_ fun i hi => ?_
    · rw [List.length_take, List.length_drop, h.len]; rfl
    · rw [List.length_take, List.length_drop, h.len] at hi
      rw [take_at _ (by omega), drop_at]
      by_cases h0 : i = 0
      · subst h0; rfl
      · rw [h.top _ (by omega) (by omega)]
        have : i = 1 ∨ i = 2 ∨ i = 3 ∨ i = 4 ∨ i = 5 ∨ i = 6 ∨ i = 7 := by omega
        rcases this with rfl | rfl | rfl | rfl | rfl | rfl | rfl <;> rfl
  show un8 ((X.drop 12).take 8) ≤ c
  rw [e]
  simp only [un8]
  have := h.low
  simp
  omega

/-! what parses is an image -/
theorem le8_un8 (a b : UInt8) : le8 2 (un8 [a, b]) = [a, b] := by
  have h1 := a.toNat_lt
  have h2 := b.toNat_lt
  simp only [un8, le8, Nat.mul_zero, Nat.add_zero]
  rw [show (a.toNat + 256 * b.toNat) % 256 = a.toNat by omega, show (a.toNat + 256 * b.toNat) / 256 % 256 = b.toNat by omega]
  simp
theorem eat_inv : ∀ (n : Nat) (l : List UInt8) (t u : Tab), l.length ≤ n → eatL t l = some u → u.blocks = t.blocks ∧ u.spares = t.spares ∧ ∃ m, u.moved = t.moved ++ m ∧ l = m.flatMap (le8 2)
  | n, [], t, u, _, h => by
    unfold eatL at h
    injection h with h
    subst h
    exact ⟨rfl, rfl, [], by simp, rfl⟩
  | n, [_], t, u, _, h => by unfold eatL at h; cases h
  | 0, a :: b :: r, t, u, hn, h => by simp at hn
  | n + 1, a :: b :: r, t, u, hn, h => by
    rw [eatL] at h
    split at h
    · rename_i h0
      unfold Tab.move at h0 h
      split at h0
      · cases h0
      · rename_i h1
        split at h0
        · cases h0
        · rename_i h2
          rw [if_neg h1, if_neg h2] at h
          obtain ⟨k1, k2, m, k3, k4⟩ := eat_inv n r _ u (by simp at hn; omega) h
          refine ⟨k1, k2, un8 [a, b] :: m, by rw [k3]; simp, ?_⟩
          rw [List.flatMap_cons, le8_un8, ← k4]; rfl
    · cases h
theorem le8_inj8 {s : List UInt8} (h : s.length = 8) {n : Nat} (hn : un8 s = n) : s = le8 8 n := by
  subst hn
  match s, h with
  | [a, b, c, d, e, f, g, i], _ =>
    have h1 := a.toNat_lt; have h2 := b.toNat_lt; have h3 := c.toNat_lt; have h4 := d.toNat_lt; have h5 := e.toNat_lt; have h6 := f.toNat_lt; have h7 := g.toNat_lt; have h8 := i.toNat_lt
    have key : ∀ (u : UInt8) (k : Nat), k = u.toNat → UInt8.ofNat k = u := fun u k hk => by rw [hk]; simp
    simp only [un8, le8, List.cons.injEq, and_true]
    refine ⟨?_, ?_, ?_, ?_, ?_, ?_, ?_, ?_⟩ <;> (symm; apply key; omega)
theorem parse_inv {p : List UInt8} {B n : Nat} {T : Tab} (h : parseL p B n = some T) : p = textL T.moved ∧ T.blocks = B ∧ T.spares = n := by
  unfold parseL at h
  split at h
  · cases h
  · rename_i h8
    cases ho : eatL ⟨B, n, []⟩ (p.drop 8) with
    | none => rw [ho] at h; cases h
    | some t =>
      rw [ho] at h
      simp only [Option.bind_some] at h
      split at h
      · rename_i hu
        injection h with h
        subst h
        obtain ⟨k1, k2, m, k3, k4⟩ := eat_inv _ _ _ _ (Nat.le_refl _) ho
        refine ⟨?_, k1, k2⟩
        simp only [List.nil_append] at k3
        unfold textL
        rw [k3, ← k4, ← k3, ← le8_inj8 (by rw [List.length_take]; omega) hu, List.take_append_drop]
      · cases h
theorem parse_image {s : Nat} {X : List UInt8} {T : Tab} (hl : X.length = 128) (h : parseP 12 4 s (bA X) = some T) : X = imageOf 128 s T.moved ∧ T.blocks = 12 ∧ T.spares = 4 ∧ (eHeadOf X).gen = T.moved.length := by
  unfold parseP at h
  rw [bA_list] at h
  cases ho : openL X with
  | none => rw [ho] at h; cases h
  | some q =>
    obtain ⟨hd, p⟩ := q
    rw [ho] at h
    simp only at h
    split at h
    · rename_i hk
      cases hp : parseL p 12 4 with
      | none => rw [hp] at h; cases h
      | some t =>
        rw [hp] at h
        simp only [Option.bind_some] at h
        split at h
        · rename_i hg
          injection h with h
          subst h
          obtain ⟨e1, e2, e3⟩ := parse_inv hp
          obtain ⟨_, o2, o3, o4⟩ := open_some ho
          refine ⟨?_, e2, e3, by rw [← o2, hg]⟩
          rw [hl] at o4
          obtain ⟨k, a, g⟩ := hd
          simp only at hk hg
          rw [o4, e1, hk.1, hk.2, ← hg]
          rfl
        · cases h
    · cases h
theorem lowg_parse {s c : Nat} {X : List UInt8} {T : Tab} (h : LowG c X) (hp : parseP 12 4 s (bA X) = some T) : T.moved.length ≤ c := by
  obtain ⟨_, _, _, e⟩ := parse_image h.len hp
  rw [← e]
  exact lowg_gen h
end Go.Proofs.Ytnpfhfgegjocoaa
/- RemapTorn, plainly: an image that is torn over elder ones is whole, or none of a table with so many entries. -/
namespace Go.Proofs.Ytnpfhfgegjocoaa

theorem le8_2 {e : Nat} (h : e < 256) : le8 2 e = [UInt8.ofNat e, 0] := by
  unfold le8 le8 le8
  rw [Nat.mod_eq_of_lt h, show e / 256 % 256 = 0 by omega]
  rfl
theorem sum_two {s e x : Nat} {f : List Nat} (he : e < 256) (hx : x < 256) : sumOf s (f ++ [e, x]) = crcOn 0 ((headL ⟨2, (s : Nat), f.length + 2⟩ (8 + 2 * (f.length + 2)) ++ (zerosL 4 ++ (le8 8 (f.length + 2) ++ f.flatMap (le8 2)))) ++ ([UInt8.ofNat e, 0, UInt8.ofNat x, 0] ++ zerosL (92 - 2 * f.length))) := by
  unfold sumOf bareL
  have hl : (f ++ [e, x]).length = f.length + 2 := by simp
  rw [textL_len, hl]
  unfold textL
  rw [hl, List.flatMap_append, List.flatMap_cons, List.flatMap_cons, List.flatMap_nil, le8_2 he, le8_2 hx, show 128 - 24 - (8 + 2 * (f.length + 2)) = 92 - 2 * f.length by omega]
  simp only [List.append_assoc, List.cons_append, List.nil_append, List.append_nil]
theorem sum_one {s x : Nat} (hx : x < 256) : sumOf s [x] = crcOn 0 ((headL ⟨2, (s : Nat), 1⟩ 10 ++ (zerosL 4 ++ [1, 0, 0, 0, 0, 0])) ++ ([UInt8.ofNat 0, 0, UInt8.ofNat x, 0] ++ zerosL 94)) := by
  unfold sumOf bareL
  rw [textL_len]
  unfold textL
  show crcOn 0 (headL ⟨2, (s : Nat), 1⟩ 10 ++ zerosL 4 ++ (le8 8 1 ++ (le8 2 x ++ [])) ++ zerosL 94) = _
  rw [le8_2 hx, show le8 8 1 = [1, 0, 0, 0, 0, 0, 0, 0] from rfl]
  simp only [List.append_assoc, List.cons_append, List.nil_append]
  rfl
theorem sum_two_eq {s e x e' x' b : Nat} {f : List Nat} (he : e < 256) (hx : x < 256) (he' : e' < 256) (hx' : x' < 256) (h : byt b (sumOf s (f ++ [e, x])) = byt b (sumOf s (f ++ [e', x']))) : byt b (twoZ (92 - 2 * f.length) e x) = byt b (twoZ (92 - 2 * f.length) e' x') := by
  rw [sum_two he hx, sum_two he' hx'] at h
  have h2 := byt_crc (by simp) h
  rw [twoZ_run he hx, twoZ_run he' hx'] at h2
  exact h2
theorem sum_one_eq {s x x' b : Nat} (hx : x < 16) (hx' : x' < 16) (hb : b < 4) (h : byt b (sumOf s [x]) = byt b (sumOf s [x'])) : x = x' := by
  rw [sum_one (by omega), sum_one (by omega)] at h
  have h2 := byt_crc (by simp) h
  rw [twoZ_run (by omega) (by omega), twoZ_run (by omega) (by omega)] at h2
  exact one_eq (by simp) hb 0 hx hx' h2

structure BaseT (es : List Nat) (B : List UInt8) : Prop where
  low : LowG es.length B
  gen : at8 B 24 ≠ UInt8.ofNat (es.length + 1)
  six : at8 B 6 ≠ UInt8.ofNat (8 + 2 * es.length)
  ent : ∀ k, k + 1 < es.length → at8 B (32 + 2 * k) = UInt8.ofNat (es.getD k 0)
  zero : ∀ i, 32 + 2 * (es.length - 1) ≤ i → at8 B i = 0
set_option maxRecDepth 100000 in
theorem head_six : ∀ s, s < 2 → ∀ g, g < 5 → at8 (headL ⟨2, (s : Nat), g⟩ (8 + 2 * g)) 6 = UInt8.ofNat (8 + 2 * g) := by decide +kernel
theorem im_six {s : Nat} {l : List Nat} (hs : s < 2) (hl : l.length ≤ 4) : at8 (imageOf 128 s l) 6 = UInt8.ofNat (8 + 2 * l.length) := by
  rw [im_head (by decide)]
  exact head_six s hs l.length (by omega)
theorem base_zeros : BaseT [] (zerosL 128) := ⟨lowg_zeros _, by rw [zeros_at]; decide, by rw [zeros_at]; decide, fun k h => by simp at h, fun i _ => zeros_at _ _⟩
theorem getD_lt {l : List Nat} {c : Nat} (h : ∀ e ∈ l, e < c) (hc : 0 < c) (k : Nat) : l.getD k 0 < c := by
  rw [List.getD_eq_getElem?_getD]
  cases hk : l[k]? with
  | none => exact hc
  | some v => exact h v (List.mem_of_getElem? hk)
theorem base_image {s x : Nat} {es : List Nat} (hs : s < 2) (h : es.length ≤ 3) (he : ∀ e ∈ es, e < 12) : BaseT (es ++ [x]) (imageOf 128 s es) := by
  have hl : (es ++ [x]).length = es.length + 1 := by simp
  refine ⟨lowg_image hs (by rw [hl]; omega) (by omega), ?_, ?_, fun k hk => ?_, fun i hi => ?_⟩
  · have e := im_gen (s := s) (l := es) (j := 0) (by decide)
    rw [show 24 + 0 = 24 from rfl] at e
    rw [e, hl, byt0 (by omega)]
    intro h2
    have := of_inj (by omega) (by omega) h2
    omega
  · rw [im_six hs (by omega), hl]
    intro h2
    have := of_inj (by omega) (by omega) h2
    omega
  · rw [hl] at hk
    have e := im_ent (s := s) (l := es) (k := k) (j := 0) (by omega) (by decide)
    rw [Nat.add_zero] at e
    have h3 := getD_lt he (by decide) k
    rw [e, byt0 (by omega)]
    congr 1
    rw [List.getD_eq_getElem?_getD, List.getD_eq_getElem?_getD, List.getElem?_append_left (by omega)]
  · rw [hl] at hi
    exact im_zero (by omega)
/-- Elder images' heads over a base. -/
structure TornX (s : Nat) (es : List Nat) (B : List UInt8) (M : Nat) (X : List UInt8) : Prop where
  len : X.length = 128
  up : ∀ i, i < M → ∃ x, x < 12 ∧ at8 X i = at8 (imageOf 128 s (es ++ [x])) i
  dn : ∀ i, M ≤ i → at8 X i = at8 B i
  le : M ≤ 32 + 2 * es.length
theorem TornX.base {s : Nat} {es : List Nat} {B : List UInt8} (h : BaseT es B) : TornX s es B 0 B := ⟨h.low.len, fun _ hi => absurd hi (Nat.not_lt_zero _), fun _ _ => rfl, Nat.zero_le _⟩
section
variable {s M n x : Nat} {es : List Nat} {B X Y : List UInt8} {T : Tab}
theorem im_len1 (hg : es.length ≤ 3) : (imageOf 128 s (es ++ [x])).length = 128 := im_len (by simp; omega)
theorem TornX.low (hs : s < 2) (hg : es.length ≤ 3) (hb : BaseT es B) (h : TornX s es B M X) : LowG (es.length + 1) X := by
  have hI : ∀ x, LowG (es.length + 1) (imageOf 128 s (es ++ [x])) := fun x => lowg_image hs (by simp) (by simp; omega)
  refine ⟨h.len, ?_, fun i h1 h2 => ?_⟩
  · by_cases hm : 12 < M
    · obtain ⟨x, _, e⟩ := h.up 12 hm
      rw [e]; exact (hI x).low
    · rw [h.dn 12 (by omega)]
      exact Nat.le_succ_of_le hb.low.low
  · by_cases hm : i < M
    · obtain ⟨x, _, e⟩ := h.up i hm
      rw [e]; exact (hI x).top i h1 h2
    · rw [h.dn i (by omega)]
      exact hb.low.top i h1 h2
theorem TornX.tear (hg : es.length ≤ 3) (h : TornX s es B M X) (hx : x < 12) (hn : n ≤ 32 + 2 * es.length) : TornX s es B (max M n) (tearL n (imageOf 128 s (es ++ [x])) X) := by
  have hl : (imageOf 128 s (es ++ [x])).length = X.length := (im_len1 hg).trans h.len.symm
  refine ⟨(tearL_len hl).trans h.len, fun i hi => ?_, fun i hi => ?_, Nat.max_le.2 ⟨h.le, hn⟩⟩
  · rw [at8_tear hl]
    by_cases h1 : i < n
    · rw [if_pos h1]; exact ⟨x, hx, rfl⟩
    · rw [if_neg h1]; exact h.up i (by omega)
  · rw [at8_tear hl, if_neg (by omega)]
    exact h.dn i (by omega)
/-- Torn behind its last entry an image is whole. -/
theorem TornX.whole (hg : es.length ≤ 3) (hb : BaseT es B) (h : TornX s es B M X) (hx : x < 12) (hn : 32 + 2 * es.length < n) : tearL n (imageOf 128 s (es ++ [x])) X = imageOf 128 s (es ++ [x]) := by
  have hl : (imageOf 128 s (es ++ [x])).length = X.length := (im_len1 hg).trans h.len.symm
  refine at8_ext ((tearL_len hl).trans hl.symm) fun i _ => ?_
  rw [at8_tear hl]
  by_cases h1 : i < n
  · rw [if_pos h1]
  · have hle := h.le
    rw [if_neg h1, h.dn i (by omega), hb.zero i (by omega)]
    symm
    by_cases h2 : i = 33 + 2 * es.length
    · subst h2
      have e := im_ent (s := s) (l := es ++ [x]) (k := es.length) (j := 1) (by simp) (by decide)
      rw [show 32 + (2 * es.length + 1) = 33 + 2 * es.length by omega] at e
      rw [e, show (es ++ [x]).getD es.length 0 = x by rw [List.getD_eq_getElem?_getD, List.getElem?_append_right (by omega)]; simp, byt1 (by omega)]
      rfl
    · exact im_zero (by simp; omega)
theorem parseP_entries {T : Tab} (h : parseP 12 4 s (bA Y) = some T) : ∀ e ∈ T.moved, e < 12 := by
  unfold parseP at h
  rw [bA_list] at h
  cases ho : openL Y with
  | none => rw [ho] at h; cases h
  | some q =>
    rw [ho] at h
    simp only at h
    split at h
    · cases hp : parseL q.2 12 4 with
      | none => rw [hp] at h; cases h
      | some t =>
        rw [hp] at h
        simp only [Option.bind_some] at h
        split at h
        · injection h with h
          subst h
          have h1 := (Tab.parse_ok (by decide) (by decide) hp).each
          rw [(parse_inv hp).2.1] at h1
          exact h1
        · cases h
    · cases h
/-- What such a mixture is, if it is an image of a table with one entry more. -/
theorem TornX.parse (hs : s < 2) (hg : es.length ≤ 3) (he : ∀ e ∈ es, e < 12) (hb : BaseT es B) (h : TornX s es B M Y) (hp : parseP 12 4 s (bA Y) = some T) (hlen : es.length < T.moved.length) :
    24 < M ∧ Y = imageOf 128 s (es ++ [0]) ∧ ∀ x, x < 12 → at8 Y 20 = at8 (imageOf 128 s (es ++ [x])) 20 → x = 0 := by
  have hlow := lowg_parse (h.low hs hg hb) hp
  have hTl : T.moved.length = es.length + 1 := by omega
  obtain ⟨hY, _⟩ := parse_image h.len hp
  have hent := parseP_entries hp
  generalize T.moved = l at *
  have hY24 : at8 Y 24 = UInt8.ofNat (es.length + 1) := by
    have e := im_gen (s := s) (l := l) (j := 0) (by decide)
    rw [show 24 + 0 = 24 from rfl, hTl, byt0 (by omega)] at e
    rw [hY]; exact e
  have hM : 24 < M := by
    rcases Nat.lt_or_ge 24 M with h1 | h1
    · exact h1
    · exact absurd ((h.dn 24 h1).symm.trans hY24) hb.gen
  have hYe : ∀ k, k ≤ es.length → at8 Y (32 + 2 * k) = UInt8.ofNat (l.getD k 0) := fun k hk => by
    have e := im_ent (s := s) (l := l) (k := k) (j := 0) (by omega) (by decide)
    have h3 := getD_lt hent (by decide) k
    rw [Nat.add_zero, byt0 (by omega)] at e
    rw [hY]; exact e
  have hIe : ∀ x k, k < es.length → at8 (imageOf 128 s (es ++ [x])) (32 + 2 * k) = UInt8.ofNat (es.getD k 0) := fun x k hk => by
    have e := im_ent (s := s) (l := es ++ [x]) (k := k) (j := 0) (by simp; omega) (by decide)
    have h3 := getD_lt he (by decide) k
    have h4 : (es ++ [x]).getD k 0 = es.getD k 0 := by rw [List.getD_eq_getElem?_getD, List.getD_eq_getElem?_getD, List.getElem?_append_left hk]
    rw [Nat.add_zero, h4, byt0 (by omega)] at e
    exact e
  have hlast : l.getD es.length 0 = 0 := by
    have h1 := hYe es.length (Nat.le_refl _)
    rw [h.dn _ h.le, hb.zero _ (by omega)] at h1
    have h3 := getD_lt hent (by decide) es.length
    exact (of_inj (by decide) (by omega) h1).symm
  have hmid : ∀ k, k + 1 < es.length → l.getD k 0 = es.getD k 0 := fun k hk => by
    have h1 := hYe k (by omega)
    have h3 := getD_lt hent (by decide) k
    have h4 := getD_lt he (by decide) k
    by_cases hm : 32 + 2 * k < M
    · obtain ⟨x, _, e⟩ := h.up _ hm
      rw [e, hIe x k (by omega)] at h1
      exact (of_inj (by omega) (by omega) h1).symm
    · rw [h.dn _ (by omega), hb.ent k hk] at h1
      exact (of_inj (by omega) (by omega) h1).symm
  have hsum : ∀ b, b < 4 → ∃ x, x < 12 ∧ byt b (sumOf s l) = byt b (sumOf s (es ++ [x])) := fun b hb4 => by
    obtain ⟨x, hx, e⟩ := h.up (20 + b) (by omega)
    refine ⟨x, hx, ?_⟩
    rw [hY, im_sum hb4, im_sum hb4] at e
    exact of_inj (byt_lt _ _) (byt_lt _ _) e
  have hs20 : ∀ x, at8 Y 20 = at8 (imageOf 128 s (es ++ [x])) 20 → byt 0 (sumOf s l) = byt 0 (sumOf s (es ++ [x])) := fun x e => by
    have i1 := im_sum (s := s) (l := l) (b := 0) (by decide)
    have i2 := im_sum (s := s) (l := es ++ [x]) (b := 0) (by decide)
    rw [show 20 + 0 = 20 from rfl] at i1 i2
    rw [hY, i1, i2] at e
    exact of_inj (byt_lt _ _) (byt_lt _ _) e
  refine ⟨hM, ?_⟩
  rcases List.eq_nil_or_concat es with rfl | ⟨f, e, rfl⟩
  · -- no entry yet
    have hl : l = [0] := by
      match l, hTl with
      | [a], _ => exact congrArg (fun z => [z]) hlast
    subst hl
    refine ⟨hY, fun x hx e => ?_⟩
    exact (sum_one_eq (b := 0) (s := s) (by omega) (by omega) (by decide) (hs20 x e)).symm
  · rw [List.concat_eq_append] at *
    have hfl : (f ++ [e]).length = f.length + 1 := by simp
    rw [hfl] at hg hTl hlast hmid
    have hee : e < 12 := he e (by simp)
    obtain ⟨e', hl⟩ : ∃ e', l = f ++ [e', 0] := by
      refine ⟨l.getD f.length 0, ?_⟩
      refine List.ext_getElem (by simp [hTl]) fun i h1 h2 => ?_
      have e1 : l[i] = l.getD i 0 := by rw [List.getD_eq_getElem?_getD, List.getElem?_eq_getElem h1]; rfl
      rw [e1]
      by_cases hi : i < f.length
      · rw [hmid i (by omega), List.getElem_append_left hi, List.getD_eq_getElem?_getD, List.getElem?_append_left hi, List.getElem?_eq_getElem hi]
        rfl
      · rw [List.getElem_append_right (by omega)]
        have : i = f.length ∨ i = f.length + 1 := by omega
        rcases this with rfl | rfl
        · simp
        · simp
          rw [← List.getD_eq_getElem?_getD]; exact hlast
    subst hl
    have he' : e' < 12 := hent e' (by simp)
    have hm : ∀ b, b < 4 → ∃ x, x < 12 ∧ byt b (twoZ (92 - 2 * f.length) e' 0) = byt b (twoZ (92 - 2 * f.length) e x) := fun b hb4 => by
      obtain ⟨x, hx, h1⟩ := hsum b hb4
      rw [List.append_assoc] at h1
      exact ⟨x, hx, sum_two_eq (by omega) (by decide) (by omega) (by omega) h1⟩
    have hee' : e' = e := by
      have hf : f.length = 0 ∨ f.length = 1 ∨ f.length = 2 := by omega
      rcases hf with hf | hf | hf
      · rw [hf] at hm
        obtain ⟨x, hx, h1⟩ := hm 2 (by decide)
        exact (two_eq (m := 92) (by simp) (by omega) (by decide) (by omega) (by omega) h1).1
      · rw [hf] at hm
        obtain ⟨x, hx, h1⟩ := hm 2 (by decide)
        exact (two_eq (m := 90) (by simp) (by omega) (by decide) (by omega) (by omega) h1).1
      · rw [hf] at hm
        obtain ⟨x, hx, h1⟩ := hm 0 (by decide)
        exact (two_eq (m := 88) (by simp) (by omega) (by decide) (by omega) (by omega) h1).1
    subst hee'
    refine ⟨by rw [List.append_assoc]; exact hY, fun x hx e => ?_⟩
    have h1 := hs20 x e
    rw [List.append_assoc] at h1
    have h2 := sum_two_eq (by omega) (by decide) (by omega) (by omega) h1
    refine (one_eq (m := 92 - 2 * f.length) ?_ (by decide) e' (by decide) (by omega) h2).symm
    have hf : f.length = 0 ∨ f.length = 1 ∨ f.length = 2 := by omega
    rcases hf with hf | hf | hf <;> rw [hf] <;> simp
/-- It is no image of a table with as many entries. -/
theorem TornX.ne (hs : s < 2) (hg : es.length ≤ 3) (hb : BaseT es B) (h : TornX s es B M Y) (hp : parseP 12 4 s (bA Y) = some T) : T.moved.length ≠ es.length := by
  intro e
  obtain ⟨hY, _⟩ := parse_image h.len hp
  have h6 : at8 Y 6 = UInt8.ofNat (8 + 2 * es.length) := by
    rw [hY, im_six hs (by omega), e]
  by_cases hM : 6 < M
  · obtain ⟨x, _, e2⟩ := h.up 6 hM
    rw [e2, im_six hs (by simp; omega), List.length_append] at h6
    have := of_inj (by simp; omega) (by omega) h6
    simp at this
    omega
  · rw [h.dn 6 (by omega)] at h6
    exact hb.six h6
/-- The next tear: the image is whole, or none of so many entries. -/
theorem TornX.next (hs : s < 2) (hg : es.length ≤ 3) (he : ∀ e ∈ es, e < 12) (hb : BaseT es B) (h : TornX s es B M X) (hno : ∀ T, parseP 12 4 s (bA X) = some T → T.moved.length ≤ es.length) (hx : x < 12) (n : Nat) :
    tearL n (imageOf 128 s (es ++ [x])) X = imageOf 128 s (es ++ [x]) ∨ (∃ M', TornX s es B M' (tearL n (imageOf 128 s (es ++ [x])) X)) ∧ ∀ T, parseP 12 4 s (bA (tearL n (imageOf 128 s (es ++ [x])) X)) = some T → T.moved.length ≤ es.length := by
  by_cases hn : 32 + 2 * es.length < n
  · exact .inl (h.whole hg hb hx hn)
  · have ht := h.tear hg hx (n := n) (by omega)
    have hl : (imageOf 128 s (es ++ [x])).length = X.length := (im_len1 hg).trans h.len.symm
    by_cases hw : tearL n (imageOf 128 s (es ++ [x])) X = imageOf 128 s (es ++ [x])
    · exact .inl hw
    · refine .inr ⟨⟨_, ht⟩, fun T hp => ?_⟩
      rcases Nat.lt_or_ge es.length T.moved.length with hlt | hge
      · exfalso
        obtain ⟨hM, hY, h20⟩ := ht.parse hs hg he hb hp hlt
        by_cases h20n : 20 < n
        · have := h20 x hx (by rw [at8_tear hl, if_pos h20n])
          subst this
          exact hw hY
        · have hMM : 24 < M := by omega
          have hXY : tearL n (imageOf 128 s (es ++ [x])) X = X := by
            refine at8_ext (tearL_len hl) fun i _ => ?_
            rw [at8_tear hl]
            by_cases h1 : i < n
            · rw [if_pos h1]
              obtain ⟨x', _, e⟩ := h.up i (by omega)
              rw [e]
              exact im_like (by simp) (.inl (by omega))
            · rw [if_neg h1]
          rw [hXY] at hp
          have := hno T hp
          omega
      · exact hge
end
end Go.Proofs.Ytnpfhfgegjocoaa
/- dev: settle, Crash: whatever waits, and whatever its fates are. -/
namespace Go.Proofs.Ytnpfhfgegjocoaa
open Go.RowKit

def tearB (n : Nat) (w m : ByteArray) : ByteArray := bA (tearL n w.toList m.toList)
/-- What becomes of a sector by the fate of a write that wasn't flushed. -/
def fated (z f : Nat) (w m : ByteArray) : ByteArray := if f = 1 then w else if 2 ≤ f then tearB (min (f - 2) (z - 1)) w m else m
def fateStep (z : Nat) (m : List ByteArray) (q : (Nat × ByteArray) × Nat) : List ByteArray := m.set q.1.1 (fated z q.2 q.1.2 (m.getD q.1.1 ⟨#[]⟩))
def crashM (z : Nat) (m : List ByteArray) (l : List ((Nat × ByteArray) × Nat)) : List ByteArray := l.foldl (fateStep z) m
def Dev.crash (D : Dev) (fs : List Nat) : Dev := { D with media := crashM D.size D.media (D.cache.zip fs), cache := [], off := false, fuse := 0 }
def fateRow (fs : List Nat) : List Value := fs.map fun f => Value.int .i64 (f : Nat)
theorem size_toList (s : ByteArray) : s.toList.length = s.size := by rw [Lib.toList_data]; exact Array.length_toList
theorem tearB_size {n : Nat} {w m : ByteArray} (h : w.size = m.size) : (tearB n w m).size = m.size := by
  unfold tearB
  rw [bA_size, tearL_len (by rw [size_toList, size_toList, h]), size_toList]
theorem fated_size {z f : Nat} {w m : ByteArray} (hw : w.size = z) (hm : m.size = z) : (fated z f w m).size = z := by
  unfold fated
  split
  · exact hw
  · split
    · rw [tearB_size (hw.trans hm.symm)]; exact hm
    · exact hm
theorem tear_eq (w m : ByteArray) (n : Nat) : w.extract 0 n ++ m.extract n m.size = tearB n w m := by
  apply ByteArray.ext
  apply Array.ext'
  unfold tearB tearL bA
  rw [Lib.toList_data, Lib.toList_data]
  simp only [ByteArray.data_append, ByteArray.data_extract, Array.toList_append, Array.toList_extract, List.extract_eq_take_drop, List.drop_zero, Nat.sub_zero]
  rw [List.take_of_length_le (l := List.drop n m.data.toList) (by rw [List.length_drop]; have : m.data.toList.length = m.size := Array.length_toList; omega)]
section
variable {W : World} {b mb bb : Nat} {cv : Value} {c0 c1 c2 : Int} {D : Dev}
theorem DevIn.remedia {w : World} (h : DevIn W b mb bb cv c0 c1 c2 D) (hn : (b :: mb :: bb :: cv.ownBlock.toList).Nodup) (hm : Mods [mb] W w) {m : List ByteArray} (hl : m.length = D.sectors) (he : ∀ s ∈ m, s.size = D.size) (hB : Blk w mb 9 (m.map Value.string)) : DevIn w b mb bb cv c0 c1 c2 { D with media := m } := by
  simp only [List.nodup_cons, List.mem_cons, Option.mem_toList, not_or] at hn
  obtain ⟨⟨n1, n2, n3⟩, ⟨n4, n5⟩, n6, _⟩ := hn
  have ho := h.ok
  exact ⟨⟨hl, ho.bad, ho.sec, ho.size0, ho.size1, he, ho.cache⟩, h.fuse, h.lose, h.stray, h.dev.keep hm (by simpa using n1), hB, h.bad.keep hm (by simpa using fun e => n4 e.symm), owns_keepF h.cache hm (fun g hg hx => n5 (by rw [List.mem_singleton.1 hx] at hg; exact hg))⟩
set_option maxRecDepth 100000 in
set_option maxHeartbeats 1600000 in
theorem dSettle_any (h : DevIn W b mb bb cv c0 c1 c2 D) (hnd : (b :: mb :: bb :: cv.ownBlock.toList).Nodup) {x1 : Nat} {x2 : ByteArray} (hx : x1 < D.sectors) (hz : x2.size = D.size) (f : Nat) (hf : f ≤ 1000000) :
    Calls Try.prog 52 #[.pointer (some ⟨b, 0, none⟩), .agg #[.int .i64 (x1 : Nat), .string x2], .int .i64 (f : Nat)] W fun e w' => e = .returned (.tuple #[]) ∧ Hid (DevIn w' b mb bb cv c0 c1 c2 { D with media := fateStep D.size D.media ((x1, x2), f) } ∧ Mods [mb] W w') := by
  obtain ⟨o, ho⟩ : ∃ o, D.media[x1]? = some o := ⟨_, List.getElem?_eq_getElem (by rw [h.ok.media]; exact hx)⟩
  have hos : o.size = D.size := h.ok.each o (List.mem_of_getElem? ho)
  have hgd : D.media.getD x1 ⟨#[]⟩ = o := by rw [List.getD_eq_getElem?_getD, ho]; rfl
  have hn := hnd
  simp only [List.nodup_cons, List.mem_cons, Option.mem_toList, not_or] at hn
  obtain ⟨⟨n1, _, _⟩, _⟩ := hn
  have hsz0 := h.ok.size0
  have hsz1 := h.ok.size1
  have H := Lib.hid h
  have HND := Lib.hid hnd
  obtain ⟨w1, hw1⟩ : ∃ w1, W.alloc (.cells #[.int .i64 (x1 : Nat), .string x2] 88) = w1 := ⟨_, rfl⟩
  obtain ⟨xb, hxb⟩ : ∃ xb, W.heap.size = xb := ⟨_, rfl⟩
  have hm1 : Mods [] W w1 := by rw [← hw1]; exact (Mods.refl _ _).alloc _
  have hb1 : Blk w1 xb 88 [.int .i64 (x1 : Nat), .string x2] := by rw [← hw1, ← hxb]; exact Blk.new W 88 _
  have a0 := hb1.cell (i := 0) rfl
  have a1 := hb1.cell (i := 1) rfl
  have hD1 := h.dev.keep hm1 (by simp)
  have d1 := hD1.cell (i := 1) rfl
  have d2 := hD1.cell (i := 2) rfl
  have hM1 := h.media.keep hm1 (by simp)
  have t0 := hM1.cell (i := x1) (v := .string o) (by rw [List.getElem?_map, ho]; rfl)
  have t1 := hM1.free x1
  have HM1 := Lib.hid hm1
  have HMB := Lib.hid hM1
  unfold fateStep
  simp only
  rw [hgd]
  -- what is stored
  have key : ∀ (v : ByteArray) (w' : World), v.size = D.size → Blk w' mb 9 ((D.media.map Value.string).set x1 (.string v)) → Mods [mb] W w' → DevIn w' b mb bb cv c0 c1 c2 { D with media := D.media.set x1 v } ∧ Mods [mb] W w' := fun v w' hv hB hm => by
    refine ⟨h.remedia hnd hm (by rw [List.length_set]; exact h.ok.media) (fun s hs => ?_) (by rw [List.map_set]; exact hB), hm⟩
    rcases List.mem_or_eq_of_mem_set hs with h1 | h1
    · exact h.ok.each s h1
    · rw [h1]; exact hv
  have HKEY := Lib.hid key
  have same : D.media.set x1 o = D.media := by
    obtain ⟨hl, he⟩ := List.getElem?_eq_some_iff.1 ho
    rw [← he, List.set_getElem_self]
  have HSAME := Lib.hid same
  have hsec := h.ok.media
  clear key same hnd h hD1 hM1 hm1 hb1 ho hgd
  by_cases h1 : f = 1
  · subst h1
    have e : fated D.size 1 x2 o = x2 := rfl
    rw [e]
    go_enter Try.func52, Try.ntmps52
    go_upto_region 2 with fail
    try rw [hw1, hxb]
    clear hw1
    go_region
    go_wp2_with fail
    go_end0
    refine ⟨rfl, Lib.hid (HKEY.out _ _ hz ((HMB.out.set x1 (.string x2)).drewN 1) ((((HM1.out.mono (by simp)).setCell (.inl (by simp)) _).drewN 1)))⟩
  · by_cases h2 : 2 ≤ f
    · obtain ⟨f2, hf2⟩ : ∃ f2, f - 2 = f2 := ⟨_, rfl⟩
      obtain ⟨z1, hz1⟩ : ∃ z1, D.size - 1 = z1 := ⟨_, rfl⟩
      obtain ⟨n, hn⟩ : ∃ n, min f2 z1 = n := ⟨_, rfl⟩
      have e : fated D.size f x2 o = tearB n x2 o := by unfold fated; rw [if_neg h1, if_pos h2, hf2, hz1, hn]
      have HE : Hid (x2.extract 0 n ++ o.extract n D.size = tearB n x2 o) := Lib.hid (by rw [← hos]; exact tear_eq x2 o n)
      have hw2 : IntKind.i64.wrap ((f : Int) - 2) = (f2 : Int) := by rw [IntKind.wrap_i64]; omega
      have hw3 : IntKind.i64.wrap ((D.size : Int) - 1) = (z1 : Int) := by rw [IntKind.wrap_i64]; omega
      have hmn : min (f2 : Int) (z1 : Int) = (n : Int) := by omega
      have hn1 : n ≤ x2.size := by omega
      have hn2 : n ≤ o.size := by omega
      have hf1 : ¬ (f : Int) = 1 := by omega
      have hge : (2 : Int) ≤ (f : Int) := by omega
      rw [e]
      have hts : (tearB n x2 o).size = D.size := (tearB_size (hz.trans hos.symm)).trans hos
      rw [← HE.out] at hts ⊢
      obtain ⟨y, hy⟩ : ∃ y, x2.extract 0 n ++ o.extract n D.size = y := ⟨_, rfl⟩
      rw [hy] at hts ⊢
      clear e HE h1 h2 hf2 hz1 hn
      go_enter Try.func52, Try.ntmps52
      go_upto_region 5 with fail
      try rw [hw1, hxb]
      clear hw1
      go_region
      go_wp2_with fail
      go_end0
      refine ⟨rfl, Lib.hid (HKEY.out _ _ hts ((HMB.out.set x1 (.string y)).drewN 1) ((((HM1.out.mono (by simp)).setCell (.inl (by simp)) _).drewN 1)))⟩
    · have e : fated D.size f x2 o = o := by unfold fated; rw [if_neg h1, if_neg h2]
      rw [e, HSAME.out]
      have hf0 : f = 0 := by omega
      subst hf0
      go_enter Try.func52, Try.ntmps52
      go_wp2_with fail
      go_end0
      exact ⟨rfl, Lib.hid ⟨(H.out.remedia HND.out (HM1.out.mono (by simp)) hsec H.out.ok.each HMB.out), HM1.out.mono (by simp)⟩⟩
def zipN (D : Dev) (fs : List Nat) : List ((Nat × ByteArray) × Nat) := D.cache.zip fs
theorem crashM_snoc (z : Nat) (m : List ByteArray) (l : List ((Nat × ByteArray) × Nat)) (q : (Nat × ByteArray) × Nat) : crashM z m (l ++ [q]) = fateStep z (crashM z m l) q := by unfold crashM; rw [List.foldl_append]; rfl
set_option maxRecDepth 100000 in
set_option maxHeartbeats 1600000 in
theorem dCrash_any {fp : List Nat} (h : IsDev W b fp D) (hc : D.cache.length < 1000000) {A : Option Addr} {nf cap : Nat} {fs : List Nat} (hr : Row W A (fateRow fs)) (hl : fs.length = nf) (hnf : nf ≤ 1000000) (hf : ∀ f ∈ fs, f ≤ 1000000) (hA : ∀ a, A = some a → a.block ∉ fp) :
    Calls Try.prog 23 #[.pointer (some ⟨b, 0, none⟩), .slice A nf cap] W fun e w' => e = .returned (.tuple #[]) ∧ Hid (∃ fp', DevTo W w' b fp fp' (D.crash fs)) := by
  obtain ⟨mb, bb, cv, c0, c1, c2, hin, rfl, hnd⟩ := h
  obtain ⟨Ac, cc, hcv, _⟩ := owns_shapeD hin.cache
  obtain ⟨nc, hnc⟩ : ∃ nc, D.cache.length = nc := ⟨_, rfl⟩
  rw [hnc] at hcv hc
  subst hcv
  have HIN := Lib.hid hin
  have HND := Lib.hid hnd
  have HR := Lib.hid hr
  have HL := Lib.hid hl
  have HF := Lib.hid hf
  have HA := Lib.hid hA
  have HNC := Lib.hid hnc
  have d4 := hin.dev.cell (i := 4) rfl
  clear hin hnd hr hl hf hA hnc
  go_enter Try.func23, Try.ntmps23
  go_wp2_with fail
  go_loopw [13] (fun iv wr => ∃ j : Nat, j ≤ nc ∧ iv = .int .i64 (j : Nat) ∧ DevIn wr b mb bb (.slice Ac nc cc) c0 c1 c2 { D with media := crashM D.size D.media ((D.cache.zip fs).take j) } ∧ Mods (b :: mb :: bb :: (Value.slice Ac nc cc).ownBlock.toList) W wr) (fun iv _ => nc - (intOf iv).toNat)
  case atStart => exact ⟨0, Nat.zero_le _, rfl, HIN.out, Mods.refl _ _⟩
  case round =>
    obtain ⟨j, hj, rfl, hD, hM⟩ := hrel
    have HDJ := Lib.hid hD
    have HMJ := Lib.hid hM
    obtain ⟨mj, hmj⟩ : ∃ mj, crashM D.size D.media ((D.cache.zip fs).take j) = mj := ⟨_, rfl⟩
    have HMJE := Lib.hid hmj
    rw [hmj] at HDJ
    clear hD hM hmj
    by_cases hjl : j < nc
    · obtain ⟨x, hx⟩ : ∃ x, D.cache[j]? = some x := ⟨_, List.getElem?_eq_getElem (by rw [HNC.out]; exact hjl)⟩
      have hjli : (j : Int) < (nc : Int) := by omega
      obtain ⟨A2, cap2, hA2, hcells⟩ := owns_shapeD HDJ.out.cache
      injection hA2 with hA2 hle hcap2
      subst hA2 hcap2
      clear hle
      obtain ⟨g, hg, c0'⟩ := hcells _ _ (wRow_at hx).1
      obtain ⟨_, hg', c1'⟩ := hcells _ _ (wRow_at hx).2
      subst hg
      injection hg' with hg'; injection hg' with hg'
      subst hg'
      obtain ⟨x1, x2⟩ := x
      have hxo := HIN.out.ok.cache _ (List.mem_of_getElem? hx)
      simp only at c0' c1' hxo
      obtain ⟨wa, hwa⟩ : ∃ wa, wr.alloc (.cells #[.int .i64 (x1 : Nat), .string x2] 88) = wa := ⟨_, rfl⟩
      have hma : Mods [] wr wa := by rw [← hwa]; exact (Mods.refl _ _).alloc _
      have hNa : Blk wa wr.heap.size 88 [.int .i64 (x1 : Nat), .string x2] := by rw [← hwa]; exact Blk.new wr 88 _
      have a0 := hNa.cell (i := 0) rfl
      have a1 := hNa.cell (i := 1) rfl
      have HX := Lib.hid hx
      have HMA := Lib.hid hma
      have HNA := Lib.hid hNa
      have HWA := Lib.hid hwa
      clear hcells hma hNa hwa hx
      by_cases hjf : j < nf
      · have hjfi : (j : Int) < (nf : Int) := by omega
        obtain ⟨f, hfj⟩ : ∃ f, fs[j]? = some f := ⟨_, List.getElem?_eq_getElem (by rw [HL.out]; exact hjf)⟩
        have hrw : Row wa A (fateRow fs) := (HR.out.keep HMJ.out (fun a ha hx => HA.out a ha hx)).keep0 HMA.out
        obtain ⟨bf, of, rfl, hcl⟩ := hrw.at (i := j) (u := .int .i64 (f : Nat)) (by unfold fateRow; rw [List.getElem?_map, hfj]; rfl)
        have cS := Lib.hid (fun (w : World) (hm : Mods [] wa w) => dSettle_any (W := w) ((show DevIn w b mb bb (.slice (some ⟨g, 0, none⟩) nc cc) c0 c1 c2 { D with media := mj } from ⟨HDJ.out.ok, HDJ.out.fuse, HDJ.out.lose, HDJ.out.stray, (HDJ.out.dev.keep HMA.out (by simp)).keep hm (by simp), (HDJ.out.media.keep HMA.out (by simp)).keep hm (by simp), (HDJ.out.bad.keep HMA.out (by simp)).keep hm (by simp), owns_keepF (owns_keepF HDJ.out.cache HMA.out (by simp)) hm (by simp)⟩)) HND.out (x1 := x1) (x2 := x2) hxo.1 hxo.2 f (HF.out f (List.mem_of_getElem? hfj)))
        have HSN : Hid ((D.cache.zip fs).take (j + 1) = (D.cache.zip fs).take j ++ [((x1, x2), f)]) := Lib.hid (by
          have hz : (D.cache.zip fs)[j]? = some ((x1, x2), f) := List.getElem?_zip_eq_some.2 ⟨HX.out, hfj⟩
          rw [List.take_add_one, hz]; rfl)
        have HRW := Lib.hid hrw
        have HFJ : Hid ((fateRow fs)[j]? = some (.int .i64 (f : Nat))) := Lib.hid (by unfold fateRow; rw [List.getElem?_map, hfj]; rfl)
        have hne : bf ≠ mb := fun e => HA.out _ rfl (by simp [e])
        clear hfj hrw hxo
        go_wp2_with fail
        rw [HWA.out]
        clear c0' c1'
        go_wp2_with fail
        go_region_held3 (fun w' => w'.cell? ⟨wr.heap.size, 0, none⟩ = some (.int .i64 (x1 : Nat)) ∧ w'.cell? ⟨wr.heap.size, 1, none⟩ = some (.string x2) ∧ w'.cell? ⟨bf, of + j, none⟩ = some (.int .i64 (f : Nat)))
          (first | go_keep | exact HS5.out | fail)
          ((first | (go_at_call 52; refine (cS.out _ ((Mods.refl _ _).drew)).mono ?_; rintro e w2 ⟨rfl, HD2⟩; have HM2 := Lib.hid ((((Mods.refl [] wa).drew).mono (L1 := [mb]) (by simp)).trans HD2.out.2 (fun k hk => .inl hk)); have HN2 := HNA.out.keep HM2.out (fun hx => by have h1 := HDJ.out.media.lt; have h2 := List.mem_singleton.1 hx; omega); have HS5 : Hid (w2.cell? ⟨wr.heap.size, 0, none⟩ = some (.int .i64 (x1 : Nat)) ∧ w2.cell? ⟨wr.heap.size, 1, none⟩ = some (.string x2) ∧ w2.cell? ⟨bf, of + j, none⟩ = some (.int .i64 (f : Nat))) := Lib.hid ⟨HN2.cell (i := 0) rfl, HN2.cell (i := 1) rfl, by
            have hk := HRW.out.keep HM2.out (fun a ha hx => by injection ha with ha; subst ha; exact hne (List.mem_singleton.1 hx))
            rcases hk with hk | ⟨b5, o5, h5, hk⟩
            · exact absurd hk (fun e => by have := HFJ.out; rw [e] at this; cases this)
            · injection h5 with h5; injection h5 with h5 h6; subst h5; subst h6; exact hk j _ HFJ.out⟩) | fail))
        go_wp2_with fail
        go_roundw
        case rel =>
          refine ⟨j + 1, by omega, by go_num, ?_, HMJ.out.trans (HMA.out.mono (L1 := [mb]) (by simp) |>.trans HM2.out (fun k hk => .inl hk)) (fun k hk => .inl (by rw [List.mem_singleton.1 hk]; simp))⟩
          rw [HSN.out, crashM_snoc, HMJE.out]
          exact HD2.out.1
        case measure => simp [intOf]; omega
      · have hjfi : ¬ (j : Int) < (nf : Int) := by omega
        have HSM : Hid ((D.cache.zip fs).take (j + 1) = (D.cache.zip fs).take j) := Lib.hid (by
          have hz : (D.cache.zip fs).length ≤ j := by rw [List.length_zip, HL.out]; omega
          rw [List.take_of_length_le (by omega), List.take_of_length_le hz])
        go_wp2_with fail
        rw [HWA.out]
        clear c0' c1'
        go_wp2_with fail
        go_roundw
        case rel => exact ⟨j + 1, by omega, by go_num, by rw [HSM.out, HMJE.out]; exact ⟨HDJ.out.ok, HDJ.out.fuse, HDJ.out.lose, HDJ.out.stray, HDJ.out.dev.keep HMA.out (by simp), HDJ.out.media.keep HMA.out (by simp), HDJ.out.bad.keep HMA.out (by simp), owns_keepF HDJ.out.cache HMA.out (by simp)⟩, HMJ.out.trans HMA.out (by simp)⟩
        case measure => simp [intOf]; omega
    · obtain rfl : j = nc := by omega
      have hjli : ¬ (j : Int) < (j : Int) := by omega
      have f4 := HDJ.out.dev.free 4
      have f5 := HDJ.out.dev.free 5
      have f9 := HDJ.out.dev.free 9
      have d4 := HDJ.out.dev.cell (i := 4) rfl
      have d5 := HDJ.out.dev.cell (i := 5) rfl
      have d9 := HDJ.out.dev.cell (i := 9) rfl
      go_wp2_with fail
      go_end0
      have hn := HND.out
      simp only [List.nodup_cons, List.mem_cons, Option.mem_toList, not_or] at hn
      obtain ⟨⟨n1, n2, n3⟩, ⟨n4, n5⟩, n6, _⟩ := hn
      have hall : (D.cache.zip fs).take j = D.cache.zip fs := List.take_of_length_le (by rw [List.length_zip, HNC.out]; omega)
      rw [hall] at HMJE
      have hB := ((HDJ.out.dev.set 4 (.slice none 0 0)).set 9 (.bool false)).set 5 (.int .i64 0)
      have hm : Mods [b] wr (((wr.setCell ⟨b, 4, none⟩ (.slice none 0 0)).setCell ⟨b, 9, none⟩ (.bool false)).setCell ⟨b, 5, none⟩ (.int .i64 0)) := (((Mods.refl _ _).setCell (by simp) _).setCell (by simp) _).setCell (by simp) _
      have hok := HDJ.out.ok
      refine ⟨rfl, Lib.hid ⟨[b, mb, bb], ⟨mb, bb, .slice none 0 0, c0, c1, c2, ⟨?_, by show (0 : Nat) ≤ _; decide, HDJ.out.lose, HDJ.out.stray, hB, ?_, HDJ.out.bad.keep hm (by simpa using fun e => n2 e.symm), World.ownsRow_nil _ _ _ _⟩, rfl, by simp [n1, n2, n4]⟩, fun k hk => .inl ?_, HMJ.out.trans hm (fun k hk => .inl (by rw [List.mem_singleton.1 hk]; simp))⟩⟩
      · refine ⟨?_, hok.bad, hok.sec, hok.size0, hok.size1, ?_, fun x hx => by cases hx⟩
        · show (crashM D.size D.media (D.cache.zip fs)).length = _
          rw [HMJE.out]; exact hok.media
        · show ∀ s ∈ crashM D.size D.media (D.cache.zip fs), _
          rw [HMJE.out]; exact hok.each
      · show Blk _ mb 9 ((crashM D.size D.media (D.cache.zip fs)).map Value.string)
        rw [HMJE.out]
        exact HDJ.out.media.keep hm (by simpa using fun e => n1 e.symm)
      · simp only [List.mem_cons, List.not_mem_nil, or_false] at hk
        simp only [List.mem_cons]
        rcases hk with h | h | h
        · exact .inl h
        · exact .inr (.inl h)
        · exact .inr (.inr (.inl h))
end
end Go.Proofs.Ytnpfhfgegjocoaa
/- A device's Fuse. -/
namespace Go.Proofs.Ytnpfhfgegjocoaa
open Go.RowKit

theorem dFuse_any {W : World} {b : Nat} {fp : List Nat} {D : Dev} (h : IsDev W b fp D) (n : Nat) (hn : n ≤ 9223372036854775807) : Calls Try.prog 22 #[.pointer (some ⟨b, 0, none⟩), .int .i64 (n : Nat)] W fun e w' => e = .returned (.tuple #[]) ∧ IsDev w' b fp { D with fuse := n } ∧ Mods [b] W w' := by
  obtain ⟨mb, bb, cv, c0, c1, c2, hi, hfp, hnd⟩ := h
  have d0 := hi.dev.cell (i := 5) rfl
  have f0 := hi.dev.free 5
  have H := Lib.hid (And.intro hi (And.intro hfp hnd))
  clear hi hfp hnd
  go_enter Try.func22, Try.ntmps22
  go_wp2_with fail
  all_goals go_returns
  all_goals obtain ⟨hi, hfp, hnd⟩ := H.out
  all_goals have hm : Mods [b] W (W.setCell ⟨b, 5, none⟩ (.int .i64 (n : Nat))) := (Mods.refl _ _).setCell (.inl (by simp)) _
  all_goals exact ⟨rfl, ⟨mb, bb, cv, c0, c1, c2, hi.turn (hfp ▸ hnd) hm (hi.dev.set 5 _) ⟨hi.ok.media, hi.ok.bad, hi.ok.sec, hi.ok.size0, hi.ok.size1, hi.ok.each, hi.ok.cache⟩ hn hi.lose hi.stray rfl rfl rfl, hfp, hnd⟩, hm⟩
end Go.Proofs.Ytnpfhfgegjocoaa
/- RemapTorn, plainly: a pair whose slots may be torn; a move, cut off wherever, and all opened anew. -/
namespace Go.Proofs.Ytnpfhfgegjocoaa

/-! devices -/
structure TDev (D : Dev) : Prop where
  q : DevQ D
  sec : D.sectors = 20
  size : D.size = 128
  cache : D.cache = []
def setM (D : Dev) (k : Nat) (y : ByteArray) : Dev := { D with media := D.media.set k y }
def withFuse (D : Dev) (f : Nat) : Dev := { D with fuse := f }
def slotM (D : Dev) (k : Nat) : ByteArray := D.media.getD k ⟨#[]⟩
theorem TDev.slot_size {D : Dev} (h : TDev D) {k : Nat} (hk : k < 4) : (slotM D k).size = 128 := by
  have hl : k < D.media.length := by rw [h.q.ok.media, h.sec]; omega
  unfold slotM
  rw [List.getD_eq_getElem?_getD, List.getElem?_eq_getElem hl, Option.getD_some, h.q.ok.each _ (List.getElem_mem hl), h.size]
theorem TDev.setM {D : Dev} (h : TDev D) {k : Nat} {y : ByteArray} (hy : y.size = 128) : TDev (setM D k y) := by
  refine ⟨⟨⟨h.q.q.off, h.q.q.gone, h.q.q.fuse, h.q.q.lose, h.q.q.stray⟩, ⟨?_, h.q.ok.bad, h.q.ok.sec, h.q.ok.size0, h.q.ok.size1, fun s hs => ?_, h.q.ok.cache⟩, h.q.sec, h.q.bad, h.q.cache⟩, h.sec, h.size, h.cache⟩
  · show (D.media.set k y).length = _
    rw [List.length_set]; exact h.q.ok.media
  · have hs' : s ∈ D.media.set k y := hs
    show s.size = D.size
    rcases List.mem_or_eq_of_mem_set hs' with h1 | h1
    · exact h.q.ok.each s h1
    · rw [h1, hy, h.size]
theorem setM_at {D : Dev} (h : TDev D) {k : Nat} (hk : k < 4) (y : ByteArray) : slotM (setM D k y) k = y := by
  unfold slotM setM
  rw [List.getD_eq_getElem?_getD, List.getElem?_set_self (by rw [h.q.ok.media, h.sec]; omega)]; rfl
theorem setM_other {D : Dev} {k j : Nat} (hne : j ≠ k) (y : ByteArray) : slotM (setM D k y) j = slotM D j := by
  unfold slotM setM
  rw [List.getD_eq_getElem?_getD, List.getElem?_set_ne (Ne.symm hne), ← List.getD_eq_getElem?_getD]
theorem setM_same {D : Dev} (h : TDev D) {k : Nat} (hk : k < 4) : setM D k (slotM D k) = D := by
  have hl : k < D.media.length := by rw [h.q.ok.media, h.sec]; omega
  have e : D.media.set k (slotM D k) = D.media := by
    unfold slotM
    rw [List.getD_eq_getElem?_getD, List.getElem?_eq_getElem hl, Option.getD_some, List.set_getElem_self]
  unfold setM
  rw [e]
theorem TDev.fuse0 {D : Dev} (h : TDev D) : withFuse D 0 = D := by
  have := h.q.q.fuse
  unfold withFuse
  cases D
  simp only at this
  rw [this]
theorem TDev.crash {D : Dev} (h : TDev D) (f : Nat) (fs : List Nat) : (withFuse D f).crash fs = D := by
  have h1 := h.q.q.fuse
  have h2 := h.q.q.off
  have h3 := h.cache
  unfold withFuse Dev.crash
  cases D
  simp only at h1 h2 h3
  subst h1 h2 h3
  rfl
theorem fated_tear (f : Nat) {w m : ByteArray} (hw : w.size = 128) (hm : m.size = 128) : ∃ n, fated 128 f w m = tearB n w m := by
  unfold fated
  by_cases h1 : f = 1
  · rw [if_pos h1]
    refine ⟨128, ?_⟩
    unfold tearB
    rw [tearL_all (by rw [size_toList, size_toList, hw, hm]) (by rw [size_toList, hm]; exact Nat.le_refl _)]
    exact (bA_of w).symm
  · rw [if_neg h1]
    by_cases h2 : 2 ≤ f
    · rw [if_pos h2]; exact ⟨_, rfl⟩
    · rw [if_neg h2]
      refine ⟨0, ?_⟩
      unfold tearB
      rw [tearL_zero]
      exact (bA_of m).symm
theorem tearB_zero (w m : ByteArray) : tearB 0 w m = m := by
  unfold tearB
  rw [tearL_zero]
  exact bA_of m
/-- A put under a fuse, and the crash behind it: whole, or torn. -/
theorem put_crash {D : Dev} (h : TDev D) {k : Nat} (hk : k < 4) {x : ByteArray} (hx : x.size = 128) (f : Nat) (fs : List Nat) :
    ((putD (withFuse D f) k x).1 = (true, 0) ∧ (putD (withFuse D f) k x).2.crash fs = setM D k x) ∨ ((putD (withFuse D f) k x).1 = (false, 6) ∧ ∃ n, (putD (withFuse D f) k x).2.crash fs = setM D k (tearB n x (slotM D k))) := by
  have q := h.q.q
  have hrd : ∀ f, (withFuse D f).ready = 0 := fun f => by unfold Dev.ready withFuse; simp only; rw [q.off, q.gone]; rfl
  have hsec : k < D.sectors := by rw [h.sec]; omega
  have hxs : x.size = D.size := by rw [h.size]; exact hx
  have hbad := h.q.bad k hk
  by_cases h0 : f = 0
  · subst h0
    refine .inl ?_
    rw [h.fuse0, h.q.put hk hxs]
    refine ⟨rfl, ?_⟩
    have e : kept D k x = setM D k x := by
      unfold kept setM
      rw [h.cache]
      rfl
    rw [e]
    have := (h.setM (k := k) (y := x) hx).crash 0 fs
    rw [(h.setM (k := k) (y := x) hx).fuse0] at this
    exact this
  · by_cases h1 : f = 1
    · subst h1
      refine .inr ?_
      have hb : (withFuse D 1).burn = (6, { withFuse D 1 with fuse := 0, off := true }) := by unfold Dev.burn withFuse; simp
      have hw : (withFuse D 1).write (k : Int) x = (6, { withFuse D 1 with fuse := 0, off := true }) := by
        unfold Dev.write
        rw [if_neg (by rw [hrd]; simp), if_neg (by rw [Dev.isS_of (D := withFuse D 1) hsec]; simp), if_neg (by show ¬ x.size ≠ D.size; rw [hxs]; simp), hb]
        simp
      have hp : putD (withFuse D 1) k x = ((false, 6), { withFuse D 1 with fuse := 0, off := true }) := by
        unfold putD
        simp only
        rw [hw]
        simp
      rw [hp]
      refine ⟨rfl, 0, ?_⟩
      rw [tearB_zero, setM_same h hk]
      exact h.crash 1 fs
    · have hb : (withFuse D f).burn = (0, withFuse D (f - 1)) := by
        unfold Dev.burn withFuse
        simp only
        rw [if_neg h0, if_neg h1]
      have hw : (withFuse D f).write (k : Int) x = (0, { withFuse D (f - 1) with cache := [(k, x)] }) := by
        unfold Dev.write
        rw [if_neg (by rw [hrd]; simp), if_neg (by rw [Dev.isS_of (D := withFuse D f) hsec]; simp), if_neg (by show ¬ x.size ≠ D.size; rw [hxs]; simp), hb]
        simp only [ne_eq, not_true_eq_false, if_false]
        rw [Int.toNat_natCast, if_neg (by show ¬ D.bad.getD k false = true; rw [hbad]; simp)]
        congr 1
        have h1 := q.lose
        have h2 := q.stray
        have h3 := h.cache
        unfold Dev.put withFuse
        cases D
        simp only at h1 h2 h3
        subst h1 h2 h3
        rfl
      by_cases h2 : f = 2
      · subst h2
        refine .inr ?_
        have hf : ({ withFuse D (2 - 1) with cache := [(k, x)] } : Dev).flush = (6, { withFuse D 0 with cache := [(k, x)], off := true }) := by
          unfold Dev.flush
          rw [if_neg (by show ¬ (withFuse D (2 - 1)).ready ≠ 0; rw [hrd]; simp)]
          unfold Dev.burn withFuse
          simp
        have hp : putD (withFuse D 2) k x = ((false, 6), { withFuse D 0 with cache := [(k, x)], off := true }) := by
          unfold putD
          simp only
          rw [hw]
          simp only [if_true]
          rw [hf]
          simp
        rw [hp]
        refine ⟨rfl, ?_⟩
        have hsl := h.slot_size hk
        have key : ∃ n, crashM 128 D.media ([(k, x)].zip fs) = D.media.set k (tearB n x (slotM D k)) := by
          match fs with
          | [] =>
            refine ⟨0, ?_⟩
            rw [tearB_zero]
            have := congrArg Dev.media (setM_same h hk)
            exact this.symm
          | f0 :: fs =>
            obtain ⟨n, e⟩ := fated_tear f0 hx hsl
            refine ⟨n, ?_⟩
            show D.media.set k (fated 128 f0 x (slotM D k)) = _
            rw [e]
        obtain ⟨n, e⟩ := key
        refine ⟨n, ?_⟩
        have h1 := q.fuse
        have h2 := q.off
        have h3 := h.cache
        have h4 := h.size
        unfold Dev.crash withFuse setM
        simp only
        rw [h4, e]
        cases D
        simp only at h1 h2 h3
        subst h1 h2 h3
        rfl
      · refine .inl ?_
        have hf : ({ withFuse D (f - 1) with cache := [(k, x)] } : Dev).flush = (0, { withFuse D (f - 2) with media := D.media.set k x, cache := [] }) := by
          unfold Dev.flush
          rw [if_neg (by show ¬ (withFuse D (f - 1)).ready ≠ 0; rw [hrd]; simp)]
          have hb2 : ({ withFuse D (f - 1) with cache := [(k, x)] } : Dev).burn = (0, { withFuse D (f - 2) with cache := [(k, x)] }) := by
            unfold Dev.burn withFuse
            simp only
            rw [if_neg (by omega), if_neg (by omega), show f - 1 - 1 = f - 2 by omega]
          rw [hb2]
          simp only [ne_eq, not_true_eq_false, if_false]
          rfl
        have hp : putD (withFuse D f) k x = ((true, 0), { withFuse D (f - 2) with media := D.media.set k x, cache := [] }) := by
          unfold putD
          simp only
          rw [hw]
          simp only [if_true]
          rw [hf]
          simp
        rw [hp]
        refine ⟨rfl, ?_⟩
        have h1 := q.fuse
        have h2 := q.off
        have h3 := h.cache
        unfold Dev.crash withFuse setM
        cases D
        simp only at h1 h2 h3
        subst h1 h2 h3
        rfl
end Go.Proofs.Ytnpfhfgegjocoaa
/- RemapTorn, plainly: a pair whose slots may be torn: a move that is cut off wherever; what is found then. -/
namespace Go.Proofs.Ytnpfhfgegjocoaa

structure TSide (P : Pr) (s : Nat) : Prop where
  blocks : (P.tab s).blocks = 12
  spares : (P.tab s).spares = 4
  len : (P.tab s).moved.length ≤ 4
  each : ∀ e ∈ (P.tab s).moved, e < 12
  cur : slotM (P.dev s) (slotOf true (P.tab s).moved.length) = bA (imageOf 128 s (P.tab s).moved)
  nxt : (P.tab s).moved.length ≤ 3 → ∃ B M, BaseT (P.tab s).moved B ∧ TornX s (P.tab s).moved B M (slotM (P.dev s) (slotOf true ((P.tab s).moved.length + 1))).toList
  no : ∀ T, parseP 12 4 s (slotM (P.dev s) (slotOf true ((P.tab s).moved.length + 1))) = some T → T.moved.length < (P.tab s).moved.length
  oth : ∀ k, k < 2 → LowG (P.tab s).moved.length (slotM (P.dev (1 - s)) (slotOf false k)).toList
structure TP (P : Pr) : Prop where
  n : P.n = 4
  dev : ∀ d, d < 2 → TDev (P.dev d)
  side : ∀ s, s < 2 → TSide P s
theorem TSide.ok {P : Pr} {s : Nat} (h : TSide P s) : (P.tab s).Ok := ⟨by rw [h.blocks]; decide, by rw [h.spares]; decide, by rw [h.spares]; exact h.len, by rw [h.blocks]; exact h.each⟩
theorem slot_par (own : Bool) (g : Nat) : slotOf own (g + 2) = slotOf own g := by unfold slotOf; rw [Nat.add_mod_right]
theorem better_keep_le {T : Tab} {o : Option Tab} (h : ∀ u, o = some u → u.moved.length ≤ T.moved.length) : better (some T) o = some T := by
  unfold better
  cases o with
  | none => rfl
  | some u =>
    simp only
    rw [if_neg (by have := h u rfl; omega)]
section
variable {P : Pr} {s : Nat}
theorem TP.inv0 (h : TP P) : PInv0 P := ⟨fun d hd => (h.dev d hd).q, fun d hd => ⟨(h.dev d hd).size.trans (h.dev 0 (by decide)).size.symm, (h.dev d hd).sec.trans (h.dev 0 (by decide)).sec.symm⟩, by
  unfold Pr.Fit
  rw [(h.dev 0 (by decide)).sec, (h.dev 0 (by decide)).size, h.n]
  decide⟩
theorem TP.lookAt (h : TP P) (hs : s < 2) {d g : Nat} (hd : d < 2) : look P s d g = parseP 12 4 s (slotM (P.dev d) (slotOf (decide (d = s)) g)) := by
  rw [look_at h.inv0 hs hd, (h.dev 0 (by decide)).sec, (h.dev 0 (by decide)).size, h.n]
  rfl
/-- The side's own table is found. -/
theorem TP.find (h : TP P) (hs : s < 2) : findP P s = some (P.tab s) := by
  have hS := h.side s hs
  have hcur : look P s s ((P.tab s).moved.length % 2) = some (P.tab s) := by
    rw [h.lookAt hs hs, decide_eq_true rfl, slotOf_mod, hS.cur]
    have := image_parse (size := 128) hs (by decide) (by decide) hS.ok (by have := hS.len; omega)
    rw [hS.blocks, hS.spares] at this
    exact this
  have hold : LeO (look P s s (((P.tab s).moved.length + 1) % 2)) (P.tab s) := by
    intro u hu
    rw [h.lookAt hs hs, decide_eq_true rfl, slotOf_mod] at hu
    exact hS.no u hu
  have hoth : ∀ k, k < 2 → ∀ u, look P s (1 - s) k = some u → u.moved.length ≤ (P.tab s).moved.length := fun k hk u hu => by
    rw [h.lookAt hs (by omega), decide_eq_false (by omega)] at hu
    rw [← bA_of (slotM (P.dev (1 - s)) (slotOf false k))] at hu
    exact lowg_parse (hS.oth k hk) hu
  unfold findP
  rcases Nat.mod_two_eq_zero_or_one (P.tab s).moved.length with e | e
  · rw [e] at hcur
    rw [show ((P.tab s).moved.length + 1) % 2 = 1 by omega] at hold
    rw [hcur, better_cur (o := none) (fun u hu => nomatch hu), better_keep (.inr hold), better_keep_le (hoth 0 (by decide)), better_keep_le (hoth 1 (by decide))]
  · rw [e] at hcur
    rw [show ((P.tab s).moved.length + 1) % 2 = 0 by omega] at hold
    rw [hcur, better_cur (better_le (o := none) (fun u hu => nomatch hu) hold), better_keep_le (hoth 0 (by decide)), better_keep_le (hoth 1 (by decide))]
theorem look_of (P Q : Pr) (hn : Q.n = P.n) (hd : ∀ d, d < 2 → Q.dev d = P.dev d) (hs : s < 2) {d g : Nat} (hd2 : d < 2) : look Q s d g = look P s d g := by
  unfold Go.Proofs.Ytnpfhfgegjocoaa.look
  rw [hd d hd2, hd s hs, hn]
theorem find_of (P Q : Pr) (hn : Q.n = P.n) (hd : ∀ d, d < 2 → Q.dev d = P.dev d) (hs : s < 2) : findP Q s = findP P s := by
  unfold findP
  rw [look_of P Q hn hd hs hs, look_of P Q hn hd hs hs, look_of P Q hn hd hs (by omega), look_of P Q hn hd hs (by omega)]
/-- A side of which no slot turned. -/
theorem TSide.keep {Q : Pr} (h : TSide P s) (ht : Q.tab s = P.tab s) (h1 : ∀ k, slotM (Q.dev s) (slotOf true k) = slotM (P.dev s) (slotOf true k)) (h2 : ∀ k, slotM (Q.dev (1 - s)) (slotOf false k) = slotM (P.dev (1 - s)) (slotOf false k)) : TSide Q s := by
  refine ⟨?_, ?_, ?_, ?_, ?_, ?_, ?_, ?_⟩
  all_goals rw [ht]
  · exact h.blocks
  · exact h.spares
  · exact h.len
  · exact h.each
  · rw [h1]; exact h.cur
  · rw [h1]; exact h.nxt
  · rw [h1]; exact h.no
  · exact fun k hk => by rw [h2]; exact h.oth k hk
/-- A side whose table was moved. -/
theorem TSide.moved {Q : Pr} (h : TSide P s) (hs : s < 2) (hg : (P.tab s).moved.length ≤ 3) {i : Nat} (hi : i < 12) (ht : Q.tab s = { P.tab s with moved := (P.tab s).moved ++ [i] })
    (hx : slotM (Q.dev s) (slotOf true ((P.tab s).moved.length + 1)) = bA (imageOf 128 s ((P.tab s).moved ++ [i]))) (hc : slotM (Q.dev s) (slotOf true (P.tab s).moved.length) = slotM (P.dev s) (slotOf true (P.tab s).moved.length))
    (hl : ∀ k, k < 2 → LowG ((P.tab s).moved.length + 1) (slotM (Q.dev (1 - s)) (slotOf false k)).toList) : TSide Q s := by
  have hlen : ((P.tab s).moved ++ [i]).length = (P.tab s).moved.length + 1 := by simp
  refine ⟨?_, ?_, ?_, ?_, ?_, ?_, ?_, ?_⟩
  all_goals rw [ht]
  · exact h.blocks
  · exact h.spares
  · show ((P.tab s).moved ++ [i]).length ≤ 4
    rw [hlen]; omega
  · intro e he
    rcases List.mem_append.1 he with h1 | h1
    · exact h.each e h1
    · rw [List.mem_singleton.1 h1]; exact hi
  · show slotM (Q.dev s) (slotOf true ((P.tab s).moved ++ [i]).length) = _
    rw [hlen]; exact hx
  · intro _
    show ∃ B M, BaseT ((P.tab s).moved ++ [i]) B ∧ TornX s ((P.tab s).moved ++ [i]) B M (slotM (Q.dev s) (slotOf true (((P.tab s).moved ++ [i]).length + 1))).toList
    rw [hlen, show (P.tab s).moved.length + 1 + 1 = (P.tab s).moved.length + 2 by omega, slot_par, hc, h.cur, bA_list]
    have hb := base_image (x := i) hs hg h.each
    exact ⟨_, 0, hb, TornX.base hb⟩
  · intro T hT
    show T.moved.length < ((P.tab s).moved ++ [i]).length
    change parseP 12 4 s (slotM (Q.dev s) (slotOf true (((P.tab s).moved ++ [i]).length + 1))) = some T at hT
    rw [hlen, show (P.tab s).moved.length + 1 + 1 = (P.tab s).moved.length + 2 by omega, slot_par, hc, h.cur] at hT
    have := lowg_parse (lowg_image hs (Nat.le_refl (P.tab s).moved.length) h.len) hT
    rw [hlen]; omega
  · intro k hk
    show LowG ((P.tab s).moved ++ [i]).length _
    rw [hlen]; exact hl k hk
/-- A side whose next image is torn. -/
theorem TSide.torn {Q : Pr} (h : TSide P s) (ht : Q.tab s = P.tab s) (hc : slotM (Q.dev s) (slotOf true (P.tab s).moved.length) = slotM (P.dev s) (slotOf true (P.tab s).moved.length))
    (hx : ∃ B M, BaseT (P.tab s).moved B ∧ TornX s (P.tab s).moved B M (slotM (Q.dev s) (slotOf true ((P.tab s).moved.length + 1))).toList)
    (hno : ∀ T, parseP 12 4 s (slotM (Q.dev s) (slotOf true ((P.tab s).moved.length + 1))) = some T → T.moved.length < (P.tab s).moved.length)
    (hl : ∀ k, slotM (Q.dev (1 - s)) (slotOf false k) = slotM (P.dev (1 - s)) (slotOf false k)) : TSide Q s := by
  refine ⟨?_, ?_, ?_, ?_, ?_, ?_, ?_, ?_⟩
  all_goals rw [ht]
  · exact h.blocks
  · exact h.spares
  · exact h.len
  · exact h.each
  · rw [hc]; exact h.cur
  · exact fun _ => hx
  · exact hno
  · exact fun k hk => by rw [hl]; exact h.oth k hk
end
/-- Keep under fuses, and the crash behind it. -/
theorem keep_crash {P P1 : Pr} (h : ∀ d, d < 2 → TDev (P.dev d)) (fu : Nat → Nat) (hd : ∀ d, d < 2 → P1.dev d = withFuse (P.dev d) (fu d)) {s : Nat} (hs : s < 2) (t : Tab) (hl : t.moved.length ≤ 4) (fs : List Nat) :
    ((P1.keep s t).1 = 0 ∧ ((P1.keep s t).2.dev s).crash fs = setM (P.dev s) (slotOf true t.moved.length) (bA (imageOf 128 s t.moved)) ∧ ((P1.keep s t).2.dev (1 - s)).crash fs = setM (P.dev (1 - s)) (slotOf false t.moved.length) (bA (imageOf 128 s t.moved))) ∨
    ((P1.keep s t).1 = 6 ∧ ((P1.keep s t).2.dev s).crash fs = setM (P.dev s) (slotOf true t.moved.length) (bA (imageOf 128 s t.moved)) ∧ ∃ n, ((P1.keep s t).2.dev (1 - s)).crash fs = setM (P.dev (1 - s)) (slotOf false t.moved.length) (tearB n (bA (imageOf 128 s t.moved)) (slotM (P.dev (1 - s)) (slotOf false t.moved.length)))) ∨
    ((P1.keep s t).1 = 6 ∧ (∃ n, ((P1.keep s t).2.dev s).crash fs = setM (P.dev s) (slotOf true t.moved.length) (tearB n (bA (imageOf 128 s t.moved)) (slotM (P.dev s) (slotOf true t.moved.length)))) ∧ ((P1.keep s t).2.dev (1 - s)).crash fs = P.dev (1 - s)) := by
  have hso : 1 - s < 2 := by omega
  have hne : ¬ s = 1 - s := by omega
  have hne2 : ¬ 1 - s = s := by omega
  have hsz : (P1.dev s).size = 128 := by rw [hd s hs]; exact (h s hs).size
  have hx : (bA (imageOf 128 s t.moved)).size = 128 := by rw [bA_size, im_len hl]
  have ho := put_crash (h s hs) (slotOf_lt true t.moved.length) hx (fu s) fs
  have hq := put_crash (h (1 - s) hso) (slotOf_lt false t.moved.length) hx (fu (1 - s)) fs
  rw [← hd s hs] at ho
  rw [← hd (1 - s) hso] at hq
  have hcr : (P1.dev (1 - s)).crash fs = P.dev (1 - s) := by rw [hd (1 - s) hso]; exact (h (1 - s) hso).crash _ _
  unfold Pr.keep
  simp only
  rw [hsz]
  generalize putD (P1.dev s) (slotOf true t.moved.length) (bA (imageOf 128 s t.moved)) = r at ho
  generalize putD (P1.dev (1 - s)) (slotOf false t.moved.length) (bA (imageOf 128 s t.moved)) = q at hq
  obtain ⟨⟨r1, r2⟩, r3⟩ := r
  obtain ⟨⟨q1, q2⟩, q3⟩ := q
  simp only at ho hq
  rcases ho with ⟨e1, e2⟩ | ⟨e1, n, e2⟩
  · injection e1 with e1 e1'
    subst e1 e1'
    rcases hq with ⟨g1, g2⟩ | ⟨g1, n, g2⟩
    · injection g1 with g1 g1'
      subst g1 g1'
      refine .inl ?_
      simp only [ne_eq, not_true_eq_false, if_false, Bool.or_self, Bool.true_eq_false]
      refine ⟨trivial, ?_, ?_⟩
      · show (if s = 1 - s then q3 else if s = s then r3 else P1.dev s).crash fs = _
        rw [if_neg hne, if_pos rfl]; exact e2
      · show (if 1 - s = 1 - s then q3 else _).crash fs = _
        rw [if_pos rfl]; exact g2
    · injection g1 with g1 g1'
      subst g1 g1'
      refine .inr (.inl ?_)
      simp only [ne_eq, not_true_eq_false, if_false, show ((6 : Nat) = 0) = False by simp, not_false_eq_true, if_true]
      refine ⟨trivial, ?_, n, ?_⟩
      · show (if s = 1 - s then q3 else if s = s then r3 else P1.dev s).crash fs = _
        rw [if_neg hne, if_pos rfl]; exact e2
      · show (if 1 - s = 1 - s then q3 else _).crash fs = _
        rw [if_pos rfl]; exact g2
  · injection e1 with e1 e1'
    subst e1 e1'
    refine .inr (.inr ?_)
    simp only [ne_eq, show ((6 : Nat) = 0) = False by simp, not_false_eq_true, if_true]
    refine ⟨trivial, ⟨n, ?_⟩, ?_⟩
    · show (if s = s then r3 else P1.dev s).crash fs = _
      rw [if_pos rfl]; exact e2
    · show (if 1 - s = s then r3 else P1.dev (1 - s)).crash fs = _
      rw [if_neg hne2]; exact hcr
theorem slot_tf (a b : Nat) : slotOf true a ≠ slotOf false b := by
  unfold slotOf
  have h1 := Nat.mod_lt a (show 0 < 2 by decide)
  simp
  omega
theorem slot_next (own : Bool) (g : Nat) : slotOf own g ≠ slotOf own (g + 1) := by unfold slotOf; omega
/-- One move, cut off wherever, and the crash: what is there then. -/
theorem torn_step {P P1 : Pr} (h : TP P) (fu : Nat → Nat) (hd : ∀ d, d < 2 → P1.dev d = withFuse (P.dev d) (fu d)) (htab : ∀ s, s < 2 → P1.tab s = P.tab s) {s i : Nat} (hs : s < 2) (hi : i < 12) (fs : List Nat) :
    ∃ T, TP ⟨4, fun k => ((P1.move s (i : Int)).2.dev k).crash fs, fun k => if k = s then T else P.tab k⟩ ∧
      ((P.tab s).moved.length ≤ 3 ∧ (P1.move s (i : Int)).1 = 6 ∧ T = P.tab s ∨ (P.tab s).moved.length ≤ 3 ∧ ((P1.move s (i : Int)).1 = 0 ∨ (P1.move s (i : Int)).1 = 6) ∧ T = { P.tab s with moved := (P.tab s).moved ++ [i] } ∨ ¬ (P.tab s).moved.length ≤ 3 ∧ (P1.move s (i : Int)).1 = 9 ∧ T = P.tab s) := by
  have hS := h.side s hs
  have hib : i < (P.tab s).blocks := by rw [hS.blocks]; exact hi
  have hso : 1 - s < 2 := by omega
  have hss : 1 - (1 - s) = s := by omega
  by_cases hg : (P.tab s).moved.length ≤ 3
  · have hmv := Tab.mv_ok hib (by rw [hS.spares]; omega)
    have hmove : P1.move s (i : Int) = P1.keep s { P.tab s with moved := (P.tab s).moved ++ [i] } := by
      unfold Pr.move
      rw [htab s hs, hmv]
      simp
    rw [hmove]
    have hlen : ((P.tab s).moved ++ [i]).length = (P.tab s).moved.length + 1 := by simp
    obtain ⟨es, hes⟩ : ∃ es, (P.tab s).moved = es := ⟨_, rfl⟩
    obtain ⟨X, hX⟩ : ∃ X, bA (imageOf 128 s (es ++ [i])) = X := ⟨_, rfl⟩
    have hXs : X.size = 128 := by rw [← hX, bA_size, im_len (by rw [← hes, hlen]; omega)]
    have key := keep_crash h.dev fu hd hs { P.tab s with moved := (P.tab s).moved ++ [i] } (by show ((P.tab s).moved ++ [i]).length ≤ 4; rw [hlen]; omega) fs
    simp only [hlen] at key
    generalize P1.keep s { P.tab s with moved := (P.tab s).moved ++ [i] } = r at key ⊢
    rw [hes] at key hg ⊢
    rw [hX] at key
    have hlowX : LowG (es.length + 1) X.toList := by
      rw [← hX, bA_list]
      exact lowg_image hs (by simp) (by rw [List.length_append]; simp; omega)
    have hoth := hS.oth
    rw [hes] at hoth
    have hsideO := h.side (1 - s) hso
    -- the pair as it is then
    have mk : ∀ (D0 D1 : Dev) (T : Tab), TDev D0 → TDev D1 → (r.2.dev s).crash fs = D0 → (r.2.dev (1 - s)).crash fs = D1 → (∀ k, slotM D1 (slotOf true k) = slotM (P.dev (1 - s)) (slotOf true k)) → (∀ k, slotM D0 (slotOf false k) = slotM (P.dev s) (slotOf false k)) →
        TSide ⟨4, fun k => (r.2.dev k).crash fs, fun k => if k = s then T else P.tab k⟩ s → TP ⟨4, fun k => (r.2.dev k).crash fs, fun k => if k = s then T else P.tab k⟩ := by
      intro D0 D1 T h0 h1 e0 e1 k1 k2 hside
      refine ⟨rfl, fun d hd => ?_, fun z hz => ?_⟩
      · show TDev ((r.2.dev d).crash fs)
        by_cases e : d = s
        · rw [e, e0]; exact h0
        · rw [show d = 1 - s by omega, e1]; exact h1
      · by_cases e : z = s
        · rw [e]; exact hside
        · have ez : z = 1 - s := by omega
          rw [ez]
          refine hsideO.keep (by show (if 1 - s = s then T else P.tab (1 - s)) = _; rw [if_neg (by omega)]) (fun k => ?_) (fun k => ?_)
          · show slotM ((r.2.dev (1 - s)).crash fs) _ = _
            rw [e1]; exact k1 k
          · show slotM ((r.2.dev (1 - (1 - s))).crash fs) _ = slotM (P.dev (1 - (1 - s))) _
            rw [hss, e0]; exact k2 k
    have hdS := h.dev s hs
    have hdO := h.dev (1 - s) hso
    have hTlt : slotOf true (es.length + 1) < 4 := slotOf_lt _ _
    have hFlt : slotOf false (es.length + 1) < 4 := slotOf_lt _ _
    -- moved
    have moved : ∀ Y : ByteArray, Y.size = 128 → LowG (es.length + 1) Y.toList → (r.2.dev s).crash fs = setM (P.dev s) (slotOf true (es.length + 1)) X → ((r.2.dev (1 - s)).crash fs = setM (P.dev (1 - s)) (slotOf false (es.length + 1)) Y ∨ (r.2.dev (1 - s)).crash fs = P.dev (1 - s)) →
        TP ⟨4, fun k => (r.2.dev k).crash fs, fun k => if k = s then { P.tab s with moved := es ++ [i] } else P.tab k⟩ := by
      intro Y hY hYl e0 e1
      have hside : TSide ⟨4, fun k => (r.2.dev k).crash fs, fun k => if k = s then { P.tab s with moved := es ++ [i] } else P.tab k⟩ s := by
        refine hS.moved hs (by rw [hes]; exact hg) hi (by simp [hes]) ?_ ?_ ?_
        · rw [hes]
          show slotM ((r.2.dev s).crash fs) _ = _
          rw [e0, setM_at hdS hTlt, hX]
        · rw [hes]
          show slotM ((r.2.dev s).crash fs) _ = _
          rw [e0, setM_other (slot_next _ _)]
        · intro k hk
          rw [hes]
          show LowG _ (slotM ((r.2.dev (1 - s)).crash fs) _).toList
          rcases e1 with e1 | e1
          · rw [e1]
            by_cases e : slotOf false k = slotOf false (es.length + 1)
            · rw [e, setM_at hdO hFlt]; exact hYl
            · rw [setM_other e]; exact (hoth k hk).mono (by omega)
          · rw [e1]; exact (hoth k hk).mono (by omega)
      rcases e1 with e1 | e1
      · exact mk _ _ _ (hdS.setM hXs) (hdO.setM hY) e0 e1 (fun k => setM_other (slot_tf _ _) _) (fun k => setM_other (slot_tf _ _).symm _) hside
      · exact mk _ _ _ (hdS.setM hXs) hdO e0 e1 (fun k => rfl) (fun k => setM_other (slot_tf _ _).symm _) hside
    rcases key with ⟨k0, k1, k2⟩ | ⟨k0, k1, n, k2⟩ | ⟨k0, ⟨n, k1⟩, k2⟩
    · exact ⟨_, moved X hXs hlowX k1 (.inl k2), .inr (.inl ⟨hg, .inl k0, rfl⟩)⟩
    · have hold := hdO.slot_size hFlt
      refine ⟨_, moved _ ((tearB_size (hXs.trans hold.symm)).trans hold) ?_ k1 (.inl k2), .inr (.inl ⟨hg, .inr k0, rfl⟩)⟩
      unfold tearB
      rw [bA_list]
      refine hlowX.tear ?_
      have h1 := hoth ((es.length + 1) % 2) (Nat.mod_lt _ (by decide))
      rw [slotOf_mod] at h1
      exact h1.mono (by omega)
    · -- torn at its own device
      have hold := hdS.slot_size hTlt
      obtain ⟨B, M, hb, ht⟩ := hS.nxt (by rw [hes]; exact hg)
      have hno := hS.no
      have heach := hS.each
      rw [hes] at hb ht hno heach
      have nx := ht.next hs hg heach hb (fun T hT => by
        rw [bA_of] at hT
        exact Nat.le_of_lt (hno T hT)) hi n
      have hte : tearB n X (slotM (P.dev s) (slotOf true (es.length + 1))) = bA (tearL n (imageOf 128 s (es ++ [i])) (slotM (P.dev s) (slotOf true (es.length + 1))).toList) := by
        unfold tearB
        rw [← hX, bA_list]
      rcases nx with hw | ⟨⟨M', ht'⟩, hno'⟩
      · rw [hte, hw, hX] at k1
        exact ⟨_, moved X hXs hlowX k1 (.inr k2), .inr (.inl ⟨hg, .inr k0, rfl⟩)⟩
      · refine ⟨P.tab s, mk _ _ _ (hdS.setM ((tearB_size (hXs.trans hold.symm)).trans hold)) hdO k1 k2 (fun k => rfl) (fun k => setM_other (slot_tf _ _).symm _) ?_, .inl ⟨hg, k0, rfl⟩⟩
        refine hS.torn (by simp) ?_ ?_ ?_ ?_
        · rw [hes]
          show slotM ((r.2.dev s).crash fs) _ = _
          rw [k1, setM_other (slot_next _ _)]
        · rw [hes]
          show ∃ B M, BaseT es B ∧ TornX s es B M (slotM ((r.2.dev s).crash fs) _).toList
          rw [k1, setM_at hdS hTlt, hte, bA_list]
          exact ⟨B, M', hb, ht'⟩
        · rw [hes]
          intro T hT
          change parseP 12 4 s (slotM ((r.2.dev s).crash fs) _) = some T at hT
          rw [k1, setM_at hdS hTlt, hte] at hT
          have h1 := hno' T hT
          have h2 := ht'.ne hs hg hb hT
          omega
        · intro k
          show slotM ((r.2.dev (1 - s)).crash fs) _ = _
          rw [k2]
  · have hmv := Tab.mv_full hib (by rw [hS.spares]; omega)
    have hmove : P1.move s (i : Int) = (9, P1) := by
      unfold Pr.move
      rw [htab s hs, hmv]
      simp
    rw [hmove]
    have hdd : ∀ d, d < 2 → (P1.dev d).crash fs = P.dev d := fun d hd2 => by rw [hd d hd2]; exact (h.dev d hd2).crash _ _
    refine ⟨P.tab s, ⟨rfl, fun d hd2 => by show TDev ((P1.dev d).crash fs); rw [hdd d hd2]; exact h.dev d hd2, fun z hz => ?_⟩, .inr (.inr ⟨hg, rfl, rfl⟩)⟩
    refine (h.side z hz).keep ?_ (fun k => ?_) (fun k => ?_)
    · show (if z = s then P.tab s else P.tab z) = P.tab z
      split
      · rename_i e; rw [e]
      · rfl
    · show slotM ((P1.dev z).crash fs) _ = _
      rw [hdd z hz]
    · show slotM ((P1.dev (1 - z)).crash fs) _ = _
      rw [hdd (1 - z) (by omega)]
/-- The pair that is opened. -/
def anew (P : Pr) : Pr := ((newP 4 P.dev).setTab 0 (P.tab 0)).setTab 1 (P.tab 1)
theorem TP.open_ {P : Pr} (h : TP P) : TP (anew P) ∧ (∀ s, s < 2 → (anew P).tab s = P.tab s) ∧ (newP 4 P.dev).Fit ∧ (∀ s, s < 2 → findP (newP 4 P.dev) s = some (P.tab s)) := by
  have ht : ∀ s, s < 2 → (anew P).tab s = P.tab s := by
    intro s hs
    rcases two_cases hs with rfl | rfl <;> rfl
  refine ⟨⟨rfl, h.dev, fun s hs => (h.side s hs).keep (ht s hs) (fun _ => rfl) (fun _ => rfl)⟩, ht, ?_, fun s hs => ?_⟩
  · have := h.inv0.fit
    unfold Pr.Fit at this ⊢
    rw [h.n] at this
    exact this
  · rw [find_of P (newP 4 P.dev) h.n.symm (fun _ _ => rfl) hs, h.find hs]
end Go.Proofs.Ytnpfhfgegjocoaa
/- RemapTorn: the pair in memory, beside blocks that are minded; what each act does to it. -/
namespace Go.Proofs.Ytnpfhfgegjocoaa
open Go.RowKit

/-- None of these blocks turned. -/
def Safe (F : List Nat) (w w' : World) : Prop := ∃ L, Mods L w w' ∧ ∀ k ∈ L, k ∉ F
section
variable {F G : List Nat} {W w w1 w2 w' : World}
theorem Safe.of (h : Mods [] w w') : Safe F w w' := ⟨[], h, by simp⟩
theorem Safe.trans (h : Safe F w w1) (g : Safe F w1 w2) : Safe F w w2 := by
  obtain ⟨L, h1, h2⟩ := h
  obtain ⟨K, g1, g2⟩ := g
  refine ⟨L ++ K, (h1.mono (fun k hk => List.mem_append_left _ hk)).trans g1 (fun k hk => .inl (List.mem_append_right _ hk)), fun k hk => ?_⟩
  rcases List.mem_append.1 hk with hk | hk
  · exact h2 k hk
  · exact g2 k hk
theorem Safe.less (h : Safe F w w1) (hs : ∀ k ∈ G, k ∈ F) : Safe G w w1 := h.elim fun L hL => ⟨L, hL.1, fun k hk hx => hL.2 k hk (hs k hx)⟩
theorem Safe.blk (h : Safe F w w') {g : Nat} {t : TypeId} {l : List Value} (hb : Blk w g t l) (hg : g ∈ F) : Blk w' g t l := h.elim fun _ hL => hb.keep hL.1 (fun hx => hL.2 g hx hg)
theorem Safe.mv (h : Safe F w w') {mv : Value} {l : List Nat} (hm : IsMv w mv l) (hg : ∀ g, mv.ownBlock = some g → g ∈ F) : IsMv w' mv l := h.elim fun _ hL => hm.keep hL.1 (fun g hg2 hx => hL.2 g hx (hg g hg2))
theorem Safe.row (h : Safe F w w') {A : Option Addr} {xs : List Value} (hr : Row w A xs) (hA : ∀ a, A = some a → a.block ∈ F) : Row w' A xs := h.elim fun _ hL => hr.keep hL.1 (fun a ha hx => hL.2 _ hx (hA a ha))
/-- A pair that was made since W, and blocks that are none of its that turn. -/
structure OwnT (W : World) (F : List Nat) (w : World) (x : Nat → Nat) (fx : Nat → List Nat) (b : Nat) (gp : List Nat) (P : Pr) : Prop where
  pair : IsPair w b gp x fx P
  newF : ∀ k, k < 2 → ∀ g ∈ fx k, W.heap.size ≤ g ∧ g ∉ F
  newB : W.heap.size ≤ b ∧ b ∉ F
  newG : ∀ g ∈ gp, W.heap.size ≤ g
  mods : Mods [] W w
  lt : ∀ g ∈ F, g < w.heap.size
variable {x : Nat → Nat} {fx fx' : Nat → List Nat} {b : Nat} {gp gp' : List Nat} {P P' : Pr}
theorem OwnT.act (h : OwnT W F w x fx b gp P) (g : PairTo w w' b gp gp' x fx fx' P') : OwnT W F w' x fx' b gp' P' ∧ Safe F w w' := by
  have hs := h.mods.size
  have hK : ∀ k ∈ b :: (fx 0 ++ fx 1), W.heap.size ≤ k ∧ k ∉ F := fun k hk => by
    rcases List.mem_cons.1 hk with rfl | hk
    · exact h.newB
    · rcases List.mem_append.1 hk with hk | hk
      · exact h.newF 0 (by decide) k hk
      · exact h.newF 1 (by decide) k hk
  refine ⟨⟨g.pair, fun k hk z hz => ?_, h.newB, fun z hz => ?_, h.mods.trans g.mods (fun k hk => .inr (hK k hk).1), fun z hz => Nat.lt_of_lt_of_le (h.lt z hz) g.mods.size⟩, ⟨_, g.mods, fun k hk => (hK k hk).2⟩⟩
  · rcases g.newF k hk z hz with h1 | h1
    · exact h.newF k hk z h1
    · exact ⟨by omega, fun hx => by have := h.lt z hx; omega⟩
  · rcases g.newG z hz with h1 | h1
    · exact h.newG z h1
    · omega
theorem OwnT.calm (h : OwnT W F w x fx b gp P) (hm : Mods [] w w') : OwnT W F w' x fx b gp P := (h.act (PairTo.still h.pair hm)).1
theorem OwnT.guard (h : OwnT W F w x fx b gp P) (hG : ∀ g ∈ G, g < w.heap.size ∧ g ≠ b ∧ ∀ k, k < 2 → g ∉ fx k) : OwnT W G w x fx b gp P :=
  ⟨h.pair, fun k hk g hg => ⟨(h.newF k hk g hg).1, fun hx => (hG g hx).2.2 k hk hg⟩, ⟨h.newB.1, fun hx => (hG b hx).2.1 rfl⟩, h.newG, h.mods, fun g hg => (hG g hg).1⟩
theorem OwnT.free (h : OwnT W F w x fx b gp P) {g : Nat} (hg : g ∈ F ∨ w.heap.size ≤ g) : g ≠ b ∧ ∀ k, k < 2 → g ∉ fx k := by
  rcases hg with hg | hg
  · exact ⟨fun e => h.newB.2 (e ▸ hg), fun k hk hx => (h.newF k hk g hx).2 hg⟩
  · have hb := h.pair.pb.lt b h.pair.at_b
    exact ⟨by omega, fun k hk hx => by have := (h.pair.dev k hk).lt g hx; omega⟩
theorem OwnT.wider (h : OwnT W F w x fx b gp P) (hm : Mods [] w w') (hG : ∀ g ∈ G, g ∈ F ∨ w.heap.size ≤ g ∧ g < w'.heap.size) : OwnT W G w' x fx b gp P := by
  refine (h.calm hm).guard (fun g hg => ?_)
  have hs := hm.size
  rcases hG g hg with h1 | ⟨h1, h2⟩
  · have := h.lt g h1
    exact ⟨by omega, h.free (.inl h1)⟩
  · exact ⟨h2, h.free (.inr h1)⟩
theorem oFuse (h : OwnT W F w x fx b gp P) {d : Nat} (hd : d < 2) (n : Nat) (hn : n ≤ 1000) :
    Calls Try.prog 22 #[.pointer (some ⟨x d, 0, none⟩), .int .i64 (n : Nat)] w fun e w' => e = .returned (.tuple #[]) ∧ Hid (OwnT W F w' x fx b gp (P.setDev d (withFuse (P.dev d) n))) ∧ Hid (Safe F w w') := by
  refine (dFuse_any (h.pair.dev d hd) n (by omega)).mono fun e w' ⟨h1, h2, h3⟩ => ?_
  have hh := (h.pair.dev d hd).head
  have hT : DevTo w w' (x d) (fx d) (fx d) (withFuse (P.dev d) n) := ⟨h2, fun _ hk => .inl hk, h3.mono (by simpa using hh)⟩
  have hP := PairTo.dev h.pair hd hT ⟨rfl, rfl⟩
  obtain ⟨a1, a2⟩ := h.act hP
  have e : upd fx d (fx d) = fx := by
    funext k
    unfold upd
    split
    · rename_i e; rw [e]
    · rfl
  rw [e] at a1
  exact ⟨h1, Lib.hid a1, Lib.hid a2⟩
theorem oMoveT (h : OwnT W F w x fx b gp P) {s i : Nat} (hs : s < 2) (hsp : (P.tab s).spares = P.n) (hc : ∀ k, k < 2 → (P.dev k).cache.length + 1 < 1000000) :
    Calls Try.prog 12 #[.pointer (some ⟨b, 0, none⟩), .int .i64 (s : Nat), .int .i64 (i : Nat)] w fun e w' => ∃ gp' fx', e = .returned (.int .i64 ((P.move s (i : Int)).1 : Nat)) ∧ Hid (OwnT W F w' x fx' b gp' (P.move s (i : Int)).2) ∧ Hid (Safe F w w') := by
  have key : Calls Try.prog 12 #[.pointer (some ⟨b, 0, none⟩), .int .i64 (s : Nat), .int .i64 (i : Nat)] w fun e w' => ∃ gp' fx', e = .returned (.int .i64 ((P.move s (i : Int)).1 : Nat)) ∧ Hid (PairTo w w' b gp gp' x fx fx' (P.move s (i : Int)).2) := by
    rcases two_cases hs with rfl | rfl
    · exact rMove_0 h.pair i hsp hc
    · exact rMove_1 h.pair i hsp hc
  refine key.mono fun e w' ⟨gp', fx', h1, h2⟩ => ?_
  obtain ⟨a1, a2⟩ := h.act h2.out
  exact ⟨gp', fx', h1, Lib.hid a1, Lib.hid a2⟩
theorem oCrashT (h : OwnT W F w x fx b gp P) {d : Nat} (hd : d < 2) (hc : (P.dev d).cache.length < 1000000) {A : Option Addr} {nf cap : Nat} {fs : List Nat} (hr : Row w A (fateRow fs)) (hl : fs.length = nf) (hnf : nf ≤ 1000000) (hf : ∀ f ∈ fs, f ≤ 1000000) (hA : ∀ a, A = some a → a.block ∈ F) :
    Calls Try.prog 23 #[.pointer (some ⟨x d, 0, none⟩), .slice A nf cap] w fun e w' => ∃ fx', e = .returned (.tuple #[]) ∧ Hid (OwnT W F w' x fx' b gp (P.setDev d ((P.dev d).crash fs))) ∧ Hid (Safe F w w') := by
  refine (dCrash_any (h.pair.dev d hd) hc hr hl hnf hf (fun a ha hx => (h.newF d hd _ hx).2 (hA a ha))).mono fun e w' ⟨h1, h2⟩ => ?_
  obtain ⟨fp', h3⟩ := h2.out
  obtain ⟨a1, a2⟩ := h.act (PairTo.dev h.pair hd h3 ⟨rfl, rfl⟩)
  exact ⟨_, h1, Lib.hid a1, Lib.hid a2⟩
/-- Open: the pair anew, and the old one beside it. -/
theorem oOpenT (h : OwnT W F w x fx b gp P) {Q : Pr} (hQ : TP Q) (hd : ∀ k, k < 2 → Q.dev k = P.dev k) :
    Calls Try.prog 18 #[.pointer (some ⟨x 0, 0, none⟩), .pointer (some ⟨x 1, 0, none⟩), .int .i64 4] w fun e w' => ∃ b' gp', e = .returned (.tuple #[.pointer (some ⟨b', 0, none⟩), .int .i64 0]) ∧ Hid (OwnT W F w' x fx b' gp' (anew Q)) ∧ Hid (OwnT W F w' x fx b gp P) ∧ Hid (Safe F w w') := by
  obtain ⟨_, _, q3, q4⟩ := hQ.open_
  have hdv : Devs w x fx Q.dev := ⟨fun s hs => by rw [hd s hs]; exact h.pair.dev s hs, h.pair.apart, fun s hs => by rw [hd s hs, hd 0 (by decide)]; exact h.pair.same s hs⟩
  refine (rOpen_any hdv 4 q3 (fun k hk => by rw [(hQ.dev k hk).cache]; decide) (fun k hk => (hQ.dev k hk).q.q.off) (q4 0 (by decide)) (q4 1 (by decide))).mono fun e w' ⟨b', gp', h1, h2, h3, h4⟩ => ?_
  have hs := h.mods.size
  have hfr : ∀ g ∈ gp, g ∉ fx 0 ++ fx 1 := fun g hg hx => by
    rcases List.mem_append.1 hx with hx | hx
    · exact h.pair.free g hg 0 (by decide) hx
    · exact h.pair.free g hg 1 (by decide) hx
  have hL : ∀ k ∈ fx 0 ++ fx 1, W.heap.size ≤ k ∧ k ∉ F := fun k hk => by
    rcases List.mem_append.1 hk with hk | hk
    · exact h.newF 0 (by decide) k hk
    · exact h.newF 1 (by decide) k hk
  have hp : IsPair w' b gp x fx P := ⟨h.pair.pb.keep h3.out hfr, fun s hs => by rw [← hd s hs]; exact h2.out.dev s hs, h.pair.apart, h.pair.free, h.pair.same, h.pair.fit⟩
  have hm : Mods [] W w' := h.mods.trans h3.out (fun k hk => .inr (hL k hk).1)
  have hlt : ∀ g ∈ F, g < w'.heap.size := fun g hg => Nat.lt_of_lt_of_le (h.lt g hg) h3.out.size
  have hb' := h4.out b' h2.out.at_b
  exact ⟨b', gp', h1, Lib.hid ⟨h2.out, h.newF, ⟨by omega, fun hx => by have := h.lt b' hx; omega⟩, fun g hg => by have := h4.out g hg; omega, hm, hlt⟩, Lib.hid ⟨hp, h.newF, h.newB, h.newG, hm, hlt⟩, Lib.hid ⟨_, h3.out, fun k hk => (hL k hk).2⟩⟩
/-- A side's table, and where it lies. -/
theorem oTableT (h : OwnT W F w x fx b gp P) {s : Nat} (hs : s < 2) {T : Tab} (hT : P.tab s = T) (_hok : T.Ok) :
    Calls Try.prog 10 #[.pointer (some ⟨b, 0, none⟩), .int .i64 (s : Nat)] w fun e w' => ∃ A c, e = .returned (.agg #[.int .i64 (T.blocks : Nat), .int .i64 (T.spares : Nat), .slice A T.moved.length c]) ∧ Hid (IsMv w' (.slice A T.moved.length c) T.moved) ∧ Hid (∀ g, (Value.slice A T.moved.length c).ownBlock = some g → g < w.heap.size ∧ g ≠ b ∧ ∀ k, k < 2 → g ∉ fx k) ∧ Hid (Mods [] w w') := by
  refine (gTable h.pair hs hT).mono fun e w' ⟨A, c, h1, h2, h3, h4⟩ => ⟨A, c, h1, h2, Lib.hid (fun g hg => ?_), h4⟩
  obtain ⟨a1, a2⟩ := h3.out g hg
  refine ⟨h.pair.pb.lt g a1, fun e => ?_, a2⟩
  subst e
  -- a pair's block is no row of numbers
  obtain ⟨sb, m, hin, _, _⟩ := h.pair.pb
  have hb := hin.blk.keep h4.out (by simp)
  obtain ⟨_, h5⟩ := h2.out
  rcases h5 with ⟨e5, _⟩ | ⟨g5, cap5, cur5, e5, _, k5, _⟩
  · rw [e5] at hg; cases hg
  · rw [e5] at hg
    simp only [Value.ownBlock, Option.some.injEq] at hg
    subst hg
    unfold Blk at hb
    rw [k5] at hb
    injection hb with hb
    injection hb with _ hb
    exact absurd hb (by decide)
end
theorem keep_tab (P : Pr) (s : Nat) (t : Tab) {k : Nat} (hk : k ≠ s) : (P.keep s t).2.tab k = P.tab k := by
  unfold Pr.keep
  simp only
  split
  · rfl
  · split
    · rfl
    · split
      · rfl
      · show (if k = s then t else P.tab k) = P.tab k
        rw [if_neg hk]
theorem move_tabT (P : Pr) (s : Nat) (i : Int) {k : Nat} (hk : k ≠ s) : (P.move s i).2.tab k = P.tab k := by
  unfold Pr.move
  split
  · rfl
  · exact keep_tab _ _ _ hk
theorem move_cacheT {P : Pr} {s : Nat} (hs : s < 2) (i : Int) {c : Nat} (h : ∀ d, d < 2 → (P.dev d).cache.length ≤ c) : ∀ d, d < 2 → ((P.move s i).2.dev d).cache.length ≤ c + 1 := by
  intro d hd
  have h0 := h d hd
  unfold Pr.move
  split
  · show (P.dev d).cache.length ≤ c + 1
    omega
  · unfold Pr.keep
    simp only
    have p1 := put_cache (P.dev s) (slotOf true ((P.tab s).move i).1.moved.length) (bA (imageOf (P.dev s).size s ((P.tab s).move i).1.moved))
    have p2 := put_cache (P.dev (1 - s)) (slotOf false ((P.tab s).move i).1.moved.length) (bA (imageOf (P.dev s).size s ((P.tab s).move i).1.moved))
    have hS := h s hs
    have hO := h (1 - s) (by omega)
    split
    · show (if d = s then _ else P.dev d).cache.length ≤ _
      split <;> omega
    · have key : ((P.setDev s (putD (P.dev s) (slotOf true ((P.tab s).move i).1.moved.length) (bA (imageOf (P.dev s).size s ((P.tab s).move i).1.moved))).2).setDev (1 - s) (putD (P.dev (1 - s)) (slotOf false ((P.tab s).move i).1.moved.length) (bA (imageOf (P.dev s).size s ((P.tab s).move i).1.moved))).2).dev d = if d = 1 - s then (putD (P.dev (1 - s)) (slotOf false ((P.tab s).move i).1.moved.length) (bA (imageOf (P.dev s).size s ((P.tab s).move i).1.moved))).2 else if d = s then (putD (P.dev s) (slotOf true ((P.tab s).move i).1.moved.length) (bA (imageOf (P.dev s).size s ((P.tab s).move i).1.moved))).2 else P.dev d := rfl
      split
      · rw [key]; split
        · omega
        · split <;> omega
      · split
        · rw [key]; split
          · omega
          · split <;> omega
        · show (((P.setDev s _).setDev (1 - s) _).dev d).cache.length ≤ _
          rw [key]; split
          · omega
          · split <;> omega
end Go.Proofs.Ytnpfhfgegjocoaa
namespace Go.Proofs.Ytnpfhfgegjocoaa
open Go.RowKit

def N20 : Dev := Dev.new 20 128
theorem n20 : TDev N20 := ⟨new_quiet 20 128 shape_right, rfl, rfl, rfl⟩
theorem n20_slot {k : Nat} (hk : k < 4) : (slotM N20 k).toList = zerosL 128 := by
  unfold slotM N20
  show ((List.replicate 20 (⟨Array.replicate 128 0⟩ : ByteArray)).getD k ⟨#[]⟩).toList = _
  rw [List.getD_eq_getElem?_getD, List.getElem?_replicate, if_pos (by omega), Option.getD_some, Lib.toList_data]
  show (Array.replicate 128 (0 : UInt8)).toList = zerosL 128
  rw [Array.toList_replicate]
  rfl
theorem kept_set {D : Dev} (h : D.cache = []) (k : Nat) (x : ByteArray) : kept D k x = setM D k x := by
  unfold kept setM
  rw [h]
  rfl
def img0 (s : Nat) : ByteArray := bA (imageOf 128 s [])
theorem img0_size (s : Nat) : (img0 s).size = 128 := by unfold img0; rw [bA_size, im_len (by decide)]
theorem fresh_dev {P' : Pr} (h : ((P00.keep 0 (tab0 P00)).2.keep 1 (tab0 P00)) = (0, P')) : P'.n = 4 ∧ P'.dev 0 = setM (setM N20 0 (img0 0)) 2 (img0 1) ∧ P'.dev 1 = setM (setM N20 2 (img0 0)) 0 (img0 1) ∧ ∀ s, s < 2 → P'.tab s = ⟨12, 4, []⟩ := by
  have e0 := keep_quiet (P := P00) (s := 0) (t := tab0 P00) (by decide) (fun k hk => n20.q) rfl (by decide)
  have d0 : kept (P00.dev 0) (slotOf true (tab0 P00).moved.length) (bA (imageOf (P00.dev 0).size 0 (tab0 P00).moved)) = setM N20 0 (img0 0) := kept_set rfl _ _
  have d1 : kept (P00.dev (1 - 0)) (slotOf false (tab0 P00).moved.length) (bA (imageOf (P00.dev 0).size 0 (tab0 P00).moved)) = setM N20 2 (img0 0) := kept_set rfl _ _
  rw [d0, d1] at e0
  rw [e0] at h
  simp only at h
  obtain ⟨P1, hP1⟩ : ∃ P1, ((P00.setDev 0 (setM N20 0 (img0 0))).setDev (1 - 0) (setM N20 2 (img0 0))).setTab 0 (tab0 P00) = P1 := ⟨_, rfl⟩
  have a0 : P1.dev 0 = setM N20 0 (img0 0) := by rw [← hP1]; rfl
  have a1 : P1.dev 1 = setM N20 2 (img0 0) := by rw [← hP1]; rfl
  have t0 : P1.tab 0 = ⟨12, 4, []⟩ := by rw [← hP1]; rfl
  have hn : P1.n = 4 := by rw [← hP1]; rfl
  rw [hP1] at h
  have q0 := n20.setM (k := 0) (img0_size 0)
  have q1 := n20.setM (k := 2) (img0_size 0)
  have e1 := keep_quiet (P := P1) (s := 1) (t := tab0 P00) (by decide) (fun k hk => by
    rcases two_cases hk with rfl | rfl
    · rw [a0]; exact q0.q
    · rw [a1]; exact q1.q) (by rw [a1, show 1 - 1 = 0 from rfl, a0, q0.size, q1.size]) (by rw [a1, q1.size]; decide)
  rw [a1, q1.size] at e1
  rw [show 1 - 1 = 0 from rfl, a0] at e1
  have d2 : kept (setM N20 2 (img0 0)) (slotOf true (tab0 P00).moved.length) (bA (imageOf 128 1 (tab0 P00).moved)) = setM (setM N20 2 (img0 0)) 0 (img0 1) := kept_set rfl _ _
  have d3 : kept (setM N20 0 (img0 0)) (slotOf false (tab0 P00).moved.length) (bA (imageOf 128 1 (tab0 P00).moved)) = setM (setM N20 0 (img0 0)) 2 (img0 1) := kept_set rfl _ _
  rw [d2, d3] at e1
  rw [e1] at h
  injection h with _ h
  subst h
  refine ⟨hn, rfl, rfl, fun s hs => ?_⟩
  rcases two_cases hs with rfl | rfl
  · exact t0
  · rfl
theorem fresh_torn {P' : Pr} (h : ((P00.keep 0 (tab0 P00)).2.keep 1 (tab0 P00)) = (0, P')) : TP P' := by
  obtain ⟨hn, h0, h1, ht⟩ := fresh_dev h
  have q0 := n20.setM (k := 0) (img0_size 0)
  have q1 := n20.setM (k := 2) (img0_size 0)
  have lz : ∀ {D : Dev} {k : Nat}, (slotM D k).toList = zerosL 128 → LowG 0 (slotM D k).toList := fun e => by rw [e]; exact lowg_zeros _
  have li : ∀ s, s < 2 → LowG 0 (img0 s).toList := fun s hs => by unfold img0; rw [bA_list]; exact lowg_image hs (by decide) (by decide)
  have mk : ∀ s, s < 2 → slotM (P'.dev s) 0 = img0 s → (slotM (P'.dev s) 1).toList = zerosL 128 → slotM (P'.dev (1 - s)) 2 = img0 s → (slotM (P'.dev (1 - s)) 3).toList = zerosL 128 → TSide P' s := by
    intro s hs a0 a1 a2 a3
    refine ⟨?_, ?_, ?_, ?_, ?_, ?_, ?_, ?_⟩
    all_goals rw [ht s hs]
    · decide
    · intro e he; cases he
    · exact a0
    · intro _
      show ∃ B M, BaseT [] B ∧ TornX s [] B M (slotM (P'.dev s) 1).toList
      rw [a1]
      exact ⟨_, 0, base_zeros, TornX.base base_zeros⟩
    · intro T hT
      exfalso
      change parseP 12 4 s (slotM (P'.dev s) 1) = some T at hT
      unfold parseP at hT
      rw [a1, open_zeros] at hT
      cases hT
    · intro k hk
      rcases two_cases hk with rfl | rfl
      · show LowG 0 (slotM (P'.dev (1 - s)) 2).toList
        rw [a2]; exact li s hs
      · show LowG 0 (slotM (P'.dev (1 - s)) 3).toList
        exact lz a3
  refine ⟨hn, fun d hd => ?_, fun s hs => ?_⟩
  · rcases two_cases hd with rfl | rfl
    · rw [h0]; exact q0.setM (img0_size 1)
    · rw [h1]; exact q1.setM (img0_size 1)
  · rcases two_cases hs with rfl | rfl
    · refine mk 0 (by decide) ?_ ?_ ?_ ?_
      · rw [h0, setM_other (by decide), setM_at n20 (by decide)]
      · rw [h0, setM_other (by decide), setM_other (by decide), n20_slot (by decide)]
      · show slotM (P'.dev 1) 2 = _
        rw [h1, setM_other (by decide), setM_at n20 (by decide)]
      · show (slotM (P'.dev 1) 3).toList = _
        rw [h1, setM_other (by decide), setM_other (by decide), n20_slot (by decide)]
    · refine mk 1 (by decide) ?_ ?_ ?_ ?_
      · rw [h1, setM_at q1 (by decide)]
      · rw [h1, setM_other (by decide), setM_other (by decide), n20_slot (by decide)]
      · show slotM (P'.dev 0) 2 = _
        rw [h0, setM_at q0 (by decide)]
      · show (slotM (P'.dev 0) 3).toList = _
        rw [h0, setM_other (by decide), setM_other (by decide), n20_slot (by decide)]
theorem qFreshT {W : World} :
    Calls Try.prog 7 #[] W fun e w' => ∃ x fx b gp P, e = .returned (.tuple #[.pointer (some ⟨x 0, 0, none⟩), .pointer (some ⟨x 1, 0, none⟩), .pointer (some ⟨b, 0, none⟩), .bool true]) ∧ Hid (OwnT W [] w' x fx b gp P) ∧ Hid (TP P) := by
  obtain ⟨P', k1, k2, k3, k4, k5, k6⟩ := fresh_plain
  have HT := Lib.hid (fresh_torn k2)
  have cF := Lib.hid (fun (w : World) (x : Nat → Nat) (fx : Nat → List Nat) (h : Devs w x fx (fun _ => Dev.new 20 128)) => rFormat_any h 4 p00_fit (fun _ _ => by show (0 : Nat) + 2 < 1000000; omega) k1 (by
    have h2 := k2
    unfold P00 at h2
    rw [h2]))
  have k2' := k2
  unfold P00 at k2'
  rw [k2'] at cF
  clear k1 k2 k2' k3 k4 k5 k6
  go_enter Try.func7, Try.ntmps7
  go_wp2_with (first | (go_at_call 28; refine qDevices_any.mono ?_; rintro e w1 ⟨x, fx0, rfl, HD, HM, HF⟩) | (go_at_call 27; refine (cF.out _ _ _ HD.out).mono ?_; rintro e w2 ⟨b, gp, fx, rfl, HP, HM2, HN2, HG2⟩))
  refine bodyPost_ret (results_tmp4 rfl _ _ _) rfl ?_
  have hs := HM.out.size
  have hb := HG2.out b HP.out.at_b
  refine ⟨x, fx, b, gp, P', rfl, Lib.hid ⟨HP.out, fun k hk g hg => ⟨?_, by simp⟩, ⟨by omega, by simp⟩, fun g hg => Nat.le_trans hs (HG2.out g hg), HM.out.trans HM2.out (fun k hk => .inr ?_), by simp⟩, HT⟩
  · rcases HN2.out k hk g hg with h | h
    · exact HF.out k hk g h
    · omega
  · rcases List.mem_append.1 hk with h | h
    · exact HF.out 0 (by decide) k h
    · exact HF.out 1 (by decide) k h
end Go.Proofs.Ytnpfhfgegjocoaa
