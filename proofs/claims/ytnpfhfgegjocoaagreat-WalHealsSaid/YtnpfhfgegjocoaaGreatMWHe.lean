/- WalHeals: whatever the numbers are, the law answers true. No condition but the form's own. -/
import Derived.Test.YtnpfhfgegjocoaaGreatMWb
import Derived.Test.YtnpfhfgegjocoaaGreatMA
import Derived.Test.YtnpfhfgegjocoaaGreatMG
import Derived.OpenShut
import Derived.Outline
namespace Go.Proofs.YtnpfhfgegjocoaaGreat
open Go.ChangeShapes Go.WideShapes Go.ChangeAt Go.RowKit

section
variable {W w w' : World} {F : List Nat} {x : Nat → Nat} {b p tk lb : Nat} {M : Mi} {L0 L : LogE} {rs : List (List UpdE)} {c : Nat} {rd : Nat → Nat → ByteArray} {r : Nat → ByteArray}
/-- A copy is garbled. -/
theorem kGarble (h : OwnM W F w b p x M) (hw : W2 c M rd) (hc : c ≤ 600000) {s i k : Nat} (hs : s < 2) (hi : i < 16) (hk : k = i + 4) (a : Nat) (y : UInt8) :
    Calls Tryz.prog 33 #[.pointer (some ⟨x s, 0, none⟩), .int .i64 (k : Nat), .int .i64 (a : Nat), .int .u8 (y.toNat : Nat)] w fun e w' => ∃ M', e = .returned (.tuple #[]) ∧ Hid (OwnM W F w' b p x M') ∧ Hid (W2 c M' (updR2 rd s i (turnB (rd s i) (a % 192) y))) ∧ Hid (M'.reps = M.reps) ∧ Hid (Minds F w w') := by
  subst hk
  refine (oGarble h hw.fine (by omega) hs (hw.gm.sec hw.still hs hi) a y).mono fun e w' ⟨h1, h2, h3⟩ => ?_
  exact ⟨_, h1, h2, Lib.hid (hw.garble hs hi (a % 192) y), Lib.hid rfl, h3⟩
/-- Open where one copy of each record's block is damaged. -/
theorem kOpen2 (h : OwnM W F w b p x M) (hw : W2 c M rd) (hh : Half rd r) (hz : ∀ i, i < 16 → (r i).size = 192) (hs : LSt r L0 L rs) (hone : ∀ j, j < rs.length → OneBad rd r (L0.block (L0.next + j))) (hc : c ≤ 500000) (hr : M.reps < 800000000) {n k : Nat} (hn : L0.next = n) (hk : L0.chain = k) :
    Calls Tryz.prog 48 #[.pointer (some ⟨b, 0, none⟩), .agg #[.int .i64 3, .int .i64 5], .int .u64 (n : Nat), .int .u32 (k : Nat)] w fun e w' => ∃ lb tk A cap M' rd', e = .returned (.tuple #[.pointer (some ⟨lb, 0, none⟩), .slice A rs.length cap, .int .i64 0]) ∧
      Hid (∃ F' K rb base, OpIn W w' F' K x b p tk lb rb base M' L0 L rs (.slice A rs.length cap) ∧ ∀ g ∈ F, g ∈ F') ∧ Hid (W2 (c + 2 * rs.length) M' rd' ∧ (∀ j, j < rs.length → ∀ s, s < 2 → rd' s (L0.block (L0.next + j)) = r (L0.block (L0.next + j))) ∧ ∀ i, (∀ j, j < rs.length → i ≠ L0.block (L0.next + j)) → ∀ s, s < 2 → rd' s i = rd s i) ∧ Hid (M'.reps = M.reps + rs.length) ∧ Hid (Minds F w w') := by
  obtain ⟨f1, f2, f3, f4, f5⟩ := hs.facts
  have h1 := hs.first
  have h2 := hs.count
  have hcnt := hs.ok.have_
  have hl : rs.length ≤ 5 := by omega
  have hend : (L0.tooks rs).have_ = (L0.tooks rs).count ∨ (L0.tooks rs).have_ < (L0.tooks rs).count ∧ (L0.tooks rs).block (L0.tooks rs).next < 16 ∧ NoRec (L0.tooks rs) (r ((L0.tooks rs).block (L0.tooks rs).next)) := by
    rw [hs.last]
    by_cases he : L.have_ = L.count
    · exact .inl he
    · exact .inr ⟨by omega, f5, hs.below.no f5⟩
  obtain ⟨M', rd', q1, q2, q3, q4, q5⟩ := W2.opens rs hw hh hz hs.recs (by omega) (by omega) (by omega) hone hend (by omega) (by omega)
  rw [hs.last] at q1
  have key := lgOpen_any h hw.fine (by decide) hs.ok0 hs.have0 (by rw [h1, h2]; decide) q1
  rw [h1, h2, hn, hk] at key
  exact key.mono fun e w' ⟨lb, tk, A, cap, k1, k2, k3, _⟩ => ⟨lb, tk, A, cap, M', rd', k1, k2, Lib.hid ⟨q2, q4, q5⟩, Lib.hid q3, k3⟩
theorem RecRow.at_ {K : List Nat} {us : List UpdE} : ∀ {L : LogE} {rs : List (List UpdE)} {cs : List Value} {i : Nat}, RecRow w K L rs cs → rs[i]? = some us → ∃ A cap, cs[3 * i + 2]? = some (.slice A us.length cap) ∧ Row w A (uRow us)
  | L, [], cs, i, _, h => by simp at h
  | L, v :: rs, cs, 0, ⟨A, cap, rest, e, h1, _⟩, h => by
    simp at h
    subst h
    exact ⟨A, cap, by rw [e]; rfl, h1⟩
  | L, v :: rs, cs, i + 1, ⟨A, cap, rest, e, h1, _, _, _, h2⟩, h => by
    obtain ⟨A2, cap2, k1, k2⟩ := RecRow.at_ h2 (i := i) (by simpa using h)
    refine ⟨A2, cap2, ?_, k2⟩
    rw [e, show 3 * (i + 1) + 2 = (3 * i + 2) + 3 by omega]
    exact k1
end
def chS (a : Nat) : ByteArray := ⟨#[UInt8.ofNat a]⟩
def uH (j : Nat) : UpdE := ⟨1, ⟨#[107]⟩, chS (97 + j), 0⟩
theorem uH_ok (j : Nat) : (uH j).Ok := ⟨by show 1 ≤ 1; decide, by show 1 ≤ 3; decide, by show (1 : Nat) ≤ 16; decide, by show (1 : Nat) ≠ 0; decide, by show (1 : Nat) ≤ 32; decide, fun h => absurd rfl h, by show (0 : Nat) < _; decide, fun _ => rfl⟩
def usH (k : Nat) : List (List UpdE) := (List.range k).map fun j => [uH j]
theorem usH_len (k : Nat) : (usH k).length = k := by unfold usH; simp
theorem usH_snoc (k : Nat) : usH (k + 1) = usH k ++ [[uH k]] := by unfold usH; rw [List.range_succ, List.map_append]; rfl
theorem usH_at {k i : Nat} (h : i < k) : (usH k)[i]? = some [uH i] := by unfold usH; rw [List.getElem?_map, List.getElem?_range h]; rfl
def bk (j : Nat) : Nat := 3 + (11 + j) % 5
/-- The copies behind so many of them were garbled: this side's. -/
def dmR (sd : Nat → Nat) (y : UInt8) (r : Nat → ByteArray) (i s b : Nat) : ByteArray := if (List.range i).any (fun j => decide (b = bk j) && decide (s = sd j)) = true then turnB (r b) 30 y else r b
theorem bk_inj {i j : Nat} (hi : i < 5) (hj : j < 5) (h : bk i = bk j) : i = j := by unfold bk at h; omega
theorem bk_lt (j : Nat) : bk j < 16 := by unfold bk; omega
theorem dmR_zero (sd : Nat → Nat) (y : UInt8) (r : Nat → ByteArray) (s b : Nat) : dmR sd y r 0 s b = r b := rfl
theorem dmR_at {sd : Nat → Nat} {y : UInt8} {r : Nat → ByteArray} {i j s : Nat} (hi : i ≤ 5) (hj : j < 5) : dmR sd y r i s (bk j) = if j < i ∧ s = sd j then turnB (r (bk j)) 30 y else r (bk j) := by
  unfold dmR
  by_cases h : j < i ∧ s = sd j
  · rw [if_pos h, if_pos]
    rw [List.any_eq_true]
    exact ⟨j, List.mem_range.2 h.1, by simp [h.2]⟩
  · rw [if_neg h, if_neg]
    rw [List.any_eq_true]
    intro ⟨m, hm, hm2⟩
    simp only [Bool.and_eq_true, decide_eq_true_eq] at hm2
    have hmi := List.mem_range.1 hm
    have := bk_inj hj (by omega) hm2.1
    subst this
    exact h ⟨hmi, hm2.2⟩
theorem dmR_out {sd : Nat → Nat} {y : UInt8} {r : Nat → ByteArray} {i s b : Nat} (hb : ∀ j, j < i → b ≠ bk j) : dmR sd y r i s b = r b := by
  unfold dmR
  rw [if_neg]
  rw [List.any_eq_true]
  intro ⟨m, hm, hm2⟩
  simp only [Bool.and_eq_true, decide_eq_true_eq] at hm2
  exact hb m (List.mem_range.1 hm) hm2.1
theorem dmR_step {sd : Nat → Nat} {y : UInt8} {r : Nat → ByteArray} {i : Nat} (hi : i < 5) (s b : Nat) : dmR sd y r (i + 1) s b = updR2 (dmR sd y r i) (sd i) (bk i) (turnB (dmR sd y r i (sd i) (bk i)) (30 % 192) y) s b := by
  have h0 : dmR sd y r i (sd i) (bk i) = r (bk i) := by rw [dmR_at (by omega) hi, if_neg (by omega)]
  rw [h0]
  unfold updR2
  by_cases hb : ∃ j, j < 5 ∧ b = bk j
  · obtain ⟨j, hj, rfl⟩ := hb
    rw [dmR_at (by omega) hj, dmR_at (by omega) hj]
    by_cases e : j = i
    · subst e
      by_cases e2 : s = sd j
      · rw [if_pos ⟨by omega, e2⟩, if_pos ⟨e2, rfl⟩]
      · rw [if_neg (fun h => e2 h.2), if_neg (fun h => e2 h.1), if_neg (fun h => e2 h.2)]
    · have hne : ¬ bk j = bk i := fun h => e (bk_inj hj hi h)
      rw [if_neg (fun h : s = sd i ∧ bk j = bk i => hne h.2)]
      by_cases e2 : j < i ∧ s = sd j
      · rw [if_pos e2, if_pos ⟨by omega, e2.2⟩]
      · rw [if_neg e2, if_neg (fun h => e2 ⟨by omega, h.2⟩)]
  · have hb2 : ∀ j, j < 5 → b ≠ bk j := fun j hj e => hb ⟨j, hj, e⟩
    rw [dmR_out (fun j hj => hb2 j (by omega)), if_neg (fun h => hb2 i hi h.2), dmR_out (fun j hj => hb2 j (by omega))]
theorem W2.congr {c : Nat} {M : Mi} {rd rd' : Nat → Nat → ByteArray} (h : W2 c M rd) (e : ∀ s i, s < 2 → i < 16 → rd' s i = rd s i) : W2 c M rd' := ⟨h.gm, h.sound, h.still, fun s i hs hi => by rw [e s i hs hi]; exact h.read s i hs hi, fun s i hs hi => by rw [e s i hs hi]; exact h.size s i hs hi⟩
theorem recs_open {r : Nat → ByteArray} : ∀ {rs : List (List UpdE)} {L : LogE} {j : Nat}, RecsIn r L rs → j < rs.length → ∃ h l, openL (r (L.block (L.next + j))).toList = some (h, l)
  | [], _, _, _, h => absurd h (Nat.not_lt_zero _)
  | _ :: _, L, 0, ⟨k1, _⟩, _ => ⟨_, _, k1⟩
  | us :: rs, L, j + 1, ⟨_, _, _, _, _, _, _, k8⟩, h => by
    obtain ⟨hd, l, e⟩ := recs_open k8 (j := j) (by simpa using h)
    refine ⟨hd, l, ?_⟩
    rw [← e]
    show openL (r (L.block (L.next + (j + 1)))).toList = openL (r (L.block (L.next + 1 + j))).toList
    rw [show L.next + (j + 1) = L.next + 1 + j by omega]
/-- What Open needs of damaged copies. -/
theorem dm_half {sd : Nat → Nat} {y : UInt8} {r : Nat → ByteArray} {k : Nat} (hk : k ≤ 5) (hy : y ≠ 0) (hz : ∀ i, i < 16 → (r i).size = 192) (hsd : ∀ j, sd j < 2) (ho : ∀ j, j < k → ∃ h l, openL (r (bk j)).toList = some (h, l)) :
    Half (dmR sd y r k) r ∧ ∀ j, j < k → OneBad (dmR sd y r k) r (bk j) := by
  have key : ∀ j s, j < k → (dmR sd y r k s (bk j) = if s = sd j then turnB (r (bk j)) 30 y else r (bk j)) := fun j s hj => by
    rw [dmR_at hk (by omega)]
    by_cases e : s = sd j
    · rw [if_pos ⟨hj, e⟩, if_pos e]
    · rw [if_neg (fun h => e h.2), if_neg e]
  refine ⟨fun i _ => ?_, fun j hj => ?_⟩
  · by_cases hb : ∃ j, j < k ∧ i = bk j
    · obtain ⟨j, hj, rfl⟩ := hb
      have h2 := hsd j
      refine ⟨fun s _ => ?_, ?_⟩
      · rw [key j s hj]
        by_cases e : s = sd j
        · rw [if_pos e]
          obtain ⟨h, l, ho⟩ := ho j hj
          exact .inr (turn_none (by decide) (by rw [hz _ (bk_lt j)]; decide) hy ho)
        · rw [if_neg e]; exact .inl rfl
      · rw [key j 0 hj, key j 1 hj]
        rcases (show sd j = 0 ∨ sd j = 1 by omega) with e | e
        · exact .inr (by rw [if_neg (by omega)])
        · exact .inl (by rw [if_neg (by omega)])
    · have hb2 : ∀ j, j < k → i ≠ bk j := fun j hj e => hb ⟨j, hj, e⟩
      exact ⟨fun s _ => .inl (dmR_out hb2), .inl (dmR_out hb2)⟩
  · have h2 := hsd j
    have hne : ¬ turnB (r (bk j)) 30 y = r (bk j) := turnB_ne (by rw [hz _ (bk_lt j)]; decide) hy
    unfold OneBad
    rw [key j 0 hj, key j 1 hj]
    rcases (show sd j = 0 ∨ sd j = 1 by omega) with e | e
    · exact .inr ⟨by rw [if_pos e.symm]; exact hne, by rw [if_neg (by omega)]⟩
    · exact .inl ⟨by rw [if_neg (by omega)], by rw [if_pos e.symm]; exact hne⟩
theorem bitA_all : (List.range 256).all (fun h => decide (bits BinOp.and IntKind.u8 (h : Int) 1 = ((h % 2 : Nat) : Int))) = true := by kernel_rfl
theorem bitA {h j : Nat} (hh : h < 256) : bits BinOp.and IntKind.u8 ((h : Int) / 2 ^ j) 1 = ((h / 2 ^ j % 2 : Nat) : Int) := by
  have e : ((h : Int) / 2 ^ j) = ((h / 2 ^ j : Nat) : Int) := by rw [Int.natCast_ediv, Int.natCast_pow]; rfl
  rw [e]
  exact of_decide_eq_true (List.all_eq_true.1 bitA_all _ (List.mem_range.2 (Nat.lt_of_le_of_lt (Nat.div_le_self _ _) hh)))
theorem devAt {w : World} {db s : Nat} {x : Nat → Nat} (h : Blk w db 50 [.pointer (some ⟨x 0, 0, none⟩), .pointer (some ⟨x 1, 0, none⟩)]) (hs : s < 2) : w.cell? ⟨db, s, none⟩ = some (.pointer (some ⟨x s, 0, none⟩)) := by
  rcases two_cases hs with rfl | rfl
  · exact h.cell (i := 0) rfl
  · exact h.cell (i := 1) rfl
theorem conv0 (w : World) : (convert 21 9 (.int .i32 97)).run Tryz.prog w = .ok (.string ⟨#[97]⟩) w := by kernel_rfl
theorem conv1 (w : World) : (convert 21 9 (.int .i32 98)).run Tryz.prog w = .ok (.string ⟨#[98]⟩) w := by kernel_rfl
theorem conv2 (w : World) : (convert 21 9 (.int .i32 99)).run Tryz.prog w = .ok (.string ⟨#[99]⟩) w := by kernel_rfl
theorem conv3 (w : World) : (convert 21 9 (.int .i32 100)).run Tryz.prog w = .ok (.string ⟨#[100]⟩) w := by kernel_rfl
theorem conv4 (w : World) : (convert 21 9 (.int .i32 101)).run Tryz.prog w = .ok (.string ⟨#[101]⟩) w := by kernel_rfl
theorem conv_rune (j : Nat) (hj : j < 5) (w : World) : (convert 21 9 (.int .i32 ((97 + j : Nat) : Nat))).run Tryz.prog w = .ok (.string (chS (97 + j))) w := by
  have : j = 0 ∨ j = 1 ∨ j = 2 ∨ j = 3 ∨ j = 4 := by omega
  rcases this with rfl | rfl | rfl | rfl | rfl
  · exact conv0 w
  · exact conv1 w
  · exact conv2 w
  · exact conv3 w
  · exact conv4 w
set_option maxRecDepth 100000 in
set_option maxHeartbeats 6400000 in
theorem walHeals_walk (n sides by' : Nat) (W : World) (hn : n < 256) (hsd : sides < 256) (hby : by' < 256) :
    Calls Tryz.prog 12 #[.int .u8 (n : Nat), .int .u8 (sides : Nat), .int .u8 (by' : Nat)] W fun e w' => e = .returned (.bool true) ∧ Mods [] W w' := by
  obtain ⟨nq, hnq⟩ : ∃ r, n % 5 = r := ⟨_, rfl⟩
  have hnql : nq ≤ 4 := by omega
  have hnt : (n : Int).tmod 5 = (nq : Int) := by rw [Int.tmod_eq_emod_of_nonneg (by omega)]; omega
  have hni : (n : Int) % 5 = (nq : Int) := by omega
  have hnw : IntKind.i64.wrap (n : Int) = (n : Int) := by rw [IntKind.wrap_i64]; omega
  have hnw2 : IntKind.i64.wrap (nq : Int) = (nq : Int) := by rw [IntKind.wrap_i64]; omega
  obtain ⟨k, hk⟩ : ∃ k : Nat, (1 : Int) + (nq : Int) = (k : Int) := ⟨1 + nq, by omega⟩
  have hk5 : k ≤ 5 := by omega
  have hkw : IntKind.i64.wrap (k : Int) = (k : Int) := by rw [IntKind.wrap_i64]; omega
  go_enter Tryz.func12, Tryz.ntmps12
  go_upto_region 2 with (go_at_call 47; refine w13Fresh_any.mono ?_; rintro e w1 ⟨x, p, b, M, rfl, HO, HG⟩)
  obtain ⟨w2, hw2⟩ : ∃ w2, w1.alloc (.cells #[.pointer (some ⟨x 0, 0, none⟩), .pointer (some ⟨x 1, 0, none⟩)] 50) = w2 := ⟨_, rfl⟩
  obtain ⟨db, hdb⟩ : ∃ db, w1.heap.size = db := ⟨_, rfl⟩
  have hb2 : Blk w2 db 50 [.pointer (some ⟨x 0, 0, none⟩), .pointer (some ⟨x 1, 0, none⟩)] := by rw [← hw2, ← hdb]; exact Blk.new w1 50 _
  have hm2 : Mods [] w1 w2 := by rw [← hw2]; exact (Mods.refl _ _).alloc _
  have HO2 : Hid (OwnM W [db] w2 b p x M) := Lib.hid (HO.out.protect hm2 (fun g hg => .inr (by have := hb2.lt; have := List.mem_singleton.1 hg; omega)))
  rw [hw2, hdb]
  have HB2 := Lib.hid hb2
  have HW := Lib.hid (WSt.fresh HG.out)
  have HR := Lib.hid HG.out.reps
  clear hw2 hdb hb2 hm2 HO HG
  have HS := Lib.hid (LSt.fresh (s := 11) (k := 5) (by decide) (by decide))
  have cO := Lib.hid (fun (w : World) (hm : Mods [] w2 w) => show Calls Tryz.prog 48 #[.pointer (some ⟨b, 0, none⟩), .agg #[.int .i64 3, .int .i64 5], .int .u64 11, .int .u32 5] w _ from kOpenL (HO2.out.still hm) HW.out HS.out (by decide) (by rw [HR.out]; decide) (n := 11) (k := 5) rfl rfl)
  go_upto_region 3 with (first | (go_at_call 49; refine w13Ring_any.mono ?_; rintro e w3 ⟨rfl, HM3⟩) | (go_at_call 48; refine (cO.out _ HM3.out).mono ?_; rintro e w4 ⟨lb, tk, A4, cap4, rfl, HL4, HN4, HD4⟩) | fail)
  go_upto_region 5 with (go_at_call 52; refine w13Wakes_any.mono ?_; rintro e w5 ⟨rfl, HM5⟩)
  have HL5 := Lib.hid (HL4.out.calm HM5.out)
  have HB5 := Lib.hid ((HN4.out.blk (HB2.out.keep HM3.out (by simp)) (by simp)).keep HM5.out (by simp))
  have HNE := Lib.hid (HD4.out db (by simp))
  clear cO HL4 HN4 HB2 HD4 HO2 HM3 HM5
  go_upto_region 6 with fail
  have HCV := Lib.hid conv_rune
  have HI0 : Hid (∃ (M : Mi) (rd : Nat → ByteArray), LgIn W w5 [tk, lb, db] x b p tk lb M ((⟨3, 5, 11, 5, 0⟩ : LogE).tooks (usH 0)) ∧ WSt (2 * 0) M rd ∧ LSt rd ⟨3, 5, 11, 5, 0⟩ ((⟨3, 5, 11, 5, 0⟩ : LogE).tooks (usH 0)) (usH 0) ∧ M.reps = 0) := Lib.hid ⟨M, _, HL5.out, HW.out, HS.out, HR.out⟩
  clear HL5 HW HS HR M
  go_wp2_with fail
  go_loopw [50] (fun iv wr => ∃ i : Nat, i ≤ k ∧ iv = .int .i64 (i : Nat) ∧ (∃ (M : Mi) (rd : Nat → ByteArray), LgIn W wr [tk, lb, db] x b p tk lb M ((⟨3, 5, 11, 5, 0⟩ : LogE).tooks (usH i)) ∧ WSt (2 * i) M rd ∧ LSt rd ⟨3, 5, 11, 5, 0⟩ ((⟨3, 5, 11, 5, 0⟩ : LogE).tooks (usH i)) (usH i) ∧ M.reps = 0) ∧ Blk wr db 50 [.pointer (some ⟨x 0, 0, none⟩), .pointer (some ⟨x 1, 0, none⟩)]) (fun iv _ => k - (intOf iv).toNat)
  case atStart => exact ⟨0, by omega, rfl, HI0.out, HB5.out⟩
  case round =>
    obtain ⟨i, hi, rfl, ⟨M, rd, hLg, hSt, hLs, hrp⟩, hdv⟩ := hrel
    have HLG := Lib.hid hLg
    have HST := Lib.hid hSt
    have HLS := Lib.hid hLs
    have HRP := Lib.hid hrp
    have HDV := Lib.hid hdv
    have hnx : ((⟨3, 5, 11, 5, 0⟩ : LogE).tooks (usH i)).next = 11 + i := by rw [tooks_more, usH_len]
    have HNX := Lib.hid hnx
    clear hLg hSt hLs hrp hdv HI0 HB5 hnx
    by_cases hik : i < k
    · have hiki : (i : Int) < (k : Int) := by omega
      obtain ⟨a, ha⟩ : ∃ a, 97 + i = a := ⟨_, rfl⟩
      have hcv := HCV.out i (by omega)
      rw [ha] at hcv
      have haw : IntKind.i64.wrap (97 + (i : Int)) = (a : Int) := by rw [IntKind.wrap_i64]; omega
      have haw2 : IntKind.i32.wrap (a : Int) = (a : Int) := by rw [IntKind.wrap_i32]; omega
      have cA0 := kAppOne HLG.out HST.out HLS.out (by omega) (by rw [usH_len]; omega) (by rw [HNX.out]; omega) (uH i) (uH_ok i)
      have huc : updC (uH i) = [.int .u8 1, .string ⟨#[107]⟩, .string (chS a), .int .u64 0] := by rw [← ha]; rfl
      rw [huc] at cA0
      have cA := Lib.hid cA0
      clear cA0 huc ha
      go_wp2_with (first | (go_at_call 53; refine cA.out.mono ?_; rintro e w6 ⟨M1, rd1, rfl, HW1, HS1, HL1, HR1, HN6⟩) | fail)
      go_roundw
      case rel =>
        refine ⟨i + 1, by omega, by go_num, ⟨M1, rd1, ?_, ?_, ?_, HR1.out.trans HRP.out⟩, (HN6.out [db] (fun g hg => by rw [List.mem_singleton.1 hg]; exact ⟨by simp, HNE.out⟩)).blk HDV.out (by simp)⟩
        · rw [usH_snoc, LogE.tooks_snoc]; exact HL1.out
        · rw [show 2 * (i + 1) = 2 * i + 2 by omega]; exact HW1.out
        · rw [usH_snoc, LogE.tooks_snoc]; exact HS1.out
      case measure => simp [intOf]; omega
    · obtain rfl : i = k := by omega
      have hiki : ¬ (i : Int) < (i : Int) := by omega
      have cS := Lib.hid (kSync HLG.out HST.out (by omega))
      go_upto_region 14 with (first | (go_at_call 54; refine cS.out.mono ?_; rintro e w6 ⟨M2, rfl, HW2, HL2, HR2, HN6⟩) | fail)
      have HB6 := Lib.hid (HN6.out.blk HDV.out (by simp))
      have HRZ : Hid (M2.reps = 0) := Lib.hid (HR2.out.trans HRP.out)
      have HO6 := Lib.hid HL2.out.own
      clear cS HLG HST HN6 HDV HRP HR2 HL2 HCV
      obtain ⟨yv, hyv⟩ : ∃ yv : Nat, (1 : Int) + ((by' % 255 : Nat) : Int) = (yv : Int) := ⟨1 + by' % 255, by omega⟩
      have hbt : (by' : Int).tmod 255 = ((by' % 255 : Nat) : Int) := by rw [Int.tmod_eq_emod_of_nonneg (by omega)]; omega
      obtain ⟨b5, hb5⟩ : ∃ b5, by' % 255 = b5 := ⟨_, rfl⟩
      rw [hb5] at hyv hbt
      have hb5w : IntKind.u8.wrap (b5 : Int) = (b5 : Int) := by rw [IntKind.wrap_u8]; omega
      have hbm : (by' : Int) % 255 = (b5 : Int) := by omega
      have hyw : IntKind.u8.wrap (yv : Int) = (yv : Int) := by rw [IntKind.wrap_u8]; omega
      obtain ⟨y, hy⟩ : ∃ y : UInt8, y.toNat = yv := ⟨UInt8.ofNat yv, by simp; omega⟩
      have HY0 : Hid (y ≠ 0) := Lib.hid (fun e => by rw [e] at hy; simp at hy; omega)
      clear hb5
      go_wp2_with fail
      go_loopw [67] (fun iv wr => ∃ j : Nat, j ≤ i ∧ iv = .int .i64 (j : Nat) ∧ (∃ M, OwnM W [tk, lb, db] wr b p x M ∧ W2 0 M (dmR (fun j => sides / 2 ^ j % 2) y rd j) ∧ M.reps = 0) ∧ Blk wr db 50 [.pointer (some ⟨x 0, 0, none⟩), .pointer (some ⟨x 1, 0, none⟩)]) (fun iv _ => i - (intOf iv).toNat)
      case atStart => exact ⟨0, by omega, rfl, ⟨M2, HO6.out, HW2.out.two, HRZ.out⟩, HB6.out⟩
      case round =>
        obtain ⟨j, hj, rfl, ⟨M3, hO, hW3, hR3⟩, hdv⟩ := hrel
        have HO := Lib.hid hO
        have HW3 := Lib.hid hW3
        have HR3 := Lib.hid hR3
        have HDV := Lib.hid hdv
        clear hO hW3 hR3 hdv HO6 HB6
        by_cases hji : j < i
        · have hjii : (j : Int) < (i : Int) := by omega
          have hjn : ¬ (j : Int) < 0 := by omega
          obtain ⟨s, hs⟩ : ∃ s, sides / 2 ^ j % 2 = s := ⟨_, rfl⟩
          have hs2 : s < 2 := by omega
          have hbits := bitA (h := sides) (j := j) hsd
          rw [hs] at hbits
          have hs0 : (0 : Int) ≤ (s : Int) := by omega
          have hs1 : (s : Int) < 2 := by omega
          have hcell := devAt HDV.out hs2
          obtain ⟨a1, ha1⟩ : ∃ a1, 11 + j = a1 := ⟨_, rfl⟩
          have h11 : IntKind.i64.wrap (11 + (j : Int)) = (a1 : Int) := by rw [IntKind.wrap_i64]; omega
          obtain ⟨m1, hm1⟩ : ∃ m1, a1 % 5 = m1 := ⟨_, rfl⟩
          have hm5 : (a1 : Int).tmod 5 = (m1 : Int) := by rw [Int.tmod_eq_emod_of_nonneg (by omega)]; omega
          have hm5e : (a1 : Int) % 5 = (m1 : Int) := by omega
          obtain ⟨kk, hkk⟩ : ∃ kk, bk j + 4 = kk := ⟨_, rfl⟩
          have hkm : kk = 7 + m1 := by unfold bk at hkk; omega
          have h7 : IntKind.i64.wrap (7 + (m1 : Int)) = (kk : Int) := by rw [IntKind.wrap_i64]; omega
          have hm1w : IntKind.i64.wrap (m1 : Int) = (m1 : Int) := by rw [IntKind.wrap_i64]; omega
          have cG0 := kGarble HO.out HW3.out (by decide) (s := s) (i := bk j) (k := kk) hs2 (bk_lt j) hkk.symm 30 y
          rw [hy] at cG0
          have cG := Lib.hid cG0
          have HS := Lib.hid hs
          have HJ : Hid (j < 5) := Lib.hid (by omega)
          clear cG0 hs hkk hkm ha1 hm1
          go_wp2_with (first | (go_at_call 33; refine cG.out.mono ?_; rintro e w7 ⟨M4, rfl, HO4, HW4, HR4, HN4⟩) | fail)
          go_roundw
          case rel =>
            refine ⟨j + 1, by omega, by go_num, ⟨M4, HO4.out, HW4.out.congr (fun s' b' _ _ => ?_), HR4.out.trans HR3.out⟩, HN4.out.blk HDV.out (by simp)⟩
            rw [dmR_step HJ.out, ← HS.out]
          case measure => simp [intOf]; omega
        · obtain rfl : j = i := by omega
          have hjii : ¬ (j : Int) < (j : Int) := by omega
          have HOPN : Hid (∀ q, q < j → ∃ h l, openL (rd (bk q)).toList = some (h, l)) := Lib.hid (fun q hq => recs_open (L := ⟨3, 5, 11, 5, 0⟩) (j := q) HLS.out.recs (by rw [usH_len]; exact hq))
          have HSZ := Lib.hid HW2.out.size
          have HH := Lib.hid (dm_half (sd := fun q => sides / 2 ^ q % 2) (r := rd) hk5 HY0.out HSZ.out (fun q => by show sides / 2 ^ q % 2 < 2; omega) HOPN.out)
          have HHq := Lib.hid (dm_half (sd := fun q => 1 - sides / 2 ^ q % 2) (r := rd) hk5 HY0.out HSZ.out (fun q => by show 1 - sides / 2 ^ q % 2 < 2; omega) HOPN.out)
          have cO := Lib.hid (fun (w : World) (hm : Mods [] wr w) => kOpen2 (HO.out.still hm) HW3.out HH.out.1 HSZ.out HLS.out (fun q hq => HH.out.2 q (by rw [usH_len] at hq; exact hq)) (by decide) (by rw [HR3.out]; decide) (n := 11) (k := 5) rfl rfl)
          rw [usH_len] at cO
          clear HH HW2 HRZ HNX
          go_upto_region 20 with (first | (go_at_call 49; refine w13Ring_any.mono ?_; rintro e w7 ⟨rfl, HM7⟩) | (go_at_call 48; refine (cO.out _ HM7.out).mono ?_; rintro e w8 ⟨lb2, tk2, A2, cap2, M4, rd4, rfl, HOP, HW4, HR4, HN8⟩) | fail)
          have HB8 := Lib.hid (HN8.out.blk (HDV.out.keep HM7.out (by simp)) (by simp))
          have HWB : Hid (W2 (2 * j) M4 (dmR (fun q => 1 - sides / 2 ^ q % 2) y rd 0)) := Lib.hid (by
            obtain ⟨h1, h2, h3⟩ := HW4.out
            rw [Nat.zero_add] at h1
            refine h1.congr (fun s b hs hb => ?_)
            rw [dmR_zero]
            by_cases hx : ∃ q, q < j ∧ b = bk q
            · obtain ⟨q, hq, rfl⟩ := hx
              exact (h2 q hq s hs).symm
            · have hx2 : ∀ q, q < j → b ≠ bk q := fun q hq e => hx ⟨q, hq, e⟩
              rw [h3 b hx2 s hs, dmR_out hx2])
          have HRB : Hid (M4.reps = j) := Lib.hid (by rw [HR4.out, HR3.out]; omega)
          obtain ⟨F', K, rb, base, HIN, HFF⟩ : ∃ F' K rb base, Hid (OpIn W w8 F' K x b p tk2 lb2 rb base M4 ⟨3, 5, 11, 5, 0⟩ ((⟨3, 5, 11, 5, 0⟩ : LogE).tooks (usH j)) (usH j) (.slice A2 j cap2)) ∧ Hid (∀ g ∈ [tk, lb, db], g ∈ F') := by
            obtain ⟨F', K, rb, base, h1, h2⟩ := HOP.out
            exact ⟨F', K, rb, base, Lib.hid h1, Lib.hid h2⟩
          have HDF := Lib.hid (HFF.out db (by simp))
          have cR0 := oRepairs HIN.out.lg.own
          rw [HRB.out] at cR0
          have cR := Lib.hid cR0
          clear cR0 cO HOP HW4 HR4 HN8 HM7 HDV HO HW3 HR3 HFF
          go_upto_region 22 with (first | (go_at_call 38; refine cR.out.mono ?_; rintro e w9 ⟨rfl, rfl⟩) | fail)
          go_wp2_with fail
          go_loopw [107] (fun iv wq => ∃ q : Nat, q ≤ j ∧ iv = .int .i64 (q : Nat) ∧ (∃ M, OpIn W wq F' K x b p tk2 lb2 rb base M ⟨3, 5, 11, 5, 0⟩ ((⟨3, 5, 11, 5, 0⟩ : LogE).tooks (usH j)) (usH j) (.slice A2 j cap2) ∧ W2 (2 * j) M (dmR (fun q => 1 - sides / 2 ^ q % 2) y rd q) ∧ M.reps = j) ∧ Blk wq db 50 [.pointer (some ⟨x 0, 0, none⟩), .pointer (some ⟨x 1, 0, none⟩)]) (fun iv _ => j - (intOf iv).toNat)
          case atStart => exact ⟨0, by omega, rfl, ⟨M4, HIN.out, HWB.out, HRB.out⟩, HB8.out⟩
          case round =>
            obtain ⟨q, hq, rfl, ⟨M5, hO, hW5, hR5⟩, hdv⟩ := hrel
            have HO := Lib.hid hO
            have HW5 := Lib.hid hW5
            have HR5 := Lib.hid hR5
            have HDV := Lib.hid hdv
            clear hO hW5 hR5 hdv HIN HWB HRB HB8 cR
            by_cases hqj : q < j
            · have hqji : (q : Int) < (j : Int) := by omega
              obtain ⟨cs, hrow, hrr⟩ := HO.out.row
              obtain ⟨A5, c5, hc5, hr5⟩ := RecRow.at_ hrr (usH_at hqj)
              obtain ⟨A6, cap6, hA6, hcells⟩ := owns_shapeD hrow
              injection hA6 with hA6 hle hcp
              subst hA6
              subst hcp
              obtain ⟨g6, rfl, hcell6⟩ := hcells _ _ hc5
              rw [show 3 * q + 2 = q * 3 + 2 by omega] at hcell6
              obtain ⟨b5', o5', rfl, hcell7⟩ := hr5.at (i := 2) (u := .string (chS (97 + q))) rfl
              obtain ⟨a, ha⟩ : ∃ a, 97 + q = a := ⟨_, rfl⟩
              have hcv := conv_rune q (by omega)
              rw [ha] at hcv hcell7
              have haw : IntKind.i64.wrap (97 + (q : Int)) = (a : Int) := by rw [IntKind.wrap_i64]; omega
              have haw2 : IntKind.i32.wrap (a : Int) = (a : Int) := by rw [IntKind.wrap_i32]; omega
              have hjn : ¬ (q : Int) < 0 := by omega
              obtain ⟨s, hs⟩ : ∃ s, sides / 2 ^ q % 2 = s := ⟨_, rfl⟩
              have hs2 : s < 2 := by omega
              obtain ⟨s1, hs1⟩ : ∃ s1, 1 - s = s1 := ⟨_, rfl⟩
              have hs12 : s1 < 2 := by omega
              have hbits := bitA (h := sides) (j := q) hsd
              rw [hs] at hbits
              have hsw : IntKind.u8.wrap (1 - (s : Int)) = (s1 : Int) := by rw [IntKind.wrap_u8]; omega
              have hs0 : (0 : Int) ≤ (s1 : Int) := by omega
              have hs1l : (s1 : Int) < 2 := by omega
              have hcell := devAt HDV.out hs12
              obtain ⟨a1, ha1⟩ : ∃ a1, 11 + q = a1 := ⟨_, rfl⟩
              have h11 : IntKind.i64.wrap (11 + (q : Int)) = (a1 : Int) := by rw [IntKind.wrap_i64]; omega
              obtain ⟨m1, hm1⟩ : ∃ m1, a1 % 5 = m1 := ⟨_, rfl⟩
              have hm5 : (a1 : Int).tmod 5 = (m1 : Int) := by rw [Int.tmod_eq_emod_of_nonneg (by omega)]; omega
              have hm5e : (a1 : Int) % 5 = (m1 : Int) := by omega
              obtain ⟨kk, hkk⟩ : ∃ kk, bk q + 4 = kk := ⟨_, rfl⟩
              have hkm : kk = 7 + m1 := by unfold bk at hkk; omega
              have h7 : IntKind.i64.wrap (7 + (m1 : Int)) = (kk : Int) := by rw [IntKind.wrap_i64]; omega
              have hm1w : IntKind.i64.wrap (m1 : Int) = (m1 : Int) := by rw [IntKind.wrap_i64]; omega
              have cG0 := kGarble HO.out.lg.own HW5.out (by omega) (s := s1) (i := bk q) (k := kk) hs12 (bk_lt q) hkk.symm 30 y
              rw [hy] at cG0
              have cG := Lib.hid cG0
              have HS1 : Hid (1 - sides / 2 ^ q % 2 = s1) := Lib.hid (by rw [hs]; exact hs1)
              have HJ : Hid (q < 5) := Lib.hid (by omega)
              clear cG0 hs hs1 hkk hkm ha1 hm1 ha hle hrow hrr hc5 hcells hr5
              go_wp2_with (first | (go_at_call 33; refine cG.out.mono ?_; rintro e w7 ⟨M6, rfl, HO6, HW6, HR6, HN6⟩) | fail)
              go_roundw
              case rel =>
                refine ⟨q + 1, by omega, by go_num, ⟨M6, HO.out.turn (HO.out.lg.go HO6.out HN6.out) HN6.out (fun g hg => hg), HW6.out.congr (fun s' b' _ _ => ?_), HR6.out.trans HR5.out⟩, HN6.out.blk HDV.out HDF.out⟩
                rw [dmR_step HJ.out, HS1.out]
              case measure => simp [intOf]; omega
            · obtain rfl : q = j := by omega
              have hqji : ¬ (q : Int) < (q : Int) := by omega
              have cO := Lib.hid (fun (w : World) (hm : Mods [] wr w) => kOpen2 (HO.out.lg.own.still hm) HW5.out HHq.out.1 HSZ.out HLS.out (fun z hz => HHq.out.2 z (by rw [usH_len] at hz; exact hz)) (by omega) (by rw [HR5.out]; omega) (n := 11) (k := 5) rfl rfl)
              rw [usH_len] at cO
              clear HDV
              go_wp2_with (first | (go_at_call 49; refine w13Ring_any.mono ?_; rintro e w7 ⟨rfl, HM7⟩) | (go_at_call 48; refine (cO.out _ HM7.out).mono ?_; rintro e w8 ⟨lb3, tk3, A3, cap3, M7, rd7, rfl, HOP, HW7, HR7, HN8⟩) | fail)
              go_ret
              obtain ⟨F7, K7, rb7, base7, h1, _⟩ := HOP.out
              exact ⟨rfl, h1.lg.own.mods⟩
theorem readables_walHeals : ∀ t ∈ (#[5, 5, 5] : Array TypeId).toList, Tryz.prog.readableRec t = true ∧ t < Tryz.prog.types.size := by
  intro t ht
  simp only [List.mem_cons, List.not_mem_nil, or_false] at ht
  rcases ht with rfl | rfl | rfl
  all_goals exact ⟨by kernel_rfl, of_decide_eq_true (by kernel_rfl)⟩

set_option maxRecDepth 100000 in
theorem walHeals_contract (H : Type) (enc : TypeId × Value → H) (W : World) (base : Nat) (args : Array Value) (ds gs : List (DataW H)) (before : List MemPlace)
    (hval : ∀ (j : Nat) t v, Tryz.f12.params[j]? = some t → args[j]? = some v → Value.okWide Tryz.prog W .any base t v)
    (hW : DataW.Whole enc Tryz.prog Tryz.f12.params.toList Rows.walHealsSpec.vars false W args.toList ds gs before) :
    Calls Tryz.prog 12 args W fun e W' => ∃ v, e = .returned v ∧ Rows.walHealsSpec.post enc Tryz.prog Tryz.f12 false true false false W args v W' := by
  have hW' := hW
  obtain ⟨p, q, hA0, hV, he, hfz, hnd⟩ := hW
  have hA : DataW.TrodAll enc Tryz.prog W 0 (fun _ => true) true Tryz.f12.params.toList args.toList ds p := hA0
  rw [Tryz.params12] at hA hval
  obtain ⟨v0, vs0, d0, ds0, p0, q0, hargs, rfl, rfl, h0, r0⟩ := trodAll_cons hA
  obtain ⟨v1, vs1, d1, ds1, p1, q1, rfl, rfl, rfl, h1, r1⟩ := trodAll_cons r0
  obtain ⟨v2, vs2, d2, ds2, p2, q2, rfl, rfl, rfl, h2, r2⟩ := trodAll_cons r1
  obtain ⟨rfl, rfl, rfl⟩ := trodAll_nil r2
  obtain rfl : args = #[v0, v1, v2] := by cases args; simp_all
  obtain ⟨n', rfl, rfl, rfl, wn⟩ := open_int Tryz.underlying5 (hval 0 5 v0 rfl rfl) h0
  have bn := bounds_u8 wn
  obtain ⟨n, rfl⟩ := Int.eq_ofNat_of_zero_le bn.1
  obtain ⟨sides', rfl, rfl, rfl, wsides⟩ := open_int Tryz.underlying5 (hval 1 5 v1 rfl rfl) h1
  have bsides := bounds_u8 wsides
  obtain ⟨sides, rfl⟩ := Int.eq_ofNat_of_zero_le bsides.1
  obtain ⟨by1', rfl, rfl, rfl, wby1⟩ := open_int Tryz.underlying5 (hval 2 5 v2 rfl rfl) h2
  have bby1 := bounds_u8 wby1
  obtain ⟨by1, rfl⟩ := Int.eq_ofNat_of_zero_le bby1.1
  refine (walHeals_walk n sides by1 W (by have := bn.2; omega) (by have := bsides.2; omega) (by have := bby1.2; omega)).mono fun e W' ⟨he', hm⟩ => ?_
  subst he'
  exact ⟨_, rfl, post_law laidOut (by rw [Tryz.params12]; exact readables_walHeals) (by rfl) Tryz.underlying4 rfl rfl hW' hm.below⟩

set_option maxRecDepth 100000 in
theorem walHeals_lifted (os : Os) (started : os.Started) (H : Type) (enc : TypeId × Value → H) :
    ReturnsInHanded {} Tryz.checked os 12 .any (Rows.walHealsSpec.pre6 enc Tryz.prog Tryz.f12 Rows.walHealsRow.domain false) (Rows.walHealsSpec.post enc Tryz.prog Tryz.f12 false true false false) := by
  refine returnsInHanded_of_change (C := Tryz.checked) own started (by kernel_rfl) Tryz.func12
    (ChangeSpec.witness6 (enc := enc) (C := Tryz.checked) false ⟨#[], #[.int .u8 0, .int .u8 0, .int .u8 0], []⟩ 8 (by kernel_rfl) (by kernel_rfl) (by kernel_rfl) (by kernel_rfl)) ?_
  intro W base args ds gs before hval hW _ _
  exact walHeals_contract H enc W base args ds gs before hval hW

/-- The law. -/
theorem walHeals_said : Rows.WalHealsSaid :=
  OpenClaim.holds_of_wide 12 Tryz.f12 rfl rfl rfl rfl rfl rfl rfl ⟨rfl, rfl, rfl, rfl, rfl⟩ rfl rfl rfl rfl rfl (by kernel_rfl) Tryz.func12 (by kernel_rfl)
    (of_decide_eq_true (by kernel_rfl)) (by unfold Func.isWrapper; first | (rw [if_pos (by decide +kernel)]; kernel_rfl) | (rw [if_neg (by decide +kernel)]; exact ⟨rfl, rfl⟩))
    (fun os started H enc _ => walHeals_lifted os started H enc)
end Go.Proofs.YtnpfhfgegjocoaaGreat
