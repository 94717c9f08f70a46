/- MirrorRefuses: whatever the numbers are, the law answers true. No condition but the form's own. -/
import Derived.Test.YtnpfhfgegjocoaaGreatMI
import Derived.Test.YtnpfhfgegjocoaaGreatMG
import Derived.Test.YtnpfhfgegjocoaaGreatMA
import Derived.Outline
namespace Go.Proofs.YtnpfhfgegjocoaaGreat
open Go.ChangeShapes Go.WideShapes Go.ChangeAt Go.RowKit

/-- What is wanted, and what is found, of a block and an image. -/
def wantR (blk : Int) (k : Nat) : Nat := if 0 ≤ blk ∧ blk < 14 then (if k = 128 then 0 else 2) else 3
/-- The calls that the law makes on a fresh mirror. -/
structure RefCalls (W : World) (b p : Nat) (x : Nat → Nat) (blk : Int) (img : ByteArray) (h w : Nat) (f : Nat) (r : Nat) (M0 M1 M2 : Mi) : Prop where
  heal : ∀ u, OwnM W [] u b p x M0 → Calls Tryz.prog 45 #[.pointer (some ⟨b, 0, none⟩), .int .i64 blk, .string img] u fun e w' => ∃ n : Nat, e = .returned (.tuple #[.int .i64 (n : Nat), .int .i64 (h : Nat)]) ∧ Hid (OwnM W [] w' b p x M1)
  images : ∀ u, OwnM W [] u b p x M1 → Calls Tryz.prog 35 #[.pointer (some ⟨b, 0, none⟩), .int .i64 blk] u fun e w' => ∃ A k n, e = .returned (.tuple #[.slice A n k, .int .i64 (f : Nat)]) ∧ Hid (OwnM W [] w' b p x M1)
  read : ∀ u, OwnM W [] u b p x M1 → Calls Tryz.prog 34 #[.pointer (some ⟨b, 0, none⟩), .agg #[.int .i64 blk, .int .u64 0, .int .u32 0]] u fun e w' => ∃ s, e = .returned (.tuple #[.int .u8 0, .string s, .int .i64 (r : Nat)]) ∧ Hid (OwnM W [] w' b p x M1)
  check : ∀ u, OwnM W [] u b p x M1 → Calls Tryz.prog 39 #[.pointer (some ⟨b, 0, none⟩), .agg #[.int .i64 blk, .int .u64 0, .int .u32 0]] u fun e w' => e = .returned (.tuple #[.int .i64 0, .int .i64 (r : Nat)]) ∧ Hid (OwnM W [] w' b p x M1)
  write : ∀ u, OwnM W [] u b p x M1 → Calls Tryz.prog 29 #[.pointer (some ⟨b, 0, none⟩), .int .i64 blk, .string img] u fun e w' => e = .returned (.int .i64 (w : Nat)) ∧ Hid (OwnM W [] w' b p x M2)
theorem refCalls {W : World} {b p : Nat} {x : Nat → Nat} {M : Mi} (hG : Gfresh 14 128 6 M) (blk : Int) {img : ByteArray} {k : Nat} (hi : img = bA (List.replicate k 105)) :
    ∃ M1 M2, RefCalls W b p x blk img (wantR blk k) (wantR blk k) (if 0 ≤ blk ∧ blk < 14 then 0 else 3) (if 0 ≤ blk ∧ blk < 14 then 10 else 3) M M1 M2 := by
  have hsz : img.size = k := by rw [hi, bA_size]; simp
  have hw : sizedM 14 128 blk img.size = wantR blk k := by unfold sizedM wantR; rw [hsz]; rfl
  by_cases hin : 0 ≤ blk ∧ blk < 14
  · obtain ⟨i, rfl⟩ : ∃ i : Nat, blk = (i : Int) := ⟨blk.toNat, by omega⟩
    have hi14 : i < 14 := by omega
    rw [if_pos hin, if_pos hin]
    have hzero : ∀ s, s < 2 → openL (M.P.read s (i : Int)).1.toList = none := fun s hs => by rw [hG.zero s i hs hi14, bA_list]; exact open_zeros 128
    by_cases hk : k = 128
    · have hw0 : wantR (i : Int) k = 0 := by unfold wantR; rw [if_pos hin, if_pos hk]
      rw [hw0]
      obtain ⟨m, M1, e1, g1, n1, b1, r1, p1, l1⟩ := hG.gm.heal_ok hG.sound hi14 (x := img) (by rw [hsz, hk])
      have hno : ∀ s, s < 2 → openL (M1.P.read s (i : Int)).1.toList = none := fun s hs => by
        rw [r1 s hs, hi, bA_list]
        refine open_no_magic (fun e => ?_)
        rw [hk] at e
        exact absurd e (by decide)
      obtain ⟨v1, v2, v3⟩ := g1.none_read (q := ⟨(i : Int), 0, 0⟩) hno
      obtain ⟨M2, e2, g2, _⟩ := g1.write_ok n1 hi14 (x := img) (by rw [hsz, hk])
      have hr1 : M1.reps < 900000000 := by rw [p1, hG.reps]; omega
      refine ⟨M1, M2, ⟨fun u hu => ?_, fun u hu => ?_, fun u hu => ?_, fun u hu => ?_, fun u hu => ?_⟩⟩
      · refine (oHeal hu hG.gm.fine (by decide) (by rw [hG.reps]; decide) hi14 (by rw [hsz, hk])).mono fun e w' ⟨h1, h2, _⟩ => ⟨m, ?_, ?_⟩
        · rw [h1, e1]; rfl
        · rw [e1] at h2; exact h2
      · exact (oImages hu g1.fine (by decide) hi14).mono fun e w' ⟨A, k, n, h1, h2, _⟩ => ⟨A, k, n, h1, h2⟩
      · refine (oRead hu g1.fine (by decide) hr1 ⟨(i : Int), 0, 0⟩ hi14 rfl).mono fun e w' ⟨h1, h2, _⟩ => ?_
        rw [v1] at h1
        rw [v2] at h2
        exact ⟨_, h1, h2⟩
      · refine (oChk hu g1.fine (by decide) hr1 ⟨(i : Int), 0, 0⟩ hi14 rfl).mono fun e w' ⟨h1, h2, _⟩ => ?_
        rw [v3] at h1 h2
        exact ⟨h1, h2⟩
      · refine (oWrite hu g1.fine (by decide) hi14 (by rw [hsz, hk])).mono fun e w' ⟨h1, h2, _⟩ => ?_
        rw [e2] at h1 h2
        exact ⟨h1, h2⟩
    · have hw2 : wantR (i : Int) k = 2 := by unfold wantR; rw [if_pos hin, if_neg hk]
      rw [hw2] at hw ⊢
      obtain ⟨v1, v2, v3⟩ := hG.gm.none_read (q := ⟨(i : Int), 0, 0⟩) hzero
      have hr1 : M.reps < 900000000 := by rw [hG.reps]; decide
      refine ⟨M, M, ⟨fun u hu => ?_, fun u hu => ?_, fun u hu => ?_, fun u hu => ?_, fun u hu => ?_⟩⟩
      · refine (oHealNo hu hG.gm.fine (i : Int) img (by rw [hw]; decide)).mono fun e w' ⟨h1, h2, _⟩ => ⟨0, ?_, h2⟩
        rw [h1, hw]; rfl
      · exact (oImages hu hG.gm.fine (by decide) hi14).mono fun e w' ⟨A, k, n, h1, h2, _⟩ => ⟨A, k, n, h1, h2⟩
      · refine (oRead hu hG.gm.fine (by decide) hr1 ⟨(i : Int), 0, 0⟩ hi14 rfl).mono fun e w' ⟨h1, h2, _⟩ => ?_
        rw [v1] at h1
        rw [v2] at h2
        exact ⟨_, h1, h2⟩
      · refine (oChk hu hG.gm.fine (by decide) hr1 ⟨(i : Int), 0, 0⟩ hi14 rfl).mono fun e w' ⟨h1, h2, _⟩ => ?_
        rw [v3] at h1 h2
        exact ⟨h1, h2⟩
      · refine (oWriteNo hu hG.gm.fine (i : Int) img (by rw [hw]; decide)).mono fun e w' ⟨h1, h2, _⟩ => ⟨?_, h2⟩
        rw [h1, hw]
  · have hw3 : wantR blk k = 3 := by unfold wantR; rw [if_neg hin]
    rw [hw3] at hw ⊢
    rw [if_neg hin, if_neg hin]
    refine ⟨M, M, ⟨fun u hu => ?_, fun u hu => ?_, fun u hu => ?_, fun u hu => ?_, fun u hu => ?_⟩⟩
    · refine (oHealNo hu hG.gm.fine blk img (by rw [hw]; decide)).mono fun e w' ⟨h1, h2, _⟩ => ⟨0, ?_, h2⟩
      rw [h1, hw]; rfl
    · exact (oImagesNo hu hG.gm.fine blk hin).mono fun e w' ⟨h1, h2, _⟩ => ⟨none, 0, 0, h1, h2⟩
    · exact (oReadNo hu hG.gm.fine ⟨blk, 0, 0⟩ hin).mono fun e w' ⟨h1, h2, _⟩ => ⟨_, h1, h2⟩
    · exact (oChkNo hu hG.gm.fine ⟨blk, 0, 0⟩ hin).mono fun e w' ⟨h1, h2, _⟩ => ⟨h1, h2⟩
    · refine (oWriteNo hu hG.gm.fine blk img (by rw [hw]; decide)).mono fun e w' ⟨h1, h2, _⟩ => ⟨?_, h2⟩
      rw [h1, hw]
set_option maxRecDepth 100000 in
set_option maxHeartbeats 12800000 in
theorem mirrorRefuses_walk (blk n : Int) (W : World) : Calls Tryz.prog 8 #[.int .i64 blk, .int .i64 n] W fun e w' => e = .returned (.bool true) ∧ Mods [] W w' := by
  obtain ⟨k, hk, hk3⟩ : ∃ k : Nat, max 0 n % 300 = (k : Int) ∧ k < 300 := ⟨(max 0 n % 300).toNat, by omega, by omega⟩
  have hk2 : (max 0 n).tmod 300 = (k : Int) := by rw [Int.tmod_eq_emod_of_nonneg (by omega)]; exact hk
  have hmx : max n 0 = max 0 n := by omega
  have cRep := Lib.hid (repeat_i k (by omega))
  go_enter Tryz.func8, Tryz.ntmps8
  go_wp2_with fail
  refine q8Fresh.mono ?_
  rintro e w1 ⟨x, p, b, M, rfl, HO, HG⟩
  go_wp2_with fail
  obtain ⟨w2, hw2⟩ : ∃ w2, w1.alloc (.cells #[.pointer (some ⟨x 0, 0, none⟩), .pointer (some ⟨x 1, 0, none⟩)] 50) = w2 := ⟨_, rfl⟩
  have hm2 : Mods [] w1 w2 := by rw [← hw2]; exact (Mods.refl _ _).alloc _
  have HO2 := Lib.hid (HO.out.still hm2)
  rw [hw2]
  clear hw2 hm2 HO
  refine q8Wakes.mono ?_
  rintro e w3 ⟨rfl, HM3⟩
  go_wp2_with fail
  refine (cRep.out _).mono ?_
  rintro e w4 ⟨img, rfl, hsz, HI, HM4⟩
  obtain ⟨M1, M2, hC⟩ := refCalls (W := W) (b := b) (p := p) (x := x) HG.out blk (img := img) (k := k) HI.out
  have HO4 := Lib.hid ((HO2.out.still HM3.out).still HM4.out)
  clear HO2 HG cRep
  have hcase : (¬ blk < 0 ∧ ¬ 14 ≤ blk ∧ k = 128) ∨ (¬ blk < 0 ∧ ¬ 14 ≤ blk ∧ ¬ k = 128) ∨ (blk < 0) ∨ (¬ blk < 0 ∧ 14 ≤ blk) := by omega
  rcases hcase with ⟨h0, h1, rfl⟩ | ⟨h0, h1, h2⟩ | h0 | ⟨h0, h1⟩
  · as_aux_lemma =>
    rw [show wantR blk 128 = 0 from by unfold wantR; rw [if_pos (by omega)]; rfl, if_pos (by omega), if_pos (by omega)] at hC
    have HC := Lib.hid hC
    clear hC
    go_wp2_with (first
    | (go_at_call 35; have zz := HO9; clear zz; refine (mImages_nil _).mono ?_; rintro e w' ⟨rfl, rfl⟩)
    | (go_at_call 45; have zz := HO9; clear zz; refine (mHeal_nil _ _).mono ?_; rintro e w' ⟨rfl, rfl⟩)
    | (go_at_call 39; have zz := HO9; clear zz; refine (mChk_nil ⟨0, 0, 0⟩).mono ?_; rintro e w10 ⟨rfl, HM10⟩)
    | (go_at_call 34; have zz := HO9; clear zz; refine (mRead_nil ⟨0, 0, 0⟩).mono ?_; rintro e w11 ⟨rfl, HM11⟩)
    | (go_at_call 29; have zz := HO9; clear zz; refine (mWrite_nil _ _).mono ?_; rintro e w' ⟨rfl, rfl⟩)
    | (go_at_call 46; refine mNew_nil.mono ?_; rintro e w' ⟨rfl, rfl⟩)
    | (go_at_call 30; refine mFlush_nil.mono ?_; rintro e w' ⟨rfl, rfl⟩)
    | (go_at_call 38; refine mRepairs_nil.mono ?_; rintro e w' ⟨rfl, rfl⟩)
    | (go_at_call 42; refine mBad_nil.mono ?_; rintro e w' ⟨rfl, rfl⟩)
    | (go_at_call 41; refine mDegr_nil.mono ?_; rintro e w' ⟨rfl, rfl⟩)
    | (go_at_call 43; refine mPair_nil.mono ?_; rintro e w' ⟨rfl, rfl⟩)
    | (go_at_call 45; refine (HC.out.heal _ HO4.out).mono ?_; rintro e w5 ⟨m, rfl, HO5⟩)
    | (go_at_call 35; refine (HC.out.images _ HO5.out).mono ?_; rintro e w6 ⟨A, ik, il, rfl, HO6⟩)
    | (go_at_call 34; refine (HC.out.read _ HO6.out).mono ?_; rintro e w7 ⟨rs, rfl, HO7⟩)
    | (go_at_call 39; refine (HC.out.check _ HO7.out).mono ?_; rintro e w8 ⟨rfl, HO8⟩)
    | (go_at_call 29; refine (HC.out.write _ HO8.out).mono ?_; rintro e w9 ⟨rfl, HO9⟩))
    go_ret
    exact ⟨rfl, (HO9.out.mods.trans HM10.out (by simp)).trans HM11.out (by simp)⟩
  · as_aux_lemma =>
    rw [show wantR blk k = 2 from by unfold wantR; rw [if_pos (by omega), if_neg h2], if_pos (by omega), if_pos (by omega)] at hC
    have HC := Lib.hid hC
    clear hC
    have h3 : ¬ (k : Int) = 128 := by omega
    go_wp2_with (first
    | (go_at_call 35; have zz := HO9; clear zz; refine (mImages_nil _).mono ?_; rintro e w' ⟨rfl, rfl⟩)
    | (go_at_call 45; have zz := HO9; clear zz; refine (mHeal_nil _ _).mono ?_; rintro e w' ⟨rfl, rfl⟩)
    | (go_at_call 39; have zz := HO9; clear zz; refine (mChk_nil ⟨0, 0, 0⟩).mono ?_; rintro e w10 ⟨rfl, HM10⟩)
    | (go_at_call 34; have zz := HO9; clear zz; refine (mRead_nil ⟨0, 0, 0⟩).mono ?_; rintro e w11 ⟨rfl, HM11⟩)
    | (go_at_call 29; have zz := HO9; clear zz; refine (mWrite_nil _ _).mono ?_; rintro e w' ⟨rfl, rfl⟩)
    | (go_at_call 46; refine mNew_nil.mono ?_; rintro e w' ⟨rfl, rfl⟩)
    | (go_at_call 30; refine mFlush_nil.mono ?_; rintro e w' ⟨rfl, rfl⟩)
    | (go_at_call 38; refine mRepairs_nil.mono ?_; rintro e w' ⟨rfl, rfl⟩)
    | (go_at_call 42; refine mBad_nil.mono ?_; rintro e w' ⟨rfl, rfl⟩)
    | (go_at_call 41; refine mDegr_nil.mono ?_; rintro e w' ⟨rfl, rfl⟩)
    | (go_at_call 43; refine mPair_nil.mono ?_; rintro e w' ⟨rfl, rfl⟩)
    | (go_at_call 45; refine (HC.out.heal _ HO4.out).mono ?_; rintro e w5 ⟨m, rfl, HO5⟩)
    | (go_at_call 35; refine (HC.out.images _ HO5.out).mono ?_; rintro e w6 ⟨A, ik, il, rfl, HO6⟩)
    | (go_at_call 34; refine (HC.out.read _ HO6.out).mono ?_; rintro e w7 ⟨rs, rfl, HO7⟩)
    | (go_at_call 39; refine (HC.out.check _ HO7.out).mono ?_; rintro e w8 ⟨rfl, HO8⟩)
    | (go_at_call 29; refine (HC.out.write _ HO8.out).mono ?_; rintro e w9 ⟨rfl, HO9⟩))
    go_ret
    exact ⟨rfl, (HO9.out.mods.trans HM10.out (by simp)).trans HM11.out (by simp)⟩
  · as_aux_lemma =>
    rw [show wantR blk k = 3 from by unfold wantR; rw [if_neg (by omega)], if_neg (by omega), if_neg (by omega)] at hC
    have HC := Lib.hid hC
    clear hC
    go_wp2_with (first
    | (go_at_call 35; have zz := HO9; clear zz; refine (mImages_nil _).mono ?_; rintro e w' ⟨rfl, rfl⟩)
    | (go_at_call 45; have zz := HO9; clear zz; refine (mHeal_nil _ _).mono ?_; rintro e w' ⟨rfl, rfl⟩)
    | (go_at_call 39; have zz := HO9; clear zz; refine (mChk_nil ⟨0, 0, 0⟩).mono ?_; rintro e w10 ⟨rfl, HM10⟩)
    | (go_at_call 34; have zz := HO9; clear zz; refine (mRead_nil ⟨0, 0, 0⟩).mono ?_; rintro e w11 ⟨rfl, HM11⟩)
    | (go_at_call 29; have zz := HO9; clear zz; refine (mWrite_nil _ _).mono ?_; rintro e w' ⟨rfl, rfl⟩)
    | (go_at_call 46; refine mNew_nil.mono ?_; rintro e w' ⟨rfl, rfl⟩)
    | (go_at_call 30; refine mFlush_nil.mono ?_; rintro e w' ⟨rfl, rfl⟩)
    | (go_at_call 38; refine mRepairs_nil.mono ?_; rintro e w' ⟨rfl, rfl⟩)
    | (go_at_call 42; refine mBad_nil.mono ?_; rintro e w' ⟨rfl, rfl⟩)
    | (go_at_call 41; refine mDegr_nil.mono ?_; rintro e w' ⟨rfl, rfl⟩)
    | (go_at_call 43; refine mPair_nil.mono ?_; rintro e w' ⟨rfl, rfl⟩)
    | (go_at_call 45; refine (HC.out.heal _ HO4.out).mono ?_; rintro e w5 ⟨m, rfl, HO5⟩)
    | (go_at_call 35; refine (HC.out.images _ HO5.out).mono ?_; rintro e w6 ⟨A, ik, il, rfl, HO6⟩)
    | (go_at_call 34; refine (HC.out.read _ HO6.out).mono ?_; rintro e w7 ⟨rs, rfl, HO7⟩)
    | (go_at_call 39; refine (HC.out.check _ HO7.out).mono ?_; rintro e w8 ⟨rfl, HO8⟩)
    | (go_at_call 29; refine (HC.out.write _ HO8.out).mono ?_; rintro e w9 ⟨rfl, HO9⟩))
    go_ret
    exact ⟨rfl, (HO9.out.mods.trans HM10.out (by simp)).trans HM11.out (by simp)⟩
  · as_aux_lemma =>
    rw [show wantR blk k = 3 from by unfold wantR; rw [if_neg (by omega)], if_neg (by omega), if_neg (by omega)] at hC
    have HC := Lib.hid hC
    clear hC
    go_wp2_with (first
    | (go_at_call 35; have zz := HO9; clear zz; refine (mImages_nil _).mono ?_; rintro e w' ⟨rfl, rfl⟩)
    | (go_at_call 45; have zz := HO9; clear zz; refine (mHeal_nil _ _).mono ?_; rintro e w' ⟨rfl, rfl⟩)
    | (go_at_call 39; have zz := HO9; clear zz; refine (mChk_nil ⟨0, 0, 0⟩).mono ?_; rintro e w10 ⟨rfl, HM10⟩)
    | (go_at_call 34; have zz := HO9; clear zz; refine (mRead_nil ⟨0, 0, 0⟩).mono ?_; rintro e w11 ⟨rfl, HM11⟩)
    | (go_at_call 29; have zz := HO9; clear zz; refine (mWrite_nil _ _).mono ?_; rintro e w' ⟨rfl, rfl⟩)
    | (go_at_call 46; refine mNew_nil.mono ?_; rintro e w' ⟨rfl, rfl⟩)
    | (go_at_call 30; refine mFlush_nil.mono ?_; rintro e w' ⟨rfl, rfl⟩)
    | (go_at_call 38; refine mRepairs_nil.mono ?_; rintro e w' ⟨rfl, rfl⟩)
    | (go_at_call 42; refine mBad_nil.mono ?_; rintro e w' ⟨rfl, rfl⟩)
    | (go_at_call 41; refine mDegr_nil.mono ?_; rintro e w' ⟨rfl, rfl⟩)
    | (go_at_call 43; refine mPair_nil.mono ?_; rintro e w' ⟨rfl, rfl⟩)
    | (go_at_call 45; refine (HC.out.heal _ HO4.out).mono ?_; rintro e w5 ⟨m, rfl, HO5⟩)
    | (go_at_call 35; refine (HC.out.images _ HO5.out).mono ?_; rintro e w6 ⟨A, ik, il, rfl, HO6⟩)
    | (go_at_call 34; refine (HC.out.read _ HO6.out).mono ?_; rintro e w7 ⟨rs, rfl, HO7⟩)
    | (go_at_call 39; refine (HC.out.check _ HO7.out).mono ?_; rintro e w8 ⟨rfl, HO8⟩)
    | (go_at_call 29; refine (HC.out.write _ HO8.out).mono ?_; rintro e w9 ⟨rfl, HO9⟩))
    go_ret
    exact ⟨rfl, (HO9.out.mods.trans HM10.out (by simp)).trans HM11.out (by simp)⟩
theorem readables_mirrorRefuses : ∀ t ∈ (#[3, 3] : Array TypeId).toList, Tryz.prog.readableRec t = true ∧ t < Tryz.prog.types.size := by
  intro t ht
  simp only [List.mem_cons, List.not_mem_nil, or_false] at ht
  rcases ht with rfl | rfl
  all_goals exact ⟨by kernel_rfl, of_decide_eq_true (by kernel_rfl)⟩

set_option maxRecDepth 100000 in
theorem mirrorRefuses_contract (H : Type) (enc : TypeId × Value → H) (W : World) (base : Nat) (args : Array Value) (ds gs : List (DataW H)) (before : List MemPlace)
    (hval : ∀ (j : Nat) t v, Tryz.f8.params[j]? = some t → args[j]? = some v → Value.okWide Tryz.prog W .any base t v)
    (hW : DataW.Whole enc Tryz.prog Tryz.f8.params.toList Rows.mirrorRefusesSpec.vars false W args.toList ds gs before) :
    Calls Tryz.prog 8 args W fun e W' => ∃ v, e = .returned v ∧ Rows.mirrorRefusesSpec.post enc Tryz.prog Tryz.f8 false true false false W args v W' := by
  have hW' := hW
  obtain ⟨p, q, hA0, hV, he, hfz, hnd⟩ := hW
  have hA : DataW.TrodAll enc Tryz.prog W 0 (fun _ => true) true Tryz.f8.params.toList args.toList ds p := hA0
  rw [Tryz.params8] at hA hval
  obtain ⟨v0, vs0, d0, ds0, p0, q0, hargs, rfl, rfl, h0, r0⟩ := trodAll_cons hA
  obtain ⟨v1, vs1, d1, ds1, p1, q1, rfl, rfl, rfl, h1, r1⟩ := trodAll_cons r0
  obtain ⟨rfl, rfl, rfl⟩ := trodAll_nil r1
  obtain rfl : args = #[v0, v1] := by cases args; simp_all
  obtain ⟨blk, rfl, rfl, rfl, wblk⟩ := open_int Tryz.underlying3 (hval 0 3 v0 rfl rfl) h0
  obtain ⟨n, rfl, rfl, rfl, wn⟩ := open_int Tryz.underlying3 (hval 1 3 v1 rfl rfl) h1
  refine (mirrorRefuses_walk blk n W).mono fun e W' ⟨he', hm⟩ => ?_
  subst he'
  exact ⟨_, rfl, post_law laidOut (by rw [Tryz.params8]; exact readables_mirrorRefuses) (by rfl) Tryz.underlying4 rfl rfl hW' hm.below⟩

set_option maxRecDepth 100000 in
theorem mirrorRefuses_lifted (os : Os) (started : os.Started) (H : Type) (enc : TypeId × Value → H) :
    ReturnsInHanded {} Tryz.checked os 8 .any (Rows.mirrorRefusesSpec.pre6 enc Tryz.prog Tryz.f8 Rows.mirrorRefusesRow.domain false) (Rows.mirrorRefusesSpec.post enc Tryz.prog Tryz.f8 false true false false) := by
  refine returnsInHanded_of_change (C := Tryz.checked) own started (by kernel_rfl) Tryz.func8
    (ChangeSpec.witness6 (enc := enc) (C := Tryz.checked) false ⟨#[], #[.int .i64 0, .int .i64 0], []⟩ 8 (by kernel_rfl) (by kernel_rfl) (by kernel_rfl) (by kernel_rfl)) ?_
  intro W base args ds gs before hval hW _ _
  exact mirrorRefuses_contract H enc W base args ds gs before hval hW

/-- The law. -/
theorem mirrorRefuses_said : Rows.MirrorRefusesSaid :=
  OpenClaim.holds_of_wide 8 Tryz.f8 rfl rfl rfl rfl rfl rfl rfl ⟨rfl, rfl, rfl, rfl, rfl⟩ rfl rfl rfl rfl rfl (by kernel_rfl) Tryz.func8 (by kernel_rfl)
    (of_decide_eq_true (by kernel_rfl)) (by unfold Func.isWrapper; first | (rw [if_pos (by decide +kernel)]; kernel_rfl) | (rw [if_neg (by decide +kernel)]; exact ⟨rfl, rfl⟩))
    (fun os started H enc _ => mirrorRefuses_lifted os started H enc)
end Go.Proofs.YtnpfhfgegjocoaaGreat
