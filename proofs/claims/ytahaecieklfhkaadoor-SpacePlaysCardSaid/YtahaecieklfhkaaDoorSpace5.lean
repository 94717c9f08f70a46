/- The walk of layer 10's 'wakes'; contracts by the answers' names. -/
import Derived.Test.YtahaecieklfhkaaDoorSpace4
namespace Go.Proofs.YtahaecieklfhkaaDoor
open Go.RowKit

theorem spTake_to {w : World} {b : Nat} {fp : List Nat} {S : Sp} (h : IsSpace w b fp S) (hT : Tab w) (r : Option Nat) (S2 : Sp) (h1 : S.tk = r) (h2 : S.takeS = S2) :
    Calls Tryd.prog 27 #[.pointer (some ⟨b, 0, none⟩)] w fun e w' => e = .returned (.tuple #[.int .i64 (nxK r : Nat), .int .i64 (if nxB r then 0 else 11)]) ∧ Mods fp w w' ∧ IsSpace w' b fp S2 := by
  subst h1 h2; exact spTake_any h hT
theorem spTake_yes {w : World} {b : Nat} {fp : List Nat} {S : Sp} (h : IsSpace w b fp S) (hT : Tab w) (k : Nat) (S2 : Sp) (h1 : S.tk = some k) (h2 : S.takeS = S2) :
    Calls Tryd.prog 27 #[.pointer (some ⟨b, 0, none⟩)] w fun e w' => e = .returned (.tuple #[.int .i64 k, .int .i64 0]) ∧ Mods fp w w' ∧ IsSpace w' b fp S2 := spTake_to h hT (some k) S2 h1 h2
theorem spTake_no {w : World} {b : Nat} {fp : List Nat} {S : Sp} (h : IsSpace w b fp S) (hT : Tab w) (S2 : Sp) (h1 : S.tk = none) (h2 : S.takeS = S2) :
    Calls Tryd.prog 27 #[.pointer (some ⟨b, 0, none⟩)] w fun e w' => e = .returned (.tuple #[.int .i64 0, .int .i64 11]) ∧ Mods fp w w' ∧ IsSpace w' b fp S2 := spTake_to h hT none S2 h1 h2
theorem spGive_to {w : World} {b : Nat} {fp : List Nat} {S : Sp} (h : IsSpace w b fp S) (k c : Int) (S2 : Sp) (h1 : S.giveE k = c) (h2 : S.giveS k = S2) :
    Calls Tryd.prog 28 #[.pointer (some ⟨b, 0, none⟩), .int .i64 k] w fun e w' => e = .returned (.int .i64 c) ∧ Mods fp w w' ∧ IsSpace w' b fp S2 := by
  subst h1 h2; exact spGive_any h k
theorem spSettle_to {w : World} {b : Nat} {fp : List Nat} {S : Sp} (h : IsSpace w b fp S) (hT : Tab w) (S2 : Sp) (h2 : S.settleS = S2) :
    Calls Tryd.prog 29 #[.pointer (some ⟨b, 0, none⟩)] w fun e w' => e = .returned (.tuple #[]) ∧ Mods fp w w' ∧ ∃ fp1, IsSpace w' b fp1 S2 ∧ (∀ k ∈ fp1, k ∈ fp ∨ w.heap.size ≤ k) := by
  subst h2; exact spSettle_any h hT

/-- The steps of 'wakes', reckoned. -/
theorem wakes10_steps : ∃ S0 S1 S2 S3 S4 S5 : Sp, Sp.new 4 2 0 9 = S0 ∧ S0.tk = some 2 ∧ S0.takeS = S1 ∧ S1.tk = some 3 ∧ S1.takeS = S2 ∧ S2.tk = none ∧ S2.takeS = S2 ∧ S2.giveE 2 = 0 ∧ S2.giveS 2 = S3 ∧ S3.settleS = S4 ∧ S4.tk = some 2 ∧ S4.takeS = S5 :=
  ⟨_, _, _, _, _, _, rfl, by decide +kernel, rfl, by decide +kernel, rfl, by decide +kernel, rfl, by decide +kernel, rfl, rfl, by decide +kernel, rfl⟩

set_option maxHeartbeats 1000000 in
theorem w10_any (w : World) (hT : Tab w) :
    Calls Tryd.prog 23 #[] w fun e w' => e = .returned (.bool true) ∧ Mods [] w w' := by
  have hTl := hT.lt
  have HT := Lib.hid hT
  obtain ⟨S0, S1, S2, S3, S4, S5, p0, p1, p2, p3, p4, p5, p6, p7, p8, p9, p10, p11⟩ := wakes10_steps
  have hn := spNew_any w 4 2 0 9 (by omega) (by omega) (by omega) (by omega)
  rw [p0] at hn
  have HN := Lib.hid hn
  have P1 := Lib.hid p1
  have P2 := Lib.hid p2
  have P3 := Lib.hid p3
  have P4 := Lib.hid p4
  have P5 := Lib.hid p5
  have P6 := Lib.hid p6
  have P7 := Lib.hid p7
  have P8 := Lib.hid p8
  have P9 := Lib.hid p9
  have P10 := Lib.hid p10
  have P11 := Lib.hid p11
  clear hT hn p0 p1 p2 p3 p4 p5 p6 p7 p8 p9 p10 p11
  go_enter Tryd.func23, Tryd.ntmps23
  go_wp2_with fail
  refine HN.out.mono ?_
  rintro e w1 ⟨b, fp, rfl, hm1, hs1, hf1⟩
  have hfp : ∀ k ∈ fp, k ∉ ([] : List Nat) := by simp
  have HF : Hid (∀ k ∈ fp, k ∈ ([] : List Nat) ∨ w.heap.size ≤ k) := fun k hk => .inr (hf1 k hk)
  have HdB : Hid (1 ∉ fp) := fun hk => by have := hf1 _ hk; omega
  have HT1 := Lib.hid (HT.out.keep hm1 (by simp))
  have HM1 := Lib.hid hm1
  have HS1 := Lib.hid hs1
  clear hm1 hs1 hf1 hfp
  go_wp2_with fail
  refine (spTake_yes HS1.out HT1.out 2 S1 P1.out P2.out).mono ?_
  rintro e w2 ⟨rfl, hm2, hs2⟩
  have HT2 := Lib.hid (HT1.out.keep hm2 HdB.out)
  have HM2 := Lib.hid (HM1.out.trans hm2 HF.out)
  have HS2 := Lib.hid hs2
  clear hm2 hs2
  go_wp2_with fail
  refine (spTake_yes HS2.out HT2.out 3 S2 P3.out P4.out).mono ?_
  rintro e w3 ⟨rfl, hm3, hs3⟩
  have HT3 := Lib.hid (HT2.out.keep hm3 HdB.out)
  have HM3 := Lib.hid (HM2.out.trans hm3 HF.out)
  have HS3 := Lib.hid hs3
  clear hm3 hs3
  go_wp2_with fail
  refine (spTake_no HS3.out HT3.out S2 P5.out P6.out).mono ?_
  rintro e w4 ⟨rfl, hm4, hs4⟩
  have HT4 := Lib.hid (HT3.out.keep hm4 HdB.out)
  have HM4 := Lib.hid (HM3.out.trans hm4 HF.out)
  have HS4 := Lib.hid hs4
  clear hm4 hs4
  go_wp2_with fail
  refine (spGive_to HS4.out 2 0 S3 P7.out P8.out).mono ?_
  rintro e w5 ⟨rfl, hm5, hs5⟩
  have HT5 := Lib.hid (HT4.out.keep hm5 HdB.out)
  have HM5 := Lib.hid (HM4.out.trans hm5 HF.out)
  have HS5 := Lib.hid hs5
  clear hm5 hs5
  go_wp2_with fail
  refine (spSettle_to HS5.out HT5.out S4 P9.out).mono ?_
  rintro e w6 ⟨rfl, hm6, fp2, hs6, hf6⟩
  have hz5 := HM5.out.size
  have HF6 : Hid (∀ k ∈ fp2, k ∈ ([] : List Nat) ∨ w.heap.size ≤ k) := fun k hk => by
    rcases hf6 k hk with h | h
    · exact HF.out k h
    · right; omega
  have HT6 := Lib.hid (HT5.out.keep hm6 HdB.out)
  have HM6 := Lib.hid (HM5.out.trans hm6 HF.out)
  have HS6 := Lib.hid hs6
  clear hm6 hs6 hf6
  go_wp2_with fail
  refine (spTake_yes HS6.out HT6.out 2 S5 P10.out P11.out).mono ?_
  rintro e w7 ⟨rfl, hm7, hs7⟩
  have HM7 := Lib.hid (HM6.out.trans hm7 HF6.out)
  clear hm7 hs7
  go_wp2_with fail
  go_ret
  exact ⟨rfl, HM7.out⟩
end Go.Proofs.YtahaecieklfhkaaDoor
