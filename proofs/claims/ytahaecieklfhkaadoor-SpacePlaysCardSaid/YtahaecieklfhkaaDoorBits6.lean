/- The walk of layer 9's 'wakes': it answers true, and turns nothing that was there. -/
import Derived.Test.YtahaecieklfhkaaDoorBits5
namespace Go.Proofs.YtahaecieklfhkaaDoor
open Go.RowKit

theorem put_to {w : World} {b c : Nat} {l : List Bool} (h : IsSet w b c l) (k : Int) (is was : Bool) (l2 : List Bool) (h1 : memI l k = was) (h2 : setI l k is = l2) :
    Calls Tryd.prog 13 #[.pointer (some ⟨b, 0, none⟩), .int .i64 k, .bool is] w fun e w' => e = .returned (.bool was) ∧ Mods [c] w w' ∧ IsSet w' b c l2 := by
  subst h1 h2; exact put_any h k is
theorem next_some {w : World} {b c : Nat} {l : List Bool} (h : IsSet w b c l) (hT : Tab w) (from_ : Int) (is : Bool) (k : Nat) (hk : nextI l from_ is = some k) :
    Calls Tryd.prog 15 #[.pointer (some ⟨b, 0, none⟩), .int .i64 from_, .bool is] w fun e w' => e = .returned (.tuple #[.int .i64 k, .bool true]) ∧ w = w' :=
  (next_any h hT from_ is).mono fun e w' ⟨he, hw⟩ => ⟨by rw [he, hk]; rfl, hw⟩
theorem next_none {w : World} {b c : Nat} {l : List Bool} (h : IsSet w b c l) (hT : Tab w) (from_ : Int) (is : Bool) (hk : nextI l from_ is = none) :
    Calls Tryd.prog 15 #[.pointer (some ⟨b, 0, none⟩), .int .i64 from_, .bool is] w fun e w' => e = .returned (.tuple #[.int .i64 0, .bool false]) ∧ w = w' :=
  (next_any h hT from_ is).mono fun e w' ⟨he, hw⟩ => ⟨by rw [he, hk]; rfl, hw⟩
theorem count_to {w : World} {b c : Nat} {l : List Bool} (h : IsSet w b c l) (n : Int) (hn : (l.count true : Int) = n) :
    Calls Tryd.prog 16 #[.pointer (some ⟨b, 0, none⟩)] w fun e w' => e = .returned (.int .i64 n) ∧ w = w' := by
  subst hn; exact count_any h
theorem size_to {w : World} {b c : Nat} {l : List Bool} (h : IsSet w b c l) (n : Int) (hn : (l.length : Int) = n) :
    Calls Tryd.prog 22 #[.pointer (some ⟨b, 0, none⟩)] w fun e w' => e = .returned (.int .i64 n) ∧ w = w' := by
  subst hn; exact size_any h

set_option maxHeartbeats 1000000 in
theorem w9_any (w : World) (hT : Tab w) :
    Calls Tryd.prog 12 #[] w fun e w' => e = .returned (.bool true) ∧ Mods [] w w' := by
  have hTl := hT.lt
  have HT := Lib.hid hT
  clear hT
  go_enter Tryd.func12, Tryd.ntmps12
  go_wp2_with fail
  refine (new_any w 70 (by omega) (by omega)).mono ?_
  rintro e w1 ⟨rfl, hm1, hz1, hs1⟩
  obtain ⟨l0, hl0⟩ : ∃ l0, List.replicate 70 false = l0 := ⟨_, rfl⟩
  obtain ⟨l1, hl1⟩ : ∃ l1, setI (List.replicate 70 false) 0 true = l1 := ⟨_, rfl⟩
  obtain ⟨l2, hl2⟩ : ∃ l2, setI (setI (List.replicate 70 false) 0 true) 64 true = l2 := ⟨_, rfl⟩
  have p1 : memI l0 0 = false ∧ memI l1 64 = false ∧ memI l2 64 = true ∧ nextI l2 1 true = some 64 ∧ ((l2.count true : Nat) : Int) = 2 ∧ ((l2.length : Nat) : Int) = 70 ∧ setI l2 64 true = l2 := by
    subst hl0 hl1 hl2; decide +kernel
  rw [hl0] at hl1 hl2 hs1
  rw [hl1] at hl2
  obtain ⟨q1, q2, q3, q4, q5, q6, q7⟩ := p1
  have Q := Lib.hid (And.intro hl1 (And.intro hl2 (And.intro q4 (And.intro q5 (And.intro q6 q7)))))
  clear hl0 hl1 hl2 q4 q5 q6 q7
  have P := Lib.hid (And.intro q1 (And.intro q2 q3))
  clear q1 q2 q3
  go_wp2_with fail
  refine (put_to hs1 0 true false l1 P.out.1 Q.out.1).mono ?_
  rintro e w2 ⟨rfl, hm2, hs2⟩
  go_wp2_with fail
  refine (put_to hs2 64 true false l2 P.out.2.1 Q.out.2.1).mono ?_
  rintro e w3 ⟨rfl, hm3, hs3⟩
  have hm03 : Mods [] w w3 := (hm1.trans hm2 (by simp)).trans hm3 (by simp)
  have HT3 := Lib.hid (HT.out.keep hm03 (by simp))
  go_wp2_with fail
  refine (next_some hs3 HT3.out 1 true 64 Q.out.2.2.1).mono ?_
  rintro e w' ⟨rfl, rfl⟩
  go_wp2_with fail
  refine (count_to hs3 2 Q.out.2.2.2.1).mono ?_
  rintro e w' ⟨rfl, rfl⟩
  go_wp2_with fail
  refine (put_to hs3 64 true true l2 P.out.2.2 Q.out.2.2.2.2.2).mono ?_
  rintro e w4 ⟨rfl, hm4, hs4⟩
  have hm04 : Mods [] w w4 := hm03.trans hm4 (by simp)
  go_wp2_with fail
  refine (size_to hs4 70 Q.out.2.2.2.2.1).mono ?_
  rintro e w' ⟨rfl, rfl⟩
  go_wp2_with fail
  go_ret
  exact ⟨rfl, hm04⟩
end Go.Proofs.YtahaecieklfhkaaDoor
