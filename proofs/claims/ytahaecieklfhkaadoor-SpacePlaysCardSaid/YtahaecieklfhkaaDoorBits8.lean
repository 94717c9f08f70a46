/- The walks of layer 9's reference, and of the law's 'same'. -/
import Derived.Test.YtahaecieklfhkaaDoorArgs
namespace Go.Proofs.YtahaecieklfhkaaDoor
open Go.RowKit

def boolsOf (l : List Bool) : List Value := l.map Value.bool
theorem boolsOf_get {l : List Bool} {i : Nat} (h : i < l.length) : (boolsOf l)[i]? = some (.bool (mem l i)) := by
  unfold boolsOf; rw [List.getElem?_map, List.getElem?_eq_getElem h, mem_get h]; rfl

set_option maxHeartbeats 400000 in
theorem may9_any (w : World) (n : Int) :
    Calls Tryd.prog 18 #[.int .i64 n] w fun e w' => e = .returned (.bool (decide (1 ≤ n) && decide (n ≤ 4096))) ∧ w = w' := by
  by_cases h : 1 ≤ n
  · go_enter Tryd.func18, Tryd.ntmps18
    go_wp2
    go_ret
    exact ⟨by simp [h], rfl⟩
  · have hd : decide (1 ≤ n) = false := by simpa using h
    go_enter Tryd.func18, Tryd.ntmps18
    go_wp2
    go_ret
    exact ⟨by simp [hd], rfl⟩

set_option maxHeartbeats 1000000 in
theorem refNext_any {w : World} {Ad : Option Addr} {cap : Nat} {l : List Bool} (h : Row w Ad (boolsOf l)) (_hl : l.length ≤ 4096) (from_ : Int) (is : Bool) :
    Calls Tryd.prog 47 #[.slice Ad l.length cap, .int .i64 from_, .bool is] w fun e w' => e = .returned (.tuple #[.int .i64 (nxK (nextI l from_ is) : Nat), .bool (nxB (nextI l from_ is))]) ∧ w = w' := by
  have HR := Lib.hid h
  clear h
  obtain ⟨N, hN⟩ : ∃ N, l.length = N := ⟨_, rfl⟩
  rw [hN]
  have hN4 : N ≤ 4096 := by omega
  have HN := Lib.hid hN
  clear hN _hl
  go_enter Tryd.func47, Tryd.ntmps47
  go_wp2
  go_loop [8] (fun iv => ∃ j : Nat, j ≤ N ∧ iv = .int .i64 j ∧ Hid (∀ k, from_.toNat ≤ k → k < j → mem l k ≠ is)) (fun iv => N - (intOf iv).toNat)
  case atStart => exact ⟨0, Nat.zero_le _, rfl, fun k _ h => by omega⟩
  case round =>
    obtain ⟨j, hj, rfl, hinv⟩ := hrel
    by_cases hlt : j < N
    · have hjl : j < l.length := by rw [HN.out]; exact hlt
      obtain ⟨b, off, rfl, hc⟩ := HR.out.at (boolsOf_get hjl)
      obtain ⟨x, hx⟩ : ∃ x, mem l j = x := ⟨_, rfl⟩
      rw [hx] at hc
      have HX := Lib.hid hx
      clear hx hjl
      by_cases hf : from_ ≤ (j : Int)
      · have hd : decide (from_ ≤ (j : Int)) = true := by simpa using hf
        by_cases hxi : (x == is) = true
        · have hs : nextI l from_ is = some j := by
            unfold nextI
            exact nextL_some (by omega) (by rw [HN.out]; exact hlt) (by rw [HX.out]; simpa using hxi) hinv.out
          have HS := Lib.hid hs
          clear hs
          go_wp2
          go_ret2
          exact ⟨by rw [HS.out]; rfl, rfl⟩
        · have hxi2 : (x == is) = false := by simpa using hxi
          have hst : Hid (∀ k, from_.toNat ≤ k → k < j + 1 → mem l k ≠ is) := by
            intro k h1 h2
            by_cases e : k = j
            · subst e; rw [HX.out]; simpa using hxi
            · exact hinv.out k h1 (by omega)
          clear hxi
          go_wp2
          go_round
          case rel => exact ⟨j + 1, by omega, by go_num, hst⟩
          case measure => simp [intOf]; omega
      · have hd : decide (from_ ≤ (j : Int)) = false := by simpa using hf
        have hst : Hid (∀ k, from_.toNat ≤ k → k < j + 1 → mem l k ≠ is) := by
          intro k h1 h2
          omega
        go_wp2
        go_round
        case rel => exact ⟨j + 1, by omega, by go_num, hst⟩
        case measure => simp [intOf]; omega
    · obtain rfl : j = N := by omega
      have hs : nextI l from_ is = none := by
        unfold nextI
        exact nextL_none (fun k h1 h2 => hinv.out k h1 (by have := HN.out; omega))
      have HS := Lib.hid hs
      clear hs
      go_wp2
      go_ret2
      exact ⟨by rw [HS.out]; rfl, rfl⟩

theorem info_bool : (Tryd.prog.info? 4).map (fun i => (i.zero, i.size, i.bytes)) = some (some (.bool false), 1, 1) := by kernel_rfl

/-- What has been put of a list, up to j. -/
theorem take_setI {l : List Bool} {k : Int} {is : Bool} {j : Nat} (hj : j < l.length) :
    (setI l k is).take (j + 1) = (setI l k is).take j ++ [if (j : Int) = k then is else mem l j] := by
  have hjl : j < (setI l k is).length := by rw [setI_length]; exact hj
  rw [List.take_succ_eq_append_getElem hjl, ← mem_get hjl]
  congr 2
  unfold setI
  split
  · rename_i hi
    have := inB_true hi
    rw [mem_set]
    by_cases e : (j : Int) = k
    · rw [if_pos (by omega), if_pos e]
    · rw [if_neg (by omega), if_neg e]
  · rename_i hi
    rw [if_neg]
    intro e
    apply hi
    subst e
    simp [inB]; omega

set_option maxHeartbeats 1000000 in
theorem refPut9_any {w : World} {Ad : Option Addr} {cap : Nat} {l : List Bool} (h : Row w Ad (boolsOf l)) (_hl : l.length ≤ 4096) (k : Int) (is : Bool) :
    Calls Tryd.prog 21 #[.slice Ad l.length cap, .int .i64 k, .bool is] w fun e w' => ∃ A1 cap1, e = .returned (.tuple #[.slice A1 l.length cap1, .bool (memI l k)]) ∧ Row w' A1 (boolsOf (setI l k is)) ∧ Mods [] w w' ∧
      (∀ a, A1 = some a → w.heap.size ≤ a.block) := by
  obtain ⟨i0, hi0, hz0, hz1, hz2⟩ := info_parts info_bool
  have HR := Lib.hid h
  clear h
  obtain ⟨N, hN⟩ : ∃ N, l.length = N := ⟨_, rfl⟩
  rw [hN]
  have hN4 : N ≤ 4096 := by omega
  have HN := Lib.hid hN
  clear hN _hl
  go_enter Tryd.func21, Tryd.ntmps21
  go_wp2
  go_loopw [8, 9, 10] (fun ov wv iv wr => ∃ j : Nat, j ≤ N ∧ iv = .int .i64 j ∧ wv = .bool (decide (k < (j : Int)) && memI l k) ∧ wr.ownsRow w.heap.size 4 1 ov j (boolsOf ((setI l k is).take j)) ∧ Mods [] w wr) (fun _ _ iv _ => N - (intOf iv).toNat)
  case atStart =>
    refine ⟨0, Nat.zero_le _, rfl, ?_, World.ownsRow_nil _ _ _ _, Mods.refl _ _⟩
    congr 1
    unfold memI inB
    by_cases h0 : 0 ≤ k
    · have e : decide (k < ((0 : Nat) : Int)) = false := by simpa using h0
      rw [e]; rfl
    · have e : decide (0 ≤ k) = false := by simpa using h0
      rw [e]; simp
  case round =>
    obtain ⟨j, hj, rfl, rfl, hown, hm⟩ := hrel
    by_cases hlt : j < N
    · have hjl : j < l.length := by rw [HN.out]; exact hlt
      obtain ⟨b, off, rfl, hc⟩ := (HR.out.keep hm (fun _ _ => by simp)).at (boolsOf_get hjl)
      have HT := Lib.hid (take_setI (l := l) (k := k) (is := is) (j := j) hjl)
      have hms : memI l (j : Int) = mem l j := memI_nat l j
      obtain ⟨x, hx⟩ : ∃ x, mem l j = x := ⟨_, rfl⟩
      rw [hx] at hc hms
      have HX := Lib.hid hx
      have HM := Lib.hid hms
      clear hx hms hjl
      have hsz := hm.size
      have HO := Lib.hid hown
      clear hown
      by_cases he : (j : Int) = k
      · have hbe : ((j : Int) == k) = true := by simpa using he
        have HE := Lib.hid he
        clear he
        go_wp2_with (at_builtin; refine wpList_append_own _ rfl (.tmp 24) (.tmp 26) 32 rfl w.heap.size 4 i0 (.bool false) 1 1 Tryd.underlying32 hi0 hz0 hz1 hz2 rfl (by decide) _ _ _ rfl (HO.out.alloc _) ⟨wr.heap.size, 0, none⟩ 1 1 [.bool is] rfl rfl (cell_one_new _ _ _) (by simp [Value.oneCell']) (by unfold maxLen; omega) (by omega) (by simp; omega) ?_; intro v1 w1 hown1 hg1 _)
        have hm1 : Mods [] w w1 := (hm.alloc _).grown hg1 (fun q hq => .inr (HO.out.lt q hq).1)
        have HO1 := Lib.hid hown1
        clear hown1
        go_wp2
        go_roundw
        case rel =>
          refine ⟨j + 1, by omega, by go_num, ?_, ?_, hm1⟩
          · have e1 := HE.out
            have e2 := HM.out
            rw [← e1, e2]
            simp; omega
          · rw [HT.out, if_pos HE.out]
            simpa [boolsOf] using HO1.out
        case measure => simp [intOf]; omega
      · have hbe : ((j : Int) == k) = false := by simpa using he
        have HE := Lib.hid he
        clear he
        go_wp2_with (at_builtin; refine wpList_append_own _ rfl (.tmp 28) (.tmp 33) 32 rfl w.heap.size 4 i0 (.bool false) 1 1 Tryd.underlying32 hi0 hz0 hz1 hz2 rfl (by decide) _ _ _ rfl (HO.out.alloc _) ⟨wr.heap.size, 0, none⟩ 1 1 [.bool x] rfl rfl (cell_one_new _ _ _) (by simp [Value.oneCell']) (by unfold maxLen; omega) (by omega) (by simp; omega) ?_; intro v1 w1 hown1 hg1 _)
        have hm1 : Mods [] w w1 := (hm.alloc _).grown hg1 (fun q hq => .inr (HO.out.lt q hq).1)
        have HO1 := Lib.hid hown1
        clear hown1
        go_wp2
        go_roundw
        case rel =>
          refine ⟨j + 1, by omega, by go_num, ?_, ?_, hm1⟩
          · have e1 := HE.out
            have : decide (k < (j : Int)) = decide (k < ((j + 1 : Nat) : Int)) := by
              rw [Bool.eq_iff_iff]; simp; omega
            rw [this]
          · rw [HT.out, if_neg HE.out, HX.out]
            simpa [boolsOf] using HO1.out
        case measure => simp [intOf]; omega
    · obtain rfl : j = N := by omega
      go_wp2
      go_ret2
      have e1 : (setI l k is).take j = setI l k is := List.take_of_length_le (by rw [setI_length, HN.out]; exact Nat.le_refl _)
      rw [e1] at hown
      obtain ⟨A1, cap1, rfl, h1, h2, h3, h4, h5⟩ := row_of_owns hown
      refine ⟨A1, cap1, ?_, h1, hm, h2⟩
      have e2 : (decide (k < (j : Int)) && memI l k) = memI l k := by
        unfold memI inB
        by_cases h0 : k < (j : Int)
        · simp [h0]
        · have : ¬ k < (l.length : Int) := by rw [HN.out]; exact h0
          simp [this]
      show Ending.returned (.tuple #[.slice A1 j cap1, .bool (decide (k < (j : Int)) && memI l k)]) = _
      rw [e2]
end Go.Proofs.YtahaecieklfhkaaDoor
