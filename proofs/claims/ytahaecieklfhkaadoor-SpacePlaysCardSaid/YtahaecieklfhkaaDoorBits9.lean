/- The walk of layer 9's law helper 'same': a set and a list of bools that hold the same are found the same. -/
import Derived.Test.YtahaecieklfhkaaDoorBits8
namespace Go.Proofs.YtahaecieklfhkaaDoor
open Go.RowKit

theorem onTo_succ (l : List Bool) (k : Nat) : onTo l (k + 1) = onTo l k ++ (if mem l k then [k] else []) := by
  unfold onTo
  rw [List.range_succ, List.filter_append]
  congr 1
  cases h : mem l k <;> simp [h]
theorem onTo_prefix (l : List Bool) (k : Nat) (hk : k ≤ l.length) : ∃ r, onL l = onTo l k ++ r := by
  obtain ⟨d, hd⟩ : ∃ d, l.length = k + d := ⟨l.length - k, by omega⟩
  exact ⟨((List.range d).map (k + ·)).filter (fun k => mem l k), by unfold onL onTo; rw [hd, List.range_add, List.filter_append]⟩
theorem onTo_at {l : List Bool} {k : Nat} (hk : k < l.length) (h : mem l k = true) : (onL l)[(onTo l k).length]? = some k := by
  obtain ⟨r, hr⟩ := onTo_prefix l (k + 1) (by omega)
  rw [hr, onTo_succ, if_pos h, List.append_assoc, List.getElem?_append_right (Nat.le_refl _), Nat.sub_self]
  rfl
theorem onTo_lt {l : List Bool} {k : Nat} (hk : k < l.length) (h : mem l k = true) : (onTo l k).length < (onL l).length := (List.getElem?_eq_some_iff.1 (onTo_at hk h)).1
theorem onL_count (l : List Bool) : (onL l).length = l.count true := by
  rw [← countP_getD l l.length (Nat.le_refl _), List.countP_eq_length_filter]; rfl
theorem onTo_full (l : List Bool) : onTo l l.length = onL l := rfl

set_option maxHeartbeats 4000000 in
set_option maxRecDepth 100000 in
theorem same9_any {w : World} {b c : Nat} {l : List Bool} {Ad : Option Addr} {cap : Nat} (h : IsSet w b c l) (hT : Tab w) (hr : Row w Ad (boolsOf l)) (from_ : Int) :
    Calls Tryd.prog 19 #[.pointer (some ⟨b, 0, none⟩), .slice Ad l.length cap, .int .i64 from_] w fun e w' => e = .returned (.bool true) ∧ Mods [] w w' := by
  have hlen := h.len
  have hsz := h.lt
  have hTl := hT.lt
  have HS := Lib.hid h
  have HT := Lib.hid hT
  have HR := Lib.hid hr
  obtain ⟨N, hN⟩ : ∃ N, l.length = N := ⟨_, rfl⟩
  rw [hN] at hlen ⊢
  obtain ⟨hlen1, hlen2⟩ := hlen
  have HN := Lib.hid hN
  obtain ⟨M, hM⟩ : ∃ M, (onL l).length = M := ⟨_, rfl⟩
  have hMN : M ≤ N := by have := onL_length l; omega
  have hlist := list_row h hT
  have hcount := fun W (hw : IsSet W b c l) => count_any (w := W) hw
  rw [hM] at hlist
  have hMc := onL_count l
  rw [hM] at hMc
  rw [← hMc] at hcount
  have HC := Lib.hid hcount
  have HM := Lib.hid hM
  have HL := Lib.hid hlist
  clear h hT hr hN hM hlist hcount hMc
  go_enter Tryd.func19, Tryd.ntmps19
  go_wp2_with fail
  refine HL.out.mono ?_
  rintro e w1 ⟨A1, cap1, rfl, hr1, hm1, hoff1, hcap1, hnil1⟩
  have HS1 := Lib.hid (HS.out.keep hm1 (by simp) (by simp))
  have HT1 := Lib.hid (HT.out.keep hm1 (by simp))
  have HR1 := Lib.hid (HR.out.keep hm1 (fun _ _ => by simp))
  have HQ1 := Lib.hid hr1
  clear hr1 hoff1 hnil1 HS HT HR HL
  go_wp2_with fail
  go_loopw [7, 9] (fun nv kv wr => ∃ k : Nat, k ≤ N + 2 ∧ kv = .int .i64 ((k : Int) - 1) ∧ nv = .int .i64 ((onTo l (k - 1)).length : Nat) ∧ ∃ d, wr = w1.drewN d) (fun _ kv _ => N + 2 - (intOf kv + 1).toNat)
  case atStart => exact ⟨0, Nat.zero_le _, rfl, rfl, 0, rfl⟩
  case round =>
    obtain ⟨k, hk, rfl, rfl, d, rfl⟩ := hrel
    have hol := onTo_length l (k - 1)
    by_cases hlt : k < N + 2
    · rcases Nat.eq_zero_or_pos k with h0 | h0
      · subst h0
        have hm0 : memI l (-1) = false := by simp [memI, inB]
        have e0 : (((0 : Nat) : Int) - 1) = -1 := rfl
        have e1 : (onTo l (0 - 1)).length = 0 := rfl
        rw [e0, e1]
        have HM0 := Lib.hid hm0
        clear hm0 e0 e1 hol
        go_wp2_with fail
        refine (has_to (HS1.out.drewN d) (-1) false HM0.out).mono ?_
        rintro e w' ⟨rfl, d2, rfl⟩
        go_wp2_with fail
        go_roundw
        case rel => exact ⟨1, by omega, rfl, rfl, _, rfl⟩
        case measure => simp [intOf]
      · obtain ⟨j, rfl⟩ : ∃ j, k = j + 1 := ⟨k - 1, by omega⟩
        have e0 : (((j + 1 : Nat) : Int) - 1) = (j : Int) := by omega
        rw [Nat.add_sub_cancel] at hol ⊢
        rw [e0]
        have hsucc := onTo_succ l j
        have hmi := memI_nat l j
        by_cases hjN : j < N
        · have hjl : j < l.length := by rw [HN.out]; exact hjN
          obtain ⟨bl, ol, rfl, hcl⟩ := HR1.out.at (boolsOf_get hjl)
          have hat := onTo_at (l := l) hjl
          have hltM := onTo_lt (l := l) hjl
          obtain ⟨x, hx⟩ : ∃ x, mem l j = x := ⟨_, rfl⟩
          obtain ⟨n, hn⟩ : ∃ n, (onTo l j).length = n := ⟨_, rfl⟩
          rw [hx] at hcl hsucc hmi hat hltM
          rw [hn] at hol hat hltM ⊢
          have hlen : (onTo l (j + 1)).length = n + (if x then 1 else 0) := by rw [hsucc, List.length_append, hn]; cases x <;> rfl
          have HMI := Lib.hid hmi
          have HLE := Lib.hid hlen
          clear e0 hsucc hmi hx hn hlen hjl
          cases x
          · clear hat hltM
            go_wp2_with fail
            refine (has_to (HS1.out.drewN d) j false HMI.out).mono ?_
            rintro e w' ⟨rfl, d2, rfl⟩
            go_wp2_with fail
            go_roundw
            case rel => exact ⟨j + 2, by omega, by go_num, by rw [show j + 2 - 1 = j + 1 from by omega, HLE.out]; rfl, _, rfl⟩
            case measure => simp [intOf]; omega
          · have hnM : n < M := by have := hltM rfl; rw [HM.out] at this; exact this
            have h3 : (intsOf (onL l))[n]? = some (.int .i64 (j : Nat)) := by unfold intsOf; rw [List.getElem?_map, hat rfl]; rfl
            obtain ⟨b1, o1, rfl, h5⟩ := HQ1.out.at h3
            clear hat hltM h3
            go_wp2_with fail
            refine (has_to (HS1.out.drewN d) j true HMI.out).mono ?_
            rintro e w' ⟨rfl, d2, rfl⟩
            go_wp2_with fail
            go_roundw
            case rel => exact ⟨j + 2, by omega, by go_num, by rw [show j + 2 - 1 = j + 1 from by omega, HLE.out]; go_num, _, rfl⟩
            case measure => simp [intOf]; omega
        · obtain rfl : j = N := by omega
          have hx : mem l j = false := mem_out (by rw [HN.out]; exact Nat.le_refl _)
          rw [hx] at hsucc hmi
          have hlen : (onTo l (j + 1)).length = (onTo l j).length := by rw [hsucc]; simp
          have HMI := Lib.hid hmi
          have HLE := Lib.hid hlen
          clear e0 hsucc hmi hx hlen
          generalize (onTo l j).length = n at *
          go_wp2_with fail
          refine (has_to (HS1.out.drewN d) j false HMI.out).mono ?_
          rintro e w' ⟨rfl, d2, rfl⟩
          go_wp2_with fail
          go_roundw
          case rel => exact ⟨j + 2, by omega, by go_num, by rw [show j + 2 - 1 = j + 1 from by omega, HLE.out], _, rfl⟩
          case measure => simp [intOf]; omega
    · obtain rfl : k = N + 2 := by omega
      have e1 : (onTo l (N + 2 - 1)).length = M := by
        rw [show N + 2 - 1 = N + 1 from by omega, onTo_succ, ← HN.out, onTo_full, mem_out (Nat.le_refl _)]
        simp; exact HM.out
      have e0 : (((N + 2 : Nat) : Int) - 1) = ((N + 1 : Nat) : Int) := by omega
      rw [e1, e0]
      clear e0 e1 hol hlt hk
      obtain ⟨f2, hf2⟩ : ∃ f2 : Int, (if (0 : Int) < from_ then from_ else 0) = f2 := ⟨_, rfl⟩
      go_wp2_with fail
      obtain ⟨g, hg⟩ : ∃ g : Int, f2 % ((N : Int) + 2) = g := ⟨_, rfl⟩
      rw [hg]
      obtain ⟨W0, hW0⟩ : ∃ W0 : World, W0 = (w1.drewN d).alloc (.cells #[.int .i64 from_, .int .i64 0, .int .i64 g] 3) := ⟨_, rfl⟩
      have hRf : Row W0 (some ⟨w1.heap.size, 0, none⟩) [.int .i64 from_, .int .i64 0, .int .i64 g] := by
        refine .inr ⟨_, _, rfl, fun i u hi => ?_⟩
        have hb : Blk W0 w1.heap.size 3 [.int .i64 from_, .int .i64 0, .int .i64 g] := by rw [hW0]; exact Blk.new (w1.drewN d) 3 _
        rw [Nat.zero_add]
        exact hb.cell hi
      have hm0 : Mods [] w1 W0 := by rw [hW0]; exact ((Mods.refl _ _).drewN d).alloc _
      have HS2 := Lib.hid (HS1.out.keep hm0 (by simp) (by simp))
      have HT2 := Lib.hid (HT1.out.keep hm0 (by simp))
      have HR2 := Lib.hid (HR1.out.keep hm0 (fun _ _ => by simp))
      have HRf := Lib.hid hRf
      have hm02 := hm1.trans hm0 (by simp)
      rw [← hW0]
      clear hg hW0 hRf hm0 hm1 HS1 HT1 HR1 HQ1 hf2
      go_loopw [70] (fun iv wr => ∃ i : Nat, i ≤ 3 ∧ iv = .int .i64 i ∧ Mods [] W0 wr) (fun iv _ => 3 - (intOf iv).toNat)
      case atStart => exact ⟨0, Nat.zero_le _, rfl, Mods.refl _ _⟩
      case round =>
        obtain ⟨i, hi, rfl, hm3⟩ := hrel
        by_cases hlt : i < 3
        · have hget : ∃ f : Int, ([.int .i64 from_, .int .i64 0, .int .i64 g] : List Value)[i]? = some (.int .i64 f) := by
            match i, hlt with
            | 0, _ => exact ⟨_, rfl⟩
            | 1, _ => exact ⟨_, rfl⟩
            | 2, _ => exact ⟨_, rfl⟩
          obtain ⟨f, hf⟩ := hget
          obtain ⟨bf, of, hbf, hcf⟩ := (HRf.out.keep hm3 (fun _ _ => by simp)).at hf
          injection hbf with hbf
          injection hbf with hbf1 hbf2
          subst hbf1 hbf2
          rw [Nat.zero_add] at hcf
          obtain ⟨V0, rfl⟩ : ∃ V0 : World, V0 = wr := ⟨_, rfl⟩
          clear hf
          go_wp2_with fail
          obtain ⟨W4, hW4⟩ : ∃ W4 : World, W4 = V0.alloc (.cells #[.bool true, .bool false] 4) := ⟨_, rfl⟩
          have hRb : Row W4 (some ⟨V0.heap.size, 0, none⟩) [.bool true, .bool false] := by
            refine .inr ⟨_, _, rfl, fun i u hi => ?_⟩
            have hb : Blk W4 V0.heap.size 4 [.bool true, .bool false] := by rw [hW4]; exact Blk.new V0 4 _
            rw [Nat.zero_add]
            exact hb.cell hi
          have hm4 : Mods [] W0 W4 := by rw [hW4]; exact hm3.alloc _
          rw [← hW4]
          have HRb := Lib.hid hRb
          clear hW4 hRb hcf
          have hS4 := HS2.out.keep hm4 (by simp) (by simp)
          have hT4 := HT2.out.keep hm4 (by simp)
          have hR4 := HR2.out.keep hm4 (fun _ _ => by simp)
          have HS4 := Lib.hid hS4
          have HT4 := Lib.hid hT4
          have HR4 := Lib.hid hR4
          have HM4 := Lib.hid hm4
          clear hS4 hT4 hR4 hm4
          go_loop [76] (fun iv => ∃ j : Nat, j ≤ 2 ∧ iv = .int .i64 j) (fun iv => 2 - (intOf iv).toNat)
          case atStart => exact ⟨0, Nat.zero_le _, rfl⟩
          case round =>
            obtain ⟨j, hj, rfl⟩ := hrel
            by_cases hlt2 : j < 2
            · have hget : ∃ y : Bool, ([.bool true, .bool false] : List Value)[j]? = some (.bool y) := by
                match j, hlt2 with
                | 0, _ => exact ⟨_, rfl⟩
                | 1, _ => exact ⟨_, rfl⟩
              obtain ⟨y, hy⟩ := hget
              obtain ⟨bf, of, hbf, hcf⟩ := HRb.out.at hy
              injection hbf with hbf
              injection hbf with hbf1 hbf2
              subst hbf1 hbf2
              rw [Nat.zero_add] at hcf
              have hn1 := next_any HS4.out HT4.out f y
              have hn2 := refNext_any (cap := cap) HR4.out (by rw [HN.out]; exact hlen2) f y
              rw [HN.out] at hn2
              generalize nxK (nextI l f y) = X at *
              generalize nxB (nextI l f y) = Y at *
              have H1 := Lib.hid hn1
              have H2 := Lib.hid hn2
              clear hn1 hn2 hy
              go_wp2_with fail
              refine H1.out.mono ?_
              rintro e w' ⟨rfl, rfl⟩
              go_wp2_with fail
              refine H2.out.mono ?_
              rintro e w' ⟨rfl, rfl⟩
              go_wp2_with fail
              go_round
              case rel => exact ⟨j + 1, by omega, by go_num⟩
              case measure => simp [intOf]; omega
            · obtain rfl : j = 2 := by omega
              go_wp2_with fail
              go_roundw
              case rel =>
                repeat apply Exists.intro
                refine ⟨⟨i + 1, by omega, ?h1, HM4.out⟩, ?h2⟩
                case h2 => repeat' (first | exact rfl | refine ⟨rfl, ?_⟩)
                case h1 => go_num
              case measure => simp [intOf]; omega
        · obtain rfl : i = 3 := by omega
          have HS5 := Lib.hid (HS2.out.keep hm3 (by simp) (by simp))
          go_wp2_with fail
          refine (HC.out _ HS5.out).mono ?_
          rintro e w' ⟨rfl, rfl⟩
          go_wp2_with fail
          refine (size_to HS5.out N (by rw [HN.out])).mono ?_
          rintro e w' ⟨rfl, rfl⟩
          go_wp2_with fail
          go_ret
          exact ⟨rfl, hm02.trans hm3 (by simp)⟩
end Go.Proofs.YtahaecieklfhkaaDoor
