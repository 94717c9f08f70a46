/- BitsTurn: for every list of bytes and two bytes the law answers true: a number that is put and put back leaves a set as it was; what is of a set is what isn't of the one in which all are turned. No condition but the form's own and the table's of math/bits, which the card ties to the program's text. -/
import Derived.Test.YtahaecieklfhkaaDoorLaid
import Derived.Test.YtahaecieklfhkaaDoorLawPost
import Derived.Test.YtahaecieklfhkaaDoorArgs
namespace Go.Proofs.YtahaecieklfhkaaDoor
open Go.ChangeShapes Go.WideShapes Go.ChangeAt Go.RowKit

set_option maxHeartbeats 4000000 in
set_option maxRecDepth 100000 in
theorem bitsTurn_walk (A : Option Addr) (len cap : Nat) (zs : List Nat) (n at_ : Nat) (w : World) (hT : Tab w) (hr : Row w A (u8sOf zs)) (hz : zs.length = len) (hlc : len ≤ cap)
    (hzb : ∀ z ∈ zs, z < 256) (hn : n < 256) (ha : at_ < 256) :
    Calls Tryd.prog 4 #[.slice A len cap, .int .u8 n, .int .u8 at_] w fun e w' => e = .returned (.bool true) ∧ Mods [] w w' := by
  have hTl := hT.lt
  have HT := Lib.hid hT
  have HR := Lib.hid hr
  have HZ := Lib.hid hzb
  have HL := Lib.hid hz
  clear hT hr hzb hz
  obtain ⟨m, hm⟩ : ∃ m : Nat, 1 + (n : Int) = (m : Int) := ⟨n + 1, by omega⟩
  have hm1 : 1 ≤ m := by omega
  have hm2 : m ≤ 256 := by omega
  obtain ⟨q, hq⟩ : ∃ q : Nat, (at_ : Int) % (m : Int) = (q : Int) := ⟨at_ % m, by rw [← Int.natCast_emod]⟩
  have hqm : q < m := by have := Int.emod_lt_of_pos (at_ : Int) (show (0 : Int) < m by omega); omega
  obtain ⟨p, hp⟩ : ∃ p : Nat, (if (100 : Int) < (len : Int) then (100 : Int) else (len : Int)) = (p : Int) := ⟨min 100 len, by split <;> omega⟩
  have hpl : p ≤ len := by have := hp; split at this <;> omega
  have hp100 : p ≤ 100 := by have := hp; split at this <;> omega
  obtain ⟨i8, hi8, _, _, _⟩ := info_parts info_u8
  have hsl := fun (k : Int) (h0 : 0 ≤ k) (h1 : k ≤ cap) (W : World) => run_prefix Tryd.prog 22 5 i8 A len cap k W Tryd.underlying22 hi8 h0 h1
  go_enter Tryd.func4, Tryd.ntmps4
  go_wp2_with fail
  refine (new_any _ m (by omega) (by omega)).mono ?_
  rintro e w1 ⟨rfl, hm1', hz1, hs1⟩
  go_wp2_with fail
  refine (new_any _ m (by omega) (by omega)).mono ?_
  rintro e w2 ⟨rfl, hm2', hz2, ht2⟩
  rw [hz1] at ht2 hz2
  have hs2 := hs1.keep hm2' (by simp) (by simp)
  have hm02 := hm1'.trans hm2' (by simp)
  have HTW2 := Lib.hid (HT.out.keep hm02 (by simp))
  go_wp2_with fail
  refine (w9_any _ HTW2.out).mono ?_
  rintro e w3 ⟨rfl, hm3⟩
  have hm03 := hm02.trans hm3 (by simp)
  have HS3 := Lib.hid (hs2.keep hm3 (by simp) (by simp))
  have HT3 := Lib.hid (ht2.keep hm3 (by simp) (by simp))
  have hz3 := hm3.size
  have hzz : w.heap.size + 4 ≤ w3.heap.size := by omega
  clear hs1 hs2 ht2 hm3 hm02 hm1' hm2' HTW2 hz1 hz2 hz3
  go_wp2_with fail
  clear hp hsl
  go_loopw [62] (fun iv wr => ∃ i : Nat, i ≤ p ∧ iv = .int .i64 i ∧ ∃ L : List Bool, Hid (L.length = m) ∧ IsSet wr (w.heap.size + 1) w.heap.size L ∧ IsSet wr (w.heap.size + 3) (w.heap.size + 2) (List.replicate m false) ∧ Mods [] w wr)
    (fun iv _ => p - (intOf iv).toNat)
  case atStart => exact ⟨0, Nat.zero_le _, rfl, _, by simp [Hid], HS3.out, HT3.out, hm03⟩
  case round =>
    obtain ⟨i, hi, rfl, L, HLm, hS, hTt, hM⟩ := hrel
    have hSl := hS.lt
    by_cases hlt : i < p
    · have hzi : i < zs.length := by have := HL.out; omega
      obtain ⟨b, off, rfl, hcell⟩ := (HR.out.keep hM (fun _ _ => by simp)).at (i := i) (u := .int .u8 (zs[i] : Nat)) (by simp [u8sOf, hzi])
      have hzlt := HZ.out _ (List.getElem_mem hzi)
      generalize zs[i] = z at *
      go_wp2_with fail
      refine (put_any hS _ _).mono ?_
      rintro e w4 ⟨rfl, hm4, hs4⟩
      go_wp2_with fail
      go_roundw
      case rel => exact ⟨i + 1, by omega, by go_num, _, by unfold Hid; rw [setI_length]; exact HLm.out, hs4, hTt.keep hm4 (by simp) (by simp), hM.trans hm4 (by simp)⟩
      case measure => simp [intOf]; omega
    · obtain ⟨wv, hwv⟩ : ∃ x : Bool, memI L (q : Int) = x := ⟨_, rfl⟩
      have hLm := HLm.out
      obtain ⟨back1, back2, back3⟩ := setI_back L q wv (by omega) hwv
      have HTr := Lib.hid (HT.out.keep hM (by simp))
      have HB := Lib.hid (And.intro hwv (And.intro back1 (And.intro back2 back3)))
      obtain rfl : i = p := by omega
      clear back1 back2 back3 hLm hlt hwv
      have HLL := Lib.hid (onL_length L)
      obtain ⟨N, hN⟩ : ∃ N, (onL L).length = N := ⟨_, rfl⟩
      have hrow := list_row hS HTr.out
      have hNb : N ≤ 256 := by have h1 := HLL.out; have h2 := HLm.out; omega
      rw [hN] at hrow
      have HRow := Lib.hid hrow
      have HN := Lib.hid hN
      clear hrow hN
      go_wp2_with fail
      refine HRow.out.mono ?_
      rintro e w4 ⟨A1, cap1, rfl, hr4, hm4, hoff4, hcap4, hnil4⟩
      have hS4 := hS.keep hm4 (by simp) (by simp)
      have hT4 := hTt.keep hm4 (by simp) (by simp)
      have hM4 := hM.trans hm4 (by simp)
      have hsz4 : wr.heap.size ≤ w4.heap.size := hm4.size
      have hwr := hM.size
      have HR4 := Lib.hid hr4
      have HO4 := Lib.hid hoff4
      have HN4 := Lib.hid hnil4
      clear hr4 hm4 hoff4 hnil4 hS hTt hM
      go_wp2_with fail
      refine (has_to hS4 q wv HB.out.1).mono ?_
      rintro e w' ⟨rfl, n5, rfl⟩
      go_wp2_with fail
      refine (put_to (hS4.drewN n5) q (!wv) wv _ HB.out.1 rfl).mono ?_
      rintro e w6 ⟨rfl, hm6, hS6⟩
      have hT6 := (hT4.drewN n5).keep hm6 (by simp) (by simp)
      have hM6 := (hM4.drewN n5).trans hm6 (by simp)
      have HR6 := Lib.hid ((HR4.out.drewN n5).keep hm6 (fun a ha => by have := HO4.out a ha; simp; omega))
      have hsz6 : w4.heap.size ≤ w6.heap.size := hm6.size
      clear hm6 hS4 hT4 hM4
      go_wp2_with fail
      refine (has_to hS6 q (!wv) HB.out.2.2.1).mono ?_
      rintro e w' ⟨rfl, n7, rfl⟩
      have hb1 : ((!wv) == wv) = false := by cases wv <;> rfl
      go_wp2_with fail
      refine (put_to (hS6.drewN n7) q wv (!wv) L HB.out.2.2.1 HB.out.2.1).mono ?_
      rintro e w8 ⟨rfl, hm8, hS8⟩
      have hT8 := (hT6.drewN n7).keep hm8 (by simp) (by simp)
      have hM8 := (hM6.drewN n7).trans hm8 (by simp)
      have HR8 := Lib.hid ((HR6.out.drewN n7).keep hm8 (fun a ha => by have := HO4.out a ha; simp; omega))
      have hsz8 : w6.heap.size ≤ w8.heap.size := hm8.size
      clear hm8 hS6 hT6 hM6
      have hrow8 := list_row hS8 (HT.out.keep hM8 (by simp))
      rw [HN.out] at hrow8
      have HRow8 := Lib.hid hrow8
      clear hrow8
      go_wp2_with fail
      refine HRow8.out.mono ?_
      rintro e w9 ⟨A2, cap2, rfl, hr9, hm9, hoff9, hcap9, hnil9⟩
      have hS9 := hS8.keep hm9 (by simp) (by simp)
      have hT9 := hT8.keep hm9 (by simp) (by simp)
      have hM9 := hM8.trans hm9 (by simp)
      have HR9 := Lib.hid hr9
      have HRo := Lib.hid (HR8.out.keep hm9 (fun _ _ => by simp))
      clear hr9 hm9 hoff9 hnil9 hS8 hT8 hM8
      go_wp2_with fail
      obtain ⟨W9, rfl⟩ : ∃ W9 : World, W9 = w9 := ⟨_, rfl⟩
      go_loopw [109] (fun iv wr2 => ∃ j : Nat, j ≤ N ∧ iv = .int .i64 j ∧ ∃ d, wr2 = W9.drewN d) (fun iv _ => N - (intOf iv).toNat)
      case atStart => exact ⟨0, Nat.zero_le _, rfl, 0, rfl⟩
      case round =>
        obtain ⟨j, hj, rfl, d, rfl⟩ := hrel
        by_cases hlt : j < N
        · have hjl : j < (onL L).length := by rw [HN.out]; exact hlt
          have hget : (intsOf (onL L))[j]? = some (.int .i64 ((onL L)[j] : Nat)) := by simp [intsOf, hjl]
          obtain ⟨b1, o1, rfl, hc1⟩ := HRo.out.at hget
          obtain ⟨b2, o2, rfl, hc2⟩ := HR9.out.at hget
          generalize (onL L)[j] = x at *
          have hj0 : (0 : Int) ≤ (j : Int) := Int.natCast_nonneg _
          have hj1 : (j : Int) < (N : Int) := by omega
          clear hget hjl
          go_wp2_with fail
          go_quiet (fail)
          go_wp2_with fail
          go_roundw
          case rel => exact ⟨j + 1, by omega, by go_num, _, rfl⟩
          case measure => simp [intOf]; omega
        · obtain rfl : j = N := by omega
          have hS10 := hS9.drewN d
          have hT10 := hT9.drewN d
          have hM10 := hM9.drewN d
          generalize W9.drewN d = W10 at *
          clear hlt hj
          go_wp2_with fail
          obtain ⟨w11, rfl⟩ : ∃ w11 : World, w11 = W10 := ⟨_, rfl⟩
          have hw11 := hM10.size
          have HLm2 := HLm
          go_loopw [123] (fun iv wr3 => ∃ k : Nat, k ≤ m ∧ iv = .int .i64 k ∧ IsSet wr3 (w.heap.size + 1) w.heap.size L ∧ IsSet wr3 (w.heap.size + 3) (w.heap.size + 2) (turned L k) ∧ Mods [] w wr3) (fun iv _ => m - (intOf iv).toNat)
          case atStart => exact ⟨0, Nat.zero_le _, rfl, hS10, by rw [turned_zero, HLm.out]; exact hT10, hM10⟩
          case round =>
            obtain ⟨k, hk, rfl, hSk, hTk, hMk⟩ := hrel
            clear hS10 hT10 hM10
            by_cases hlt : k < m
            · have hmem : memI L (k : Int) = mem L k := memI_nat L k
              have hst := turned_step L k (by rw [HLm.out]; exact hlt)
              have HM := Lib.hid (And.intro hmem hst)
              clear hmem hst
              go_wp2_with fail
              refine (has_to hSk k _ HM.out.1).mono ?_
              rintro e w' ⟨rfl, d2, rfl⟩
              go_wp2_with fail
              refine (put_to (hTk.drewN d2) k (!mem L k) _ _ rfl HM.out.2).mono ?_
              rintro e w12 ⟨rfl, hm12, hT12⟩
              go_wp2_with fail
              go_roundw
              case rel => exact ⟨k + 1, by omega, by go_num, (hSk.drewN d2).keep hm12 (by simp) (by simp), hT12, (hMk.drewN d2).trans hm12 (by simp)⟩
              case measure => simp [intOf]; omega
            · obtain rfl : k = m := by omega
              have e2 : turned L k = L.map (!·) := by have := HLm.out; rw [← this]; exact turned_all L
              rw [e2] at hTk
              clear e2 hlt hk
              have HTk := Lib.hid (HT.out.keep hMk (by simp))
              go_wp2_with fail
              obtain ⟨W13, rfl⟩ : ∃ W13 : World, W13 = wr := ⟨_, rfl⟩
              go_loop [135] (fun iv => ∃ y : Nat, y ≤ k ∧ iv = .int .i64 y) (fun iv => k - (intOf iv).toNat)
              case atStart => exact ⟨0, Nat.zero_le _, rfl⟩
              case round =>
                obtain ⟨y, hy, rfl⟩ := hrel
                by_cases hlt : y < k
                · have hn1 := next_any hSk HTk.out (y : Int) true
                  have hn2 := next_any hTk HTk.out (y : Int) false
                  rw [turned_next] at hn2
                  generalize nxK (nextI L (y : Int) true) = X at *
                  generalize nxB (nextI L (y : Int) true) = Y at *
                  have H1 := Lib.hid hn1
                  have H2 := Lib.hid hn2
                  clear hn1 hn2
                  go_wp2_with fail
                  refine H1.out.mono ?_
                  rintro e w' ⟨rfl, rfl⟩
                  go_wp2_with fail
                  refine H2.out.mono ?_
                  rintro e w' ⟨rfl, rfl⟩
                  go_wp2_with fail
                  go_round
                  case rel => exact ⟨y + 1, by omega, by go_num⟩
                  case measure => simp [intOf]; omega
                · obtain rfl : y = k := by omega
                  have hc := turned_count L
                  rw [HLm.out] at hc
                  have c1 := count_any hSk
                  have c2 := count_any hTk
                  generalize L.count true = X at *
                  generalize (L.map (!·)).count true = Y at *
                  have hXY : ((X : Int) + (Y : Int) == (y : Int)) = true := by simp; omega
                  have H1 := Lib.hid c1
                  have H2 := Lib.hid c2
                  have hX : X ≤ 256 := by omega
                  have hY : Y ≤ 256 := by omega
                  clear hc c1 c2
                  go_wp2_with fail
                  refine H1.out.mono ?_
                  rintro e w' ⟨rfl, rfl⟩
                  go_wp2_with fail
                  refine H2.out.mono ?_
                  rintro e w' ⟨rfl, rfl⟩
                  go_wp2_with fail
                  go_ret
                  exact ⟨rfl, hMk⟩
theorem readables_bitsTurn : ∀ t ∈ (#[22, 5, 5] : Array TypeId).toList, Tryd.prog.readableRec t = true ∧ t < Tryd.prog.types.size := by
  intro t ht
  simp only [List.mem_cons, List.not_mem_nil, or_false] at ht
  rcases ht with rfl | rfl | rfl
  all_goals exact ⟨by kernel_rfl, of_decide_eq_true (by kernel_rfl)⟩
theorem standIns_bitsTurn (j : Nat) (t : TypeId) (ht : (#[22, 5, 5] : Array TypeId)[j]? = some t) : Tryd.pinned.checked.prog.wantsStandIn t = false := by
  have hm := Array.mem_of_getElem? ht
  simp only [List.mem_toArray, List.mem_cons, List.not_mem_nil, or_false] at hm
  rcases hm with rfl | rfl | rfl
  · exact (show Tryd.prog.wantsStandIn 22 = false by kernel_rfl)
  · exact (show Tryd.prog.wantsStandIn 5 = false by kernel_rfl)
  · exact (show Tryd.prog.wantsStandIn 5 = false by kernel_rfl)

theorem bitsTurn_contract (H : Type) (enc : TypeId × Value → H) (W : World) (base : Nat) (args : Array Value) (ds gs : List (DataW H)) (before : List MemPlace)
    (hval : ∀ (j : Nat) t v, Tryd.f4.params[j]? = some t → args[j]? = some v → Value.okWide Tryd.prog W .any base t v)
    (hW : DataW.Whole enc Tryd.prog Tryd.f4.params.toList Rows.bitsTurnSpec.vars false W args.toList ds gs before) (hL : laidMetH Tryd.prog laidVars W) :
    Calls Tryd.prog 4 args W fun e W' => ∃ v, e = .returned v ∧ Rows.bitsTurnSpec.post enc Tryd.prog Tryd.f4 false true false false W args v W' := by
  have hW' := hW
  obtain ⟨p, q, hA0, hV, he, hfz, hnd⟩ := hW
  have hA : DataW.TrodAll enc Tryd.prog W 0 (fun _ => true) true Tryd.f4.params.toList args.toList ds p := hA0
  rw [Tryd.params4] at hA hval
  obtain ⟨v0, vs0, d0, ds0, p0, q0, hargs, rfl, rfl, h0, r0⟩ := trodAll_cons hA
  obtain ⟨v1, vs1, d1, ds1, p1, q1, rfl, rfl, rfl, h1, r1⟩ := trodAll_cons r0
  obtain ⟨v2, vs2, d2, ds2, p2, q2, rfl, rfl, rfl, h2, r2⟩ := trodAll_cons r1
  obtain ⟨rfl, rfl, rfl⟩ := trodAll_nil r2
  obtain rfl : args = #[v0, v1, v2] := by cases args; simp_all
  obtain ⟨lA, lLen, lCap, l, rfl, lRow, lL, lC, lM, lB⟩ := u8s_open Tryd.underlying22 Tryd.underlying5 cellsU8 (hval 0 22 v0 rfl rfl) h0
  obtain ⟨n', rfl, rfl, rfl, wn⟩ := open_int Tryd.underlying5 (hval 1 5 v1 rfl rfl) h1
  have bn := bounds_u8 wn
  obtain ⟨n, rfl⟩ := Int.eq_ofNat_of_zero_le bn.1
  obtain ⟨a', rfl, rfl, rfl, wa⟩ := open_int Tryd.underlying5 (hval 2 5 v2 rfl rfl) h2
  have ba := bounds_u8 wa
  obtain ⟨a, rfl⟩ := Int.eq_ofNat_of_zero_le ba.1
  refine (bitsTurn_walk lA lLen lCap l n a W (tab_of_laid hL) lRow lL lC lB (by omega) (by omega)).mono fun e W' ⟨he', hm⟩ => ?_
  subst he'
  exact ⟨_, rfl, post_law laidOut (by rw [Tryd.params4]; exact readables_bitsTurn) (by rfl) Tryd.underlying4 rfl rfl hW' hm.below⟩

theorem bitsTurn_reads (os : Os) {H : Type} (enc : TypeId × Value → H) : ∃ places, DataW.whole enc Tryd.prog ((laidWorld os).forCall (fun _ _ => 0) ⟨#[], #[.slice none 0 0, .int .u8 0, .int .u8 0], []⟩).memory Tryd.f4.params.toList Rows.bitsTurnSpec.vars false (#[.slice none 0 0, .int .u8 0, .int .u8 0] : Array Value).toList 8 = some ([.nil, .lit (.int .u8 0), .lit (.int .u8 0)], [], places) :=
  ⟨[], by kernel_rfl⟩

set_option maxRecDepth 100000 in
theorem bitsTurn_lifted (os : Os) (started : os.Started) (H : Type) (enc : TypeId × Value → H) (F : Stop.Interp) :
    ReturnsInHanded {} Tryd.checked os 4 .any ((OpenSpec.ofChange Rows.bitsTurnSpec).preRow enc Tryd.prog Tryd.f4 Rows.bitsTurnRow.domain false Rows.bitsTurnRow.laid) (((OpenSpec.ofChange Rows.bitsTurnSpec).at F).post enc Tryd.prog Tryd.f4 false true false false) := by
  obtain ⟨places, hx⟩ := bitsTurn_reads os enc
  refine returnsInHanded_of_row (C := Tryd.checked) (s := OpenSpec.ofChange Rows.bitsTurnSpec) own started (by kernel_rfl) Tryd.func4
    (witness_row_at (enc := enc) (C := Tryd.checked) false (laidWorld os) #[.slice none 0 0, .int .u8 0, .int .u8 0] rfl (by kernel_rfl) (by kernel_rfl) (by kernel_rfl)
      (OpenSpec.preRow_of_cond 8 hx (by kernel_rfl) (fun k hk => by cases hk) (by kernel_rfl) (laid_met os _))) ?_
  intro W base args ds gs before hval hW _ _ _ hL _ _
  exact bitsTurn_contract H enc W base args ds gs before hval hW hL

theorem bitsTurn_said : Rows.BitsTurnSaid :=
  OpenClaim.holds_of_cond 4 Tryd.f4 rfl rfl rfl rfl rfl rfl rfl ⟨rfl, rfl, rfl, rfl, rfl⟩ rfl rfl rfl rfl rfl (by kernel_rfl) Tryd.func4 (by kernel_rfl)
    (of_decide_eq_true (by kernel_rfl)) (by unfold Func.isWrapper; first | (rw [if_pos (by decide +kernel)]; kernel_rfl) | (rw [if_neg (by decide +kernel)]; exact ⟨rfl, rfl⟩))
    (fun os started H enc _ F => by rw [OpenClaim.pre_eq_preRow]; exact bitsTurn_lifted os started H enc F)

theorem bitsTurn_plain (f : FuncId) (fn : Func) (hf : Tryd.pinned.checked.prog.funcNamed "treenail/treenaillaw09.BitsTurn" = some f) (hfn : Tryd.pinned.checked.prog.funcs[f]? = some fn) :
    false = Tryd.pinned.checked.prog.looks [] ∧ ∀ (j : Nat) t, fn.params[j]? = some t → Tryd.pinned.checked.prog.wantsStandIn t = false := by
  obtain rfl : f = 4 := Option.some.inj ((show Tryd.prog.funcNamed "treenail/treenaillaw09.BitsTurn" = some 4 by kernel_rfl).symm.trans hf) |>.symm
  obtain rfl : fn = Tryd.f4 := (Option.some.inj (Tryd.func4.symm.trans hfn)).symm
  refine ⟨by kernel_rfl, fun j t ht => ?_⟩
  rw [Tryd.params4] at ht
  exact standIns_bitsTurn j t ht

/-- The card. -/
theorem bitsTurn_card : Rows.BitsTurnCardSaid :=
  Claim7.holds_tied_plain_at .later [] _ _ _ _ bitsTurn_said (fun _ h => by cases h) (by kernel_rfl) (fun _ h => by cases h) bitsTurn_row_tie rfl ⟨rfl, rfl⟩ (by kernel_rfl) rfl bitsTurn_plain (by kernel_rfl)
end Go.Proofs.YtahaecieklfhkaaDoor
