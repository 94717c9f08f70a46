/- BitsParts: for every list of bytes and every byte the law answers true: each number is of a set or isn't; the next ones, one behind the other, are all that are of it, or all others. No condition but the form's own and the table's of math/bits, which the card ties to the program's text. -/
import Derived.Test.YtahaecieklfhkaaDoorLaid
import Derived.Test.YtahaecieklfhkaaDoorLawPost
import Derived.Test.YtahaecieklfhkaaDoorBits8
import Derived.Test.YtahaecieklfhkaaDoorPParts
namespace Go.Proofs.YtahaecieklfhkaaDoor
open Go.ChangeShapes Go.WideShapes Go.ChangeAt Go.RowKit

/-- int keys. -/
def kvI (a : Int) : Value := .int .i64 a
theorem kvI_key (a : Int) : MapKept.IsKey (.int .i64) (kvI a) := rfl
theorem kvI_inj (a c : Int) (h : kvI a = kvI c) : a = c := by injection h
theorem zeroBool (w : World) : (zeroValue 4).run Tryd.prog w = .ok (.bool false) w := by kernel_rfl

set_option maxHeartbeats 4000000 in
set_option maxRecDepth 100000 in
theorem bitsParts_walk (A : Option Addr) (len cap : Nat) (zs : List Nat) (n : Nat) (w : World) (hT : Tab w) (hr : Row w A (u8sOf zs)) (hz : zs.length = len) (hlc : len ≤ cap)
    (hzb : ∀ z ∈ zs, z < 256) (hn : n < 256) :
    Calls Tryd.prog 3 #[.slice A len cap, .int .u8 n] w fun e w' => e = .returned (.bool true) ∧ Mods [] w w' := by
  have hTl := hT.lt
  have HT := Lib.hid hT
  have HR := Lib.hid hr
  have HZ := Lib.hid hzb
  have HL := Lib.hid hz
  clear hT hr hzb hz
  obtain ⟨m, hm⟩ : ∃ m : Nat, 1 + (n : Int) = (m : Int) := ⟨n + 1, by omega⟩
  have hm1 : 1 ≤ m := by omega
  have hm2 : m ≤ 256 := by omega
  obtain ⟨p, hp⟩ : ∃ p : Nat, (if (200 : Int) < (len : Int) then (200 : Int) else (len : Int)) = (p : Int) := ⟨min 200 len, by split <;> omega⟩
  have hpl : p ≤ len := by have := hp; split at this <;> omega
  have hp100 : p ≤ 200 := by have := hp; split at this <;> omega
  obtain ⟨i8, hi8, _, _, _⟩ := info_parts info_u8
  have hsl := fun (k : Int) (h0 : 0 ≤ k) (h1 : k ≤ cap) (W : World) => run_prefix Tryd.prog 22 5 i8 A len cap k W Tryd.underlying22 hi8 h0 h1
  go_enter Tryd.func3, Tryd.ntmps3
  go_wp2_with fail
  refine (new_any _ m (by omega) (by omega)).mono ?_
  rintro e w1 ⟨rfl, hm1', hz1, hs1⟩
  have HTW1 := Lib.hid (HT.out.keep hm1' (by simp))
  go_wp2_with fail
  refine (w9_any _ HTW1.out).mono ?_
  rintro e w3 ⟨rfl, hm3⟩
  have hm03 := hm1'.trans hm3 (by simp)
  have HS3 := Lib.hid (hs1.keep hm3 (by simp) (by simp))
  have hz3 := hm3.size
  have hzz : w.heap.size + 2 ≤ w3.heap.size := by omega
  clear hs1 hm3 hm1' HTW1 hz1 hz3
  go_wp2_with fail
  clear hp hsl
  go_loopw [41] (fun iv wr => ∃ i : Nat, i ≤ p ∧ iv = .int .i64 i ∧ ∃ L : List Bool, Hid (L.length = m) ∧ IsSet wr (w.heap.size + 1) w.heap.size L ∧ Mods [] w wr)
    (fun iv _ => p - (intOf iv).toNat)
  case atStart => exact ⟨0, Nat.zero_le _, rfl, _, by simp [Hid], HS3.out, hm03⟩
  case round =>
    obtain ⟨i, hi, rfl, L, HLm, hS, hM⟩ := hrel
    have hSl := hS.lt
    by_cases hlt : i < p
    · have hzi : i < zs.length := by have := HL.out; omega
      obtain ⟨b, off, rfl, hcell⟩ := (HR.out.keep hM (fun _ _ => by simp)).at (i := i) (u := .int .u8 (zs[i] : Nat)) (by simp [u8sOf, hzi])
      have hzlt := HZ.out _ (List.getElem_mem hzi)
      generalize zs[i] = z at *
      go_wp2_with fail
      have HSr := Lib.hid hS
      clear hS
      clear hcell
      go_region_with ((first | (go_at_call 14; refine (has_any (HSr.out.drewN 1) _).mono ?_; rintro e w' ⟨rfl, nq, rfl⟩) | (go_at_call 13; refine (put_any (w := wr.drewN _) (HSr.out.drewN _) _ _).mono ?_; rintro e w4 ⟨rfl, hm4, hs4⟩)))
      all_goals
        go_wp2_with fail
        go_roundw
        case rel => exact ⟨i + 1, by omega, by go_num, _, by unfold Hid; rw [setI_length]; exact HLm.out, hs4, (hM.drewN _).trans hm4 (by simp)⟩
        case measure => simp [intOf]; omega
    · obtain rfl : i = p := by omega
      have hmm := fun W => run_makeMap (P := Tryd.prog) 30 W
      go_wp2_with fail
      have hwr := hM.size
      have hSl := hS.lt
      obtain ⟨W0, rfl⟩ : ∃ W0 : World, W0 = wr := ⟨_, rfl⟩
      obtain ⟨B, hB⟩ : ∃ B, W0.heap.size = B := ⟨_, rfl⟩
      obtain ⟨W1, hW1⟩ : ∃ W1 : World, W1 = ((W0.alloc (.map #[] 0)).alloc (.cells #[.int .i64 0, .int .i64 0] 31)).alloc (.cells #[.bool true, .bool false] 4) := ⟨_, rfl⟩
      have hMap1 : MapK kvI W1 B (SF (seenG L 0 0)) (cAt L 0) := by
        have h0 : MapK kvI (W0.alloc (.map #[] 0)) W0.heap.size (fun _ => none) 0 := MapK.made W0
        have h1 : Mods [] (W0.alloc (.map #[] 0)) W1 := by rw [hW1]; exact ((Mods.refl _ _).alloc _).alloc _
        have e : SF (seenG L 0 0) = fun _ => none := by funext x; simp [SF, seenG_start]
        rw [e, ← hB]
        exact h0.keep h1 (by simp)
      have hBlk1 : Blk W1 (B + 1) 31 (csAt L 0) := by
        have h0 := Blk.new (W0.alloc (.map #[] 0)) 31 [.int .i64 0, .int .i64 0]
        rw [hW1, ← hB]
        have := h0.alloc (.cells #[.bool true, .bool false] 4)
        simpa [csAt] using this
      have hRow1 : Row W1 (some ⟨B + 1 + 1, 0, none⟩) [.bool true, .bool false] := by
        refine .inr ⟨_, _, rfl, fun i u hi => ?_⟩
        have hb := Blk.new ((W0.alloc (.map #[] 0)).alloc (.cells #[.int .i64 0, .int .i64 0] 31)) 4 [.bool true, .bool false]
        rw [Nat.zero_add, hW1]
        refine Blk.cell (t := 4) (l := [.bool true, .bool false]) ?_ hi
        rw [← hB]
        simpa using hb
      have hm1 : Mods [] W0 W1 := by rw [hW1]; exact (((Mods.refl _ _).alloc _).alloc _).alloc _
      have hsz1 : B + 3 ≤ W1.heap.size := by rw [hW1, ← hB]; simp
      have hM1 := hM.trans hm1 (by simp)
      have hS1 := hS.keep hm1 (by simp) (by simp)
      rw [hB] at hwr hSl
      rw [← hW1, hB]
      have HMap1 := Lib.hid hMap1
      have HBlk1 := Lib.hid hBlk1
      have HRow1 := Lib.hid hRow1
      have HS1 := Lib.hid hS1
      have HM1 := Lib.hid hM1
      have HB := Lib.hid hB
      clear hMap1 hBlk1 hRow1 hm1 hM hS hS1 hM1 hW1 hmm hlt hB
      go_loopw [63] (fun iv wr => ∃ i : Nat, i ≤ 2 ∧ iv = .int .i64 i ∧ IsSet wr (w.heap.size + 1) w.heap.size L ∧ MapK kvI wr B (SF (if i = 2 then fun a => decide (a < L.length) else seenG L i 0)) (cAt L i) ∧ Blk wr (B + 1) 31 (csAt L i) ∧
          Row wr (some ⟨B + 1 + 1, 0, none⟩) [.bool true, .bool false] ∧ B + 3 ≤ wr.heap.size ∧ Mods [] w wr) (fun iv _ => 2 - (intOf iv).toNat)
      case atStart => exact ⟨0, by omega, rfl, HS1.out, HMap1.out, HBlk1.out, HRow1.out, hsz1, HM1.out⟩
      case round =>
        obtain ⟨i2, hi2, rfl, hS2, hMap2, hBlk2, hRow2, hsz2, hM2⟩ := hrel
        clear HMap1 HBlk1 HRow1 HS1 HM1
        by_cases hlt : i2 < 2
        · obtain ⟨is, his⟩ : ∃ is : Bool, decide (i2 = 0) = is := ⟨_, rfl⟩
          have hget : ([.bool true, .bool false] : List Value)[i2]? = some (.bool is) := by
            rcases (show i2 = 0 ∨ i2 = 1 by omega) with rfl | rfl <;> (subst his; rfl)
          obtain ⟨bf, of, hbf, hcf⟩ := hRow2.at hget
          injection hbf with hbf
          injection hbf with hbf1 hbf2
          subst hbf1 hbf2
          rw [Nat.zero_add] at hcf
          rw [if_neg (by omega)] at hMap2
          rw [← csAt_start L i2 hlt] at hBlk2
          have HMap2 := Lib.hid hMap2
          have HBlk2 := Lib.hid hBlk2
          have HRow2 := Lib.hid hRow2
          have HS2 := Lib.hid hS2
          have HM2 := Lib.hid hM2
          have HIS := Lib.hid his
          clear hMap2 hBlk2 hRow2 hS2 hM2 hget his
          obtain ⟨V0, rfl⟩ : ∃ V0 : World, V0 = wr := ⟨_, rfl⟩
          go_wp2_with fail
          clear hcf
          go_loopw [14, 70] (fun lv jv wr => ∃ F j : Nat, F ≤ m ∧ j ≤ F ∧ jv = .int .i64 j ∧ lv = .int .i64 ((F : Int) - 1) ∧ IsSet wr (w.heap.size + 1) w.heap.size L ∧ MapK kvI wr B (SF (seenG L i2 F)) (cAt L i2 + cnt L is F) ∧
              Blk wr (B + 1) 31 ((csAt L i2).set i2 (.int .i64 (cnt L is F : Nat))) ∧ Row wr (some ⟨B + 1 + 1, 0, none⟩) [.bool true, .bool false] ∧ B + 3 ≤ wr.heap.size ∧ Mods [] w wr) (fun _ jv _ => m + 1 - (intOf jv).toNat)
          case atStart => exact ⟨0, 0, by omega, by omega, rfl, rfl, HS2.out, HMap2.out, HBlk2.out, HRow2.out, hsz2, HM2.out⟩
          case round =>
            obtain ⟨F, j, hF, hj, rfl, rfl, hS3, hMap3, hBlk3, hRow3, hsz3, hM3⟩ := hrel
            clear HMap2 HBlk2 HRow2 HS2 HM2 hsz2
            have hT3 := HT.out.keep hM3 (by simp)
            have hlook := fun (a : Int) => hMap3.lookup (P := Tryd.prog) (T := 30) (K := 3) (E := 4) (d := .int .i64) kvI_key Tryd.underlying30 Tryd.underlying3 (zeroBool wr) a false
            have ek1 : nextI L ((F : Int) - 1 + 1) is = nextL L F is := by unfold nextI; congr 1; omega
            have ek2 : nextI L (F : Int) is = nextL L F is := by unfold nextI; congr 1
            have EK1 := Lib.hid ek1
            have EK2 := Lib.hid ek2
            have HMap3 := Lib.hid hMap3
            have HBlk3 := Lib.hid hBlk3
            have HRow3 := Lib.hid hRow3
            have HS3 := Lib.hid hS3
            have HM3 := Lib.hid hM3
            have HT3 := Lib.hid hT3
            have HLook := Lib.hid hlook
            clear hMap3 hBlk3 hRow3 hS3 hM3 hT3 hlook ek1 ek2
            have hjm : j < m + 1 := by omega
            go_wp2_with fail
            refine (next_any HS3.out HT3.out _ _).mono ?_
            rintro e w' ⟨rfl, rfl⟩
            first
              | rw [EK1.out]
              | rw [EK2.out]
            have hcle := cnt_le L is F
            rcases next_cases (nextL L F is) with ⟨hr, hk, hb⟩ | ⟨k, hr, hk, hb⟩
            · rw [hk, hb]
              have HR := Lib.hid hr
              clear hr hk hb
              go_wp2_with fail
              go_roundw
              case rel =>
                refine ⟨i2 + 1, by omega, by go_num, HS3.out, ?_, ?_, HRow3.out, hsz3, HM3.out⟩
                · have h1 := HMap3.out
                  have h2 := HR.out
                  have e1 := cnt_none (by rw [HLm.out]; exact hF) h2
                  rw [← HIS.out] at h1 h2 e1
                  rw [← e1, cAt_end L i2 hlt, SF_congr (seenG_none hlt h2)] at h1
                  rcases (show i2 = 0 ∨ i2 = 1 by omega) with rfl | rfl
                  · exact h1
                  · exact h1
                · have h1 := HBlk3.out
                  have e1 := cnt_none (by rw [HLm.out]; exact hF) HR.out
                  rw [← HIS.out] at h1 e1
                  rw [← e1, csAt_end L i2 hlt] at h1
                  exact h1
              case measure => simp [intOf]; omega
            · rw [hk, hb]
              have hnx := nextL_iff.1 hr
              obtain ⟨hFk, hkm, hmk, _⟩ := hnx
              rw [HLm.out] at hkm
              have hnew : (SF (seenG L i2 F) (k : Int)) = none := by
                rw [SF_get, seenG_new hlt (by rw [HIS.out]; exact hr)]; rfl
              have hl := HLook.out (k : Int)
              rw [hnew] at hl
              have hmi : memI L (k : Int) = is := by rw [memI_nat]; exact hmk
              have HMI := Lib.hid hmi
              have HR := Lib.hid hr
              have HNew := Lib.hid hnew
              clear hr hk hb hmi hmk hnew
              simp only [Bool.false_eq_true, if_false, Option.getD_none, kvI] at hl
              go_wp2_with fail
              refine (has_to HS3.out k is HMI.out).mono ?_
              rintro e w' ⟨rfl, d, rfl⟩
              obtain ⟨W4, hrun4, hMap4, hm4, hsz4⟩ := (HMap3.out.drewN d).update (P := Tryd.prog) (T := 30) (K := 3) (E := 4) (d := .int .i64) kvI_key kvI_inj Tryd.underlying30 Tryd.underlying3 (k : Int) (.bool true)
              have hm4' : Mods [B] wr W4 := ⟨hm4.os, hm4.tape, hm4.output, hm4.size, hm4.block⟩
              have hsz4' : wr.heap.size ≤ W4.heap.size := hm4'.size
              have hBlk4 := HBlk3.out.keep hm4' (by simp)
              have hc4 := hBlk4.cell (csAt_get L i2 hlt _)
              have hf4 := hBlk4.free i2
              have hset := hBlk4.set i2 (.int .i64 ((cnt L is (k + 1) : Nat) : Int))
              rw [List.set_set] at hset
              have hcs := cnt_some HR.out
              have hM4 := HM3.out.trans hm4' (by simp; omega)
              have hS4 := HS3.out.keep hm4' (by simp; omega) (by simp; omega)
              have hRow4 := HRow3.out.keep hm4' (by intro a ha; cases ha; simp only [List.mem_singleton]; omega)
              rw [HNew.out] at hMap4
              have HMap4 := Lib.hid hMap4
              have HBlk4 := Lib.hid hBlk4
              have HSet := Lib.hid hset
              have HM4 := Lib.hid hM4
              have HS4 := Lib.hid hS4
              have HRow4 := Lib.hid hRow4
              have HCS := Lib.hid hcs
              have hi0 : (0 : Int) ≤ (i2 : Int) := Int.natCast_nonneg _
              have hi1 : (i2 : Int) < 2 := by omega
              clear hl hMap4 hm4 hm4' hsz4 hBlk4 hset hM4 hS4 hRow4 hcs HLook
              simp only [kvI] at hrun4
              go_wp2_with fail
              go_roundw
              case rel =>
                refine ⟨k + 1, j + 1, by omega, by omega, by go_num, by go_num, ?_, ?_, ?_, ?_, ?_, ?_⟩
                · exact HS4.out.keep ((Mods.refl [B + 1] W4).setCell (.inl (by simp)) _) (by simp; omega) (by simp; omega)
                · have h1 := HMap4.out.keep ((Mods.refl [B + 1] W4).setCell (p := ⟨B + 1, i2, none⟩) (.inl (by simp)) (.int .i64 ((cnt L is F : Nat) + 1 : Int))) (by simp)
                  rw [SF_put, SF_congr (seenG_some (by rw [HIS.out]; exact HR.out))] at h1
                  have e2 : cAt L i2 + cnt L is (k + 1) = cAt L i2 + cnt L is F + 1 := by rw [HCS.out]; omega
                  rw [e2]
                  exact h1
                · have h1 := HSet.out
                  rw [HCS.out] at h1 ⊢
                  exact h1
                · exact HRow4.out.keep ((Mods.refl [B + 1] W4).setCell (.inl (by simp)) _) (by intro a ha; cases ha; simp only [List.mem_singleton]; omega)
                · simp; omega
                · exact HM4.out.setCell (.inr (by simp; omega)) _
              case measure => simp [intOf]; omega
        · obtain rfl : i2 = 2 := by omega
          have e1 : cAt L 2 = m := by
            have h1 := cnt_both L L.length
            have h2 := HLm.out
            simp only [cAt]
            rw [if_pos (by omega), if_pos (by omega), h1, h2]
          rw [e1] at hMap2
          have hlen := fun (q : Nat) (ty : TypeId) => (hMap2.drewN q).len (P := Tryd.prog) (T := 30) (K := 3) (E := 4) Tryd.underlying30 ty
          obtain ⟨c0, hc0⟩ : ∃ c0 : Nat, L.count true = c0 := ⟨_, rfl⟩
          have hcell0 : wr.cell? ⟨B + 1, 0, none⟩ = some (.int .i64 (c0 : Nat)) := by
            refine hBlk2.cell ?_
            rw [← hc0, ← cnt_true]
            rfl
          have hcount := fun (q : Nat) => count_any (hS2.drewN q)
          rw [hc0] at hcount
          have HC := Lib.hid hcount
          have hg : (((m : Nat) : Int) == (m : Int)) = true := by simp
          clear hMap2 hBlk2 hRow2 hS2 e1 hc0 hcount
          go_wp2_with fail
          go_quiet ((go_at_call 16; exact Calls.quiet_of_same ((HC.out _).mono fun e w' ⟨he, hw⟩ => ⟨he, hw.symm⟩)))
          go_wp2_with fail
          go_ret
          exact ⟨rfl, hM2.drewN _⟩
theorem readables_bitsParts : ∀ t ∈ (#[22, 5] : Array TypeId).toList, Tryd.prog.readableRec t = true ∧ t < Tryd.prog.types.size := by
  intro t ht
  simp only [List.mem_cons, List.not_mem_nil, or_false] at ht
  rcases ht with rfl | rfl
  all_goals exact ⟨by kernel_rfl, of_decide_eq_true (by kernel_rfl)⟩
theorem standIns_bitsParts (j : Nat) (t : TypeId) (ht : (#[22, 5] : Array TypeId)[j]? = some t) : Tryd.pinned.checked.prog.wantsStandIn t = false := by
  have hm := Array.mem_of_getElem? ht
  simp only [List.mem_toArray, List.mem_cons, List.not_mem_nil, or_false] at hm
  rcases hm with rfl | rfl
  · exact (show Tryd.prog.wantsStandIn 22 = false by kernel_rfl)
  · exact (show Tryd.prog.wantsStandIn 5 = false by kernel_rfl)

theorem bitsParts_contract (H : Type) (enc : TypeId × Value → H) (W : World) (base : Nat) (args : Array Value) (ds gs : List (DataW H)) (before : List MemPlace)
    (hval : ∀ (j : Nat) t v, Tryd.f3.params[j]? = some t → args[j]? = some v → Value.okWide Tryd.prog W .any base t v)
    (hW : DataW.Whole enc Tryd.prog Tryd.f3.params.toList Rows.bitsPartsSpec.vars false W args.toList ds gs before) (hL : laidMetH Tryd.prog laidVars W) :
    Calls Tryd.prog 3 args W fun e W' => ∃ v, e = .returned v ∧ Rows.bitsPartsSpec.post enc Tryd.prog Tryd.f3 false true false false W args v W' := by
  have hW' := hW
  obtain ⟨p, q, hA0, hV, he, hfz, hnd⟩ := hW
  have hA : DataW.TrodAll enc Tryd.prog W 0 (fun _ => true) true Tryd.f3.params.toList args.toList ds p := hA0
  rw [Tryd.params3] at hA hval
  obtain ⟨v0, vs0, d0, ds0, p0, q0, hargs, rfl, rfl, h0, r0⟩ := trodAll_cons hA
  obtain ⟨v1, vs1, d1, ds1, p1, q1, rfl, rfl, rfl, h1, r1⟩ := trodAll_cons r0
  obtain ⟨rfl, rfl, rfl⟩ := trodAll_nil r1
  obtain rfl : args = #[v0, v1] := by cases args; simp_all
  obtain ⟨lA, lLen, lCap, l, rfl, lRow, lL, lC, lM, lB⟩ := u8s_open Tryd.underlying22 Tryd.underlying5 cellsU8 (hval 0 22 v0 rfl rfl) h0
  obtain ⟨n', rfl, rfl, rfl, wn⟩ := open_int Tryd.underlying5 (hval 1 5 v1 rfl rfl) h1
  have bn := bounds_u8 wn
  obtain ⟨n, rfl⟩ := Int.eq_ofNat_of_zero_le bn.1
  refine (bitsParts_walk lA lLen lCap l n W (tab_of_laid hL) lRow lL lC lB (by omega)).mono fun e W' ⟨he', hm⟩ => ?_
  subst he'
  exact ⟨_, rfl, post_law laidOut (by rw [Tryd.params3]; exact readables_bitsParts) (by rfl) Tryd.underlying4 rfl rfl hW' hm.below⟩

theorem bitsParts_reads (os : Os) {H : Type} (enc : TypeId × Value → H) : ∃ places, DataW.whole enc Tryd.prog ((laidWorld os).forCall (fun _ _ => 0) ⟨#[], #[.slice none 0 0, .int .u8 0], []⟩).memory Tryd.f3.params.toList Rows.bitsPartsSpec.vars false (#[.slice none 0 0, .int .u8 0] : Array Value).toList 8 = some ([.nil, .lit (.int .u8 0)], [], places) :=
  ⟨[], by kernel_rfl⟩

set_option maxRecDepth 100000 in
theorem bitsParts_lifted (os : Os) (started : os.Started) (H : Type) (enc : TypeId × Value → H) (F : Stop.Interp) :
    ReturnsInHanded {} Tryd.checked os 3 .any ((OpenSpec.ofChange Rows.bitsPartsSpec).preRow enc Tryd.prog Tryd.f3 Rows.bitsPartsRow.domain false Rows.bitsPartsRow.laid) (((OpenSpec.ofChange Rows.bitsPartsSpec).at F).post enc Tryd.prog Tryd.f3 false true false false) := by
  obtain ⟨places, hx⟩ := bitsParts_reads os enc
  refine returnsInHanded_of_row (C := Tryd.checked) (s := OpenSpec.ofChange Rows.bitsPartsSpec) own started (by kernel_rfl) Tryd.func3
    (witness_row_at (enc := enc) (C := Tryd.checked) false (laidWorld os) #[.slice none 0 0, .int .u8 0] rfl (by kernel_rfl) (by kernel_rfl) (by kernel_rfl)
      (OpenSpec.preRow_of_cond 8 hx (by kernel_rfl) (fun k hk => by cases hk) (by kernel_rfl) (laid_met os _))) ?_
  intro W base args ds gs before hval hW _ _ _ hL _ _
  exact bitsParts_contract H enc W base args ds gs before hval hW hL

theorem bitsParts_said : Rows.BitsPartsSaid :=
  OpenClaim.holds_of_cond 3 Tryd.f3 rfl rfl rfl rfl rfl rfl rfl ⟨rfl, rfl, rfl, rfl, rfl⟩ rfl rfl rfl rfl rfl (by kernel_rfl) Tryd.func3 (by kernel_rfl)
    (of_decide_eq_true (by kernel_rfl)) (by unfold Func.isWrapper; first | (rw [if_pos (by decide +kernel)]; kernel_rfl) | (rw [if_neg (by decide +kernel)]; exact ⟨rfl, rfl⟩))
    (fun os started H enc _ F => by rw [OpenClaim.pre_eq_preRow]; exact bitsParts_lifted os started H enc F)

theorem bitsParts_plain (f : FuncId) (fn : Func) (hf : Tryd.pinned.checked.prog.funcNamed "treenail/treenaillaw09.BitsParts" = some f) (hfn : Tryd.pinned.checked.prog.funcs[f]? = some fn) :
    false = Tryd.pinned.checked.prog.looks [] ∧ ∀ (j : Nat) t, fn.params[j]? = some t → Tryd.pinned.checked.prog.wantsStandIn t = false := by
  obtain rfl : f = 3 := Option.some.inj ((show Tryd.prog.funcNamed "treenail/treenaillaw09.BitsParts" = some 3 by kernel_rfl).symm.trans hf) |>.symm
  obtain rfl : fn = Tryd.f3 := (Option.some.inj (Tryd.func3.symm.trans hfn)).symm
  refine ⟨by kernel_rfl, fun j t ht => ?_⟩
  rw [Tryd.params3] at ht
  exact standIns_bitsParts j t ht

/-- The card. -/
theorem bitsParts_card : Rows.BitsPartsCardSaid :=
  Claim7.holds_tied_plain_at .later [] _ _ _ _ bitsParts_said (fun _ h => by cases h) (by kernel_rfl) (fun _ h => by cases h) bitsParts_row_tie rfl ⟨rfl, rfl⟩ (by kernel_rfl) rfl bitsParts_plain (by kernel_rfl)
end Go.Proofs.YtahaecieklfhkaaDoor
