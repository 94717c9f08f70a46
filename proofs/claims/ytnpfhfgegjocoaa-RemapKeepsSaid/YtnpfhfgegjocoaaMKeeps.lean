/- RemapKeeps: whatever the acts are, the law answers true. No condition but the form's own. -/
import Derived.Test.YtnpfhfgegjocoaaMKeepsA
import Derived.Deep.CutBlock
import Derived.Deep.RegionHeld3
import Derived.Outline
namespace Go.Proofs.Ytnpfhfgegjocoaa
open Go.ChangeShapes Go.WideShapes Go.ChangeAt Go.RowKit

theorem info_act7 : (Try.prog.info? 30).map (fun i => (i.zero, i.size, i.bytes)) = some (some (.agg #[.int .i64 0, .int .i64 0, .int .i64 0, .string ⟨#[]⟩]), 4, 40) := by kernel_rfl
theorem run_makeMapA (W : World) : (Instr.makeMap 28 none).run Try.prog W = .ok (.map (some W.heap.size)) (W.alloc (.map #[] 0)) := by kernel_rfl
set_option maxRecDepth 100000 in
set_option maxHeartbeats 6400000 in
theorem remapKeeps_walk (A : Option Addr) (len cap : Nat) (zs : List Act7) (W : World) (hr : Row W A (aRow7 zs)) (hz : zs.length = len) (hlc : len ≤ cap) (hcm : cap ≤ maxLen) (hb : ∀ z ∈ zs, z.data.size ≤ 140737488351232) :
    Calls Try.prog 3 #[.slice A len cap] W fun e w' => e = .returned (.bool true) ∧ Mods [] W w' := by
  have HR := Lib.hid hr
  have HL := Lib.hid hz
  have HZ := Lib.hid hb
  clear hr hz hb
  unfold maxLen at hcm
  obtain ⟨q, hq⟩ : ∃ q : Nat, min (len : Int) 40 = (q : Int) := ⟨min len 40, by omega⟩
  have hql : q ≤ len := by omega
  have hq40 : q ≤ 40 := by omega
  have hqm : max (q : Int) 0 = (q : Int) := by omega
  obtain ⟨i8, hi8, _, _, _⟩ := info_parts info_act7
  have hsl := fun (k : Int) (h0 : 0 ≤ k) (h1 : k ≤ cap) (W : World) => run_prefix Try.prog 22 30 i8 A len cap k W Try.underlying22 hi8 h0 h1
  have hmm := run_makeMapA
  go_enter Try.func3, Try.ntmps3
  go_wp2_with (first | (go_at_call 7; refine qFresh_any.mono ?_; rintro e w1 ⟨x, fx, b, gp, P, rfl, HF⟩) | (go_at_call 8; refine qWakes_any.mono ?_; rintro e w2 ⟨rfl, hm2⟩; have HM2 := Lib.hid hm2; clear hm2))
  clear hsl hq hmm
  obtain ⟨w3, hw3⟩ : ∃ w3, w2.alloc (.map #[] 0) = w3 := ⟨_, rfl⟩
  have hmap : MapK kvA w3 w2.heap.size (knF fun _ _ => none) 0 := by rw [← hw3]; exact MapK.made w2
  have hm3 : Mods [] w2 w3 := by rw [← hw3]; exact (Mods.refl _ _).alloc _
  rw [hw3]
  obtain ⟨bm, hbm⟩ : ∃ bm, w2.heap.size = bm := ⟨_, rfl⟩
  rw [hbm] at hmap ⊢
  have HI : Hid (KW W w3 x bm b 0) := by
    have O := (HF.out.own.still HM2.out)
    have hlt : ∀ g, g < w2.heap.size → bm ≠ g := fun g h e => by omega
    refine ⟨fx, gp, P, _, (O.still hm3), ⟨0, hmap⟩, fun s i v _ _ h => (by cases h), few0 HF.out.cache, fun k hk hx => hlt _ ((O.pair.dev k hk).lt _ hx) rfl, fun hx => hlt _ (O.pair.pb.lt _ hx) rfl, by rw [← hbm]; exact O.mods.size⟩
  clear hw3 hmap hm3 hbm HF HM2
  go_loopw [5, 46] (fun pv iv wr => ∃ b i : Nat, i ≤ q ∧ pv = .pointer (some ⟨b, 0, none⟩) ∧ iv = .int .i64 i ∧ KW W wr x bm b i) (fun _ iv _ => q - (intOf iv).toNat)
  case atStart => exact ⟨b, 0, Nat.zero_le _, rfl, rfl, HI.out⟩
  case round =>
    clear HI
    obtain ⟨b, i, hi, rfl, rfl, hW⟩ := hrel
    by_cases hlt : i < q
    · have hzi : i < zs.length := by have := HL.out; omega
      obtain ⟨bz, oz, rfl, d0, d1, d2, d3⟩ := aRow7_at (HR.out.keep (by obtain ⟨fx, gp, P, K, h⟩ := hW; exact h.own.mods) (fun _ _ => by simp)) (List.getElem?_eq_getElem hzi)
      have hsz := HZ.out _ (List.getElem_mem hzi)
      generalize zs[i] = ac at *
      obtain ⟨dn, sd, bk, dt⟩ := ac
      simp only at d0 d1 d2 d3 hsz
      obtain ⟨r0, hr0⟩ : ∃ r0 : Nat, max (0 : Int) dn = (r0 : Int) := ⟨dn.toNat, by omega⟩
      obtain ⟨r, hr8⟩ : ∃ r : Nat, (r0 : Int) % 8 = (r : Int) := ⟨r0 % 8, by omega⟩
      obtain ⟨s0, hs0⟩ : ∃ s0 : Nat, max (0 : Int) sd = (s0 : Int) := ⟨sd.toNat, by omega⟩
      obtain ⟨s, hs2⟩ : ∃ s : Nat, (s0 : Int) % 2 = (s : Int) := ⟨s0 % 2, by omega⟩
      obtain ⟨k0, hk0⟩ : ∃ k0 : Nat, max (0 : Int) bk = (k0 : Int) := ⟨bk.toNat, by omega⟩
      obtain ⟨k, hk12⟩ : ∃ k : Nat, (k0 : Int) % 12 = (k : Int) := ⟨k0 % 12, by omega⟩
      have hr : r < 8 := by omega
      have hs : s < 2 := by omega
      have hk : k < 12 := by omega
      obtain ⟨m, hm⟩ : ∃ m : Nat, min (dt.size : Int) 100 = (m : Int) := ⟨min dt.size 100, by omega⟩
      have hmd : m ≤ dt.size := by omega
      have hm100 : m ≤ 100 := by omega
      obtain ⟨wa, hwa⟩ : ∃ wa, wr.alloc (.cells #[.int .i64 dn, .int .i64 sd, .int .i64 bk, .string dt] 30) = wa := ⟨_, rfl⟩
      have hma : Mods [] wr wa := by rw [← hwa]; exact (Mods.refl _ _).alloc _
      have hBa : Blk wa wr.heap.size 30 [.int .i64 dn, .int .i64 sd, .int .i64 bk, .string dt] := by rw [← hwa]; exact Blk.new wr 30 _
      have HBA := Lib.hid hBa
      have HMA := Lib.hid hma
      have HW := Lib.hid hW
      clear hW hma
      go_upto_region 8 with fail
      have q0 := HBA.out.cell (i := 0) rfl
      have q1 := HBA.out.cell (i := 1) rfl
      have q2 := HBA.out.cell (i := 2) rfl
      have q3 := HBA.out.cell (i := 3) rfl
      have hs2' : (s0 : Int).tmod 2 = (s : Int) := by rw [Int.tmod_eq_emod_of_nonneg (by omega)]; exact hs2
      have hk12' : (k0 : Int).tmod 12 = (k : Int) := by rw [Int.tmod_eq_emod_of_nonneg (by omega)]; exact hk12
      have hr8' : (r0 : Int).tmod 8 = (r : Int) := by rw [Int.tmod_eq_emod_of_nonneg (by omega)]; exact hr8
      clear hBa hwa d0 d1 d2 d3
      have cFull := Lib.hid (fun W => qFull_any (W := W) (dt.extract 0 m) (by rw [ByteArray.size_extract]; omega))
      go_cut [10, 11, 12] from 47 to 204 (fun sv kv dv wx => sv = .int .i64 (s : Nat) ∧ kv = .int .i64 (k : Nat) ∧ ∃ img, dv = .string img ∧ img.size = 128 ∧ Hid (Mods [] wa wx))
      case first =>
        clear HW
        go_region_held3 (fun w' => w'.cell? ⟨wr.heap.size, 1, none⟩ = some (.int .i64 sd) ∧ w'.cell? ⟨wr.heap.size, 2, none⟩ = some (.int .i64 bk) ∧ w'.cell? ⟨wr.heap.size, 3, none⟩ = some (.string dt)) (go_keep) ((go_at_call 9; refine (cFull.out _).mono ?_; rintro e wb ⟨img, rfl, HI, himg, HMB⟩; have hbb := HBA.out.keep HMB.out.of_drew (by simp); have q1' := hbb.cell (i := 1) rfl; have q2' := hbb.cell (i := 2) rfl; have q3' := hbb.cell (i := 3) rfl))
        all_goals go_wp2_with fail
        all_goals go_meet
        all_goals exact ⟨rfl, rfl, img, rfl, himg, Lib.hid HMB.out.of_drew⟩
      case rest =>
        obtain ⟨rfl, rfl, img, rfl, himg, HMX⟩ := hcut
        obtain ⟨wd, hwd⟩ : ∃ wd, wc.alloc (.cells #[.int .i64 (s : Nat), .int .i64 (k : Nat)] 32) = wd := ⟨_, rfl⟩
        have hmd : Mods [] wc wd := by rw [← hwd]; exact (Mods.refl _ _).alloc _
        have HAT : Hid (Blk wd wc.heap.size 32 [.int .i64 (s : Nat), .int .i64 (k : Nat)]) := by rw [← hwd]; exact Blk.new wc 32 _
        have hlta := HBA.out.lt
        have hszc := HMX.out.size
        have HBD : Hid (Blk wd wr.heap.size 30 [.int .i64 dn, .int .i64 sd, .int .i64 bk, .string dt]) := (HBA.out.keep HMX.out (by simp)).keep hmd (by simp)
        obtain ⟨fx, gp, P, K, hKI⟩ := HW.out
        have HNF0 := Lib.hid (((hKI.still HMA.out).still HMX.out).foot)
        have HK0 : Hid (KIn W wd x bm b fx gp P K K i) := ((hKI.still HMA.out).still HMX.out).still hmd
        clear hKI HW hmd HBA HMA HMX hlta hszc
        obtain ⟨T, hT⟩ : ∃ T, P.tab s = T := ⟨_, rfl⟩
        obtain ⟨L, hL⟩ : ∃ L, T.spares - T.moved.length = L := ⟨_, rfl⟩
        have HT := Lib.hid hT
        have HLT := Lib.hid hL
        have cTb := Lib.hid (oTable HK0.out.own hs hT)
        have cLf := Lib.hid (fun (w : World) (v : Value) (h : Hid (TabAt w v T)) => oLeft h)
        rw [hL] at cLf
        clear hT hL
        go_upto_block 2 with (first | (go_at_call 10; refine cTb.out.mono ?_; rintro e we ⟨At, ct, rfl, HTA, HME⟩) | (go_at_call 11; refine (cLf.out _ _ HTA).mono ?_; rintro e wt ⟨rfl, HMT⟩; have e0 := ((HBD.out.keep HME.out (by simp)).keep HMT.out (by simp)).cell (i := 0) rfl))
        have HK : Hid (KIn W wt x bm b fx gp P K K i) := (HK0.out.still HME.out).still HMT.out
        have HNF : Hid (wc.heap.size ∉ b :: (fx 0 ++ fx 1)) := HNF0
        have HAW : Hid (Blk wt wc.heap.size 32 [.int .i64 (s : Nat), .int .i64 (k : Nat)]) := (HAT.out.keep HME.out (by simp)).keep HMT.out (by simp)
        have hi9 : i ≤ 900000 := by omega
        clear HK0 HNF0 HAT HBD HTA HME HMT cTb cLf cFull e0
        go_cut [5] from 47 to 204 (fun pv wx => ∃ b' : Nat, pv = .pointer (some ⟨b', 0, none⟩) ∧ Hid (KW W wx x bm b' (i + 1)))
        case first =>
          have hrr : r = 4 ∨ r = 5 ∨ r = 6 ∨ r = 7 ∨ (r < 4) := by omega
          rcases hrr with rfl | rfl | rfl | rfl | hr4
          · as_aux_lemma =>
            have cMv := Lib.hid (kMove (L := L) HK.out hi9 hs hk (by rw [HT.out]; exact HLT.out))
            go_wp2_with fail
            refine cMv.out.mono ?_
            rintro e wm ⟨c, fx', gp', P', rfl, HC, HMM⟩
            have hbat := HAW.out.keep HMM.out HNF.out
            have g0 := hbat.cell (i := 0) rfl
            have g1 := hbat.cell (i := 1) rfl
            rcases HC.out with ⟨rfl, hL, hK⟩ | ⟨rfl, hL, hK⟩
            · obtain ⟨wn, hdel, HK1⟩ := hK.strike hs hk
              have hL1 : ¬ (L : Int) = 0 := by omega
              have hL2 : 0 < (L : Int) := by omega
              clear hK HC hbat hL
              go_wp2_with fail
              go_meet
              exact ⟨b, rfl, fx', gp', P', _, HK1.out⟩
            · subst hL
              have HK1 := Lib.hid hK
              clear hK HC hbat
              go_wp2_with fail
              go_meet
              exact ⟨b, rfl, fx', gp', P', _, HK1.out⟩
          · as_aux_lemma =>
            have cTb := Lib.hid (oTable HK.out.own hs HT.out)
            obtain ⟨a, ha⟩ : ∃ a, (T.at_ (k : Int)).1 = a := ⟨_, rfl⟩
            obtain ⟨ae, hae⟩ : ∃ ae, (T.at_ (k : Int)).2 = ae := ⟨_, rfl⟩
            have cAt := Lib.hid (fun (w : World) (v : Value) (h : Hid (TabAt w v T)) => oAt h (k : Int))
            have ha20 : a + 4 < 20 := by rw [← ha, ← HT.out]; exact HK.out.own.gd.at_lt hs hk
            rw [ha, hae] at cAt
            have cDv := Lib.hid (fun (w : World) (h : KIn W w x bm b fx gp P K K i) => rDevice_s h.own.pair hs)
            have cSt := Lib.hid (fun (w : World) (h : KIn W w x bm b fx gp P K K i) => kStick h hi9 hs hk)
            rw [HT.out, ha, show ((a + 4 : Nat) : Int) = (a : Int) + 4 by omega] at cSt
            clear ha hae HT HLT
            go_wp2_with (first | (go_at_call 10; refine cTb.out.mono ?_; rintro e w1 ⟨At, ct, rfl, HTA, HM1⟩) | (go_at_call 13; refine (cAt.out _ _ HTA).mono ?_; rintro e w2 ⟨rfl, HM2⟩) | (go_at_call 14; refine (cDv.out _ ((HK.out.still HM1.out).still HM2.out)).mono ?_; rintro e w3 ⟨rfl, rfl⟩))
            refine (cSt.out _ ((HK.out.still HM1.out).still HM2.out)).mono ?_
            rintro e ws ⟨P', rfl, HK1, HRD, HMS⟩
            have hbat := ((HAW.out.keep HM1.out (by simp)).keep HM2.out (by simp)).keep HMS.out HNF.out
            have g0 := hbat.cell (i := 0) rfl
            have g1 := hbat.cell (i := 1) rfl
            obtain ⟨wn, hdel, HK2⟩ := HK1.out.strike hs hk
            have cRd := Lib.hid (kRead HK2.out (by omega) hs HRD.out)
            clear cTb cAt cDv cSt HTA hbat
            go_wp2_with (go_at_call 16; refine cRd.out.mono ?_; rintro e w4 ⟨rfl, HK3, HM4⟩)
            go_meet
            exact ⟨b, rfl, fx, gp, P', _, HK3.out⟩
          · as_aux_lemma =>
            have cFl := Lib.hid (kFlush HK.out hi9 hs)
            go_wp2_with (go_at_call 17; refine cFl.out.mono ?_; rintro e w1 ⟨fx', P', rfl, HK1⟩)
            go_meet
            exact ⟨b, rfl, fx', gp, P', _, HK1.out⟩
          · as_aux_lemma =>
            have cOp := Lib.hid (kOpen HK.out hi9)
            obtain ⟨T0, hT0⟩ : ∃ T0, P.tab 0 = T0 := ⟨_, rfl⟩
            obtain ⟨T1, hT1⟩ : ∃ T1, P.tab 1 = T1 := ⟨_, rfl⟩
            obtain ⟨Z0, hZ0⟩ : ∃ Z0, bA (textL T0.moved) = Z0 := ⟨_, rfl⟩
            obtain ⟨Z1, hZ1⟩ : ∃ Z1, bA (textL T1.moved) = Z1 := ⟨_, rfl⟩
            have cX0 := Lib.hid (fun (w : World) (v : Value) (h : Hid (TabAt w v T0)) => oText h)
            have cX1 := Lib.hid (fun (w : World) (v : Value) (h : Hid (TabAt w v T1)) => oText h)
            rw [hZ0] at cX0
            rw [hZ1] at cX1
            have HT0 := Lib.hid hT0
            have HT1 := Lib.hid hT1
            clear hT0 hT1 hZ0 hZ1 HT HLT
            go_wp2_with fail
            refine cOp.out.mono ?_
            rintro e w1 ⟨b', gp', rfl, HKo, HKn, HTo⟩
            have cQ0 := Lib.hid (fun (w : World) (hm : Mods [] w1 w) => oTable (HKn.out.own.still hm) (s := 0) (by decide) ((HTo.out 0 (by decide)).trans HT0.out))
            have cQ1 := Lib.hid (fun (w : World) (hm : Mods [] w1 w) => oTable (HKn.out.own.still hm) (s := 1) (by decide) ((HTo.out 1 (by decide)).trans HT1.out))
            have cP0 := Lib.hid (fun (w : World) (hm : Mods [] w1 w) => oTable (HKo.out.own.still hm) (s := 0) (by decide) HT0.out)
            have cP1 := Lib.hid (fun (w : World) (hm : Mods [] w1 w) => oTable (HKo.out.own.still hm) (s := 1) (by decide) HT1.out)
            have mk0 : Hid (Mods [] w1 w1) := Lib.hid (Mods.refl _ _)
            go_wp2_with (first
              | (go_at_call 10; refine (cQ0.out _ mk0.out).mono ?_; rintro e wa ⟨A1, c1, rfl, HV0, hm⟩; have mk1 := Lib.hid (mk0.out.trans hm.out (by simp)); clear mk0 hm)
              | (go_at_call 19; refine (cX0.out _ _ HV0).mono ?_; rintro e wa ⟨rfl, hm⟩; have mk2 := Lib.hid (mk1.out.trans hm.out (by simp)); clear mk1 hm HV0)
              | (go_at_call 10; refine (cP0.out _ mk2.out).mono ?_; rintro e wa ⟨A1, c1, rfl, HV1, hm⟩; have mk3 := Lib.hid (mk2.out.trans hm.out (by simp)); clear mk2 hm)
              | (go_at_call 19; refine (cX0.out _ _ HV1).mono ?_; rintro e wa ⟨rfl, hm⟩; have mk4 := Lib.hid (mk3.out.trans hm.out (by simp)); clear mk3 hm HV1)
              | (go_at_call 10; refine (cQ1.out _ mk4.out).mono ?_; rintro e wa ⟨A1, c1, rfl, HV2, hm⟩; have mk5 := Lib.hid (mk4.out.trans hm.out (by simp)); clear mk4 hm)
              | (go_at_call 19; refine (cX1.out _ _ HV2).mono ?_; rintro e wa ⟨rfl, hm⟩; have mk6 := Lib.hid (mk5.out.trans hm.out (by simp)); clear mk5 hm HV2)
              | (go_at_call 10; refine (cP1.out _ mk6.out).mono ?_; rintro e wa ⟨A1, c1, rfl, HV3, hm⟩; have mk7 := Lib.hid (mk6.out.trans hm.out (by simp)); clear mk6 hm)
              | (go_at_call 19; refine (cX1.out _ _ HV3).mono ?_; rintro e wa ⟨rfl, hm⟩; have mk8 := Lib.hid (mk7.out.trans hm.out (by simp)); clear mk7 hm HV3))
            go_meet
            exact ⟨b', rfl, fx, gp', _, _, HKn.out.still mk8.out⟩
          · as_aux_lemma =>
            have cWr := Lib.hid (kWrite HK.out hi9 hs hk himg)
            have n4 : ¬ (r : Int) = 4 := by omega
            have n5 : ¬ (r : Int) = 5 := by omega
            have n6 : ¬ (r : Int) = 6 := by omega
            have n7 : ¬ (r : Int) = 7 := by omega
            go_wp2_with fail
            refine cWr.out.mono ?_
            rintro e wm ⟨c, fx', gp', P', rfl, HC, HMM⟩
            have hbat := HAW.out.keep HMM.out HNF.out
            have g0 := hbat.cell (i := 0) rfl
            have g1 := hbat.cell (i := 1) rfl
            rcases HC.out with ⟨rfl, hK⟩ | ⟨rfl, hL, hK⟩
            · obtain ⟨wn, hupd, HK1⟩ := hK.stored hs hk
              clear hK HC hbat
              go_wp2_with fail
              go_meet
              exact ⟨b, rfl, fx', gp', P', _, HK1.out⟩
            · have HK1 := Lib.hid hK
              obtain ⟨T2, hT2⟩ : ∃ T2, P'.tab s = T2 := ⟨_, rfl⟩
              have cTb := Lib.hid (oTable HK1.out.own hs hT2)
              have cLf := Lib.hid (fun (w : World) (v : Value) (h : Hid (TabAt w v T2)) => oLeft h)
              rw [hT2] at hL
              rw [hL] at cLf
              clear hK HC hbat hL hT2
              go_wp2_with (first | (go_at_call 10; refine cTb.out.mono ?_; rintro e w1 ⟨At, ct, rfl, HTA, HM1⟩) | (go_at_call 11; refine (cLf.out _ _ HTA).mono ?_; rintro e w2 ⟨rfl, HM2⟩))
              go_meet
              exact ⟨b, rfl, fx', gp', P', _, (HK1.out.still HM1.out).still HM2.out⟩
        case rest =>
          obtain ⟨b2, rfl, HKW⟩ := hcut
          obtain ⟨wo, hwo⟩ : ∃ wo : World, wo = wc := ⟨_, rfl⟩
          subst hwo
          clear HAW HNF HK HT HLT
          obtain ⟨fx, gp, P, K, hKW⟩ := HKW.out
          obtain ⟨w1, left, hrg, HRI⟩ := hKW.range
          obtain ⟨rr, hrr⟩ : ∃ rr, wo.heap.size = rr := ⟨_, rfl⟩
          rw [hrr] at hrg HRI
          clear hKW hrr
          go_wp2_with fail
          go_loopw [] (fun wr => ∃ left, RIn W wr x bm b2 fx gp P K (i + 1) rr left) (fun wr => leftW wr rr bm)
          case atStart => exact ⟨left, HRI.out⟩
          case round =>
            clear HRI
            obtain ⟨left, hR⟩ := hrel
            have hl : leftW wr rr bm = left := by obtain ⟨D, hD⟩ := hR.rng; exact hD.leftW
            rcases hR.next with ⟨_, hnx⟩ | ⟨s2, k2, v, w5, left1, hs2, hk2, hrd, hnx, hen, HR5, hlt1⟩
            · have HKF := Lib.hid hR.kin
              clear hR hl
              go_wp2_with fail
              go_roundw
              case rel => exact ⟨b2, i + 1, by omega, rfl, by go_num, fx, gp, P, K, HKF.out⟩
              case measure => simp [intOf]; omega
            · obtain ⟨w6, hw6⟩ : ∃ w6, w5.alloc (.cells #[.int .i64 (s2 : Nat), .int .i64 (k2 : Nat)] 32) = w6 := ⟨_, rfl⟩
              have hm6 : Mods [] w5 w6 := by rw [← hw6]; exact (Mods.refl _ _).alloc _
              have hb6 : Blk w6 w5.heap.size 32 [.int .i64 (s2 : Nat), .int .i64 (k2 : Nat)] := by rw [← hw6]; exact Blk.new w5 32 _
              have cRd := Lib.hid ((HR5.out.still hm6).read (by omega) hs2 hrd)
              have g0 := hb6.cell (i := 0) rfl
              have g1 := hb6.cell (i := 1) rfl
              have HLL := Lib.hid (And.intro hl hlt1)
              clear hR hl hlt1 hm6 hb6
              go_wp2_with (go_at_call 16; refine cRd.out.mono ?_; rintro e w7 ⟨rfl, HR7⟩)
              go_roundw
              case rel => exact ⟨_, HR7.out⟩
              case measure =>
                have h7 : leftW w7 rr bm = left1 := by obtain ⟨D, hD⟩ := HR7.out.rng; exact hD.leftW
                rw [h7, HLL.out.1]; exact HLL.out.2
    · obtain rfl : i = q := by omega
      have HW := Lib.hid hW
      clear hW
      go_wp2_with fail
      go_ret
      obtain ⟨fx, gp, P, K, h⟩ := HW.out
      exact ⟨rfl, h.own.mods⟩
theorem readables_remapKeeps : ∀ t ∈ (#[22] : Array TypeId).toList, Try.prog.readableRec t = true ∧ t < Try.prog.types.size := by
  intro t ht
  simp only [List.mem_cons, List.not_mem_nil, or_false] at ht
  rcases ht with rfl
  all_goals exact ⟨by kernel_rfl, of_decide_eq_true (by kernel_rfl)⟩

set_option maxRecDepth 100000 in
theorem remapKeeps_contract (H : Type) (enc : TypeId × Value → H) (W : World) (base : Nat) (args : Array Value) (ds gs : List (DataW H)) (before : List MemPlace)
    (hval : ∀ (j : Nat) t v, Try.f3.params[j]? = some t → args[j]? = some v → Value.okWide Try.prog W .any base t v)
    (hW : DataW.Whole enc Try.prog Try.f3.params.toList Rows.remapKeepsSpec.vars false W args.toList ds gs before)
    (hsz : (DataW.weightsEach Try.prog (Try.f3.params.toList ++ Rows.remapKeepsSpec.plain.varTypes Try.prog) (ds ++ gs)).all (· ≤ reachBytes) = true) :
    Calls Try.prog 3 args W fun e W' => ∃ v, e = .returned v ∧ Rows.remapKeepsSpec.post enc Try.prog Try.f3 false true false false W args v W' := by
  have hW' := hW
  obtain ⟨p, q, hA0, hV, he, hfz, hnd⟩ := hW
  have hA : DataW.TrodAll enc Try.prog W 0 (fun _ => true) true Try.f3.params.toList args.toList ds p := hA0
  rw [Try.params3] at hA hval hsz
  obtain ⟨v0, vs0, d0, ds0, p0, q0, hargs, rfl, rfl, h0, r0⟩ := trodAll_cons hA
  obtain ⟨rfl, rfl, rfl⟩ := trodAll_nil r0
  obtain rfl : args = #[v0] := by cases args; simp_all
  have hs_acts : ∀ n ∈ d0.weights Try.prog 22, n ≤ reachBytes := fun n hn => by simpa using List.all_eq_true.1 hsz n (DataW.weights_mem_each (j := 0) (t := 22) (d := d0) rfl rfl n hn)
  obtain ⟨actsA, actsLen, actsCap, acts, rfl, actsRow, actsL, actsC, actsM, actsR⟩ := acts7_open (hval 0 22 v0 rfl rfl) h0 hs_acts
  refine (remapKeeps_walk actsA actsLen actsCap acts W actsRow actsL actsC actsM actsR).mono fun e W' ⟨he', hm⟩ => ?_
  subst he'
  exact ⟨_, rfl, post_law laidOut (by rw [Try.params3]; exact readables_remapKeeps) (by rfl) Try.underlying4 rfl rfl hW' hm.below⟩

set_option maxRecDepth 100000 in
theorem remapKeeps_lifted (os : Os) (started : os.Started) (H : Type) (enc : TypeId × Value → H) :
    ReturnsInHanded {} Try.checked os 3 .any (Rows.remapKeepsSpec.pre6 enc Try.prog Try.f3 Rows.remapKeepsRow.domain false) (Rows.remapKeepsSpec.post enc Try.prog Try.f3 false true false false) := by
  refine returnsInHanded_of_change_sized (C := Try.checked) own started (by kernel_rfl) Try.func3
    (ChangeSpec.witness6 (enc := enc) (C := Try.checked) false ⟨#[], #[.slice none 0 0], []⟩ 8 (by kernel_rfl) (by kernel_rfl) (by kernel_rfl) (by kernel_rfl)) ?_
  intro W base args ds gs before hval hW _ hsz _
  exact remapKeeps_contract H enc W base args ds gs before hval hW hsz

/-- The law. -/
theorem remapKeeps_said : Rows.RemapKeepsSaid :=
  OpenClaim.holds_of_wide 3 Try.f3 rfl rfl rfl rfl rfl rfl rfl ⟨rfl, rfl, rfl, rfl, rfl⟩ rfl rfl rfl rfl rfl (by kernel_rfl) Try.func3 (by kernel_rfl)
    (of_decide_eq_true (by kernel_rfl)) (by unfold Func.isWrapper; first | (rw [if_pos (by decide +kernel)]; kernel_rfl) | (rw [if_neg (by decide +kernel)]; exact ⟨rfl, rfl⟩))
    (fun os started H enc _ => remapKeeps_lifted os started H enc)
end Go.Proofs.Ytnpfhfgegjocoaa
