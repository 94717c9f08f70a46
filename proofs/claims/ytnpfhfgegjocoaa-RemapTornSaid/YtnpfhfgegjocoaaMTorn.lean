/- RemapTorn: whatever the moves, cuts and fates are, the law answers true. No condition but the form's own. -/
import Derived.Test.YtnpfhfgegjocoaaMTo
import Derived.Test.YtnpfhfgegjocoaaMG
import Derived.Test.YtnpfhfgegjocoaaMA
import Derived.OpenShut
import Derived.Outline
namespace Go.Proofs.Ytnpfhfgegjocoaa
open Go.ChangeShapes Go.WideShapes Go.ChangeAt Go.RowKit

theorem info_u8T : (Try.prog.info? 5).map (fun i => (i.zero, i.size, i.bytes)) = some (some (.int .u8 0), 1, 1) := by kernel_rfl
theorem info_fateT : (Try.prog.info? 54).map (fun i => (i.zero, i.size, i.bytes)) = some (some (.int .i64 0), 1, 8) := by kernel_rfl
theorem fate_snoc (zs : List Nat) {i z : Nat} (h : zs[i]? = some z) : fateRow (zs.take i) ++ [.int .i64 (z : Nat)] = fateRow (zs.take (i + 1)) := by
  unfold fateRow
  rw [List.take_add_one, h, List.map_append]
  rfl
/-- What the moves keep. -/
structure TornIn (W w0 wr : World) (F : List Nat) (x : Nat → Nat) (fx : Nat → List Nat) (b : Nat) (gp : List Nat) (P : Pr) : Prop where
  own : OwnT W F wr x fx b gp P
  tp : TP P
  safe : Safe F w0 wr
set_option maxRecDepth 100000 in
set_option maxHeartbeats 12800000 in
theorem remapTorn_walk (Am : Option Addr) (lm cm : Nat) (ms : List Nat) (Ac : Option Addr) (lc cc : Nat) (cs : List Nat) (Af : Option Addr) (lf cf : Nat) (zs : List Nat) (W : World)
    (hrm : Row W Am (u8sOf ms)) (hm1 : ms.length = lm) (hm2 : lm ≤ cm) (hm3 : cm ≤ maxLen) (hm4 : ∀ z ∈ ms, z < 256)
    (hrc : Row W Ac (u8sOf cs)) (hc1 : cs.length = lc) (_hc3 : lc ≤ maxLen) (hc4 : ∀ z ∈ cs, z < 256)
    (hrf : Row W Af (u8sOf zs)) (hf1 : zs.length = lf) (hf2 : lf ≤ cf) (hf3 : cf ≤ maxLen) (hf4 : ∀ z ∈ zs, z < 256) :
    Calls Try.prog 4 #[.slice Am lm cm, .slice Ac lc cc, .slice Af lf cf] W fun e w' => e = .returned (.bool true) ∧ Mods [] W w' := by
  have HRM := Lib.hid hrm
  have HRC := Lib.hid hrc
  have HRF := Lib.hid hrf
  have HLM := Lib.hid hm1
  have HLC := Lib.hid hc1
  have HLF := Lib.hid hf1
  have HZM := Lib.hid hm4
  have HZC := Lib.hid hc4
  have HZF := Lib.hid hf4
  clear hrm hrc hrf hm1 hc1 hf1 hm4 hc4 hf4
  unfold maxLen at hm3 hf3
  obtain ⟨q, hq⟩ : ∃ q : Nat, min (lf : Int) 10 = (q : Int) := ⟨min lf 10, by omega⟩
  have hql : q ≤ lf := by omega
  have hq10 : q ≤ 10 := by omega
  obtain ⟨qm, hqm⟩ : ∃ q : Nat, min (lm : Int) 12 = (q : Int) := ⟨min lm 12, by omega⟩
  have hqml : qm ≤ lm := by omega
  have hqm12 : qm ≤ 12 := by omega
  obtain ⟨i8, hi8, _, _, _⟩ := info_parts info_u8T
  have hslf := fun (k : Int) (h0 : 0 ≤ k) (h1 : k ≤ cf) (W : World) => run_prefix Try.prog 52 5 i8 Af lf cf k W Try.underlying52 hi8 h0 h1
  have hslm := fun (k : Int) (h0 : 0 ≤ k) (h1 : k ≤ cm) (W : World) => run_prefix Try.prog 52 5 i8 Am lm cm k W Try.underlying52 hi8 h0 h1
  go_enter Try.func4, Try.ntmps4
  go_upto_region 2 with (go_at_call 7; refine qFreshT.mono ?_; rintro e w1 ⟨x, fx, b, gp, P, rfl, HO1, HT1⟩)
  go_upto_region 4 with (go_at_call 8; refine qWakes_any.mono ?_; rintro e w5 ⟨rfl, hm5⟩)
  have HO5 := Lib.hid (HO1.out.calm hm5)
  clear HO1 hm5
  go_wp2_with fail
  go_loopw [11, 44] (fun fv kv wr => ∃ (i : Nat), i ≤ q ∧ kv = .int .i64 (i : Nat) ∧ wr.ownsRow w5.heap.size 54 1 fv i (fateRow (zs.take i)) ∧ Mods [] w5 wr) (fun _ kv _ => q - (intOf kv).toNat)
  case atStart => exact ⟨0, by omega, rfl, World.ownsRow_nil _ _ _ _, Mods.refl _ _⟩
  case round =>
    obtain ⟨i, hi, rfl, hown, hM⟩ := hrel
    have HM := Lib.hid hM
    obtain ⟨A13, cap13, hv13, _⟩ := owns_shapeD hown
    subst hv13
    by_cases hlt : i < q
    · have hlti : (i : Int) < (q : Int) := by omega
      have hzi : i < zs.length := by rw [HLF.out]; omega
      obtain ⟨z, hz⟩ : ∃ z, zs[i] = z := ⟨_, rfl⟩
      have hzb : z < 256 := by rw [← hz]; exact HZF.out _ (List.getElem_mem hzi)
      obtain ⟨bz, oz, rfl, hcl⟩ := ((HRF.out.keep0 HO5.out.mods).keep0 hM).at (i := i) (u := .int .u8 (z : Nat)) (by unfold u8sOf; rw [List.getElem?_map, List.getElem?_eq_getElem hzi, hz]; rfl)
      have hzw : IntKind.i64.wrap (z : Int) = (z : Int) := by rw [IntKind.wrap_i64]; omega
      have HSN := Lib.hid (fate_snoc zs (i := i) (z := z) (by rw [List.getElem?_eq_getElem hzi, hz]))
      obtain ⟨wa, hwa⟩ : ∃ wa, wr.alloc (.cells #[.int .i64 (z : Nat)] 54) = wa := ⟨_, rfl⟩
      have hma : Mods [] wr wa := by rw [← hwa]; exact (Mods.refl _ _).alloc _
      have HMA := Lib.hid (hM.trans hma (by simp))
      have HROW := Lib.hid (owns_keepF hown hma (by simp))
      have hcn : ∀ j u, [Value.int .i64 (z : Nat)][j]? = some u → wa.cell? ((⟨wr.heap.size, 0, none⟩ : Addr).add j) = some u := fun j u hj => by
        rw [addr_add0, ← hwa]
        exact (Blk.new wr 54 [.int .i64 (z : Nat)]).cell hj
      have hsz : wa.heap.size = wr.heap.size + 1 := by rw [← hwa]; simp
      have hbase : w5.heap.size ≤ wa.heap.size := HMA.out.size
      obtain ⟨i0, hi0, hz1, hz2, hz3⟩ := info_parts info_fateT
      clear hzi hz hM hma hown hzb
      go_wp2_with (first
        | (at_builtin; refine wpList_append_lies _ rfl (.tmp 48) (.tmp 51) 53 rfl w5.heap.size 54 i0 (.int .i64 0) 1 8 Try.underlying53 hi0 hz1 hz2 hz3 rfl (by decide) _ _ _ rfl HROW.out ⟨wr.heap.size, 0, none⟩ 1 1 [.int .i64 (z : Nat)] rfl rfl hcn (by simp [Value.oneCell']) (by decide) (by simp only [maxLen]; omega) (by omega) hbase (wr.heap.size + 1) hsz ?_; intro g2 cap2 w8 hown3 hg3 hat3 hlt3)
        | fail)
      go_roundw
      case rel =>
        refine ⟨i + 1, by omega, by go_num, by rw [← HSN.out]; exact hown3, HMA.out.grown hg3 (fun k hk => .inr ?_)⟩
        exact (HROW.out.lt k hk).1
      case measure => simp [intOf]; omega
    · obtain rfl : i = q := by omega
      have hlti : ¬ (i : Int) < (i : Int) := by omega
      obtain ⟨w6, hw6⟩ : ∃ w6 : World, w6 = wr := ⟨_, rfl⟩
      subst hw6
      obtain ⟨fs, hfs⟩ : ∃ fs, zs.take i = fs := ⟨_, rfl⟩
      rw [hfs] at hown
      have HFL : Hid (fs.length = i) := Lib.hid (by rw [← hfs, List.length_take, HLF.out]; omega)
      have HFB : Hid (∀ f ∈ fs, f ≤ 1000000) := Lib.hid (fun f hf => by have := HZF.out f (List.mem_of_mem_take (by rw [hfs]; exact hf)); omega)
      obtain ⟨F, hF⟩ : ∃ F, (Value.slice A13 i cap13).ownBlock.toList = F := ⟨_, rfl⟩
      have HO6 : Hid (OwnT W F w6 x fx b gp P) := Lib.hid (HO5.out.wider HM.out (fun g hg => .inr (by rw [← hF] at hg; exact owns_ltF hown (Option.mem_toList.1 hg))))
      have HRW6 : Hid (Row w6 A13 (fateRow fs)) := Lib.hid (by
        obtain ⟨A', c', e', hr', _⟩ := row_of_owns hown
        injection e' with e1 _ _
        subst e1
        exact hr')
      have HAF : Hid (∀ a, A13 = some a → a.block ∈ F) := Lib.hid (fun a ha => by
        obtain ⟨_, h5⟩ := hown
        rcases h5 with ⟨e5, _⟩ | ⟨g5, cap5, cur5, e5, _⟩
        · injection e5 with e5; rw [e5] at ha; cases ha
        · injection e5 with e5
          rw [e5] at ha
          injection ha with ha
          subst ha
          rw [← hF, e5]
          simp [Value.ownBlock])
      have HT6 : Hid (TornIn W w6 w6 F x fx b gp P) := Lib.hid ⟨HO6.out, HT1.out, Safe.of (Mods.refl _ _)⟩
      have HI10 : Hid (i ≤ 10) := Lib.hid hq10
      clear hown hfs HM HO5 HO6 HT1 hF hslf hq hql hq10 hi hlt HRF HLF HZF
      go_wp2_with fail
      go_loopw [9, 60] (fun pv kv wq => ∃ (j b : Nat) (fx : Nat → List Nat) (gp : List Nat) (P : Pr), j ≤ qm ∧ kv = .int .i64 (j : Nat) ∧ pv = .pointer (some ⟨b, 0, none⟩) ∧ TornIn W w6 wq F x fx b gp P) (fun _ kv _ => qm - (intOf kv).toNat)
      case atStart => exact ⟨0, b, fx, gp, P, by omega, rfl, rfl, HT6.out⟩
      case round =>
        clear HT6
        clear fx gp P
        obtain ⟨j, b, fx, gp, P, hj, rfl, rfl, hT⟩ := hrel
        have HT := Lib.hid hT
        clear hT
        by_cases hjm : j < qm
        · have hjmi : (j : Int) < (qm : Int) := by omega
          have hzj : j < ms.length := by rw [HLM.out]; omega
          obtain ⟨z, hz⟩ : ∃ z, ms[j] = z := ⟨_, rfl⟩
          have hzb : z < 256 := by rw [← hz]; exact HZM.out _ (List.getElem_mem hzj)
          obtain ⟨bz, oz, rfl, hcl⟩ := (HRM.out.keep0 HT.out.own.mods).at (i := j) (u := .int .u8 (z : Nat)) (by unfold u8sOf; rw [List.getElem?_map, List.getElem?_eq_getElem hzj, hz]; rfl)
          obtain ⟨s, hs⟩ : ∃ s : Nat, (z : Int).tmod 2 = (s : Int) := ⟨z % 2, by rw [Int.tmod_eq_emod_of_nonneg (by omega)]; omega⟩
          have hs2 : s < 2 := by rw [Int.tmod_eq_emod_of_nonneg (by omega)] at hs; omega
          obtain ⟨h, hh⟩ : ∃ h : Nat, (z : Int).tdiv 2 = (h : Int) := ⟨z / 2, by rw [Int.tdiv_eq_ediv_of_nonneg (by omega)]; omega⟩
          have hh8 : h < 128 := by rw [Int.tdiv_eq_ediv_of_nonneg (by omega)] at hh; omega
          obtain ⟨k, hk⟩ : ∃ k : Nat, (h : Int).tmod 12 = (k : Int) := ⟨h % 12, by rw [Int.tmod_eq_emod_of_nonneg (by omega)]; omega⟩
          have hk12 : k < 12 := by rw [Int.tmod_eq_emod_of_nonneg (by omega)] at hk; omega
          have HZ := Lib.hid hzb
          clear hz hzj
          obtain ⟨T, hTT⟩ : ∃ T, P.tab s = T := ⟨_, rfl⟩
          have HTT := Lib.hid hTT
          have HOK : Hid (T.Ok) := Lib.hid (by rw [← hTT]; exact (HT.out.tp.side s hs2).ok)
          have cTb := Lib.hid (oTableT HT.out.own hs2 hTT HOK.out)
          clear hTT
          go_upto_region 15 with (first | (go_at_call 10; refine cTb.out.mono ?_; rintro e w7 ⟨A1, c1, rfl, HMV1, HG1, HM7⟩) | fail)
          obtain ⟨n1, hn1⟩ : ∃ n1, T.moved.length = n1 := ⟨_, rfl⟩
          have HN1 := Lib.hid hn1
          obtain ⟨w8, hw8⟩ : ∃ w8, w7.alloc (.cells #[.int .i64 (T.blocks : Nat), .int .i64 (T.spares : Nat), .slice A1 T.moved.length c1] 35) = w8 := ⟨_, rfl⟩
          obtain ⟨wb, hwb⟩ : ∃ wb, w7.heap.size = wb := ⟨_, rfl⟩
          have HB8 : Hid (Blk w8 wb 35 [.int .i64 (T.blocks : Nat), .int .i64 (T.spares : Nat), .slice A1 T.moved.length c1]) := Lib.hid (by rw [← hw8, ← hwb]; exact Blk.new w7 35 _)
          have HM8 : Hid (Mods [] wr w8) := Lib.hid (by rw [← hw8]; exact HM7.out.alloc _)
          have hwbl : wr.heap.size ≤ wb := by rw [← hwb]; exact HM7.out.size
          have HMV8 : Hid (IsMv w8 (.slice A1 T.moved.length c1) T.moved) := Lib.hid (IsMv.keep HMV1.out (by rw [← hw8]; exact (Mods.refl _ _).alloc _ : Mods [] w7 w8) (by simp))
          rw [hw8, hwb]
          have z0 := HB8.out.cell (i := 0) rfl
          have z1 := HB8.out.cell (i := 1) rfl
          have z2 := HB8.out.cell (i := 2) rfl
          clear hw8 hwb hn1 cTb HM7 HMV1
          have cMv := Lib.hid (tMove_any HMV8.out HOK.out (k : Int))
          unfold tabV at cMv
          obtain ⟨T2, hT2⟩ : ∃ T2, (T.move (k : Int)).1 = T2 := ⟨_, rfl⟩
          obtain ⟨sp, hsp⟩ : ∃ sp, (T.move (k : Int)).2 = sp := ⟨_, rfl⟩
          rw [hT2, hsp] at cMv
          have HT2 := Lib.hid (And.intro hT2 hsp)
          clear hT2 hsp
          go_upto_region 16 with (first | (go_at_call 21; refine cMv.out.mono ?_; rintro e w9 ⟨mv2, rfl, hmv2, hm9, hnew2⟩; obtain ⟨A2, c2, e2, _⟩ := mv_shape hmv2; subst e2; have HMV9 := Lib.hid hmv2; have HM9 := Lib.hid hm9; have HNEW2 := Lib.hid hnew2; clear hmv2 hm9 hnew2) | fail)
          obtain ⟨w10, hw10⟩ : ∃ w10, w9.alloc (.cells #[.int .i64 (T2.blocks : Nat), .int .i64 (T2.spares : Nat), .slice A2 T2.moved.length c2] 35) = w10 := ⟨_, rfl⟩
          obtain ⟨nb, hnb⟩ : ∃ nb, w9.heap.size = nb := ⟨_, rfl⟩
          have HB10 : Hid (Blk w10 nb 35 [.int .i64 (T2.blocks : Nat), .int .i64 (T2.spares : Nat), .slice A2 T2.moved.length c2]) := Lib.hid (by rw [← hw10, ← hnb]; exact Blk.new w9 35 _)
          have HM10 : Hid (Mods [] w8 w10) := Lib.hid (by rw [← hw10]; exact HM9.out.alloc _)
          have HMV10 : Hid (IsMv w10 (.slice A2 T2.moved.length c2) T2.moved) := Lib.hid (IsMv.keep HMV9.out (by rw [← hw10]; exact (Mods.refl _ _).alloc _ : Mods [] w9 w10) (by simp))
          have hnbl : w8.heap.size ≤ nb := by rw [← hnb]; exact HM9.out.size
          rw [hw10, hnb]
          obtain ⟨G, hG⟩ : ∃ G, wb :: nb :: ((Value.slice A1 T.moved.length c1).ownBlock.toList ++ ((Value.slice A2 T2.moved.length c2).ownBlock.toList ++ F)) = G := ⟨_, rfl⟩
          have HGM : Hid (wb ∈ G ∧ nb ∈ G ∧ (∀ g, (Value.slice A1 T.moved.length c1).ownBlock = some g → g ∈ G) ∧ (∀ g, (Value.slice A2 T2.moved.length c2).ownBlock = some g → g ∈ G) ∧ ∀ g ∈ F, g ∈ G) := Lib.hid (by
            rw [← hG]
            refine ⟨by simp, by simp, fun g hg => ?_, fun g hg => ?_, fun g hg => ?_⟩
            · exact List.mem_cons_of_mem _ (List.mem_cons_of_mem _ (List.mem_append_left _ (Option.mem_toList.2 hg)))
            · exact List.mem_cons_of_mem _ (List.mem_cons_of_mem _ (List.mem_append_right _ (List.mem_append_left _ (Option.mem_toList.2 hg))))
            · exact List.mem_cons_of_mem _ (List.mem_cons_of_mem _ (List.mem_append_right _ (List.mem_append_right _ hg))))
          have HO10 : Hid (OwnT W G w10 x fx b gp P) := Lib.hid (by
            have hm := HM8.out.trans HM10.out (by simp)
            have hc := HT.out.own.calm hm
            have hs10 := hm.size
            have hb8 := HB8.out.lt
            have hb10 := HB10.out.lt
            have hs9 := HM10.out.size
            refine hc.guard (fun g hg => ?_)
            rw [← hG] at hg
            rcases List.mem_cons.1 hg with e | hg
            · subst e; exact ⟨by omega, HT.out.own.free (.inr hwbl)⟩
            · rcases List.mem_cons.1 hg with e | hg
              · subst e; exact ⟨hb10, HT.out.own.free (.inr (by have := HM8.out.size; omega))⟩
              · rcases List.mem_append.1 hg with hg | hg
                · obtain ⟨a1, a2, a3⟩ := HG1.out g (Option.mem_toList.1 hg)
                  exact ⟨by omega, a2, a3⟩
                · rcases List.mem_append.1 hg with hg | hg
                  · have h1 := HNEW2.out g (Option.mem_toList.1 hg)
                    have h2 := (owns_ltF HMV10.out (Option.mem_toList.1 hg)).2
                    exact ⟨h2, HT.out.own.free (.inr (by have := HM8.out.size; omega))⟩
                  · have := HT.out.own.lt g hg
                    exact ⟨by omega, HT.out.own.free (.inl hg)⟩)
          have HB8' := Lib.hid (HB8.out.keep HM10.out (by simp))
          have HMV8' := Lib.hid (IsMv.keep HMV8.out HM10.out (by simp))
          have HS10 := Lib.hid (HT.out.safe.trans (Safe.of (HM8.out.trans HM10.out (by simp))))
          clear z0 z1 z2 hw10 hnb cMv HM9 HMV9 HNEW2 HB8 HMV8 HG1 hG HM8 hwbl hnbl
          have hz1 : (decide ((128 : Int) ≤ (z : Int))) = decide (128 ≤ z) := by rw [decide_eq_decide]; omega
          go_upto_region 17 with fail
          go_upto_if 83 with fail
          go_cut [21] from 61 to 166 (fun dv wx => ∃ d, d < 2 ∧ dv = .pointer (some ⟨x d, 0, none⟩) ∧ wx = w10)
          case first =>
            by_cases hz128 : 128 ≤ z
            · have hz128i : (128 : Int) ≤ (z : Int) := by omega
              go_wp2_with fail
              go_meet
              exact ⟨1, by decide, rfl, rfl⟩
            · have hz128i : ¬ (128 : Int) ≤ (z : Int) := by omega
              go_wp2_with fail
              go_meet
              exact ⟨0, by decide, rfl, rfl⟩
          case rest =>
          obtain ⟨d, hd2, rfl, hwc⟩ := hcut
          replace hwc := hwc.symm
          subst hwc
          clear hz1
          obtain ⟨bl, hbl⟩ : ∃ bl, decide ((j : Int) < (lc : Int)) = bl := ⟨_, rfl⟩
          go_upto_region 19 with fail
          go_upto_if 88 with fail
          have HBL : Hid (bl = true ↔ j < lc) := Lib.hid (by rw [← hbl, decide_eq_true_eq]; omega)
          clear hbl
          go_cut [21] from 85 to 96 (fun dv wx => dv = .pointer (some ⟨x d, 0, none⟩) ∧ ∃ P1 : Pr, Hid (OwnT W G wx x fx b gp P1) ∧ Hid (Safe G w10 wx) ∧ Hid ((∃ fu : Nat → Nat, ∀ k, k < 2 → P1.dev k = withFuse (P.dev k) (fu k)) ∧ (∀ k, P1.tab k = P.tab k) ∧ P1.n = P.n))
          case first =>
            by_cases hjc : j < lc
            · obtain rfl : bl = true := HBL.out.2 hjc
              have hjci : (j : Int) < (lc : Int) := by omega
              have hzj : j < cs.length := by rw [HLC.out]; exact hjc
              obtain ⟨y, hy⟩ : ∃ y, cs[j] = y := ⟨_, rfl⟩
              have hyb : y < 256 := by rw [← hy]; exact HZC.out _ (List.getElem_mem hzj)
              obtain ⟨bc, oc, rfl, hcl2⟩ := (HRC.out.keep0 HO10.out.mods).at (i := j) (u := .int .u8 (y : Nat)) (by unfold u8sOf; rw [List.getElem?_map, List.getElem?_eq_getElem hzj, hy]; rfl)
              obtain ⟨y6, hy6⟩ : ∃ y6 : Nat, (y : Int).tmod 6 = (y6 : Int) := ⟨y % 6, by rw [Int.tmod_eq_emod_of_nonneg (by omega)]; omega⟩
              have hy6l : y6 < 6 := by rw [Int.tmod_eq_emod_of_nonneg (by omega)] at hy6; omega
              have cFu := Lib.hid (oFuse HO10.out hd2 y6 (by omega))
              have HYP : Hid (∀ k, k < 2 → (P.setDev d (withFuse (P.dev d) y6)).dev k = withFuse (P.dev k) (if k = d then y6 else 0)) := Lib.hid (fun k hk => by
                show (if k = d then withFuse (P.dev d) y6 else P.dev k) = _
                by_cases e : k = d
                · rw [if_pos e, if_pos e, e]
                · rw [if_neg e, if_neg e, (HT.out.tp.dev k hk).fuse0])
              clear hy hzj
              go_wp2_with (first | (go_at_call 22; refine cFu.out.mono ?_; rintro e w11 ⟨rfl, HO11, HS11⟩) | fail)
              go_meet
              exact ⟨rfl, _, HO11, HS11, Lib.hid ⟨⟨_, HYP.out⟩, fun _ => rfl, rfl⟩⟩
            · obtain rfl : bl = false := by
                cases bl with
                | false => rfl
                | true => exact absurd (HBL.out.1 rfl) hjc
              go_wp2_with fail
              go_meet
              exact ⟨rfl, P, HO10, Lib.hid (Safe.of (Mods.refl _ _)), Lib.hid ⟨⟨fun _ => 0, fun k hk => ((HT.out.tp.dev k hk).fuse0).symm⟩, fun _ => rfl, rfl⟩⟩
          case rest =>
          obtain ⟨rfl, P1, HO11, HS11, HP1⟩ := hcut
          obtain ⟨w11, hw11⟩ : ∃ w11 : World, w11 = wc := ⟨_, rfl⟩
          subst hw11
          obtain ⟨⟨fu, hfu⟩, htab1, hn1⟩ := HP1.out
          have hdev0 : ∀ q, q < 2 → (P1.dev q).cache.length ≤ 0 := fun q hq => by
            rw [hfu q hq]
            show (P.dev q).cache.length ≤ 0
            rw [(HT.out.tp.dev q hq).cache]; exact Nat.le_refl _
          have cMo0 := oMoveT (i := k) HO11.out hs2 (by rw [htab1, hn1, HT.out.tp.n]; exact (HT.out.tp.side s hs2).spares) (fun q hq => by have := hdev0 q hq; omega)
          have hmc := move_cacheT (P := P1) hs2 (k : Int) hdev0
          have hmt : ∀ q, q ≠ s → (P1.move s (k : Int)).2.tab q = P.tab q := fun q hq => by rw [move_tabT _ _ _ hq, htab1]
          obtain ⟨T3, hQ, halt⟩ := torn_step HT.out.tp fu hfu (fun q _ => htab1 q) hs2 hk12 fs
          obtain ⟨r, hr⟩ : ∃ r, P1.move s (k : Int) = r := ⟨_, rfl⟩
          rw [hr] at cMo0 hmc hmt hQ halt
          have cMo := Lib.hid cMo0
          have HMC := Lib.hid hmc
          have HMT := Lib.hid hmt
          have HQ := Lib.hid hQ
          have HALT := Lib.hid halt
          obtain ⟨ec, hec⟩ : ∃ ec, r.1 = ec := ⟨_, rfl⟩
          rw [hec] at cMo HALT
          clear cMo0 hmc hmt hQ halt hr hec hdev0 hfu htab1 hn1
          go_upto_region 22 with (first | (go_at_call 12; refine cMo.out.mono ?_; rintro e w12 ⟨gp', fx', rfl, HO12, HS12⟩) | fail)
          have HRW12 : Hid (Row w12 A13 (fateRow fs)) := Lib.hid (((HS10.out.trans (HS11.out.less (fun g hg => HGM.out.2.2.2.2 g hg))).trans (HS12.out.less (fun g hg => HGM.out.2.2.2.2 g hg))).row HRW6.out HAF.out)
          have HAG : Hid (∀ a, A13 = some a → a.block ∈ G) := Lib.hid (fun a ha => HGM.out.2.2.2.2 _ (HAF.out a ha))
          have hi6 : i ≤ 1000000 := by have := HI10.out; omega
          have cC0 := Lib.hid (oCrashT HO12.out (d := 0) (by decide) (cap := cap13) (by have := HMC.out 0 (by decide); omega) HRW12.out HFL.out hi6 HFB.out HAG.out)
          clear cMo
          go_upto_region 23 with (first | (go_at_call 23; refine cC0.out.mono ?_; rintro e w13 ⟨fx3, rfl, HO13, HS13⟩) | fail)
          have cC1 := Lib.hid (oCrashT HO13.out (d := 1) (by decide) (cap := cap13) (by have := HMC.out 1 (by decide); show (r.2.dev 1).cache.length < 1000000; omega) (HS13.out.row HRW12.out HAG.out) HFL.out hi6 HFB.out HAG.out)
          clear cC0
          go_upto_region 24 with (first | (go_at_call 23; refine cC1.out.mono ?_; rintro e w14 ⟨fx4, rfl, HO14, HS14⟩) | fail)
          clear cC1
          obtain ⟨P3, hP3⟩ : ∃ P3, (r.2.setDev 0 ((r.2.dev 0).crash fs)).setDev 1 (((r.2.setDev 0 ((r.2.dev 0).crash fs)).dev 1).crash fs) = P3 := ⟨_, rfl⟩
          rw [hP3] at HO14
          have HP3 : Hid ((∀ q, q < 2 → (r.2.dev q).crash fs = P3.dev q) ∧ ∀ q, q ≠ s → P3.tab q = P.tab q) := Lib.hid (by
            rw [← hP3]
            refine ⟨fun q hq => ?_, fun q hq => HMT.out q hq⟩
            rcases two_cases hq with rfl | rfl <;> rfl)
          clear hP3 HMC HMT
          have cOp := Lib.hid (oOpenT HO14.out HQ.out HP3.out.1)
          go_upto_region 25 with (first | (go_at_call 18; refine cOp.out.mono ?_; rintro e w15 ⟨b2, gp2, rfl, HOQ, HOP, HS15⟩) | fail)
          clear cOp hi6
          -- what is there at the end of the round
          have HSG : Hid (Safe G w10 w15) := Lib.hid ((((HS11.out.trans HS12.out).trans HS13.out).trans HS14.out).trans HS15.out)
          have HBW := Lib.hid (HSG.out.blk HB8'.out HGM.out.1)
          have HBN := Lib.hid (HSG.out.blk HB10.out HGM.out.2.1)
          have HTW : Hid (TabAt w15 (.agg #[.int .i64 (T.blocks : Nat), .int .i64 (T.spares : Nat), .slice A1 T.moved.length c1]) T) := Lib.hid ⟨_, rfl, HSG.out.mv HMV8'.out HGM.out.2.2.1, HOK.out⟩
          obtain ⟨s1, hs1⟩ : ∃ s1, 1 - s = s1 := ⟨_, rfl⟩
          have hs12 : s1 < 2 := by omega
          have hsw : IntKind.i64.wrap (1 - (s : Int)) = (s1 : Int) := by rw [IntKind.wrap_i64]; omega
          have hs1s : s1 ≠ s := by omega
          obtain ⟨To, hTo⟩ : ∃ To, P.tab s1 = To := ⟨_, rfl⟩
          have HTO : Hid (To.Ok) := Lib.hid (by rw [← hTo]; exact (HT.out.tp.side s1 hs12).ok)
          obtain ⟨Q, hQ⟩ : ∃ Q : Pr, (⟨4, fun k => (r.2.dev k).crash fs, fun k => if k = s then T3 else P.tab k⟩ : Pr) = Q := ⟨_, rfl⟩
          have HQT : Hid ((anew Q).tab s = T3 ∧ (anew Q).tab s1 = To ∧ TP (anew Q) ∧ T3.Ok ∧ P3.tab s1 = To) := Lib.hid (by
            have hq := HQ.out
            rw [hQ] at hq
            obtain ⟨o1, o2, _, _⟩ := hq.open_
            have e3 : Q.tab s = T3 := by rw [← hQ]; show (if s = s then T3 else P.tab s) = T3; rw [if_pos rfl]
            refine ⟨(o2 s hs2).trans e3, (o2 s1 hs12).trans ?_, o1, ?_, (HP3.out.2 s1 hs1s).trans hTo⟩
            · rw [← hQ]; show (if s1 = s then T3 else P.tab s1) = To; rw [if_neg hs1s]; exact hTo
            · rw [← e3]; exact (hq.side s hs2).ok)
          rw [hQ] at HOQ
          have HNX : Hid (Safe F w6 w15) := Lib.hid (HS10.out.trans (HSG.out.less (fun g hg => HGM.out.2.2.2.2 g hg)))
          have HEND : Hid (∀ w, Mods [] w15 w → TornIn W w6 w F x fx4 b2 gp2 (anew Q)) := Lib.hid (fun w hm => ⟨(HOQ.out.calm hm).guard (fun g hg => ⟨Nat.lt_of_lt_of_le (HOQ.out.lt g (HGM.out.2.2.2.2 g hg)) hm.size, HOQ.out.free (.inl (HGM.out.2.2.2.2 g hg))⟩), HQT.out.2.2.1, HNX.out.trans (Safe.of hm)⟩)
          obtain ⟨Zi, hZi⟩ : ∃ Zi, bA (textL T3.moved) = Zi := ⟨_, rfl⟩
          obtain ⟨Zw, hZw⟩ : ∃ Zw, bA (textL T.moved) = Zw := ⟨_, rfl⟩
          obtain ⟨Zo, hZo⟩ : ∃ Zo, bA (textL To.moved) = Zo := ⟨_, rfl⟩
          have cQs := Lib.hid (fun (w : World) (hm : Mods [] w15 w) => oTableT (HOQ.out.calm hm) hs2 HQT.out.1 HQT.out.2.2.2.1)
          have cQo := Lib.hid (fun (w : World) (hm : Mods [] w15 w) => oTableT (HOQ.out.calm hm) hs12 HQT.out.2.1 HTO.out)
          have cPo := Lib.hid (fun (w : World) (hm : Mods [] w15 w) => oTableT (HOP.out.calm hm) hs12 HQT.out.2.2.2.2 HTO.out)
          have cX := Lib.hid (fun (w : World) (v : Value) (h : Hid (TabAt w v T3)) => oText h)
          have cW := Lib.hid (fun (w : World) (v : Value) (h : Hid (TabAt w v T)) => oText h)
          have cY := Lib.hid (fun (w : World) (v : Value) (h : Hid (TabAt w v To)) => oText h)
          rw [hZi] at cX
          rw [hZw] at cW
          rw [hZo] at cY
          have HZI := Lib.hid hZi
          have HZW := Lib.hid hZw
          have HOK3 := Lib.hid HQT.out.2.2.2.1
          clear hZi hZw hZo hQ hTo hs1 HS11 HS12 HS13 HS14 HS15 HO11 HO12 HO13 HO14 HP1 HRW12 HAG HB8' HB10 HMV8' HS10
          have mk0 : Hid (Mods [] w15 w15) := Lib.hid (Mods.refl _ _)
          have HKB : Hid (k < T.blocks) := Lib.hid (by rw [← HTT.out, (HT.out.tp.side s hs2).blocks]; exact hk12)
          have HSP : Hid (T.spares = 4) := Lib.hid (by rw [← HTT.out]; exact (HT.out.tp.side s hs2).spares)
          -- cases
          rcases HALT.out with ⟨hg, he, hT3⟩ | ⟨hg, he, hT3⟩ | ⟨hg, he, hT3⟩
          · rw [HTT.out] at hg hT3
            obtain rfl : ec = 6 := he
            obtain rfl : Zi = Zw := by rw [← HZI.out, ← HZW.out, hT3]
            obtain rfl : sp = 0 := by rw [← HT2.out.2, Tab.mv_ok HKB.out (by rw [HSP.out]; omega)]
            clear hT3 hg HALT
            go_wp2_with (first
              | (go_at_call 10; refine (cQs.out _ mk0.out).mono ?_; rintro e wa ⟨Aq, cq, rfl, hv, _, hm⟩; have HVQs : Hid (TabAt wa (.agg #[.int .i64 (T3.blocks : Nat), .int .i64 (T3.spares : Nat), .slice Aq T3.moved.length cq]) T3) := Lib.hid ⟨_, rfl, hv.out, HOK3.out⟩; have mk1 : Hid (Mods [] w15 wa) := Lib.hid (mk0.out.trans hm.out (by simp)); clear mk0 hm; clear hv)
              | (go_at_call 19; refine (cX.out _ _ HVQs).mono ?_; rintro e wa ⟨rfl, hm⟩; have mk2 : Hid (Mods [] w15 wa) := Lib.hid (mk1.out.trans hm.out (by simp)); clear mk1 hm; clear HVQs; have q0 := (HBW.out.keep0 mk2.out).cell (i := 0) rfl; have q1 := (HBW.out.keep0 mk2.out).cell (i := 1) rfl; have q2 := (HBW.out.keep0 mk2.out).cell (i := 2) rfl; have n0 := (HBN.out.keep0 mk2.out).cell (i := 0) rfl; have n1 := (HBN.out.keep0 mk2.out).cell (i := 1) rfl; have n2 := (HBN.out.keep0 mk2.out).cell (i := 2) rfl)
              | (go_at_call 19; refine (cW.out _ _ (Lib.hid (HTW.out.keep0 mk2.out))).mono ?_; rintro e wa ⟨rfl, hm⟩; have mk3 : Hid (Mods [] w15 wa) := Lib.hid (mk2.out.trans hm.out (by simp)); clear mk2 hm; have q0 := (HBW.out.keep0 mk3.out).cell (i := 0) rfl; have q1 := (HBW.out.keep0 mk3.out).cell (i := 1) rfl; have q2 := (HBW.out.keep0 mk3.out).cell (i := 2) rfl; have n0 := (HBN.out.keep0 mk3.out).cell (i := 0) rfl; have n1 := (HBN.out.keep0 mk3.out).cell (i := 1) rfl; have n2 := (HBN.out.keep0 mk3.out).cell (i := 2) rfl)
              | (go_at_call 10; refine (cQo.out _ mk3.out).mono ?_; rintro e wa ⟨Aq, cq, rfl, hv, _, hm⟩; have HVQo : Hid (TabAt wa (.agg #[.int .i64 (To.blocks : Nat), .int .i64 (To.spares : Nat), .slice Aq To.moved.length cq]) To) := Lib.hid ⟨_, rfl, hv.out, HTO.out⟩; have mk4 : Hid (Mods [] w15 wa) := Lib.hid (mk3.out.trans hm.out (by simp)); clear mk3 hm; clear hv)
              | (go_at_call 19; refine (cY.out _ _ HVQo).mono ?_; rintro e wa ⟨rfl, hm⟩; have mk5 : Hid (Mods [] w15 wa) := Lib.hid (mk4.out.trans hm.out (by simp)); clear mk4 hm; clear HVQo)
              | (go_at_call 10; refine (cPo.out _ mk5.out).mono ?_; rintro e wa ⟨Aq, cq, rfl, hv, _, hm⟩; have HVPo : Hid (TabAt wa (.agg #[.int .i64 (To.blocks : Nat), .int .i64 (To.spares : Nat), .slice Aq To.moved.length cq]) To) := Lib.hid ⟨_, rfl, hv.out, HTO.out⟩; have mk6 : Hid (Mods [] w15 wa) := Lib.hid (mk5.out.trans hm.out (by simp)); clear mk5 hm; clear hv)
              | (go_at_call 19; refine (cY.out _ _ HVPo).mono ?_; rintro e wa ⟨rfl, hm⟩; have mk7 : Hid (Mods [] w15 wa) := Lib.hid (mk6.out.trans hm.out (by simp)); clear mk6 hm; clear HVPo)
              | fail)
            go_roundw
            case rel => exact ⟨j + 1, b2, fx4, gp2, anew Q, by omega, by go_num, rfl, HEND.out _ mk7.out⟩
            case measure => simp [intOf]; omega
          · rw [HTT.out] at hg hT3
            obtain rfl : sp = 0 := by rw [← HT2.out.2, Tab.mv_ok HKB.out (by rw [HSP.out]; omega)]
            have hT23 : T3 = T2 := by rw [← HT2.out.1, Tab.mv_ok HKB.out (by rw [HSP.out]; omega), hT3]
            have hzne : ¬ Zi = Zw := by
              intro e
              have h1 := congrArg ByteArray.size (HZI.out.trans (e.trans HZW.out.symm))
              rw [bA_size, bA_size, textL_len, textL_len] at h1
              have h2 : T3.moved.length = T.moved.length + 1 := by rw [hT3]; simp
              omega
            have hzl : ¬ Zi.toList = Zw.toList := fun e => hzne (toList_inj e)
            have hzlb : (Zi.toList == Zw.toList) = false := beq_eq_false_iff_ne.2 hzl
            clear hT3 hg HALT HT2
            subst hT23
            have HTN : Hid (TabAt w15 (.agg #[.int .i64 (T3.blocks : Nat), .int .i64 (T3.spares : Nat), .slice A2 T3.moved.length c2]) T3) := Lib.hid ⟨_, rfl, HSG.out.mv HMV10.out HGM.out.2.2.2.1, HOK3.out⟩
            have cN := Lib.hid (fun (w : World) (v : Value) (h : Hid (TabAt w v T3)) => oText h)
            rw [HZI.out] at cN
            rcases he with rfl | rfl
            · as_aux_lemma =>
              go_wp2_with (first
                | (go_at_call 10; refine (cQs.out _ mk0.out).mono ?_; rintro e wa ⟨Aq, cq, rfl, hv, _, hm⟩; have HVQs : Hid (TabAt wa (.agg #[.int .i64 (T3.blocks : Nat), .int .i64 (T3.spares : Nat), .slice Aq T3.moved.length cq]) T3) := Lib.hid ⟨_, rfl, hv.out, HOK3.out⟩; have mk1 : Hid (Mods [] w15 wa) := Lib.hid (mk0.out.trans hm.out (by simp)); clear mk0 hm; clear hv)
                | (go_at_call 19; refine (cX.out _ _ HVQs).mono ?_; rintro e wa ⟨rfl, hm⟩; have mk2 : Hid (Mods [] w15 wa) := Lib.hid (mk1.out.trans hm.out (by simp)); clear mk1 hm; clear HVQs; have q0 := (HBW.out.keep0 mk2.out).cell (i := 0) rfl; have q1 := (HBW.out.keep0 mk2.out).cell (i := 1) rfl; have q2 := (HBW.out.keep0 mk2.out).cell (i := 2) rfl; have n0 := (HBN.out.keep0 mk2.out).cell (i := 0) rfl; have n1 := (HBN.out.keep0 mk2.out).cell (i := 1) rfl; have n2 := (HBN.out.keep0 mk2.out).cell (i := 2) rfl)
                | (go_at_call 19; refine (cN.out _ _ (Lib.hid (HTN.out.keep0 mk2.out))).mono ?_; rintro e wa ⟨rfl, hm⟩; have mk3 : Hid (Mods [] w15 wa) := Lib.hid (mk2.out.trans hm.out (by simp)); clear mk2 hm; have q0 := (HBW.out.keep0 mk3.out).cell (i := 0) rfl; have q1 := (HBW.out.keep0 mk3.out).cell (i := 1) rfl; have q2 := (HBW.out.keep0 mk3.out).cell (i := 2) rfl; have n0 := (HBN.out.keep0 mk3.out).cell (i := 0) rfl; have n1 := (HBN.out.keep0 mk3.out).cell (i := 1) rfl; have n2 := (HBN.out.keep0 mk3.out).cell (i := 2) rfl)
                | (go_at_call 19; refine (cW.out _ _ (Lib.hid (HTW.out.keep0 mk3.out))).mono ?_; rintro e wa ⟨rfl, hm⟩; have mk4 : Hid (Mods [] w15 wa) := Lib.hid (mk3.out.trans hm.out (by simp)); clear mk3 hm; have q0 := (HBW.out.keep0 mk4.out).cell (i := 0) rfl; have q1 := (HBW.out.keep0 mk4.out).cell (i := 1) rfl; have q2 := (HBW.out.keep0 mk4.out).cell (i := 2) rfl; have n0 := (HBN.out.keep0 mk4.out).cell (i := 0) rfl; have n1 := (HBN.out.keep0 mk4.out).cell (i := 1) rfl; have n2 := (HBN.out.keep0 mk4.out).cell (i := 2) rfl)
                | (go_at_call 19; refine (cN.out _ _ (Lib.hid (HTN.out.keep0 mk4.out))).mono ?_; rintro e wa ⟨rfl, hm⟩; have mk5 : Hid (Mods [] w15 wa) := Lib.hid (mk4.out.trans hm.out (by simp)); clear mk4 hm; have q0 := (HBW.out.keep0 mk5.out).cell (i := 0) rfl; have q1 := (HBW.out.keep0 mk5.out).cell (i := 1) rfl; have q2 := (HBW.out.keep0 mk5.out).cell (i := 2) rfl; have n0 := (HBN.out.keep0 mk5.out).cell (i := 0) rfl; have n1 := (HBN.out.keep0 mk5.out).cell (i := 1) rfl; have n2 := (HBN.out.keep0 mk5.out).cell (i := 2) rfl)
                | (go_at_call 10; refine (cQo.out _ mk5.out).mono ?_; rintro e wa ⟨Aq, cq, rfl, hv, _, hm⟩; have HVQo : Hid (TabAt wa (.agg #[.int .i64 (To.blocks : Nat), .int .i64 (To.spares : Nat), .slice Aq To.moved.length cq]) To) := Lib.hid ⟨_, rfl, hv.out, HTO.out⟩; have mk6 : Hid (Mods [] w15 wa) := Lib.hid (mk5.out.trans hm.out (by simp)); clear mk5 hm; clear hv)
                | (go_at_call 19; refine (cY.out _ _ HVQo).mono ?_; rintro e wa ⟨rfl, hm⟩; have mk7 : Hid (Mods [] w15 wa) := Lib.hid (mk6.out.trans hm.out (by simp)); clear mk6 hm; clear HVQo)
                | (go_at_call 10; refine (cPo.out _ mk7.out).mono ?_; rintro e wa ⟨Aq, cq, rfl, hv, _, hm⟩; have HVPo : Hid (TabAt wa (.agg #[.int .i64 (To.blocks : Nat), .int .i64 (To.spares : Nat), .slice Aq To.moved.length cq]) To) := Lib.hid ⟨_, rfl, hv.out, HTO.out⟩; have mk8 : Hid (Mods [] w15 wa) := Lib.hid (mk7.out.trans hm.out (by simp)); clear mk7 hm; clear hv)
                | (go_at_call 19; refine (cY.out _ _ HVPo).mono ?_; rintro e wa ⟨rfl, hm⟩; have mk9 : Hid (Mods [] w15 wa) := Lib.hid (mk8.out.trans hm.out (by simp)); clear mk8 hm; clear HVPo)
                | fail)
              go_roundw
              case rel => exact ⟨j + 1, b2, fx4, gp2, anew Q, by omega, by go_num, rfl, HEND.out _ mk9.out⟩
              case measure => simp [intOf]; omega
            · as_aux_lemma =>
              go_wp2_with (first
                | (go_at_call 10; refine (cQs.out _ mk0.out).mono ?_; rintro e wa ⟨Aq, cq, rfl, hv, _, hm⟩; have HVQs : Hid (TabAt wa (.agg #[.int .i64 (T3.blocks : Nat), .int .i64 (T3.spares : Nat), .slice Aq T3.moved.length cq]) T3) := Lib.hid ⟨_, rfl, hv.out, HOK3.out⟩; have mk1 : Hid (Mods [] w15 wa) := Lib.hid (mk0.out.trans hm.out (by simp)); clear mk0 hm; clear hv)
                | (go_at_call 19; refine (cX.out _ _ HVQs).mono ?_; rintro e wa ⟨rfl, hm⟩; have mk2 : Hid (Mods [] w15 wa) := Lib.hid (mk1.out.trans hm.out (by simp)); clear mk1 hm; clear HVQs; have q0 := (HBW.out.keep0 mk2.out).cell (i := 0) rfl; have q1 := (HBW.out.keep0 mk2.out).cell (i := 1) rfl; have q2 := (HBW.out.keep0 mk2.out).cell (i := 2) rfl; have n0 := (HBN.out.keep0 mk2.out).cell (i := 0) rfl; have n1 := (HBN.out.keep0 mk2.out).cell (i := 1) rfl; have n2 := (HBN.out.keep0 mk2.out).cell (i := 2) rfl)
                | (go_at_call 19; refine (cW.out _ _ (Lib.hid (HTW.out.keep0 mk2.out))).mono ?_; rintro e wa ⟨rfl, hm⟩; have mk3 : Hid (Mods [] w15 wa) := Lib.hid (mk2.out.trans hm.out (by simp)); clear mk2 hm; have q0 := (HBW.out.keep0 mk3.out).cell (i := 0) rfl; have q1 := (HBW.out.keep0 mk3.out).cell (i := 1) rfl; have q2 := (HBW.out.keep0 mk3.out).cell (i := 2) rfl; have n0 := (HBN.out.keep0 mk3.out).cell (i := 0) rfl; have n1 := (HBN.out.keep0 mk3.out).cell (i := 1) rfl; have n2 := (HBN.out.keep0 mk3.out).cell (i := 2) rfl)
                | (go_at_call 19; refine (cN.out _ _ (Lib.hid (HTN.out.keep0 mk3.out))).mono ?_; rintro e wa ⟨rfl, hm⟩; have mk4 : Hid (Mods [] w15 wa) := Lib.hid (mk3.out.trans hm.out (by simp)); clear mk3 hm; have q0 := (HBW.out.keep0 mk4.out).cell (i := 0) rfl; have q1 := (HBW.out.keep0 mk4.out).cell (i := 1) rfl; have q2 := (HBW.out.keep0 mk4.out).cell (i := 2) rfl; have n0 := (HBN.out.keep0 mk4.out).cell (i := 0) rfl; have n1 := (HBN.out.keep0 mk4.out).cell (i := 1) rfl; have n2 := (HBN.out.keep0 mk4.out).cell (i := 2) rfl)
                | (go_at_call 10; refine (cQo.out _ mk4.out).mono ?_; rintro e wa ⟨Aq, cq, rfl, hv, _, hm⟩; have HVQo : Hid (TabAt wa (.agg #[.int .i64 (To.blocks : Nat), .int .i64 (To.spares : Nat), .slice Aq To.moved.length cq]) To) := Lib.hid ⟨_, rfl, hv.out, HTO.out⟩; have mk5 : Hid (Mods [] w15 wa) := Lib.hid (mk4.out.trans hm.out (by simp)); clear mk4 hm; clear hv)
                | (go_at_call 19; refine (cY.out _ _ HVQo).mono ?_; rintro e wa ⟨rfl, hm⟩; have mk6 : Hid (Mods [] w15 wa) := Lib.hid (mk5.out.trans hm.out (by simp)); clear mk5 hm; clear HVQo)
                | (go_at_call 10; refine (cPo.out _ mk6.out).mono ?_; rintro e wa ⟨Aq, cq, rfl, hv, _, hm⟩; have HVPo : Hid (TabAt wa (.agg #[.int .i64 (To.blocks : Nat), .int .i64 (To.spares : Nat), .slice Aq To.moved.length cq]) To) := Lib.hid ⟨_, rfl, hv.out, HTO.out⟩; have mk7 : Hid (Mods [] w15 wa) := Lib.hid (mk6.out.trans hm.out (by simp)); clear mk6 hm; clear hv)
                | (go_at_call 19; refine (cY.out _ _ HVPo).mono ?_; rintro e wa ⟨rfl, hm⟩; have mk8 : Hid (Mods [] w15 wa) := Lib.hid (mk7.out.trans hm.out (by simp)); clear mk7 hm; clear HVPo)
                | fail)
              go_roundw
              case rel => exact ⟨j + 1, b2, fx4, gp2, anew Q, by omega, by go_num, rfl, HEND.out _ mk8.out⟩
              case measure => simp [intOf]; omega
          · rw [HTT.out] at hg hT3
            obtain rfl : ec = 9 := he
            obtain rfl : Zi = Zw := by rw [← HZI.out, ← HZW.out, hT3]
            obtain rfl : sp = 9 := by rw [← HT2.out.2, Tab.mv_full HKB.out (by rw [HSP.out]; omega)]
            clear hT3 hg HALT
            go_wp2_with (first
              | (go_at_call 10; refine (cQs.out _ mk0.out).mono ?_; rintro e wa ⟨Aq, cq, rfl, hv, _, hm⟩; have HVQs : Hid (TabAt wa (.agg #[.int .i64 (T3.blocks : Nat), .int .i64 (T3.spares : Nat), .slice Aq T3.moved.length cq]) T3) := Lib.hid ⟨_, rfl, hv.out, HOK3.out⟩; have mk1 : Hid (Mods [] w15 wa) := Lib.hid (mk0.out.trans hm.out (by simp)); clear mk0 hm; clear hv)
              | (go_at_call 19; refine (cX.out _ _ HVQs).mono ?_; rintro e wa ⟨rfl, hm⟩; have mk2 : Hid (Mods [] w15 wa) := Lib.hid (mk1.out.trans hm.out (by simp)); clear mk1 hm; clear HVQs; have q0 := (HBW.out.keep0 mk2.out).cell (i := 0) rfl; have q1 := (HBW.out.keep0 mk2.out).cell (i := 1) rfl; have q2 := (HBW.out.keep0 mk2.out).cell (i := 2) rfl; have n0 := (HBN.out.keep0 mk2.out).cell (i := 0) rfl; have n1 := (HBN.out.keep0 mk2.out).cell (i := 1) rfl; have n2 := (HBN.out.keep0 mk2.out).cell (i := 2) rfl)
              | (go_at_call 19; refine (cW.out _ _ (Lib.hid (HTW.out.keep0 mk2.out))).mono ?_; rintro e wa ⟨rfl, hm⟩; have mk3 : Hid (Mods [] w15 wa) := Lib.hid (mk2.out.trans hm.out (by simp)); clear mk2 hm; have q0 := (HBW.out.keep0 mk3.out).cell (i := 0) rfl; have q1 := (HBW.out.keep0 mk3.out).cell (i := 1) rfl; have q2 := (HBW.out.keep0 mk3.out).cell (i := 2) rfl; have n0 := (HBN.out.keep0 mk3.out).cell (i := 0) rfl; have n1 := (HBN.out.keep0 mk3.out).cell (i := 1) rfl; have n2 := (HBN.out.keep0 mk3.out).cell (i := 2) rfl)
              | (go_at_call 10; refine (cQo.out _ mk3.out).mono ?_; rintro e wa ⟨Aq, cq, rfl, hv, _, hm⟩; have HVQo : Hid (TabAt wa (.agg #[.int .i64 (To.blocks : Nat), .int .i64 (To.spares : Nat), .slice Aq To.moved.length cq]) To) := Lib.hid ⟨_, rfl, hv.out, HTO.out⟩; have mk4 : Hid (Mods [] w15 wa) := Lib.hid (mk3.out.trans hm.out (by simp)); clear mk3 hm; clear hv)
              | (go_at_call 19; refine (cY.out _ _ HVQo).mono ?_; rintro e wa ⟨rfl, hm⟩; have mk5 : Hid (Mods [] w15 wa) := Lib.hid (mk4.out.trans hm.out (by simp)); clear mk4 hm; clear HVQo)
              | (go_at_call 10; refine (cPo.out _ mk5.out).mono ?_; rintro e wa ⟨Aq, cq, rfl, hv, _, hm⟩; have HVPo : Hid (TabAt wa (.agg #[.int .i64 (To.blocks : Nat), .int .i64 (To.spares : Nat), .slice Aq To.moved.length cq]) To) := Lib.hid ⟨_, rfl, hv.out, HTO.out⟩; have mk6 : Hid (Mods [] w15 wa) := Lib.hid (mk5.out.trans hm.out (by simp)); clear mk5 hm; clear hv)
              | (go_at_call 19; refine (cY.out _ _ HVPo).mono ?_; rintro e wa ⟨rfl, hm⟩; have mk7 : Hid (Mods [] w15 wa) := Lib.hid (mk6.out.trans hm.out (by simp)); clear mk6 hm; clear HVPo)
              | fail)
            go_roundw
            case rel => exact ⟨j + 1, b2, fx4, gp2, anew Q, by omega, by go_num, rfl, HEND.out _ mk7.out⟩
            case measure => simp [intOf]; omega
        · obtain rfl : j = qm := by omega
          have hjmi : ¬ (j : Int) < (j : Int) := by omega
          go_wp2_with fail
          go_ret
          exact ⟨rfl, HT.out.own.mods⟩
theorem readables_remapTorn : ∀ t ∈ (#[52, 52, 52] : Array TypeId).toList, Try.prog.readableRec t = true ∧ t < Try.prog.types.size := by
  intro t ht
  simp only [List.mem_cons, List.not_mem_nil, or_false] at ht
  rcases ht with rfl | rfl | rfl
  all_goals exact ⟨by kernel_rfl, of_decide_eq_true (by kernel_rfl)⟩

set_option maxRecDepth 100000 in
theorem remapTorn_contract (H : Type) (enc : TypeId × Value → H) (W : World) (base : Nat) (args : Array Value) (ds gs : List (DataW H)) (before : List MemPlace)
    (hval : ∀ (j : Nat) t v, Try.f4.params[j]? = some t → args[j]? = some v → Value.okWide Try.prog W .any base t v)
    (hW : DataW.Whole enc Try.prog Try.f4.params.toList Rows.remapTornSpec.vars false W args.toList ds gs before) :
    Calls Try.prog 4 args W fun e W' => ∃ v, e = .returned v ∧ Rows.remapTornSpec.post enc Try.prog Try.f4 false true false false W args v W' := by
  have hW' := hW
  obtain ⟨p, q, hA0, hV, he, hfz, hnd⟩ := hW
  have hA : DataW.TrodAll enc Try.prog W 0 (fun _ => true) true Try.f4.params.toList args.toList ds p := hA0
  rw [Try.params4] at hA hval
  obtain ⟨v0, vs0, d0, ds0, p0, q0, hargs, rfl, rfl, h0, r0⟩ := trodAll_cons hA
  obtain ⟨v1, vs1, d1, ds1, p1, q1, rfl, rfl, rfl, h1, r1⟩ := trodAll_cons r0
  obtain ⟨v2, vs2, d2, ds2, p2, q2, rfl, rfl, rfl, h2, r2⟩ := trodAll_cons r1
  obtain ⟨rfl, rfl, rfl⟩ := trodAll_nil r2
  obtain rfl : args = #[v0, v1, v2] := by cases args; simp_all
  obtain ⟨mA, mLen, mCap, m, rfl, mRow, mL, mC, mM, mB⟩ := u8s_open Try.underlying52 Try.underlying5 cellsU8 (hval 0 52 v0 rfl rfl) h0
  obtain ⟨cA, cLen, cCap, c, rfl, cRow, cL, cC, cM, cB⟩ := u8s_open Try.underlying52 Try.underlying5 cellsU8 (hval 1 52 v1 rfl rfl) h1
  obtain ⟨zA, zLen, zCap, z, rfl, zRow, zL, zC, zM, zB⟩ := u8s_open Try.underlying52 Try.underlying5 cellsU8 (hval 2 52 v2 rfl rfl) h2
  refine (remapTorn_walk mA mLen mCap m cA cLen cCap c zA zLen zCap z W mRow mL mC mM mB cRow cL (Nat.le_trans cC cM) cB zRow zL zC zM zB).mono fun e W' ⟨he', hm⟩ => ?_
  subst he'
  exact ⟨_, rfl, post_law laidOut (by rw [Try.params4]; exact readables_remapTorn) (by rfl) Try.underlying4 rfl rfl hW' hm.below⟩

set_option maxRecDepth 100000 in
theorem remapTorn_lifted (os : Os) (started : os.Started) (H : Type) (enc : TypeId × Value → H) :
    ReturnsInHanded {} Try.checked os 4 .any (Rows.remapTornSpec.pre6 enc Try.prog Try.f4 Rows.remapTornRow.domain false) (Rows.remapTornSpec.post enc Try.prog Try.f4 false true false false) := by
  refine returnsInHanded_of_change (C := Try.checked) own started (by kernel_rfl) Try.func4
    (ChangeSpec.witness6 (enc := enc) (C := Try.checked) false ⟨#[], #[.slice none 0 0, .slice none 0 0, .slice none 0 0], []⟩ 8 (by kernel_rfl) (by kernel_rfl) (by kernel_rfl) (by kernel_rfl)) ?_
  intro W base args ds gs before hval hW _ _
  exact remapTorn_contract H enc W base args ds gs before hval hW

/-- The law. -/
theorem remapTorn_said : Rows.RemapTornSaid :=
  OpenClaim.holds_of_wide 4 Try.f4 rfl rfl rfl rfl rfl rfl rfl ⟨rfl, rfl, rfl, rfl, rfl⟩ rfl rfl rfl rfl rfl (by kernel_rfl) Try.func4 (by kernel_rfl)
    (of_decide_eq_true (by kernel_rfl)) (by unfold Func.isWrapper; first | (rw [if_pos (by decide +kernel)]; kernel_rfl) | (rw [if_neg (by decide +kernel)]; exact ⟨rfl, rfl⟩))
    (fun os started H enc _ => remapTorn_lifted os started H enc)
end Go.Proofs.Ytnpfhfgegjocoaa
