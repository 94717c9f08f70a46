/- WalPlays: whatever is done, the law answers true. No condition but the form's own. -/
import Derived.Test.YtnpfhfgegjocoaaGreatMWp
import Derived.Test.YtnpfhfgegjocoaaGreatMA
import Derived.Deep.CutRange
import Derived.Deep.CutBlock
import Derived.Outline
namespace Go.Proofs.YtnpfhfgegjocoaaGreat
open Go.ChangeShapes Go.WideShapes Go.ChangeAt Go.RowKit

theorem info_act13 : (Tryz.prog.info? 120).map (fun i => (i.zero, i.size, i.bytes)) = some (some (.agg #[.int .i64 0, .slice none 0 0, .int .u8 0, .int .u8 0, .slice none 0 0]), 5, 64) := by kernel_rfl
/-- Between two acts, told by the walk's slots. -/
def PlW (W w : World) (x : Nat → Nat) (db sk b0 i : Nat) (v0 v1 lv v13 v14 v15 v16 : Value) : Prop :=
  ∃ (b p tk lb : Nat) (F : List Nat) (M : Mi) (rd : Nat → ByteArray) (L0 L : LogE) (rs : List (List UpdE)) (A : Option Addr) (cap : Nat),
    v0 = .int .u64 (L.next : Nat) ∧ v1 = .int .u32 (L.chain : Nat) ∧ lv = .pointer (some ⟨lb, 0, none⟩) ∧ v13 = .int .u64 (L0.next : Nat) ∧ v14 = .int .u32 (L0.chain : Nat) ∧ v15 = .slice A (flatU rs).length cap ∧ v16 = .int .i64 (rs.length : Nat) ∧
    (flatU rs).length ≤ cap ∧ L.next ≤ 4611686018427387904 + 6 * i ∧ PlaysIn W w x db sk b0 b p tk lb F M rd L0 L rs A (2 * i)
set_option maxRecDepth 100000 in
set_option maxHeartbeats 6400000 in
theorem walPlays_walk (s k : Nat) (A : Option Addr) (len cap : Nat) (zs : List Act13) (W : World) (hr : Row W A (aRow13 zs)) (hz : zs.length = len) (hlc : len ≤ cap) (hcm : cap ≤ maxLen) (ha : ∀ z ∈ zs, ActOk W z) (hs : s < 18446744073709551616) (hk : k < 4294967296) :
    Calls Tryz.prog 11 #[.int .u64 (s : Nat), .int .u32 (k : Nat), .slice A len cap] W fun e w' => e = .returned (.bool true) ∧ Mods [] W w' := by
  have HRW := Lib.hid hr
  have HZL := Lib.hid hz
  have HZ := Lib.hid ha
  clear hr hz ha
  unfold maxLen at hcm
  obtain ⟨q, hq⟩ : ∃ q : Nat, min (len : Int) 30 = (q : Int) := ⟨min len 30, by omega⟩
  have hql : q ≤ len := by omega
  have hq30 : q ≤ 30 := by omega
  obtain ⟨i8, hi8, _, _, _⟩ := info_parts info_act13
  have hsl := fun (k : Int) (h0 : 0 ≤ k) (h1 : k ≤ cap) (W : World) => run_prefix Tryz.prog 115 120 i8 A len cap k W Tryz.underlying115 hi8 h0 h1
  obtain ⟨sq, hsq⟩ : ∃ r, s % 4611686018427387904 = r := ⟨_, rfl⟩
  have hsql : sq < 4611686018427387904 := by omega
  have hsi : (s : Int) % 4611686018427387904 = (sq : Int) := by omega
  have hst : (s : Int).tmod 4611686018427387904 = (sq : Int) := by rw [Int.tmod_eq_emod_of_nonneg (by omega)]; exact hsi
  have hsw : IntKind.u64.wrap (sq : Int) = (sq : Int) := by rw [IntKind.wrap_u64]; omega
  clear hsq hs
  go_enter Tryz.func11, Tryz.ntmps11
  go_upto_region 2 with fail
  clear hsi hst hsw
  go_upto_region 3 with (go_at_call 47; refine w13Fresh_any.mono ?_; rintro e w1 ⟨x, p, b, M, rfl, HO, HG⟩)
  obtain ⟨w2, hw2⟩ : ∃ w2, w1.alloc (.cells #[.pointer (some ⟨x 0, 0, none⟩), .pointer (some ⟨x 1, 0, none⟩)] 50) = w2 := ⟨_, rfl⟩
  obtain ⟨db, hdb⟩ : ∃ db, w1.heap.size = db := ⟨_, rfl⟩
  have hb2 : Blk w2 db 50 [.pointer (some ⟨x 0, 0, none⟩), .pointer (some ⟨x 1, 0, none⟩)] := by rw [← hw2, ← hdb]; exact Blk.new w1 50 _
  have hm2 : Mods [] w1 w2 := by rw [← hw2]; exact (Mods.refl _ _).alloc _
  have HO2 : Hid (OwnM W [db] w2 b p x M) := Lib.hid (HO.out.protect hm2 (fun g hg => .inr (by have := hb2.lt; have := List.mem_singleton.1 hg; omega)))
  rw [hw2, hdb]
  have HB2 := Lib.hid hb2
  have HW := Lib.hid (WSt.fresh HG.out)
  have HR := Lib.hid HG.out.reps
  clear hw2 hdb hb2 hm2 HO HG
  have HS := Lib.hid (LSt.fresh (s := sq) (k := k) (by omega) hk)
  have cO := Lib.hid (fun (w : World) (hm : Mods [] w2 w) => show Calls Tryz.prog 48 #[.pointer (some ⟨b, 0, none⟩), .agg #[.int .i64 3, .int .i64 5], .int .u64 (sq : Nat), .int .u32 (k : Nat)] w _ from kOpenL (HO2.out.still hm) HW.out HS.out (by decide) (by rw [HR.out]; decide) (n := sq) (k := k) rfl rfl)
  go_upto_region 4 with (first | (go_at_call 49; refine w13Ring_any.mono ?_; rintro e w3 ⟨rfl, HM3⟩) | (go_at_call 48; refine (cO.out _ HM3.out).mono ?_; rintro e w4 ⟨lb, tk, A4, cap4, rfl, HL4, HN4, HD4⟩) | fail)
  go_upto_region 9 with (first | (go_at_call 52; refine w13Wakes_any.mono ?_; rintro e w5 ⟨rfl, HM5⟩) | fail)
  have HL5 := Lib.hid (HL4.out.calm HM5.out)
  have HB5 := Lib.hid ((HN4.out.blk (HB2.out.keep HM3.out (by simp)) (by simp)).keep HM5.out (by simp))
  have HNE := Lib.hid (HD4.out db (by simp))
  clear cO HL4 HN4 HB2 HD4 HO2 HM3 HM5
  go_upto_region 10 with (first | (go_at_call 27; refine (sumMake_any _).mono ?_; rintro e w6 ⟨sk, rfl, hT, hm6, hsk⟩; have HT := Lib.hid hT; have HM6 := Lib.hid hm6; have HSK := Lib.hid hsk; clear hT hm6 hsk) | fail)
  have HP0 : Hid (PlW W w6 x db sk b 0 (.int .u64 (sq : Nat)) (.int .u32 (k : Nat)) (.pointer (some ⟨lb, 0, none⟩)) (.int .u64 (sq : Nat)) (.int .u32 (k : Nat)) (.slice none 0 0) (.int .i64 0)) := Lib.hid (by
    have hsk : ∀ g ∈ [sk], w5.heap.size ≤ g ∧ g < w6.heap.size := fun g hg => by rw [List.mem_singleton.1 hg]; exact ⟨HSK.out, HT.out.lt⟩
    have hlb : sk ≠ lb := by have := HSK.out; have := HL5.out.lg.lt; omega
    refine ⟨b, p, tk, lb, [sk] ++ [tk, lb, db], M, _, _, _, [], none, 0, rfl, rfl, rfl, rfl, rfl, rfl, rfl, Nat.le_refl _, by show sq ≤ _; omega, ⟨HL5.out.protect HM6.out hsk, HW.out, HS.out, HB5.out.keep HM6.out (by simp), ⟨by simp, HNE.out⟩, HT.out, ⟨by simp, hlb⟩, HR.out, .inl rfl, fun a ha => (by cases ha), .inl rfl⟩⟩)
  clear HW HR HS HL5 HB5 HNE HT HM6 HSK hsql hk
  go_wp2_with fail
  go_loopw [0, 1, 10, 13, 14, 15, 16, 74] (fun v0 v1 lv v13 v14 v15 v16 kv wr => ∃ i : Nat, i ≤ q ∧ kv = .int .i64 (i : Nat) ∧ PlW W wr x db sk b i v0 v1 lv v13 v14 v15 v16) (fun _ _ _ _ _ _ _ kv _ => q - (intOf kv).toNat)
  case atStart => exact ⟨0, by omega, rfl, HP0.out⟩
  case round =>
    clear HP0
    obtain ⟨i, hi, rfl, hW⟩ := hrel
    have HW := Lib.hid hW
    by_cases hlt : i < q
    · have hlti : (i : Int) < (q : Int) := by omega
      have hzi : i < zs.length := by rw [HZL.out]; omega
      have HM : Hid (Mods [] W wr) := Lib.hid (by obtain ⟨_, _, _, _, _, _, _, _, _, _, _, _, _, _, _, _, _, _, _, _, _, h⟩ := hW; exact h.lg.own.mods)
      obtain ⟨bz, oz, rfl, d0, d1, d2, d3, d4⟩ := aRow13_at (HRW.out.keep0 HM.out) (List.getElem?_eq_getElem hzi)
      have HAC := Lib.hid (HZ.out _ (List.getElem_mem hzi))
      generalize zs[i] = ac at *
      obtain ⟨dn, uA, ul, uc, us, e0, e1, fA, fl, fc⟩ := ac
      simp only at d0 d1 d2 d3 d4
      obtain ⟨r0, hr0⟩ : ∃ r0 : Nat, max (0 : Int) dn = (r0 : Int) := ⟨dn.toNat, by omega⟩
      obtain ⟨r, hr7⟩ : ∃ r : Nat, (r0 : Int) % 7 = (r : Int) := ⟨r0 % 7, by omega⟩
      have hrl : r < 7 := by omega
      have hr7' : (r0 : Int).tmod 7 = (r : Int) := by rw [Int.tmod_eq_emod_of_nonneg (by omega)]; exact hr7
      obtain ⟨wa, hwa⟩ : ∃ wa, wr.alloc (.cells #[.int .i64 dn, .slice uA ul uc, .int .u8 e0, .int .u8 e1, .slice fA fl fc] 120) = wa := ⟨_, rfl⟩
      obtain ⟨ga, hga⟩ : ∃ ga, wr.heap.size = ga := ⟨_, rfl⟩
      have hma : Mods [] wr wa := by rw [← hwa]; exact (Mods.refl _ _).alloc _
      have hBa : Blk wa ga 120 [.int .i64 dn, .slice uA ul uc, .int .u8 e0, .int .u8 e1, .slice fA fl fc] := by rw [← hwa, ← hga]; exact Blk.new wr 120 _
      have HBA := Lib.hid hBa
      have HMA := Lib.hid hma
      clear hW hma hBa hzi
      go_upto_region 13 with fail
      try rw [hwa, hga]
      have q0 := HBA.out.cell (i := 0) rfl
      have q1 := HBA.out.cell (i := 1) rfl
      clear hwa hga d0 d1 d2 d3 d4
      go_upto_block 2 with fail
      obtain ⟨b2, p2, tk2, lb2, F, M, rd, L0, L, rs, A1, c1, rfl, rfl, rfl, rfl, rfl, rfl, rfl, hc1, hLn, hP⟩ := HW.out
      have HP := Lib.hid (hP.calm HMA.out)
      clear hP HW
      go_cut [0, 1, 10, 13, 14, 15, 16] from 75 to 217 (fun v0 v1 lv v13 v14 v15 v16 wx => Hid (PlW W wx x db sk b (i + 1) v0 v1 lv v13 v14 v15 v16))
      case first =>
        have hrr : r = 4 ∨ r = 5 ∨ r = 6 ∨ (r ≠ 4 ∧ r ≠ 5 ∧ r ≠ 6) := by omega
        rcases hrr with rfl | rfl | rfl | ⟨hr4, hr5, hr6⟩
        · as_aux_lemma =>
          have cS := Lib.hid (kSync HP.out.lg HP.out.st (by omega))
          go_wp2_with (go_at_call 54; refine cS.out.mono ?_; rintro e w6 ⟨M', rfl, HW1, HL1, HR1, HN1⟩)
          go_meet
          exact Lib.hid ⟨b2, p2, tk2, lb2, F, M', rd, L0, L, rs, A1, c1, rfl, rfl, rfl, rfl, rfl, rfl, rfl, hc1, by omega, HP.out.turn HL1.out (fun G hG => HN1.out.mono (fun k hk => (hG k hk).1)) (HW1.out.mono (by omega)) HP.out.ls (HR1.out.trans HP.out.reps) rfl (HN1.out.row HP.out.row (fun a ha => (HP.out.rmem a ha).1)) HP.out.rmem⟩
        · as_aux_lemma =>
          have z0 := HP.out.dv.cell (i := 0) rfl
          have z1 := HP.out.dv.cell (i := 1) rfl
          have cG := Lib.hid (w13Again_any HP.out.lg.own HP.out.st.gm (by omega))
          go_upto_region 32 with (first | (go_at_call 57; refine cG.out.mono ?_; rintro e w7 ⟨b4, p4, G, rfl, HO7, HRS7, HN7⟩) | fail)
          clear z0 z1 cG
          obtain ⟨nr, hnr⟩ : ∃ nr, rs.length = nr := ⟨_, rfl⟩
          obtain ⟨nx, hnx⟩ : ∃ nx, L0.next = nx := ⟨_, rfl⟩
          obtain ⟨kx, hkx⟩ : ∃ kx, L0.chain = kx := ⟨_, rfl⟩
          have cO0 := fun (w : World) (hm : Mods [] w7 w) => kOpen (HO7.out.still hm) HP.out.st.openM HP.out.ls (by omega) (by show (0 : Nat) < 900000000; decide) hnx hkx
          rw [hnr] at cO0
          have cO := Lib.hid cO0
          clear cO0
          rw [hnx, hkx, hnr]
          go_upto_region 33 with (first | (go_at_call 49; refine w13Ring_any.mono ?_; rintro e w8 ⟨rfl, HM8⟩) | (go_at_call 48; refine (cO.out _ HM8.out).mono ?_; rintro e w9 ⟨lb4, tk4, A2, c2, rfl, HX9, HN9, HD9⟩) | fail)
          obtain ⟨F', K, rb, base, hop, hin⟩ := HX9.out
          obtain ⟨cs, hrow, hrec⟩ := hop.row
          rw [hnr] at hrow
          have HEC := Lib.hid (HP.out.ls.recs.each)
          have HLF := Lib.hid (flat_len (rs := rs) (fun us hu => (HEC.out us hu).2))
          have hnr5 : nr ≤ 5 := by have h1 := HP.out.ls.facts; have h2 := HP.out.ls.ok.have_; omega
          have HNF : Hid (∀ g ∈ G ++ F, g ≠ lb4) := Lib.hid (fun g hg => by have h1 := (HO7.out.still HM8.out).lt g hg; have h2 := HD9.out; omega)
          have HMi : Hid (Minds F wa w9) := Lib.hid (((HN7.out).trans (Minds.of HM8.out)).trans (HN9.out.mono (fun g hg => List.mem_append_right _ hg)))
          have HRS : Hid (Rest w9 b2 p2 G x M) := Lib.hid ((HRS7.out.1.keep (Minds.of HM8.out) (fun g hg => hg)).keep HN9.out (fun g hg => List.mem_append_left _ hg))
          have HLG : Hid (LgIn W w9 (tk4 :: lb4 :: (G ++ F)) x b4 p4 tk4 lb4 (openM M) L) := Lib.hid (hop.lg.less (fun g hg => by
            rcases List.mem_cons.1 hg with rfl | hg
            · exact hop.lg.mem.1
            · rcases List.mem_cons.1 hg with rfl | hg
              · exact hop.lg.mem.2
              · exact hin g hg) ⟨by simp, by simp⟩)
          have HP9 : Hid (PlaysIn W w9 x db sk b b4 p4 tk4 lb4 (tk4 :: lb4 :: (G ++ F)) (openM M) rd L0 L rs A1 (2 * (i + 1))) := Lib.hid (HP.out.reopen HMi.out HRS.out HLG.out HNF.out (by omega))
          have HROW := Lib.hid hrow
          have HREC := Lib.hid hrec
          have hfl1 : (flatU rs).length ≤ 5000 := by have h1 := HLF.out; rw [hnr] at h1; omega
          obtain ⟨nf, hnf⟩ : ∃ nf, (flatU rs).length = nf := ⟨_, rfl⟩
          have HNL := Lib.hid hnf
          have hnf1 : nf ≤ 5000 := by omega
          have cF0 := fun (w : World) (hm : Mods [] w9 w) => w13Flat_any (owns_keepF HROW.out hm (by simp)) (HREC.out.keep (Minds.of hm) (fun g hg => hg)) hnr (by omega) HEC.out
          rw [hnf] at cF0
          have cF := Lib.hid cF0
          have cH1 := Lib.hid (fun (w : World) (hm : Mods [] w9 w) (B : Option Addr) (cB : Nat) (h : Row w B (uRow (flatU rs))) => w13Head_same (ca := cB) (cb := c1) h (HP9.out.row.keep0 hm) hnf (by omega))
          have cH2 := Lib.hid (fun (w : World) (hm : Mods [] w9 w) (B : Option Addr) (cB : Nat) (h : Row w B (uRow (flatU rs))) => w13Head_same (ca := c1) (cb := cB) (HP9.out.row.keep0 hm) h hnf (by omega))
          clear hop hin hrow hrec HX9 cO HN9 HD9 HM8 HN7 HRS7 HO7 HP HLG HRS HMi HEC HLF hfl1 cF0
          rw [hnf] at hc1 ⊢
          go_wp2_with (first
            | (go_at_call 58; have zz := HF2; clear zz; refine (cH2.out _ HMF2.out _ _ HF2.out).mono ?_; rintro e w13 ⟨rfl, HM13⟩; have HME := Lib.hid (HMF2.out.trans HM13.out (by simp)))
            | (go_at_call 59; have zz := HMG1; clear zz; refine (cF.out _ HMG1.out).mono ?_; rintro e w12 ⟨B2, cB2, rfl, HO12, HM12⟩; have HMF2 := Lib.hid (HMG1.out.trans HM12.out (by simp)); have HF2 := Lib.hid (row_of_ownsW HO12.out); try rw [HNL.out])
            | (go_at_call 58; have zz := HF1; clear zz; refine (cH1.out _ HMF1.out _ _ HF1.out).mono ?_; rintro e w11 ⟨rfl, HM11⟩; have HMG1 := Lib.hid (HMF1.out.trans HM11.out (by simp)))
            | (go_at_call 59; refine (cF.out _ (Mods.refl _ _)).mono ?_; rintro e w10 ⟨B1, cB1, rfl, HO10, HM10⟩; have HMF1 := HM10; have HF1 := Lib.hid (row_of_ownsW HO10.out); try rw [HNL.out])
            | fail)
          go_meet
          exact Lib.hid ⟨b4, p4, tk4, lb4, _, openM M, rd, L0, L, rs, A1, c1, rfl, rfl, rfl, by rw [hnx], by rw [hkx], by rw [hnf], by rw [hnr], by rw [hnf]; exact hc1, by omega, HP9.out.calm HME.out⟩
        · as_aux_lemma =>
          obtain ⟨f1, f2, f3, f4, f5⟩ := HP.out.ls.facts
          obtain ⟨nx, hnx⟩ : ∃ nx, L.next = nx := ⟨_, rfl⟩
          obtain ⟨kx, hkx⟩ : ∃ kx, L.chain = kx := ⟨_, rfl⟩
          obtain ⟨n5, hn5⟩ : ∃ n5, nx + 5 = n5 := ⟨_, rfl⟩
          have hadd : (nx : Int) + 5 = (n5 : Int) := by omega
          have hnw : IntKind.u64.wrap (n5 : Int) = (n5 : Int) := by rw [IntKind.wrap_u64]; omega
          have cC0 := kCut HP.out.lg HP.out.ls (by omega)
          rw [hnx, hn5, hkx] at cC0
          have cC := Lib.hid cC0
          have HC5 : Hid (L.cut.next = n5 ∧ L.cut.chain = kx) := Lib.hid ⟨by show L.next + L.count = _; rw [f2, hnx, hn5], hkx⟩
          clear cC0
          rw [hnx, hkx]
          have hle : n5 ≤ 4611686018427387904 + 6 * (i + 1) := by omega
          clear hnx hkx hn5 f1 f2 f3 f4 f5 hLn
          go_wp2_with (first | (go_at_call 51; refine cC.out.mono ?_; rintro e w6 ⟨rfl, HS1, HL1, HN1⟩) | fail)
          go_meet
          exact Lib.hid ⟨b2, p2, tk2, lb2, F, M, rd, L.cut, L.cut, [], none, 0, by rw [HC5.out.1], by rw [HC5.out.2], rfl, by rw [HC5.out.1], by rw [HC5.out.2], rfl, rfl, Nat.le_refl _, by rw [HC5.out.1]; exact hle, HP.out.turn HL1.out (fun G hG => HN1.out G (fun k hk => (hG k hk).2)) (HP.out.st.mono (by omega)) HS1.out HP.out.reps rfl (.inl rfl) (fun a ha => by cases ha)⟩
        · as_aux_lemma =>
          obtain ⟨vs, hvs⟩ : ∃ vs, cutUs us = vs := ⟨_, rfl⟩
          obtain ⟨nv, hnv⟩ : ∃ nv, vs.length = nv := ⟨_, rfl⟩
          have hnv5 : nv ≤ 5 := by rw [← hnv, ← hvs]; exact cutUs_len us
          have HD := Lib.hid (cutUs_d HAC.out.ok)
          have cU0 := w13Upds_any (W := wa) (HAC.out.row.keep0 (HM.out.trans HMA.out (by simp))) HAC.out.len HAC.out.cap HAC.out.ok
          simp only at cU0
          rw [hvs] at cU0 HD
          obtain ⟨eu, heu⟩ : ∃ eu, updsE vs = eu := ⟨_, rfl⟩
          rw [hnv, heu] at cU0
          have cU := Lib.hid cU0
          have HNV := Lib.hid hnv
          have HEU := Lib.hid heu
          clear cU0 hvs
          obtain ⟨nr, hnr⟩ : ∃ nr, rs.length = nr := ⟨_, rfl⟩
          have HNR := Lib.hid hnr
          obtain ⟨g1, g2, g3, g4, g5⟩ := HP.out.ls.facts
          have g6 := HP.out.ls.ok.have_
          rw [hnr] at g3 ⊢
          have HG := Lib.hid (show L.count = 5 ∧ L.have_ = nr ∧ nr ≤ 5 by omega)
          clear g1 g2 g3 g4 g5 g6
          have hr4' : ¬ (r : Int) = 4 := by omega
          have hr5' : ¬ (r : Int) = 5 := by omega
          have hr6' : ¬ (r : Int) = 6 := by omega
          clear hr7 hr7' hr0 q0 HMA HAC
          go_upto_region 15 with (first | (go_at_call 60; refine cU.out.mono ?_; rintro e w6 ⟨B, cB, nn, rfl, HE, HOW, HM6⟩) | fail)
          clear q1 cU
          have HRB := Lib.hid (row_of_ownsW HOW.out)
          by_cases hbad : eu ≠ 0 ∨ (eu = 0 ∧ 154 < nn) ∨ (eu = 0 ∧ ¬ 154 < nn ∧ nr = 5)
          · have HBad : Hid (∃ en, en ≠ 0 ∧ badE vs (decide (L.have_ = L.count)) (192 - 38) = en ∧ (eu ≠ 0 → en = eu) ∧ (eu = 0 → 154 < nn → en = 20) ∧ (eu = 0 → ¬ 154 < nn → en = 11)) := Lib.hid (by
              rcases hbad with h | ⟨h, h2⟩ | ⟨h, h2, h3⟩
              · exact ⟨eu, h, by rw [badE_a (by rw [HEU.out]; exact h), HEU.out], fun _ => rfl, fun h2 => absurd h2 h, fun h2 => absurd h2 h⟩
              · have h1 := updsE_zero (HEU.out.trans h)
                have hn := HE.out h1.1 h1.2
                exact ⟨20, by decide, badE_b (HEU.out.trans h) (by omega), fun hx => absurd h hx, fun _ _ => rfl, fun _ hx => absurd h2 hx⟩
              · have h1 := updsE_zero (HEU.out.trans h)
                have hn := HE.out h1.1 h1.2
                refine ⟨11, by decide, ?_, fun hx => absurd h hx, fun _ hx => absurd hx h2, fun _ _ => rfl⟩
                rw [show decide (L.have_ = L.count) = true from decide_eq_true (by have hg := HG.out; omega)]
                exact badE_c (HEU.out.trans h) (by omega))
            obtain ⟨en, k1, k2, k3, k4, k5⟩ := HBad.out
            have HPM := Lib.hid (HP.out.calm HM6.out)
            have cA := Lib.hid (lgApp_bad (cap := cB) HPM.out.lg HPM.out.st.fine HPM.out.ls.ok (by decide) (by decide) HRB.out HNV.out (by omega) HD.out rfl k2 k1)
            have HC1 := Lib.hid (show L.next ≤ 4611686018427387904 + 6 * (i + 1) by omega)
            clear k2 hLn HBad HE HOW HRB
            have hen : ¬ (en : Int) = 0 := by omega
            rcases hbad with h | ⟨h, h2⟩ | ⟨h, h2, h3⟩
            · have kk := k3 h
              clear k3 k4 k5
              subst kk
              go_wp2_with (first | (go_at_call 53; refine cA.out.mono ?_; rintro e w7 ⟨rfl, HM7⟩) | fail)
              go_meet
              exact Lib.hid ⟨b2, p2, tk2, lb2, F, M, rd, L0, L, rs, A1, c1, rfl, rfl, rfl, rfl, rfl, rfl, by rw [HNR.out], hc1, HC1.out, (HPM.out.turn2 (fun g hg => hg) (HPM.out.lg.calm HM7.out) (fun G _ => Minds.of HM7.out) (HPM.out.st.mono (by omega)) HPM.out.ls HPM.out.reps (HPM.out.row.keep0 HM7.out) HPM.out.rmem)⟩
            · have kk := k4 h h2
              clear k3 k4 k5
              subst h kk
              have h2' : (154 : Int) < (nn : Int) := by omega
              go_wp2_with (first | (go_at_call 53; refine cA.out.mono ?_; rintro e w7 ⟨rfl, HM7⟩) | fail)
              go_meet
              exact Lib.hid ⟨b2, p2, tk2, lb2, F, M, rd, L0, L, rs, A1, c1, rfl, rfl, rfl, rfl, rfl, rfl, by rw [HNR.out], hc1, HC1.out, (HPM.out.turn2 (fun g hg => hg) (HPM.out.lg.calm HM7.out) (fun G _ => Minds.of HM7.out) (HPM.out.st.mono (by omega)) HPM.out.ls HPM.out.reps (HPM.out.row.keep0 HM7.out) HPM.out.rmem)⟩
            · have kk := k5 h h2
              clear k3 k4 k5
              subst h kk h3
              have h2' : ¬ (154 : Int) < (nn : Int) := by omega
              go_wp2_with (first | (go_at_call 53; refine cA.out.mono ?_; rintro e w7 ⟨rfl, HM7⟩) | fail)
              go_meet
              exact Lib.hid ⟨b2, p2, tk2, lb2, F, M, rd, L0, L, rs, A1, c1, rfl, rfl, rfl, rfl, rfl, rfl, (by rw [HNR.out]; rfl), hc1, HC1.out, (HPM.out.turn2 (fun g hg => hg) (HPM.out.lg.calm HM7.out) (fun G _ => Minds.of HM7.out) (HPM.out.st.mono (by omega)) HPM.out.ls HPM.out.reps (HPM.out.row.keep0 HM7.out) HPM.out.rmem)⟩
          · have hg3 := HG.out.2.2
            have he0 : eu = 0 := by omega
            have hnn : ¬ 154 < nn := by omega
            have hnr4 : nr < 5 := by omega
            subst he0
            clear hbad
            obtain ⟨v1, v2⟩ := updsE_zero HEU.out
            have hrl := HE.out v1 v2
            have HOK : Hid (∀ u ∈ vs, u.Ok) := Lib.hid (fun u hu => ok_of_may (recE_zero v2 u hu) (HD.out u hu))
            have hnv0 : 0 < nv := by rw [← HNV.out]; exact List.length_pos_iff.2 v1
            obtain ⟨gb, hgb, hgl⟩ : ∃ gb, B = some ⟨gb, 0, none⟩ ∧ wa.heap.size ≤ gb ∧ gb < w6.heap.size := by
              obtain ⟨gb, cap2, h1, h2, h3⟩ := HOW.out.form (by omega)
              injection h1 with h1
              refine ⟨gb, h1, h2, ?_⟩
              have := (HOW.out.lt gb (by rw [h1]; rfl)).2
              exact this
            subst hgb
            have HPM : Hid (PlaysIn W w6 x db sk b b2 p2 tk2 lb2 ([gb] ++ F) M rd L0 L rs A1 (2 * i)) := Lib.hid (HP.out.more HM6.out (fun g hg => by rw [List.mem_singleton.1 hg]; exact hgl))
            have hgne : gb ≠ lb2 := by have h1 := HP.out.lg.lg.lt; omega
            have HGN := Lib.hid hgne
            have cA := Lib.hid (kApp (cap := cB) HPM.out.lg HPM.out.st HPM.out.ls (by omega) (by rw [HNR.out]; exact hnr4) (by omega) HRB.out HNV.out (by omega) hnv0 HOK.out (by omega) (fun a ha => by cases ha; exact ⟨by simp, hgne⟩))
            obtain ⟨nx, hnx⟩ : ∃ nx, L.next = nx := ⟨_, rfl⟩
            obtain ⟨kx, hkx⟩ : ∃ kx, L.chain = kx := ⟨_, rfl⟩
            obtain ⟨n1, hn1⟩ : ∃ n1, nx + 1 = n1 := ⟨_, rfl⟩
            obtain ⟨m1, hm1⟩ : ∃ m1, nr + 1 = m1 := ⟨_, rfl⟩
            have hadd : (nx : Int) + 1 = (n1 : Int) := by omega
            have hnw : IntKind.u64.wrap (n1 : Int) = (n1 : Int) := by rw [IntKind.wrap_u64]; omega
            have hadd2 : (nr : Int) + 1 = (m1 : Int) := by omega
            have hnw2 : IntKind.i64.wrap (m1 : Int) = (m1 : Int) := by rw [IntKind.wrap_i64]; omega
            have HL3 : Hid ((L.took vs).next = n1 ∧ (L.took vs).chain = crcOn 0 (payL nx kx vs) ∧ n1 ≤ 4611686018427387904 + 6 * (i + 1)) := Lib.hid ⟨by show L.next + 1 = _; rw [hnx, hn1], by show crcOn 0 (payL L.next L.chain vs) = _; rw [hnx, hkx], by omega⟩
            have hnxs : nx < 18446744073709551616 := by omega
            have hkxs : kx < 4294967296 := by have := HPM.out.ls.ok.chain; omega
            obtain ⟨nf, hnf⟩ : ∃ nf, (flatU rs).length = nf := ⟨_, rfl⟩
            have hnf5 : nf ≤ 5000 := by
              have h1 := flat_len (rs := rs) (fun us hu => (HP.out.ls.recs.each us hu).2)
              rw [HNR.out, hnf] at h1
              omega
            have HNF := Lib.hid hnf
            have h2' : ¬ (154 : Int) < (nn : Int) := by omega
            have hnr5' : ¬ (nr : Int) = 5 := by omega
            rw [hnf] at hc1
            rw [hnx, hkx, hnf]
            clear hrl v1 v2 HE HOW hLn hnx hkx hn1 hnf hnr hnv heu hgl hgne HP HM6
            go_upto_region 24 with (first | (go_at_call 53; refine cA.out.mono ?_; rintro e w7 ⟨M', rd', rfl, HW7, HS7, HL7, HR7, HN7⟩) | fail)
            clear cA
            have HMN : Hid (∀ G, (∀ k ∈ G, k ∈ [gb] ++ F ∧ k ≠ lb2) → Minds G w6 w7) := HN7
            have HSM := Lib.hid ((HMN.out [sk] (fun k hk => by rw [List.mem_singleton.1 hk]; exact HPM.out.smm)).blk HPM.out.sm (by simp))
            have HRB7 := Lib.hid ((HMN.out [gb] (fun k hk => by rw [List.mem_singleton.1 hk]; exact ⟨by simp, HGN.out⟩)).row HRB.out (fun a ha => by cases ha; simp))
            have HRK7 := Lib.hid (HPM.out.rowBy HMN.out)
            have cLk := Lib.hid (recLink_any (cap := cB) HSM.out HRB7.out HNV.out (by omega) HOK.out hnxs hkxs)
            clear HN7
            go_upto_region 25 with (first | (go_at_call 61; refine cLk.out.mono ?_; rintro e w8 ⟨rfl, HM8⟩) | fail)
            clear cLk hnxs hkxs
            obtain ⟨i0, hi0, hz1, hz2, hz3⟩ := info_parts info_updW
            have hclip := fun (W : World) => run_clip Tryz.prog 116 113 i0 A1 nf c1 W Tryz.underlying116 hi0 hc1
            have HRB8 := Lib.hid (HRB7.out.keep0 HM8.out)
            have HRK8 := Lib.hid (HRK7.out.keep0 HM8.out)
            have hno : A1 = none → nf = 0 ∧ nf = 0 := fun hA => by
              have h1 := HRK8.out
              rw [hA] at h1
              rcases h1 with h1 | ⟨g, o, h1, _⟩
              · have h2 := uRow_len (flatU rs)
                rw [h1, HNF.out] at h2
                simp at h2
                omega
              · cases h1
            have hol : (uRow (flatU rs)).length = nf * 4 := by rw [uRow_len, HNF.out]
            have hod : ∀ b, A1 = some b → ∀ j u, (uRow (flatU rs))[j]? = some u → w8.cell? (b.add j) = some u := fun b hb j u hj => by
              rcases HRK8.out with h1 | ⟨g, o, h1, h2⟩
              · rw [h1] at hj; cases hj
              · rw [h1] at hb
                cases hb
                rw [addr_add]
                exact h2 j u hj
            have hnl : (uRow vs).length = nv * 4 := by rw [uRow_len, HNV.out]
            have hnd : ∀ j u, (uRow vs)[j]? = some u → w8.cell? ((⟨gb, 0, none⟩ : Addr).add j) = some u := fun j u hj => by
              rcases HRB8.out with h1 | ⟨g, o, h1, h2⟩
              · rw [h1] at hj; cases hj
              · cases h1
                rw [addr_add]
                exact h2 j u hj
            go_upto_region 26 with (first
              | (at_builtin; refine wpList_append_grows _ rfl (.tmp 120) (.tmp 121) 116 rfl 113 i0 (.agg #[.int .u8 0, .string ⟨#[]⟩, .string ⟨#[]⟩, .int .u64 0]) 4 48 Tryz.underlying116 hi0 hz1 hz2 hz3 rfl (by decide) A1 nf nf (uRow (flatU rs)) rfl hno hol hod ⟨gb, 0, none⟩ nv cB (uRow vs) rfl hnl hnd (uRow_one vs) (by omega) (by simp only [maxLen]; omega) (by omega) ?_; intro v9 w9 hown9 hg9)
              | fail)
            obtain ⟨g9, c9, rfl, k9, _⟩ := hown9.form (by omega)
            have HM9 : Hid (Mods [] w8 w9) := Lib.hid ((Mods.refl [] w8).grown hg9 (fun k hk => by cases hk))
            have HO9 := Lib.hid hown9
            have HL9 := Lib.hid (hown9.lt g9 rfl).2
            have HK9 := Lib.hid k9
            clear hclip hno hol hod hnl hnd hg9 k9 hi0 hz1 hz2 hz3 hown9
            go_wp2_with fail
            go_meet
            refine Lib.hid ⟨b2, p2, tk2, lb2, [g9] ++ ([gb] ++ F), M', rd', L0, L.took vs, rs ++ [vs], some ⟨g9, 0, none⟩, c9, by rw [HL3.out.1], by rw [HL3.out.2.1], rfl, rfl, rfl, by rw [flat_snoc, List.length_append, HNF.out, HNV.out], by rw [List.length_append, HNR.out, ← hm1, List.length_singleton], ?_, by rw [HL3.out.1]; exact HL3.out.2.2, ?_⟩
            · rw [flat_snoc, List.length_append, HNF.out, HNV.out]
              rcases HO9.out.2 with ⟨hx, _⟩ | ⟨_, _, _, hv, _, _, hle, _⟩
              · cases hx
              · injection hv with _ _ hcc
                rw [hcc]
                exact hle
            · refine HPM.out.turn2 (fun g hg => List.mem_append_right _ hg) ((HL7.out.calm HM8.out).protect HM9.out (fun g hg => by rw [List.mem_singleton.1 hg]; exact ⟨HK9.out, HL9.out⟩)) (fun G hG => ((HMN.out G hG).trans (Minds.of HM8.out)).trans (Minds.of HM9.out)) (HW7.out.mono (by omega)) HS7.out (HR7.out.trans HPM.out.reps) ?_ ?_
              · rw [flat_snoc, uRow_app]
                exact row_of_ownsW HO9.out
              · intro a ha
                cases ha
                have h1 := (HL7.out.calm HM8.out).lg.lt
                have h2 := HK9.out
                exact ⟨by simp, by show g9 ≠ lb2; omega⟩
      case rest =>
        clear HP HBA HMA HAC q0 q1 hr7 hr7' hr0
        obtain ⟨b3, p3, tk3, lb3, F3, M3, rd3, L03, L3, rs3, A3, c3, rfl, rfl, rfl, rfl, rfl, rfl, rfl, hc3, hLn3, hP3⟩ := hcut.out
        obtain ⟨f1, f2, f3, f4, f5⟩ := hP3.ls.facts
        have f6 := hP3.ls.ok.have_
        obtain ⟨n3, hn3⟩ : ∃ n3, rs3.length = n3 := ⟨_, rfl⟩
        obtain ⟨nf3, hnf3⟩ : ∃ nf3, 5 - n3 = nf3 := ⟨_, rfl⟩
        have hsub : (5 : Int) - (n3 : Int) = (nf3 : Int) := by omega
        have hsw : IntKind.i64.wrap (nf3 : Int) = (nf3 : Int) := by rw [IntKind.wrap_i64]; omega
        have hsw2 : wrap64 (nf3 : Int) = (nf3 : Int) := by simp only [wrap64]; omega
        have cN := Lib.hid (lgNext_any hP3.lg.lg)
        have cL0 := fun (w : World) (hm : Mods [] wc w) => lgLeft_any (hP3.lg.calm hm).lg hP3.ls.ok
        rw [f2, f3, hn3, hnf3] at cL0
        have cL := Lib.hid cL0
        have HP3 := Lib.hid hP3
        have HN3 := Lib.hid hn3
        clear cL0 hP3 hcut f1 f2 f3 f4 f5 f6 hnf3
        rw [hn3]
        clear hn3
        go_wp2_with (first | (go_at_call 55; refine (cL.out _ HM8.out).mono ?_; rintro e w9 ⟨rfl, HM9⟩) | (go_at_call 50; refine cN.out.mono ?_; rintro e w8 ⟨rfl, HM8⟩) | fail)
        go_roundw
        case rel =>
          exact ⟨i + 1, by omega, by go_num, b3, p3, tk3, lb3, F3, M3, rd3, L03, L3, rs3, A3, c3, rfl, rfl, rfl, rfl, rfl, rfl, by rw [HN3.out], hc3, hLn3, HP3.out.calm (HM8.out.trans HM9.out (by simp))⟩
        case measure => simp [intOf]; omega
    · obtain rfl : i = q := by omega
      have hlti : ¬ (i : Int) < (i : Int) := by omega
      obtain ⟨b2, p, tk, lb, F, M, rd, L0, L, rs, A1, c1, rfl, rfl, rfl, rfl, rfl, rfl, rfl, hc1, hLn, hP⟩ := HW.out
      have cR := Lib.hid hP.reps_any
      have HM := Lib.hid hP.lg.own.mods
      clear hP HW
      go_wp2_with (go_at_call 38; refine cR.out.mono ?_; rintro e w7 ⟨rfl, rfl⟩)
      go_ret
      exact ⟨rfl, HM.out⟩
theorem readables_walPlays : ∀ t ∈ (#[42, 56, 115] : Array TypeId).toList, Tryz.prog.readableRec t = true ∧ t < Tryz.prog.types.size := by
  intro t ht
  simp only [List.mem_cons, List.not_mem_nil, or_false] at ht
  rcases ht with rfl | rfl | rfl
  all_goals exact ⟨by kernel_rfl, of_decide_eq_true (by kernel_rfl)⟩

set_option maxRecDepth 100000 in
theorem walPlays_contract (H : Type) (enc : TypeId × Value → H) (W : World) (base : Nat) (args : Array Value) (ds gs : List (DataW H)) (before : List MemPlace)
    (hval : ∀ (j : Nat) t v, Tryz.f11.params[j]? = some t → args[j]? = some v → Value.okWide Tryz.prog W .any base t v)
    (hW : DataW.Whole enc Tryz.prog Tryz.f11.params.toList Rows.walPlaysSpec.vars false W args.toList ds gs before) :
    Calls Tryz.prog 11 args W fun e W' => ∃ v, e = .returned v ∧ Rows.walPlaysSpec.post enc Tryz.prog Tryz.f11 false true false false W args v W' := by
  have hW' := hW
  obtain ⟨p, q, hA0, hV, he, hfz, hnd⟩ := hW
  have hA : DataW.TrodAll enc Tryz.prog W 0 (fun _ => true) true Tryz.f11.params.toList args.toList ds p := hA0
  rw [Tryz.params11] at hA hval
  obtain ⟨v0, vs0, d0, ds0, p0, q0, hargs, rfl, rfl, h0, r0⟩ := trodAll_cons hA
  obtain ⟨v1, vs1, d1, ds1, p1, q1, rfl, rfl, rfl, h1, r1⟩ := trodAll_cons r0
  obtain ⟨v2, vs2, d2, ds2, p2, q2, rfl, rfl, rfl, h2, r2⟩ := trodAll_cons r1
  obtain ⟨rfl, rfl, rfl⟩ := trodAll_nil r2
  obtain rfl : args = #[v0, v1, v2] := by cases args; simp_all
  obtain ⟨seq', rfl, rfl, rfl, wseq⟩ := open_int Tryz.underlying42 (hval 0 42 v0 rfl rfl) h0
  have bseq := bounds_u64 wseq
  obtain ⟨seq, rfl⟩ := Int.eq_ofNat_of_zero_le bseq.1
  obtain ⟨chain', rfl, rfl, rfl, wchain⟩ := open_int Tryz.underlying56 (hval 1 56 v1 rfl rfl) h1
  have bchain := bounds_u32 wchain
  obtain ⟨chain, rfl⟩ := Int.eq_ofNat_of_zero_le bchain.1
  obtain ⟨actsA, actsLen, actsCap, acts, rfl, actsRow, actsL, actsC, actsM, actsR⟩ := acts13_open (hval 2 115 v2 rfl rfl) h2
  refine (walPlays_walk seq chain actsA actsLen actsCap acts W actsRow actsL actsC actsM actsR (by omega) (by omega)).mono fun e W' ⟨he', hm⟩ => ?_
  subst he'
  exact ⟨_, rfl, post_law laidOut (by rw [Tryz.params11]; exact readables_walPlays) (by rfl) Tryz.underlying4 rfl rfl hW' hm.below⟩

set_option maxRecDepth 100000 in
theorem walPlays_lifted (os : Os) (started : os.Started) (H : Type) (enc : TypeId × Value → H) :
    ReturnsInHanded {} Tryz.checked os 11 .any (Rows.walPlaysSpec.pre6 enc Tryz.prog Tryz.f11 Rows.walPlaysRow.domain false) (Rows.walPlaysSpec.post enc Tryz.prog Tryz.f11 false true false false) := by
  refine returnsInHanded_of_change (C := Tryz.checked) own started (by kernel_rfl) Tryz.func11
    (ChangeSpec.witness6 (enc := enc) (C := Tryz.checked) false ⟨#[], #[.int .u64 0, .int .u32 0, .slice none 0 0], []⟩ 8 (by kernel_rfl) (by kernel_rfl) (by kernel_rfl) (by kernel_rfl)) ?_
  intro W base args ds gs before hval hW _ _
  exact walPlays_contract H enc W base args ds gs before hval hW

/-- The law. -/
theorem walPlays_said : Rows.WalPlaysSaid :=
  OpenClaim.holds_of_wide 11 Tryz.f11 rfl rfl rfl rfl rfl rfl rfl ⟨rfl, rfl, rfl, rfl, rfl⟩ rfl rfl rfl rfl rfl (by kernel_rfl) Tryz.func11 (by kernel_rfl)
    (of_decide_eq_true (by kernel_rfl)) (by unfold Func.isWrapper; first | (rw [if_pos (by decide +kernel)]; kernel_rfl) | (rw [if_neg (by decide +kernel)]; exact ⟨rfl, rfl⟩))
    (fun os started H enc _ => walPlays_lifted os started H enc)
end Go.Proofs.YtnpfhfgegjocoaaGreat
