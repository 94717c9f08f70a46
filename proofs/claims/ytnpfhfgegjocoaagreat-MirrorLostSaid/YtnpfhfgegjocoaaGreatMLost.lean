/- MirrorLost: whatever is written, and whichever device goes at which time, the law answers true. No condition but the form's own. -/
import Derived.Test.YtnpfhfgegjocoaaGreatMJ
import Derived.Test.YtnpfhfgegjocoaaGreatMG
import Derived.Deep.CutRange
import Derived.Deep.CutBlock
import Derived.Outline
namespace Go.Proofs.YtnpfhfgegjocoaaGreat
open Go.ChangeShapes Go.WideShapes Go.ChangeAt Go.RowKit

theorem info_u16L : (Tryz.prog.info? 46).map (fun i => (i.zero, i.size, i.bytes)) = some (some (.int .u16 0), 1, 2) := by kernel_rfl
theorem run_makeMapL (W : World) : (Instr.makeMap 79 none).run Tryz.prog W = .ok (.map (some W.heap.size)) (W.alloc (.map #[] 0)) := by kernel_rfl
theorem q8Full {W : World} (s : ByteArray) (hs : s.size ≤ 1000000) :
    Calls Tryz.prog 32 #[.string s] W fun e w' => ∃ z, e = .returned (.string z) ∧ Hid (z = fullB s) ∧ z.size = 128 ∧ Hid (Mods [] W w') := by
  go_enter Tryz.func32, Tryz.ntmps32
  go_wp2_with (go_at_call 44; refine repeat42.mono ?_; rintro e w1 ⟨z, rfl, HZ, hz, hm1⟩; have HM1 := Lib.hid hm1; clear hm1)
  have hx := full_eq s z HZ.out
  rw [hx]
  go_ret
  exact ⟨fullB s, rfl, Lib.hid rfl, fullB_size s, HM1⟩
/-- The law's state, whatever the mirror and the map. -/
def LoW (W w : World) (F : List Nat) (x : Nat → Nat) (b p db tk bk : Nat) (dead : Nat → Bool) (j : Nat) : Prop := ∃ M K, LoIn W w F x b p db tk bk dead M ⟨#[120]⟩ K K j
set_option maxRecDepth 100000 in
set_option maxHeartbeats 12800000 in
theorem mirrorLost_walk (A : Option Addr) (len cap : Nat) (zs : List Nat) (side : Bool) (first : Nat) (W : World) (hr : Row W A (u16sOf zs)) (hz : zs.length = len) (hlc : len ≤ cap) (hcm : cap ≤ maxLen) (hb : ∀ z ∈ zs, z < 65536) (hf : first < 256) :
    Calls Tryz.prog 6 #[.slice A len cap, .bool side, .int .u8 (first : Nat)] W fun e w' => e = .returned (.bool true) ∧ Mods [] W w' := by
  have HR := Lib.hid hr
  have HL := Lib.hid hz
  have HZ := Lib.hid hb
  clear hr hz hb
  unfold maxLen at hcm
  obtain ⟨q, hq⟩ : ∃ q : Nat, min (len : Int) 30 = (q : Int) := ⟨min len 30, by omega⟩
  have hql : q ≤ len := by omega
  have hq30 : q ≤ 30 := by omega
  have hqm : max (q : Int) 0 = (q : Int) := by omega
  obtain ⟨i16, hi16, _, _, _⟩ := info_parts info_u16L
  have hsl := fun (k : Int) (h0 : 0 ≤ k) (h1 : k ≤ cap) (W : World) => run_prefix Tryz.prog 78 46 i16 A len cap k W Tryz.underlying78 hi16 h0 h1
  have hmm := run_makeMapL
  have hfw : IntKind.i64.wrap (first : Int) = (first : Int) := by rw [IntKind.wrap_i64]; omega
  go_enter Tryz.func6, Tryz.ntmps6
  go_wp2_with fail
  refine q8Fresh.mono ?_
  rintro e w1 ⟨x, p, b, M, rfl, HO, HG⟩
  go_wp2_with fail
  obtain ⟨w2, hw2⟩ : ∃ w2, w1.alloc (.cells #[.pointer (some ⟨x 0, 0, none⟩), .pointer (some ⟨x 1, 0, none⟩)] 50) = w2 := ⟨_, rfl⟩
  obtain ⟨db, hdb⟩ : ∃ db, w1.heap.size = db := ⟨_, rfl⟩
  have hb2 : Blk w2 db 50 [.pointer (some ⟨x 0, 0, none⟩), .pointer (some ⟨x 1, 0, none⟩)] := by rw [← hw2, ← hdb]; exact Blk.new w1 50 _
  have hm2 : Mods [] w1 w2 := by rw [← hw2]; exact (Mods.refl _ _).alloc _
  have HO2 : Hid (OwnM W [db] w2 b p x M ∧ Blk w2 db 50 [.pointer (some ⟨x 0, 0, none⟩), .pointer (some ⟨x 1, 0, none⟩)]) := Lib.hid ⟨HO.out.protect hm2 (fun g hg => .inr (by have := hb2.lt; have := List.mem_singleton.1 hg; omega)), hb2⟩
  rw [hw2, hdb]
  clear hw2 hdb hb2 hm2 HO
  refine q8Wakes.mono ?_
  rintro e w3 ⟨rfl, HM3⟩
  go_upto_if 41 with fail
  obtain ⟨s, hs, hside⟩ : ∃ s : Nat, s < 2 ∧ s = if side then 1 else 0 := ⟨_, by split <;> omega, rfl⟩
  go_cut [10] from 41 to 41 (fun kv wx => kv = .int .i64 (s : Nat) ∧ wx = w3)
  case first =>
    cases side with
    | false =>
      have hs0 : s = 0 := hside
      clear hside
      subst hs0
      go_wp2_with fail
      go_meet
      exact ⟨rfl, rfl⟩
    | true =>
      have hs1 : s = 1 := hside
      clear hside
      subst hs1
      go_wp2_with fail
      go_meet
      exact ⟨rfl, rfl⟩
  case rest =>
    obtain ⟨rfl, hwc⟩ := hcut
    subst hwc
    clear hside
    go_wp2_with fail
    refine (sumMake_any _).mono ?_
    rintro e w4 ⟨tk, rfl, hT, hm4, htk⟩
    have HT := Lib.hid (And.intro hT (And.intro hm4 htk))
    clear hT hm4 htk
    go_wp2_with fail
    clear hsl hq hmm
    obtain ⟨w5, hw5⟩ : ∃ w5, w4.alloc (.map #[] 0) = w5 := ⟨_, rfl⟩
    obtain ⟨bk, hbk⟩ : ∃ bk, w4.heap.size = bk := ⟨_, rfl⟩
    have hmap : MapK kvI w5 bk (knP fun _ => none) 0 := by rw [← hw5, ← hbk]; exact MapK.made w4
    have hm5 : Mods [] w4 w5 := by rw [← hw5]; exact (Mods.refl _ _).alloc _
    rw [hw5, hbk]
    have HNE : Hid (bk ≠ tk ∧ bk ≠ db) := Lib.hid (by
      have h1 := HT.out.1.lt
      have h2 := HO2.out.2.lt
      have h3 := HM3.out.size
      have h4 := HT.out.2.1.size
      exact ⟨by omega, by omega⟩)
    have HLO : Hid (LoIn W w5 [db, tk, bk] x b p db tk bk (dkf s false) M ⟨#[120]⟩ (fun _ => none) (fun _ => none) 0) := by
      have hm35 := ((HM3.out.trans HT.out.2.1 (by simp)).trans hm5 (by simp))
      have h3 := HM3.out.size
      have h5 := hmap.lt
      have h6 := HO2.out.1.mods.size
      have h7 := (HT.out.1.keep hm5 (by simp)).lt
      refine Lib.hid ⟨HO2.out.1.protect hm35 (fun g hg => ?_), HG.out.lv s, HG.out.reps, HT.out.1.keep hm5 (by simp), HO2.out.2.keep hm35 (by simp), ⟨0, hmap⟩, fun i q X h => (by cases h), by simp, by have := HT.out.1.lt; have := HT.out.2.2; omega⟩
      rcases List.mem_cons.1 hg with rfl | hg
      · exact .inl (by simp)
      · rcases List.mem_cons.1 hg with rfl | hg
        · exact .inr ⟨by have := HT.out.2.2; omega, h7⟩
        · exact .inr ⟨by have := HT.out.1.lt; have := HT.out.2.2; have := List.mem_singleton.1 hg; omega, by rw [List.mem_singleton.1 hg]; exact h5⟩
    clear hw5 hbk hmap hm5 HT HM3 HO2 HG
    go_loopw [51] (fun iv wr => ∃ i : Nat, i ≤ q ∧ iv = .int .i64 i ∧ LoW W wr [db, tk, bk] x b p db tk bk (dkf s (decide (first < i))) i) (fun iv _ => q - (intOf iv).toNat)
    case atStart => exact ⟨0, Nat.zero_le _, rfl, M, _, HLO.out⟩
    case round =>
      clear HLO
      obtain ⟨i, hi, rfl, hW⟩ := hrel
      by_cases hlt : i < q
      · have hzi : i < zs.length := by have := HL.out; omega
        obtain ⟨M1, K, hS⟩ := hW
        obtain ⟨bz, off, rfl, hcell⟩ := (HR.out.keep hS.own.mods (fun _ _ => by simp)).at (i := i) (u := .int .u16 (zs[i] : Nat)) (by simp [u16sOf, hzi])
        have hz256 := HZ.out _ (List.getElem_mem hzi)
        generalize zs[i] = z at *
        have HS := Lib.hid hS
        clear hS
        go_upto_if 59 with fail
        go_cut [13] from 56 to 63 (fun nv wx => nv = .int .i64 (i : Nat) ∧ ∃ M2, Hid (LoIn W wx [db, tk, bk] x b p db tk bk (dkf s (decide (first ≤ i))) M2 ⟨#[120]⟩ K K i))
        case first =>
          have hcd : wr.cell? ⟨db, s, none⟩ = some (.pointer (some ⟨x s, 0, none⟩)) := Blk.cell HS.out.dv (by rcases two_cases hs with rfl | rfl <;> rfl)
          by_cases hif : i = first
          · as_aux_lemma =>
            have hS := HS.out
            rw [show decide (first < i) = false from decide_eq_false (by omega)] at hS
            have cK := Lib.hid (loKill hS hs)
            rw [dkf_kill] at cK
            have hle : decide (first ≤ i) = true := decide_eq_true (by omega)
            subst hif
            clear hS HS hcell
            go_wp2_with (go_at_call 40; refine cK.out.mono ?_; rintro e w6 ⟨M2, rfl, HL2⟩)
            go_meet
            exact ⟨rfl, M2, by rw [hle]; exact HL2⟩
          · as_aux_lemma =>
            have hif' : ¬ (i : Int) = (first : Int) := by omega
            have hS := HS.out
            rw [show decide (first < i) = decide (first ≤ i) from by rw [decide_eq_decide]; omega] at hS
            have HL2 := Lib.hid hS
            clear hS HS hcell
            go_wp2_with fail
            go_meet
            exact ⟨rfl, M1, HL2⟩
        case rest =>
          obtain ⟨rfl, M2, HL2⟩ := hcut
          obtain ⟨wo, hwo⟩ : ∃ wo : World, wo = wc := ⟨_, rfl⟩
          subst hwo
          clear HS hcell
          obtain ⟨k, hk, hk14⟩ : ∃ k : Nat, (z : Int) % 14 = (k : Int) ∧ k < 14 := ⟨z % 14, by omega, by omega⟩
          have hkt : (z : Int).tmod 14 = (k : Int) := by rw [Int.tmod_eq_emod_of_nonneg (by omega)]; exact hk
          have hzw : IntKind.i64.wrap (z : Int) = (z : Int) := by rw [IntKind.wrap_i64]; omega
          have hiw : IntKind.u64.wrap (i : Int) = (i : Int) := by rw [IntKind.wrap_u64]; omega
          obtain ⟨fl, hfl⟩ : ∃ fl, decide (first ≤ i) = fl := ⟨_, rfl⟩
          have hdg : decide ((first : Int) ≤ (i : Int)) = fl := by rw [← hfl, decide_eq_decide]; omega
          have hnx : decide (first < i + 1) = fl := by rw [← hfl, decide_eq_decide]; omega
          rw [hfl] at HL2
          have cS := Lib.hid (q8SealedI HL2.out.sum k i (by omega) (by omega) ⟨#[120]⟩ (by decide))
          clear hfl
          go_wp2_with fail
          refine cS.out.mono ?_
          rintro e w6 ⟨X, qa, qg, qs, rfl, HI, HM6⟩
          go_wp2_with fail
          obtain ⟨w7, hw7⟩ : ∃ w7, w6.alloc (.cells #[.int .i64 qa, .int .u64 (qg : Nat), .int .u32 (qs : Nat)] 58) = w7 := ⟨_, rfl⟩
          obtain ⟨pb, hpb⟩ : ∃ pb, w6.heap.size = pb := ⟨_, rfl⟩
          have hb7 : Blk w7 pb 58 [.int .i64 qa, .int .u64 (qg : Nat), .int .u32 (qs : Nat)] := by rw [← hw7, ← hpb]; exact Blk.new w6 58 _
          have hm7 : Mods [] w6 w7 := by rw [← hw7]; exact (Mods.refl _ _).alloc _
          have HL7 : Hid (LoIn W w7 (pb :: [db, tk, bk]) x b p db tk bk (dkf s fl) M2 ⟨#[120]⟩ K K i) := Lib.hid ((HL2.out.still HM6.out).protect hm7 (by omega) hb7.lt)
          have HB7 := Lib.hid hb7
          rw [hw7, hpb]
          clear hw7 hpb hb7 hm7 cS HL2 HM6
          have hand := dkf_and (s := s) fl
          have cW := Lib.hid (loWrite HL7.out (by omega) hk14 HI.out)
          rw [hand, if_neg (by decide)] at cW
          have cF := Lib.hid (fun (w : World) (M : Mi) (h : LoIn W w (pb :: [db, tk, bk]) x b p db tk bk (dkf s fl) M ⟨#[120]⟩ K (K.put k ⟨qa, qg, qs⟩ X) (i + 1)) => loFlush h (by omega))
          rw [hand, if_neg (by decide)] at cF
          refine cW.out.mono ?_
          rintro e w8 ⟨M3, rfl, HL8, HK8⟩
          go_wp2_with (go_at_call 30; refine (cF.out _ _ HL8.out).mono ?_; rintro e w9 ⟨M4, rfl, HL9, HK9⟩; have hb9 := (HK8.out.trans HK9.out).blk HB7.out (by simp); have z1 := hb9.cell (i := 0) rfl; have z2 := hb9.cell (i := 1) rfl; have z3 := hb9.cell (i := 2) rfl; obtain ⟨w10, hupd, HL10⟩ := loStore (HL9.out.less ⟨by simp, by simp, by simp⟩) rfl HNE.out; unfold ptrV at hupd; simp only at hupd; obtain ⟨w11, left, hrg, HR11⟩ := loRange HL10.out)
          obtain ⟨r, hr⟩ : ∃ r, w10.heap.size = r := ⟨_, rfl⟩
          rw [hr] at hrg HR11 ⊢
          clear hr
          clear cW cF z1 z2 z3 hb9 HL8 HL9 HL10 HK8 HK9 HB7 HL7 hupd hrg
          go_loopw [] (fun wr => ∃ left, LrIn W wr [db, tk, bk] x b p db tk bk r (dkf s fl) M4 ⟨#[120]⟩ (K.put k ⟨qa, qg, qs⟩ X) (i + 1) left) (fun wr => leftI wr r bk)
          case atStart => exact ⟨left, HR11.out⟩
          case round =>
            clear HR11
            obtain ⟨left, hR⟩ := hrel
            have hl : leftI wr r bk = left := by obtain ⟨D, hD⟩ := hR.rng; exact hD.leftI
            rcases hR.next with ⟨_, hnx1⟩ | ⟨i2, q2, X2, w12, left1, hk2, hnx1, hen, HR12, hlt1⟩
            · have HLD := Lib.hid (hR.done ⟨by simp, by simp, by simp⟩)
              have cD := Lib.hid (loDegr HLD.out)
              rw [dkf_or hs] at cD
              clear hR hl
              cases fl with
              | true =>
                have hge : (first : Int) ≤ (i : Int) := of_decide_eq_true hdg
                go_wp2_with (go_at_call 41; refine cD.out.mono ?_; rintro e w' ⟨rfl, rfl⟩)
                go_roundw
                case rel => exact ⟨i + 1, by omega, by go_num, M4, _, by rw [hnx]; exact HLD.out⟩
                case measure => simp [intOf]; omega
              | false =>
                have hge : ¬ (first : Int) ≤ (i : Int) := of_decide_eq_false hdg
                go_wp2_with (go_at_call 41; refine cD.out.mono ?_; rintro e w' ⟨rfl, rfl⟩)
                go_roundw
                case rel => exact ⟨i + 1, by omega, by go_num, M4, _, by rw [hnx]; exact HLD.out⟩
                case measure => simp [intOf]; omega
            · obtain ⟨qa2, qg2, qs2⟩ := q2
              unfold ptrV at hnx1 hen
              simp only at hnx1 hen
              obtain ⟨w13, hw13⟩ : ∃ w13, w12.alloc (.cells #[.int .i64 qa2, .int .u64 (qg2 : Nat), .int .u32 (qs2 : Nat)] 58) = w13 := ⟨_, rfl⟩
              have hb13 : Blk w13 w12.heap.size 58 [.int .i64 qa2, .int .u64 (qg2 : Nat), .int .u32 (qs2 : Nat)] := by rw [← hw13]; exact Blk.new w12 58 _
              have hm13 : Mods [] w12 w13 := by rw [← hw13]; exact (Mods.refl _ _).alloc _
              have HR13 := Lib.hid (HR12.out.still hm13)
              have cR := Lib.hid (loRead HR13.out.lo (by omega) hk2)
              rw [hand, if_neg (by decide), if_neg (by decide)] at cR
              unfold ptrV at cR
              simp only at cR
              have z1 := hb13.cell (i := 0) rfl
              have z2 := hb13.cell (i := 1) rfl
              have z3 := hb13.cell (i := 2) rfl
              have HLL := Lib.hid (And.intro hl hlt1)
              clear hR hl hlt1 hb13 hm13
              go_wp2_with (go_at_call 34; refine cR.out.mono ?_; rintro e w14 ⟨kk, rfl, HL14, HK14⟩)
              go_roundw
              case rel => exact ⟨left1, HR13.out.to HL14.out HK14.out⟩
              case measure =>
                have h14 : leftI w14 r bk = left1 := by obtain ⟨D, hD⟩ := (HR13.out.to HL14.out HK14.out).rng; exact hD.leftI
                rw [h14, HLL.out.1]; exact HLL.out.2
      · obtain rfl : i = q := by omega
        obtain ⟨M1, K, hS⟩ := hW
        have z0 := hS.dv.cell (i := 0) rfl
        have cK0 := Lib.hid (loKill hS (s := 0) (by decide))
        have cK1 := Lib.hid (fun (w : World) (M : Mi) (h : LoIn W w [db, tk, bk] x b p db tk bk (fun d => if d = 0 then true else dkf s (decide (first < i)) d) M ⟨#[120]⟩ K K i) => loKill h (s := 1) (by decide))
        obtain ⟨dd, hdd⟩ : ∃ dd, (fun d => if d = 1 then true else if d = 0 then true else dkf s (decide (first < i)) d) = dd := ⟨_, rfl⟩
        have hd0 : dd 0 = true := by rw [← hdd]; rfl
        have hd1 : dd 1 = true := by rw [← hdd]; rfl
        have hda : (dd 0 && dd 1) = true := by rw [hd0, hd1]; rfl
        rw [hdd] at cK1
        clear hS hdd
        go_wp2_with fail
        refine cK0.out.mono ?_
        rintro e w6 ⟨M2, rfl, HL2⟩
        have z1 := HL2.out.dv.cell (i := 1) rfl
        clear cK0 z0
        go_wp2_with fail
        refine (cK1.out _ _ HL2.out).mono ?_
        rintro e w7 ⟨M3, rfl, HL3⟩
        clear cK1 z1 HL2
        obtain ⟨w11, left, hrg, HR11⟩ := loRange HL3.out
        obtain ⟨r, hr⟩ : ∃ r, w7.heap.size = r := ⟨_, rfl⟩
        rw [hr] at hrg HR11
        clear hr HL3
        go_wp2_with fail
        clear hrg
        go_loopw [] (fun wr => ∃ left, LrIn W wr [db, tk, bk] x b p db tk bk r dd M3 ⟨#[120]⟩ K i left) (fun wr => leftI wr r bk)
        case atStart => exact ⟨left, HR11.out⟩
        case round =>
          clear HR11
          obtain ⟨left, hR⟩ := hrel
          have hl : leftI wr r bk = left := by obtain ⟨D, hD⟩ := hR.rng; exact hD.leftI
          rcases hR.next with ⟨_, hnx1⟩ | ⟨i2, q2, X2, w12, left1, hk2, hnx1, hen, HR12, hlt1⟩
          · have HLD := Lib.hid (hR.done ⟨by simp, by simp, by simp⟩)
            have cFu := Lib.hid (fun w => q8Full (W := w) ⟨#[]⟩ (by decide))
            have cW := Lib.hid (fun (w : World) (z : ByteArray) (hz : z.size = 128) (hm : Mods [] wr w) => show Calls Tryz.prog 29 #[.pointer (some ⟨b, 0, none⟩), .int .i64 0, .string z] w _ from loWriteD (HLD.out.still hm) (by omega) (i := 0) (by decide) hz ⟨hd0, hd1⟩)
            have cF := Lib.hid (fun (w : World) (M : Mi) (h : LoIn W w [db, tk, bk] x b p db tk bk dd M ⟨#[120]⟩ K K (i + 1)) => loFlush h (by omega))
            rw [hda, if_pos rfl] at cF
            have cD := Lib.hid (fun (w : World) (M : Mi) (h : LoIn W w [db, tk, bk] x b p db tk bk dd M ⟨#[120]⟩ K K (i + 1)) => loDegr h)
            rw [hd0, hd1] at cD
            clear hR hl
            go_wp2_with (first | (go_at_call 32; refine (cFu.out _).mono ?_; rintro e w12 ⟨z, rfl, _, hz, HM12⟩) | (go_at_call 29; refine (cW.out _ _ hz HM12.out).mono ?_; rintro e w13 ⟨M4, rfl, HL13⟩) | (go_at_call 30; refine (cF.out _ _ HL13.out).mono ?_; rintro e w14 ⟨M5, rfl, HL14, _⟩) | (go_at_call 41; refine (cD.out _ _ HL14.out).mono ?_; rintro e w' ⟨rfl, rfl⟩))
            go_ret
            exact ⟨rfl, HL14.out.own.mods⟩
          · obtain ⟨qa2, qg2, qs2⟩ := q2
            unfold ptrV at hnx1 hen
            simp only at hnx1 hen
            obtain ⟨w13, hw13⟩ : ∃ w13, w12.alloc (.cells #[.int .i64 qa2, .int .u64 (qg2 : Nat), .int .u32 (qs2 : Nat)] 58) = w13 := ⟨_, rfl⟩
            obtain ⟨pb, hpb⟩ : ∃ pb, w12.heap.size = pb := ⟨_, rfl⟩
            have hb13 : Blk w13 pb 58 [.int .i64 qa2, .int .u64 (qg2 : Nat), .int .u32 (qs2 : Nat)] := by rw [← hw13, ← hpb]; exact Blk.new w12 58 _
            have hm13 : Mods [] w12 w13 := by rw [← hw13]; exact (Mods.refl _ _).alloc _
            have HR13 := Lib.hid (HR12.out.still hm13)
            have HL13 := Lib.hid (HR12.out.lo.protect hm13 (g := pb) (by omega) hb13.lt)
            have cR := Lib.hid (loRead HL13.out (by omega) hk2)
            rw [hda, if_pos rfl, if_pos rfl] at cR
            have cC := Lib.hid (fun (w : World) (h : LoIn W w (pb :: r :: [db, tk, bk]) x b p db tk bk dd M3 ⟨#[120]⟩ K K i) => loChk h (by omega) hk2 hda)
            unfold ptrV at cR cC
            simp only at cR cC
            have z1 := hb13.cell (i := 0) rfl
            have z2 := hb13.cell (i := 1) rfl
            have z3 := hb13.cell (i := 2) rfl
            have HB13 := Lib.hid hb13
            have HLL := Lib.hid (And.intro hl hlt1)
            clear hR hl hlt1 hb13 hm13
            go_wp2_with fail
            refine cR.out.mono ?_
            rintro e w14 ⟨kk, rfl, HL14, HK14⟩
            have hb14 := HK14.out.blk HB13.out (by simp)
            have y1 := hb14.cell (i := 0) rfl
            have y2 := hb14.cell (i := 1) rfl
            have y3 := hb14.cell (i := 2) rfl
            clear hb14 z1 z2 z3
            go_wp2_with (go_at_call 39; refine (cC.out _ HL14.out).mono ?_; rintro e w15 ⟨rfl, HL15, HK15⟩)
            have HRE : Hid (LrIn W w15 [db, tk, bk] x b p db tk bk r dd M3 ⟨#[120]⟩ K i left1) := Lib.hid (HR13.out.to (HL15.out.less ⟨by simp, by simp, by simp⟩) ((HK14.out.trans HK15.out).mono (fun k hk => List.mem_cons_of_mem _ hk)))
            go_roundw
            case rel => exact ⟨left1, HRE.out⟩
            case measure =>
              have h14 : leftI w15 r bk = left1 := by obtain ⟨D, hD⟩ := HRE.out.rng; exact hD.leftI
              rw [h14, HLL.out.1]; exact HLL.out.2
theorem readables_mirrorLost : ∀ t ∈ (#[78, 4, 5] : Array TypeId).toList, Tryz.prog.readableRec t = true ∧ t < Tryz.prog.types.size := by
  intro t ht
  simp only [List.mem_cons, List.not_mem_nil, or_false] at ht
  rcases ht with rfl | rfl | rfl
  all_goals exact ⟨by kernel_rfl, of_decide_eq_true (by kernel_rfl)⟩

set_option maxRecDepth 100000 in
theorem mirrorLost_contract (H : Type) (enc : TypeId × Value → H) (W : World) (base : Nat) (args : Array Value) (ds gs : List (DataW H)) (before : List MemPlace)
    (hval : ∀ (j : Nat) t v, Tryz.f6.params[j]? = some t → args[j]? = some v → Value.okWide Tryz.prog W .any base t v)
    (hW : DataW.Whole enc Tryz.prog Tryz.f6.params.toList Rows.mirrorLostSpec.vars false W args.toList ds gs before) :
    Calls Tryz.prog 6 args W fun e W' => ∃ v, e = .returned v ∧ Rows.mirrorLostSpec.post enc Tryz.prog Tryz.f6 false true false false W args v W' := by
  have hW' := hW
  obtain ⟨p, q, hA0, hV, he, hfz, hnd⟩ := hW
  have hA : DataW.TrodAll enc Tryz.prog W 0 (fun _ => true) true Tryz.f6.params.toList args.toList ds p := hA0
  rw [Tryz.params6] at hA hval
  obtain ⟨v0, vs0, d0, ds0, p0, q0, hargs, rfl, rfl, h0, r0⟩ := trodAll_cons hA
  obtain ⟨v1, vs1, d1, ds1, p1, q1, rfl, rfl, rfl, h1, r1⟩ := trodAll_cons r0
  obtain ⟨v2, vs2, d2, ds2, p2, q2, rfl, rfl, rfl, h2, r2⟩ := trodAll_cons r1
  obtain ⟨rfl, rfl, rfl⟩ := trodAll_nil r2
  obtain rfl : args = #[v0, v1, v2] := by cases args; simp_all
  obtain ⟨lA, lLen, lCap, l, rfl, lRow, lL, lC, lM, lB⟩ := u16s_open Tryz.underlying78 Tryz.underlying46 (by kernel_rfl) (hval 0 78 v0 rfl rfl) h0
  obtain ⟨side, rfl, rfl, rfl⟩ := open_bool Tryz.underlying4 (hval 1 4 v1 rfl rfl) h1
  obtain ⟨first', rfl, rfl, rfl, wfirst⟩ := open_int Tryz.underlying5 (hval 2 5 v2 rfl rfl) h2
  have bfirst := bounds_u8 wfirst
  obtain ⟨first, rfl⟩ := Int.eq_ofNat_of_zero_le bfirst.1
  refine (mirrorLost_walk lA lLen lCap l side first W lRow lL lC lM lB (by omega)).mono fun e W' ⟨he', hm⟩ => ?_
  subst he'
  exact ⟨_, rfl, post_law laidOut (by rw [Tryz.params6]; exact readables_mirrorLost) (by rfl) Tryz.underlying4 rfl rfl hW' hm.below⟩

set_option maxRecDepth 100000 in
theorem mirrorLost_lifted (os : Os) (started : os.Started) (H : Type) (enc : TypeId × Value → H) :
    ReturnsInHanded {} Tryz.checked os 6 .any (Rows.mirrorLostSpec.pre6 enc Tryz.prog Tryz.f6 Rows.mirrorLostRow.domain false) (Rows.mirrorLostSpec.post enc Tryz.prog Tryz.f6 false true false false) := by
  refine returnsInHanded_of_change (C := Tryz.checked) own started (by kernel_rfl) Tryz.func6
    (ChangeSpec.witness6 (enc := enc) (C := Tryz.checked) false ⟨#[], #[.slice none 0 0, .bool false, .int .u8 0], []⟩ 8 (by kernel_rfl) (by kernel_rfl) (by kernel_rfl) (by kernel_rfl)) ?_
  intro W base args ds gs before hval hW _ _
  exact mirrorLost_contract H enc W base args ds gs before hval hW

/-- The law. -/
theorem mirrorLost_said : Rows.MirrorLostSaid :=
  OpenClaim.holds_of_wide 6 Tryz.f6 rfl rfl rfl rfl rfl rfl rfl ⟨rfl, rfl, rfl, rfl, rfl⟩ rfl rfl rfl rfl rfl (by kernel_rfl) Tryz.func6 (by kernel_rfl)
    (of_decide_eq_true (by kernel_rfl)) (by unfold Func.isWrapper; first | (rw [if_pos (by decide +kernel)]; kernel_rfl) | (rw [if_neg (by decide +kernel)]; exact ⟨rfl, rfl⟩))
    (fun os started H enc _ => mirrorLost_lifted os started H enc)
end Go.Proofs.YtnpfhfgegjocoaaGreat
