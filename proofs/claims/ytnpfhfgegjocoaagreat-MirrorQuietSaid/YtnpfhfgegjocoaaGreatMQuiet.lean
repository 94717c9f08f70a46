/- MirrorQuiet: whatever is written, where no fault is the law answers true. No condition but the form's own. -/
import Derived.Test.YtnpfhfgegjocoaaGreatMQ
import Derived.Test.YtnpfhfgegjocoaaGreatMG
import Derived.Deep.CutRange
import Derived.Deep.CutBlock
import Derived.Outline
namespace Go.Proofs.YtnpfhfgegjocoaaGreat
open Go.ChangeShapes Go.WideShapes Go.ChangeAt Go.RowKit

theorem info_u16Q : (Tryz.prog.info? 46).map (fun i => (i.zero, i.size, i.bytes)) = some (some (.int .u16 0), 1, 2) := by kernel_rfl
theorem run_makeMapQ (W : World) : (Instr.makeMap 79 none).run Tryz.prog W = .ok (.map (some W.heap.size)) (W.alloc (.map #[] 0)) := by kernel_rfl
theorem run_makeMapQs (W : World) : (Instr.makeMap 81 none).run Tryz.prog W = .ok (.map (some W.heap.size)) (W.alloc (.map #[] 0)) := by kernel_rfl
/-- A row of two bytes as a string. -/
theorem run_two_string (W : World) (x y : Nat) (hx : x < 256) (hy : y < 256) : (convert 22 9 (.slice (some ⟨W.heap.size, 0, none⟩) 2 2)).run Tryz.prog (W.alloc (.cells #[.int .u8 (x : Nat), .int .u8 (y : Nat)] 5)) = .ok (.string ⟨#[UInt8.ofNat x, UInt8.ofNat y]⟩) (W.alloc (.cells #[.int .u8 (x : Nat), .int .u8 (y : Nat)] 5)) := by
  have hB := Blk.new W 5 [.int .u8 (x : Nat), .int .u8 (y : Nat)]
  have c0 := hB.cell (i := 0) rfl
  have c1 := hB.cell (i := 1) rfl
  have hxn : ((UInt8.ofNat x).toNat : Int) = (x : Int) := by simp; omega
  have hyn : ((UInt8.ofNat y).toNat : Int) = (y : Int) := by simp; omega
  refine run_convert_bytes_back (P := Tryz.prog) _ 22 9 5 ⟨W.heap.size, 0, none⟩ 2 [UInt8.ofNat x, UInt8.ofNat y] Tryz.underlying22 Tryz.underlying5 Tryz.underlying9 (fun j hj => ?_)
  have hj2 : j < 2 := hj
  rcases two_cases hj2 with rfl | rfl
  · simp only [List.getElem_cons_zero, hxn]; exact c0
  · simp only [List.getElem_cons_succ, List.getElem_cons_zero, hyn]; exact c1
def QuW (W w : World) (F : List Nat) (x : Nat → Nat) (b p tk bk bt : Nat) (j : Nat) : Prop := ∃ M K, QuIn W w F x b p tk bk bt M K K j
set_option maxRecDepth 100000 in
set_option maxHeartbeats 3200000 in
theorem mirrorQuiet_walk (A : Option Addr) (len cap : Nat) (zs : List Nat) (W : World) (hr : Row W A (u16sOf zs)) (hz : zs.length = len) (hlc : len ≤ cap) (hcm : cap ≤ maxLen) (hb : ∀ z ∈ zs, z < 65536) :
    Calls Tryz.prog 7 #[.slice A len cap] W fun e w' => e = .returned (.bool true) ∧ Mods [] W w' := by
  have HR := Lib.hid hr
  have HL := Lib.hid hz
  have HZ := Lib.hid hb
  clear hr hz hb
  unfold maxLen at hcm
  obtain ⟨q, hq⟩ : ∃ q : Nat, min (len : Int) 40 = (q : Int) := ⟨min len 40, by omega⟩
  have hql : q ≤ len := by omega
  have hq30 : q ≤ 40 := by omega
  have hqm : max (q : Int) 0 = (q : Int) := by omega
  obtain ⟨i16, hi16, _, _, _⟩ := info_parts info_u16Q
  have hsl := fun (k : Int) (h0 : 0 ≤ k) (h1 : k ≤ cap) (W : World) => run_prefix Tryz.prog 78 46 i16 A len cap k W Tryz.underlying78 hi16 h0 h1
  have hmm := run_makeMapQ
  have hms := run_makeMapQs
  go_enter Tryz.func7, Tryz.ntmps7
  go_wp2_with fail
  refine q8Fresh.mono ?_
  rintro e w1 ⟨x, p, b, M, rfl, HO, HG⟩
  go_wp2_with fail
  obtain ⟨w2, hw2⟩ : ∃ w2, w1.alloc (.cells #[.pointer (some ⟨x 0, 0, none⟩), .pointer (some ⟨x 1, 0, none⟩)] 50) = w2 := ⟨_, rfl⟩
  obtain ⟨db, hdb⟩ : ∃ db, w1.heap.size = db := ⟨_, rfl⟩
  have hb2 : Blk w2 db 50 [.pointer (some ⟨x 0, 0, none⟩), .pointer (some ⟨x 1, 0, none⟩)] := by rw [← hw2, ← hdb]; exact Blk.new w1 50 _
  have hm2 : Mods [] w1 w2 := by rw [← hw2]; exact (Mods.refl _ _).alloc _
  have HO2 : Hid (OwnM W [db] w2 b p x M ∧ Blk w2 db 50 [.pointer (some ⟨x 0, 0, none⟩), .pointer (some ⟨x 1, 0, none⟩)]) := Lib.hid ⟨HO.out.protect hm2 (fun g hg => .inr (by have := hb2.lt; have := List.mem_singleton.1 hg; omega)), hb2⟩
  rw [hw2, hdb]
  clear hw2 hdb hb2 hm2 HO
  refine q8Wakes.mono ?_
  rintro e w3 ⟨rfl, HM3⟩
  go_wp2_with fail
  refine (sumMake_any _).mono ?_
  rintro e w4 ⟨tk, rfl, hT, hm4, htk⟩
  have HT := Lib.hid (And.intro hT (And.intro hm4 htk))
  clear hT hm4 htk
  go_wp2_with fail
  clear hsl hq hmm hms
  obtain ⟨w5, hw5⟩ : ∃ w5, (w4.alloc (.map #[] 0)).alloc (.map #[] 0) = w5 := ⟨_, rfl⟩
  obtain ⟨bk, hbk⟩ : ∃ bk, w4.heap.size = bk := ⟨_, rfl⟩
  have hsz : (w4.alloc (.map #[] 0)).heap.size = bk + 1 := by rw [← hbk]; exact Array.size_push _
  have hm5 : Mods [] w4 w5 := by rw [← hw5]; exact ((Mods.refl _ _).alloc _).alloc _
  have hmap : MapK kvI w5 bk (ktP fun _ => none) 0 := by
    rw [← hw5, ← hbk]; exact (MapK.made w4).keep (L := []) ((Mods.refl _ _).alloc _) (by simp)
  have htxt : MapK kvI w5 (bk + 1) (ktT fun _ => none) 0 := by
    rw [← hw5, ← hsz]; exact MapK.made (w4.alloc (.map #[] 0))
  rw [hw5, hbk]
  have HQ : Hid (QuIn W w5 [tk, bk, bk + 1] x b p tk bk (bk + 1) M (fun _ => none) (fun _ => none) 0) := by
    have hm35 := ((HM3.out.trans HT.out.2.1 (by simp)).trans hm5 (by simp))
    have h3 := HM3.out.size
    have h5 := hmap.lt
    have h5t := htxt.lt
    have h6 := HO2.out.1.mods.size
    have h7 := (HT.out.1.keep hm5 (by simp)).lt
    have h8 := HT.out.2.2
    have h9 := HT.out.1.lt
    refine Lib.hid ⟨HO2.out.1.protect hm35 (fun g hg => ?_), ⟨HG.out.gm, HG.out.sound, HG.out.tab, HG.out.reps, HG.out.bl, fun i q X t h => (by cases h)⟩, HT.out.1.keep hm5 (by simp), ⟨0, hmap⟩, ⟨0, htxt⟩, by simp, ⟨by omega, by omega⟩, ⟨by omega, by omega, by omega⟩⟩
    simp only [List.mem_cons, List.not_mem_nil, or_false] at hg
    rcases hg with rfl | rfl | rfl
    · exact .inr ⟨by omega, h7⟩
    · exact .inr ⟨by omega, h5⟩
    · exact .inr ⟨by omega, h5t⟩
  obtain ⟨bt, hbt⟩ : ∃ bt, bk + 1 = bt := ⟨_, rfl⟩
  rw [hbt] at HQ ⊢
  clear hw5 hbk hmap htxt hm5 HT HM3 HO2 HG hsz hbt
  go_loopw [42] (fun iv wr => ∃ i : Nat, i ≤ q ∧ iv = .int .i64 i ∧ QuW W wr [tk, bk, bt] x b p tk bk bt i) (fun iv _ => q - (intOf iv).toNat)
  case atStart => exact ⟨0, Nat.zero_le _, rfl, M, _, HQ.out⟩
  case round =>
    clear HQ
    obtain ⟨i, hi, rfl, hW⟩ := hrel
    by_cases hlt : i < q
    · have hzi : i < zs.length := by have := HL.out; omega
      obtain ⟨M2, K, hS⟩ := hW
      obtain ⟨bz, off, rfl, hcell⟩ := (HR.out.keep hS.own.mods (fun _ _ => by simp)).at (i := i) (u := .int .u16 (zs[i] : Nat)) (by simp [u16sOf, hzi])
      have hz256 := HZ.out _ (List.getElem_mem hzi)
      generalize zs[i] = z at *
      have HS := Lib.hid hS
      clear hS
      obtain ⟨k, hk, hk14⟩ : ∃ k : Nat, (z : Int) % 14 = (k : Int) ∧ k < 14 := ⟨z % 14, by omega, by omega⟩
      have hkt : (z : Int).tmod 14 = (k : Int) := by rw [Int.tmod_eq_emod_of_nonneg (by omega)]; exact hk
      have hzw : IntKind.i64.wrap (z : Int) = (z : Int) := by rw [IntKind.wrap_i64]; omega
      have hiw : IntKind.u64.wrap (i : Int) = (i : Int) := by rw [IntKind.wrap_u64]; omega
      have hzd : (z : Int) / 256 = ((z / 256 : Nat) : Int) := by omega
      have hcv := run_two_string wr (z / 256) i (by omega) (by omega)
      rw [← hzd] at hcv
      obtain ⟨tx, htx⟩ : ∃ tx : ByteArray, (⟨#[UInt8.ofNat (z / 256), UInt8.ofNat i]⟩ : ByteArray) = tx := ⟨_, rfl⟩
      have htxs : tx.size ≤ 104 := by rw [← htx]; show 2 ≤ 104; decide
      rw [htx] at hcv
      obtain ⟨w6, hw6⟩ : ∃ w6, wr.alloc (.cells #[.int .u8 ((z : Int) / 256), .int .u8 (i : Nat)] 5) = w6 := ⟨_, rfl⟩
      have HS6 : Hid (QuIn W w6 [tk, bk, bt] x b p tk bk bt M2 K K i) := Lib.hid (by rw [← hw6]; exact HS.out.calm ((Mods.refl _ _).alloc _))
      rw [hw6] at hcv
      have cS := Lib.hid (q8SealedI HS6.out.sum k i (by omega) (by omega) tx htxs)
      clear htx htxs hzd
      go_wp2_with fail
      clear hcv hw6 HS
      refine cS.out.mono ?_
      rintro e w7 ⟨X, qa, qg, qs, rfl, HI, HM7⟩
      go_upto_region 12 with fail
      obtain ⟨w8, hw8⟩ : ∃ w8, w7.alloc (.cells #[.int .i64 qa, .int .u64 (qg : Nat), .int .u32 (qs : Nat)] 58) = w8 := ⟨_, rfl⟩
      obtain ⟨pb, hpb⟩ : ∃ pb, w7.heap.size = pb := ⟨_, rfl⟩
      have hb8 : Blk w8 pb 58 [.int .i64 qa, .int .u64 (qg : Nat), .int .u32 (qs : Nat)] := by rw [← hw8, ← hpb]; exact Blk.new w7 58 _
      have hm8 : Mods [] w7 w8 := by rw [← hw8]; exact (Mods.refl _ _).alloc _
      have HS8 : Hid (QuIn W w8 (pb :: [tk, bk, bt]) x b p tk bk bt M2 K K i) := Lib.hid ((HS6.out.calm HM7.out).protect hm8 (by omega) hb8.lt)
      have HB8 := Lib.hid hb8
      rw [hw8, hpb]
      clear hw8 hpb hb8 hm8 cS HS6 HM7
      have cW := Lib.hid (quWrite HS8.out (by omega) hk14 HI.out)
      have cF := Lib.hid (fun (w : World) (M : Mi) (h : QuIn W w (pb :: [tk, bk, bt]) x b p tk bk bt M K (K.put k ⟨qa, qg, qs⟩ X tx) (i + 1)) => quFlush h (by omega))
      go_cut [80] from 66 to 80 (fun v wx => v = .bool false ∧ ∃ M, Hid (QuIn W wx (pb :: [tk, bk, bt]) x b p tk bk bt M K (K.put k ⟨qa, qg, qs⟩ X tx) (i + 1)) ∧ Hid (Blk wx pb 58 [.int .i64 qa, .int .u64 (qg : Nat), .int .u32 (qs : Nat)]))
      case first =>
        by_cases h5 : (z : Int) % 5 = 0
        · go_wp2_with (first | (go_at_call 30; refine (cF.out _ _ HS9.out).mono ?_; rintro e w10 ⟨M4, rfl, HS10, HN10⟩) | (go_at_call 29; refine cW.out.mono ?_; rintro e w9 ⟨M3, rfl, HS9, HN9⟩))
          go_meet
          exact ⟨rfl, M4, HS10, Lib.hid ((HN9.out.trans HN10.out).blk HB8.out (by simp))⟩
        · go_wp2_with (first | (go_at_call 29; refine cW.out.mono ?_; rintro e w9 ⟨M3, rfl, HS9, HN9⟩))
          go_meet
          exact ⟨rfl, M3, HS9, Lib.hid (HN9.out.blk HB8.out (by simp))⟩
      case rest =>
        obtain ⟨rfl, M3, HS9, HB9⟩ := hcut
        obtain ⟨wo, hwo⟩ : ∃ wo : World, wo = wc := ⟨_, rfl⟩
        subst hwo
        clear cW cF HS8 HB8
        have z1 := HB9.out.cell (i := 0) rfl
        have z2 := HB9.out.cell (i := 1) rfl
        have z3 := HB9.out.cell (i := 2) rfl
        obtain ⟨w10, w11, hup1, hup2, HS11⟩ := quStore (HS9.out.less ⟨by simp, by simp, by simp⟩) rfl
        obtain ⟨w12, left, hrg, HR12⟩ := quRange HS11.out
        unfold ptrV at hup1
        simp only at hup1
        go_wp2_with fail
        obtain ⟨r, hr⟩ : ∃ r, w11.heap.size = r := ⟨_, rfl⟩
        rw [hr] at hrg HR12 ⊢
        clear hr z1 z2 z3 HS9 HB9 HS11 hup1 hup2 hrg
        go_loopw [] (fun wr => ∃ left, QrIn W wr [tk, bk, bt] x b p tk bk bt r M3 (K.put k ⟨qa, qg, qs⟩ X tx) (i + 1) left) (fun wr => leftI wr r bk)
        case atStart => exact ⟨left, HR12.out⟩
        case round =>
          clear HR12
          obtain ⟨left, hR⟩ := hrel
          have hl : leftI wr r bk = left := by obtain ⟨D, hD⟩ := hR.rng; exact hD.leftI
          rcases hR.next with ⟨_, hnx1⟩ | ⟨i2, q2, X2, t2, w13, left1, hk2, hnx1, hen, HR13, hlt1⟩
          · have HLD := Lib.hid hR.done
            clear hR hl
            go_wp2_with fail
            go_roundw
            case rel => exact ⟨i + 1, by omega, by go_num, M3, _, HLD.out⟩
            case measure => simp [intOf]; omega
          · obtain ⟨qa2, qg2, qs2⟩ := q2
            unfold ptrV at hnx1 hen
            simp only at hnx1 hen
            obtain ⟨w14, hw14⟩ : ∃ w14, w13.alloc (.cells #[.int .i64 qa2, .int .u64 (qg2 : Nat), .int .u32 (qs2 : Nat)] 58) = w14 := ⟨_, rfl⟩
            obtain ⟨pc, hpc⟩ : ∃ pc, w13.heap.size = pc := ⟨_, rfl⟩
            have hb14 : Blk w14 pc 58 [.int .i64 qa2, .int .u64 (qg2 : Nat), .int .u32 (qs2 : Nat)] := by rw [← hw14, ← hpc]; exact Blk.new w13 58 _
            have hm14 : Mods [] w13 w14 := by rw [← hw14]; exact (Mods.refl _ _).alloc _
            have HR14 := Lib.hid (HR13.out.calm hm14)
            have HL14 := Lib.hid (HR13.out.lo.protect hm14 (g := pc) (by omega) hb14.lt)
            have cR := Lib.hid (quRead HL14.out (by omega) hk2)
            have cC := Lib.hid (fun (w : World) (h : QuIn W w (pc :: r :: [tk, bk, bt]) x b p tk bk bt M3 (K.put k ⟨qa, qg, qs⟩ X tx) (K.put k ⟨qa, qg, qs⟩ X tx) (i + 1)) => quChk h (by omega) hk2)
            have HLk := Lib.hid (fun (w : World) (h : QuIn W w (pc :: r :: [tk, bk, bt]) x b p tk bk bt M3 (K.put k ⟨qa, qg, qs⟩ X tx) (K.put k ⟨qa, qg, qs⟩ X tx) (i + 1)) => quLook h hk2)
            unfold ptrV at cR cC
            simp only at cR cC
            have z1 := hb14.cell (i := 0) rfl
            have z2 := hb14.cell (i := 1) rfl
            have z3 := hb14.cell (i := 2) rfl
            have HB14 := Lib.hid hb14
            have HLL := Lib.hid (And.intro hl hlt1)
            clear hR hl hlt1 hb14 hm14
            go_wp2_with (first | (go_at_call 39; refine (cC.out _ HL15.out).mono ?_; rintro e w16 ⟨rfl, HL16, HK16⟩) | (go_at_call 34; refine cR.out.mono ?_; rintro e w15 ⟨rfl, HL15, HK15⟩; have hb15 := HK15.out.blk HB14.out (by simp); have y1 := hb15.cell (i := 0) rfl; have y2 := hb15.cell (i := 1) rfl; have y3 := hb15.cell (i := 2) rfl; have hlk := HLk.out _ HL15.out))
            go_roundw
            case rel => exact ⟨left1, HR14.out.go (HL16.out.less ⟨by simp, by simp, by simp⟩) ((HK15.out.trans HK16.out).mono (by simp))⟩
            case measure =>
              have h16 : leftI w16 r bk = left1 := by obtain ⟨D, hD⟩ := (HR14.out.go (HL16.out.less ⟨by simp, by simp, by simp⟩) ((HK15.out.trans HK16.out).mono (by simp))).rng; exact hD.leftI
              rw [h16, HLL.out.1]; exact HLL.out.2
    · obtain rfl : i = q := by omega
      obtain ⟨M2, K, hS⟩ := hW
      have HS := Lib.hid hS
      have cA := Lib.hid (quReps HS.out)
      have cB := Lib.hid (quBad HS.out)
      have cD := Lib.hid (fun (w : World) (h : QuIn W w [tk, bk, bt] x b p tk bk bt M2 K K i) => quDegr h)
      have cP := Lib.hid (fun (w : World) (h : QuIn W w [tk, bk, bt] x b p tk bk bt M2 K K i) => oPair h.own)
      have cT0 := Lib.hid (fun (w : World) (h : QuIn W w [tk, bk, bt] x b p tk bk bt M2 K K i) => show Calls Tryz.prog 16 #[.pointer (some ⟨p, 0, none⟩), .int .i64 0] w _ from quTable h (s := 0) (by decide))
      have cT1 := Lib.hid (fun (w : World) (h : QuIn W w [tk, bk, bt] x b p tk bk bt M2 K K i) => show Calls Tryz.prog 16 #[.pointer (some ⟨p, 0, none⟩), .int .i64 1] w _ from quTable h (s := 1) (by decide))
      clear hS
      go_wp2_with (first
        | (go_at_call 38; refine cA.out.mono ?_; rintro e w' ⟨rfl, rfl⟩)
        | (go_at_call 42; refine cB.out.mono ?_; rintro e w20 ⟨rfl, HS20⟩)
        | (go_at_call 41; refine (cD.out _ HS20.out).mono ?_; rintro e w' ⟨rfl, rfl⟩))
      refine (cP.out _ HS20.out).mono ?_
      rintro e w' ⟨rfl, rfl⟩
      go_wp2_with fail
      refine (cT0.out _ HS20.out).mono ?_
      rintro e w21 ⟨A0, c0, rfl, HV0, HM21⟩
      have HS21 := Lib.hid (HS20.out.calm HM21.out)
      go_wp2_with fail
      refine (quGen HV0.out).mono ?_
      rintro e w22 ⟨rfl, HM22⟩
      have HS22 := Lib.hid (HS21.out.calm HM22.out)
      go_wp2_with fail
      refine (cP.out _ HS22.out).mono ?_
      rintro e w' ⟨rfl, rfl⟩
      go_wp2_with fail
      refine (cT1.out _ HS22.out).mono ?_
      rintro e w23 ⟨A1, c1, rfl, HV1, HM23⟩
      have HS23 := Lib.hid (HS22.out.calm HM23.out)
      go_wp2_with fail
      refine (quGen HV1.out).mono ?_
      rintro e w24 ⟨rfl, HM24⟩
      have HS24 := Lib.hid (HS23.out.calm HM24.out)
      go_wp2_with fail
      go_ret
      exact ⟨rfl, HS24.out.own.mods⟩
theorem readables_mirrorQuiet : ∀ t ∈ (#[78] : Array TypeId).toList, Tryz.prog.readableRec t = true ∧ t < Tryz.prog.types.size := by
  intro t ht
  simp only [List.mem_cons, List.not_mem_nil, or_false] at ht
  rcases ht with rfl
  all_goals exact ⟨by kernel_rfl, of_decide_eq_true (by kernel_rfl)⟩

set_option maxRecDepth 100000 in
theorem mirrorQuiet_contract (H : Type) (enc : TypeId × Value → H) (W : World) (base : Nat) (args : Array Value) (ds gs : List (DataW H)) (before : List MemPlace)
    (hval : ∀ (j : Nat) t v, Tryz.f7.params[j]? = some t → args[j]? = some v → Value.okWide Tryz.prog W .any base t v)
    (hW : DataW.Whole enc Tryz.prog Tryz.f7.params.toList Rows.mirrorQuietSpec.vars false W args.toList ds gs before) :
    Calls Tryz.prog 7 args W fun e W' => ∃ v, e = .returned v ∧ Rows.mirrorQuietSpec.post enc Tryz.prog Tryz.f7 false true false false W args v W' := by
  have hW' := hW
  obtain ⟨p, q, hA0, hV, he, hfz, hnd⟩ := hW
  have hA : DataW.TrodAll enc Tryz.prog W 0 (fun _ => true) true Tryz.f7.params.toList args.toList ds p := hA0
  rw [Tryz.params7] at hA hval
  obtain ⟨v0, vs0, d0, ds0, p0, q0, hargs, rfl, rfl, h0, r0⟩ := trodAll_cons hA
  obtain ⟨rfl, rfl, rfl⟩ := trodAll_nil r0
  obtain rfl : args = #[v0] := by cases args; simp_all
  obtain ⟨lA, lLen, lCap, l, rfl, lRow, lL, lC, lM, lB⟩ := u16s_open Tryz.underlying78 Tryz.underlying46 (by kernel_rfl) (hval 0 78 v0 rfl rfl) h0
  refine (mirrorQuiet_walk lA lLen lCap l W lRow lL lC lM lB).mono fun e W' ⟨he', hm⟩ => ?_
  subst he'
  exact ⟨_, rfl, post_law laidOut (by rw [Tryz.params7]; exact readables_mirrorQuiet) (by rfl) Tryz.underlying4 rfl rfl hW' hm.below⟩

set_option maxRecDepth 100000 in
theorem mirrorQuiet_lifted (os : Os) (started : os.Started) (H : Type) (enc : TypeId × Value → H) :
    ReturnsInHanded {} Tryz.checked os 7 .any (Rows.mirrorQuietSpec.pre6 enc Tryz.prog Tryz.f7 Rows.mirrorQuietRow.domain false) (Rows.mirrorQuietSpec.post enc Tryz.prog Tryz.f7 false true false false) := by
  refine returnsInHanded_of_change (C := Tryz.checked) own started (by kernel_rfl) Tryz.func7
    (ChangeSpec.witness6 (enc := enc) (C := Tryz.checked) false ⟨#[], #[.slice none 0 0], []⟩ 8 (by kernel_rfl) (by kernel_rfl) (by kernel_rfl) (by kernel_rfl)) ?_
  intro W base args ds gs before hval hW _ _
  exact mirrorQuiet_contract H enc W base args ds gs before hval hW

/-- The law. -/
theorem mirrorQuiet_said : Rows.MirrorQuietSaid :=
  OpenClaim.holds_of_wide 7 Tryz.f7 rfl rfl rfl rfl rfl rfl rfl ⟨rfl, rfl, rfl, rfl, rfl⟩ rfl rfl rfl rfl rfl (by kernel_rfl) Tryz.func7 (by kernel_rfl)
    (of_decide_eq_true (by kernel_rfl)) (by unfold Func.isWrapper; first | (rw [if_pos (by decide +kernel)]; kernel_rfl) | (rw [if_neg (by decide +kernel)]; exact ⟨rfl, rfl⟩))
    (fun os started H enc _ => mirrorQuiet_lifted os started H enc)
end Go.Proofs.YtnpfhfgegjocoaaGreat
