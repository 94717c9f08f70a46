/- MirrorReads: of blocks that were written to both sides, of each of which one copy at most is damaged then, each reads what was written, and behind that both copies are whole, as long as there are spares. No condition but the form's own. -/
import Derived.Test.YtnpfhfgegjocoaaGreatMRd
import Derived.Deep.RegionHeld3
import Derived.Deep.CutRange
import Derived.Deep.CutBlock
import Derived.Outline
namespace Go.Proofs.YtnpfhfgegjocoaaGreat
open Go.ChangeShapes Go.WideShapes Go.ChangeAt Go.RowKit

/-- The law's texts. -/
def txR (ls : List ByteArray) (b : Nat) : ByteArray := match ls[b]? with
  | some s => s.extract 0 (min s.size 90)
  | none => ⟨#[]⟩
theorem txR_size (ls : List ByteArray) (b : Nat) : (txR ls b).size ≤ 104 := by
  unfold txR
  split
  · rw [ByteArray.size_extract]; omega
  · show 0 ≤ 104; omega
theorem txR_some {ls : List ByteArray} {b m : Nat} {s : ByteArray} (h : ls[b]? = some s) (hm : min (s.size : Int) 90 = (m : Int)) : txR ls b = s.extract 0 m := by
  unfold txR
  rw [h]
  simp only
  rw [show min s.size 90 = m by omega]
theorem txR_none {ls : List ByteArray} {b : Nat} (h : ls.length ≤ b) : txR ls b = ⟨#[]⟩ := by
  unfold txR
  rw [List.getElem?_eq_none h]
theorem wrI {g : Nat} (h : g ≤ 1000) : IntKind.i64.wrap (g : Int) = (g : Int) := by rw [IntKind.wrap_i64]; omega
theorem wrU {g : Nat} (h : g ≤ 1000) : IntKind.u64.wrap (g : Int) = (g : Int) := by rw [IntKind.wrap_u64]; omega
theorem wr64 {g : Nat} (h : g ≤ 1000) : wrap64 (g : Int) = (g : Int) := by unfold wrap64; omega
theorem lap_ex {n : Nat} (hn : n < 2) : ∃ g : Nat, (n : Int) + 1 = (g : Int) ∧ Hid (g = n + 1) ∧ Hid (IntKind.i64.wrap (g : Int) = (g : Int) ∧ wrap64 (g : Int) = (g : Int) ∧ IntKind.u64.wrap (g : Int) = (g : Int)) :=
  ⟨n + 1, by omega, Lib.hid rfl, Lib.hid ⟨wrI (by omega), wr64 (by omega), wrU (by omega)⟩⟩
theorem four_ex {k : Nat} (h : k ≤ 100) : ∃ k4 : Nat, 4 + (k : Int) = (k4 : Int) ∧ Hid (k4 = k + 4) ∧ Hid (IntKind.i64.wrap (k4 : Int) = (k4 : Int) ∧ wrap64 (k4 : Int) = (k4 : Int)) :=
  ⟨k + 4, by omega, Lib.hid rfl, Lib.hid ⟨wrI (by omega), wr64 (by omega)⟩⟩
theorem next_ex {k : Nat} (h : k < 14) : ∃ j : Nat, j < 14 ∧ ((k + 1) % 14 = j) ∧ (j : Int) < 14 ∧ j ≠ k ∧ Hid (∃ j1 : Nat, (k : Int) + 1 = (j1 : Int) ∧ IntKind.i64.wrap (j1 : Int) = (j1 : Int) ∧ wrap64 (j1 : Int) = (j1 : Int) ∧ (j1 : Int).tmod 14 = (j : Int)) := by
  refine ⟨(k + 1) % 14, by omega, rfl, by omega, by omega, Lib.hid ⟨k + 1, by omega, wrI (by omega), wr64 (by omega), ?_⟩⟩
  rw [Int.tmod_eq_emod_of_nonneg (by omega)]
  omega
def RdW (W w : World) (F : List Nat) (x : Nat → Nat) (b p db tk pb nb ob : Nat) (tx : Nat → ByteArray) (n k : Nat) : Prop :=
  ∃ M nw od pt, RdIn W w F x b p db tk pb nb ob M nw od pt ∧ Wr M nw od pt tx n k (28 * n + 2 * k)
theorem info_harm8 : (Tryz.prog.info? 96).map (fun i => (i.zero, i.size, i.bytes)) = some (some (.agg #[.int .i64 0, .int .i64 0, .int .i64 0, .int .i64 0, .int .u8 0]), 5, 40) := by kernel_rfl
theorem run_makeMapR (W : World) : (Instr.makeMap 28 none).run Tryz.prog W = .ok (.map (some W.heap.size)) (W.alloc (.map #[] 0)) := by kernel_rfl
set_option maxRecDepth 100000 in
set_option maxHeartbeats 6400000 in
theorem mirrorReads_walk (lA : Option Addr) (lLen lCap : Nat) (ls : List ByteArray) (hA : Option Addr) (hLen hCap : Nat) (hs : List Harm8) (W : World) (hrl : Row W lA (strRow ls)) (hll : ls.length = lLen) (_hlc : lLen ≤ lCap) (hlm : lCap ≤ maxLen)
    (hrh : Row W hA (hRow8 hs)) (hhl : hs.length = hLen) (hhc : hLen ≤ hCap) (hhm : hCap ≤ maxLen) (hok : ∀ z ∈ hs, z.Ok) :
    Calls Tryz.prog 9 #[.slice lA lLen lCap, .slice hA hLen hCap] W fun e w' => e = .returned (.bool true) ∧ Mods [] W w' := by
  have HRL := Lib.hid hrl
  have HRH := Lib.hid hrh
  have HLL := Lib.hid hll
  have HHL := Lib.hid hhl
  have HOK := Lib.hid hok
  clear hrl hrh hll hhl hok
  have hlm2 : lCap ≤ 9223372036854775807 := by unfold maxLen at hlm; omega
  have hhm2 : hCap ≤ 9223372036854775807 := by unfold maxLen at hhm; omega
  clear hlm hhm
  obtain ⟨q, hq⟩ : ∃ q : Nat, min (hLen : Int) 14 = (q : Int) := ⟨min hLen 14, by omega⟩
  have hql : q ≤ hLen := by omega
  have hq14 : q ≤ 14 := by omega
  have hqm : max (q : Int) 0 = (q : Int) := by omega
  obtain ⟨i96, hi96, _, _, _⟩ := info_parts info_harm8
  have HSL := Lib.hid (fun (k : Int) (h0 : 0 ≤ k) (h1 : k ≤ hCap) (W : World) => run_prefix Tryz.prog 92 96 i96 hA hLen hCap k W Tryz.underlying92 hi96 h0 h1)
  go_enter Tryz.func9, Tryz.ntmps9
  go_wp2_with fail
  refine q8Fresh.mono ?_
  rintro e w1 ⟨x, p, b, M, rfl, HO, HG⟩
  go_wp2_with fail
  obtain ⟨w2, hw2⟩ : ∃ w2, w1.alloc (.cells #[.pointer (some ⟨x 0, 0, none⟩), .pointer (some ⟨x 1, 0, none⟩)] 50) = w2 := ⟨_, rfl⟩
  obtain ⟨db, hdb⟩ : ∃ db, w1.heap.size = db := ⟨_, rfl⟩
  have hb2 : Blk w2 db 50 [.pointer (some ⟨x 0, 0, none⟩), .pointer (some ⟨x 1, 0, none⟩)] := by rw [← hw2, ← hdb]; exact Blk.new w1 50 _
  have hm2 : Mods [] w1 w2 := by rw [← hw2]; exact (Mods.refl _ _).alloc _
  have HO2 : Hid (OwnM W [db] w2 b p x M ∧ Blk w2 db 50 [.pointer (some ⟨x 0, 0, none⟩), .pointer (some ⟨x 1, 0, none⟩)]) := Lib.hid ⟨HO.out.protect hm2 (fun g hg => .inr (by have := hb2.lt; have := List.mem_singleton.1 hg; omega)), hb2⟩
  rw [hw2, hdb]
  clear hw2 hdb hb2 hm2 HO
  refine q8Wakes.mono ?_
  rintro e w3 ⟨rfl, HM3⟩
  go_wp2_with fail
  refine (sumMake_any _).mono ?_
  rintro e w4 ⟨tk, rfl, hT, hm4, htk⟩
  have HT := Lib.hid (And.intro hT (And.intro hm4 htk))
  clear hT hm4 htk
  go_wp2_with fail
  obtain ⟨w5, hw5⟩ : ∃ w5, (((w4.alloc (.cells (ptrs14 fun _ => ⟨0, 0, 0⟩).toArray 93)).alloc (.cells (strs14 fun _ => ⟨#[]⟩).toArray 94)).alloc (.cells (strs14 fun _ => ⟨#[]⟩).toArray 94)) = w5 := ⟨_, rfl⟩
  obtain ⟨pb, hpb⟩ : ∃ pb, w4.heap.size = pb := ⟨_, rfl⟩
  obtain ⟨nb, hnb⟩ : ∃ nb, pb + 1 = nb := ⟨_, rfl⟩
  obtain ⟨ob, hob⟩ : ∃ ob, nb + 1 = ob := ⟨_, rfl⟩
  have HS5 : Hid (RdIn W w5 [tk, db, pb, nb, ob] x b p db tk pb nb ob M (fun _ => ⟨#[]⟩) (fun _ => ⟨#[]⟩) (fun _ => ⟨0, 0, 0⟩)) := by
    have s1 : (w4.alloc (.cells (ptrs14 fun _ => ⟨0, 0, 0⟩).toArray 93)).heap.size = nb := by rw [World.size_alloc]; omega
    have s2 : ((w4.alloc (.cells (ptrs14 fun _ => ⟨0, 0, 0⟩).toArray 93)).alloc (.cells (strs14 fun _ => ⟨#[]⟩).toArray 94)).heap.size = ob := by rw [World.size_alloc]; omega
    have b1 := ((Blk.new w4 93 (ptrs14 fun _ => ⟨0, 0, 0⟩)).alloc (.cells (strs14 fun _ => ⟨#[]⟩).toArray 94)).alloc (.cells (strs14 fun _ => ⟨#[]⟩).toArray 94)
    have b2 := (Blk.new (w4.alloc (.cells (ptrs14 fun _ => ⟨0, 0, 0⟩).toArray 93)) 94 (strs14 fun _ => ⟨#[]⟩)).alloc (.cells (strs14 fun _ => ⟨#[]⟩).toArray 94)
    have b3 := Blk.new ((w4.alloc (.cells (ptrs14 fun _ => ⟨0, 0, 0⟩).toArray 93)).alloc (.cells (strs14 fun _ => ⟨#[]⟩).toArray 94)) 94 (strs14 fun _ => ⟨#[]⟩)
    rw [s1] at b2
    rw [s2] at b3
    rw [hpb] at b1
    have m5 : Mods [] w4 w5 := by rw [← hw5]; exact (((Mods.refl _ _).alloc _).alloc _).alloc _
    rw [hw5] at b1 b2 b3
    have m25 := (HM3.out.trans HT.out.2.1 (by simp)).trans m5 (by simp)
    have c1 := HM3.out.size
    have c2 := HT.out.2.1.size
    have c3 := HT.out.2.2
    have c4 := HT.out.1.lt
    have c5 := HO2.out.2.lt
    have c6 := HO2.out.1.mods.size
    have l1 := b1.lt
    have l2 := b2.lt
    have l3 := b3.lt
    have t5 := HT.out.1.keep m5 (by simp)
    have l0 := t5.lt
    refine Lib.hid ⟨HO2.out.1.protect m25 (fun g hg => ?_), t5, HO2.out.2.keep m25 (by simp), b1, b2, b3, fun _ h => h, ⟨by omega, by omega, by omega⟩, ?_⟩
    · simp only [List.mem_cons, List.not_mem_nil, or_false] at hg
      rcases hg with rfl | rfl | rfl | rfl | rfl
      · exact .inr ⟨by omega, l0⟩
      · exact .inl (by simp)
      · exact .inr ⟨by omega, l1⟩
      · exact .inr ⟨by omega, l2⟩
      · exact .inr ⟨by omega, l3⟩
    · simp only [List.nodup_cons, List.mem_cons, List.not_mem_nil, or_false, not_or, List.nodup_nil, and_true, not_false_eq_true]
      refine ⟨⟨?_, ?_, ?_, ?_⟩, ⟨?_, ?_, ?_⟩, ⟨?_, ?_⟩, ?_⟩ <;> omega
  have HW5 : Hid (Wr M (fun _ => ⟨#[]⟩) (fun _ => ⟨#[]⟩) (fun _ => ⟨0, 0, 0⟩) (txR ls) 0 0 0) := Lib.hid ⟨HG.out.gm, HG.out.sound, HG.out.tab, HG.out.reps, HG.out.bl, fun j _ h => by unfold genW at h; rw [if_neg (by omega)] at h; omega, fun j _ h => by unfold genW at h; rw [if_neg (by omega)] at h; omega⟩
  show Code.wp _ _ _ _ (((w4.alloc (.cells (ptrs14 fun _ => ⟨0, 0, 0⟩).toArray 93)).alloc (.cells (strs14 fun _ => ⟨#[]⟩).toArray 94)).alloc (.cells (strs14 fun _ => ⟨#[]⟩).toArray 94))
  rw [hw5, hpb, hnb, hob]
  clear hw5 hpb hnb hob HT HM3 HO2 HG
  go_loopw [41] (fun iv wr => ∃ n : Nat, n ≤ 2 ∧ iv = .int .i64 (n : Nat) ∧ RdW W wr [tk, db, pb, nb, ob] x b p db tk pb nb ob (txR ls) n 0) (fun iv _ => 2 - (intOf iv).toNat)
  case atStart => exact ⟨0, by omega, rfl, M, _, _, _, HS5.out, HW5.out⟩
  case round =>
    clear HS5 HW5
    obtain ⟨n, hn, rfl, hR⟩ := hrel
    by_cases hn2 : n < 2
    · have hn2i : (n : Int) < 2 := by omega
      obtain ⟨g, hg, HGN, HGW⟩ := lap_ex hn2
      go_wp2_with fail
      go_loopw [44] (fun iv wr => ∃ k : Nat, k ≤ 14 ∧ iv = .int .i64 (k : Nat) ∧ RdW W wr [tk, db, pb, nb, ob] x b p db tk pb nb ob (txR ls) n k) (fun iv _ => 14 - (intOf iv).toNat)
      case atStart => exact ⟨0, by omega, rfl, hR⟩
      case round =>
        clear hR
        obtain ⟨k, hk, rfl, M, nw, od, pt, hS, hW⟩ := hrel
        have HS := Lib.hid hS
        have HWr := Lib.hid hW
        clear hS hW
        by_cases hk14 : k < 14
        · replace hk := hk14
          have hki : (k : Int) < 14 := by omega
          by_cases hkl : k < lLen
          · as_aux_lemma =>
            have hkli : (k : Int) < (lLen : Int) := by omega
            have hkz : k < ls.length := by have := HLL.out; omega
            have hsx : ls[k]? = some ls[k] := List.getElem?_eq_getElem hkz
            obtain ⟨bl, ol, rfl, hcl⟩ := strRow_at (HRL.out.keep HS.out.own.mods (fun _ _ => by simp)) hsx
            generalize ls[k] = sx at *
            obtain ⟨m, hm⟩ : ∃ m : Nat, min (sx.size : Int) 90 = (m : Int) := ⟨min sx.size 90, by omega⟩
            have hms : m ≤ sx.size := by omega
            have hmw : (m : Int) ≤ (sx.size : Int) := by omega
            obtain ⟨T, hT⟩ : ∃ T, txR ls k = T := ⟨_, rfl⟩
            have hT2 : sx.extract 0 m = T := by rw [← hT, txR_some hsx hm]
            go_upto_region 15 with fail
            go_region
            have z0 := (HS.out.calm ((Mods.refl _ _).drew)).now_at hk
            have z1 := (HS.out.calm ((Mods.refl _ _).drew)).old_at hk
            have f0 := (HS.out.calm ((Mods.refl _ _).drew)).ods.free k
            obtain ⟨wA, hwA⟩ : ∃ wA, wr.drew.setCell ⟨ob, k, none⟩ (.string (nw k)) = wA := ⟨_, rfl⟩
            obtain ⟨hg1, hg2, hg3⟩ := HGW.out
            go_wp2_with fail
            clear hg1 hg2 hg3

            have HSA : Hid (RdIn W wA [tk, db, pb, nb, ob] x b p db tk pb nb ob M nw (updF od k (nw k)) pt) := Lib.hid (by rw [← hwA]; exact (HS.out.calm ((Mods.refl _ _).drew)).setOld k _)
            try rw [hwA]
            clear z0 z1 f0 hwA HS
            refine (q8SealedI HSA.out.sum k g (by omega) (by have := HGN.out; omega) T (by rw [← hT]; exact txR_size ls k)).mono ?_
            rintro e w7 ⟨X, qa, qg, qs, rfl, HI, HM7⟩
            have HSB := Lib.hid (HSA.out.calm HM7.out)
            obtain ⟨y0, y1, y2⟩ := HSB.out.ptr_at hk
            have y3 := HSB.out.now_at hk
            have f1 := HSB.out.ptr.free (k * 3)
            have f2 := HSB.out.ptr.free (k * 3 + 1)
            have f3 := HSB.out.ptr.free (k * 3 + 2)
            have f4 := HSB.out.nws.free k
            have n1 : ¬ pb = nb := HSB.out.ne.2.2.1
            have n2 : ¬ nb = pb := fun e => n1 e.symm
            obtain ⟨wC, hwC⟩ : ∃ wC, (((w7.setCell ⟨nb, k, none⟩ (.string X)).setCell ⟨pb, k * 3, none⟩ (.int .i64 qa)).setCell ⟨pb, k * 3 + 1, none⟩ (.int .u64 (qg : Nat))).setCell ⟨pb, k * 3 + 2, none⟩ (.int .u32 (qs : Nat)) = wC := ⟨_, rfl⟩
            have HSC : Hid (RdIn W wC [tk, db, pb, nb, ob] x b p db tk pb nb ob M (updF nw k X) (updF od k (nw k)) (updF pt k ⟨qa, qg, qs⟩)) := Lib.hid (by rw [← hwC]; exact (HSB.out.setNow k X).setPtr k ⟨qa, qg, qs⟩)
            have z2 : wC.cell? ⟨nb, k, none⟩ = some (.string X) := by have h := HSC.out.now_at hk; rw [show updF nw k X k = X from if_pos rfl] at h; exact h
            clear HSA HSB HM7
            go_wp2_with fail
            try rw [hwC]
            have HI2 : Hid (ImgOf X ⟨qa, qg, qs⟩ 128 k (n + 1) (txR ls k)) := by rw [hT, ← HGN.out]; exact HI
            clear z2 y0 y1 y2 y3 f1 f2 f3 f4 n1 n2 hwC
            refine (rdWrite HSC.out HWr.out (by omega) hn2 hk HI2.out).mono ?_
            rintro e w8 ⟨M2, rfl, HS8, HW8⟩
            go_wp2_with fail
            go_roundw
            case rel => exact ⟨k + 1, by omega, by go_num, M2, _, _, _, HS8.out, by rw [show 28 * n + 2 * (k + 1) = 28 * n + 2 * k + 2 by omega]; exact HW8.out⟩
            case measure => simp [intOf]; omega

          · as_aux_lemma =>
            have hkli : ¬ (k : Int) < (lLen : Int) := by omega
            obtain ⟨T, hT⟩ : ∃ T, txR ls k = T := ⟨_, rfl⟩
            have hT2 : (⟨#[]⟩ : ByteArray) = T := by rw [← hT]; exact (txR_none (by rw [HLL.out]; omega)).symm
            have z0 := HS.out.now_at hk
            have z1 := HS.out.old_at hk
            have f0 := HS.out.ods.free k
            obtain ⟨wA, hwA⟩ : ∃ wA, wr.setCell ⟨ob, k, none⟩ (.string (nw k)) = wA := ⟨_, rfl⟩
            obtain ⟨hg1, hg2, hg3⟩ := HGW.out
            go_wp2_with fail
            clear hg1 hg2 hg3

            have HSA : Hid (RdIn W wA [tk, db, pb, nb, ob] x b p db tk pb nb ob M nw (updF od k (nw k)) pt) := Lib.hid (by rw [← hwA]; exact HS.out.setOld k _)
            try rw [hwA]
            clear z0 z1 f0 hwA HS
            refine (q8SealedI HSA.out.sum k g (by omega) (by have := HGN.out; omega) T (by rw [← hT]; exact txR_size ls k)).mono ?_
            rintro e w7 ⟨X, qa, qg, qs, rfl, HI, HM7⟩
            have HSB := Lib.hid (HSA.out.calm HM7.out)
            obtain ⟨y0, y1, y2⟩ := HSB.out.ptr_at hk
            have y3 := HSB.out.now_at hk
            have f1 := HSB.out.ptr.free (k * 3)
            have f2 := HSB.out.ptr.free (k * 3 + 1)
            have f3 := HSB.out.ptr.free (k * 3 + 2)
            have f4 := HSB.out.nws.free k
            have n1 : ¬ pb = nb := HSB.out.ne.2.2.1
            have n2 : ¬ nb = pb := fun e => n1 e.symm
            obtain ⟨wC, hwC⟩ : ∃ wC, (((w7.setCell ⟨nb, k, none⟩ (.string X)).setCell ⟨pb, k * 3, none⟩ (.int .i64 qa)).setCell ⟨pb, k * 3 + 1, none⟩ (.int .u64 (qg : Nat))).setCell ⟨pb, k * 3 + 2, none⟩ (.int .u32 (qs : Nat)) = wC := ⟨_, rfl⟩
            have HSC : Hid (RdIn W wC [tk, db, pb, nb, ob] x b p db tk pb nb ob M (updF nw k X) (updF od k (nw k)) (updF pt k ⟨qa, qg, qs⟩)) := Lib.hid (by rw [← hwC]; exact (HSB.out.setNow k X).setPtr k ⟨qa, qg, qs⟩)
            have z2 : wC.cell? ⟨nb, k, none⟩ = some (.string X) := by have h := HSC.out.now_at hk; rw [show updF nw k X k = X from if_pos rfl] at h; exact h
            clear HSA HSB HM7
            go_wp2_with fail
            try rw [hwC]
            have HI2 : Hid (ImgOf X ⟨qa, qg, qs⟩ 128 k (n + 1) (txR ls k)) := by rw [hT, ← HGN.out]; exact HI
            clear z2 y0 y1 y2 y3 f1 f2 f3 f4 n1 n2 hwC
            refine (rdWrite HSC.out HWr.out (by omega) hn2 hk HI2.out).mono ?_
            rintro e w8 ⟨M2, rfl, HS8, HW8⟩
            go_wp2_with fail
            go_roundw
            case rel => exact ⟨k + 1, by omega, by go_num, M2, _, _, _, HS8.out, by rw [show 28 * n + 2 * (k + 1) = 28 * n + 2 * k + 2 by omega]; exact HW8.out⟩
            case measure => simp [intOf]; omega

        · obtain rfl : k = 14 := by omega
          clear hg HGW HGN
          go_wp2_with fail
          go_roundw
          case rel => exact ⟨n + 1, by omega, by go_num, M, nw, od, pt, HS.out, by have h := HWr.out.lap; rw [show 28 * n + 2 * 14 = 28 * (n + 1) + 2 * 0 by omega] at h; exact h⟩
          case measure => simp [intOf]; omega
    · obtain rfl : n = 2 := by omega
      obtain ⟨M0, nw, od, pt, hS, hW⟩ := hR
      have cF := Lib.hid (rdFlush hS hW (by omega))
      have hmk := run_makeMapR
      have hsl := HSL.out
      clear hS hW
      go_wp2_with (go_at_call 30; refine cF.out.mono ?_; rintro e w6 ⟨M2, rfl, HS6, HW6⟩)
      clear cF hmk hsl hq
      obtain ⟨w7, hw7⟩ : ∃ w7, w6.alloc (.map #[] 0) = w7 := ⟨_, rfl⟩
      obtain ⟨hb, hhb⟩ : ∃ hb, w6.heap.size = hb := ⟨_, rfl⟩
      have HR7 : Hid (RhIn W w7 [hb, tk, db, pb, nb, ob] x b p db tk pb nb ob hb M2 nw od pt (fun _ => false)) := by
        have hmap : MapK kvI w7 hb (fun _ => none) 0 := by rw [← hw7, ← hhb]; exact MapK.made w6
        have hm7 : Mods [] w6 w7 := by rw [← hw7]; exact (Mods.refl _ _).alloc _
        have hlt := HS6.out.own.lt
        have hos := HS6.out.own.mods.size
        refine Lib.hid ⟨HS6.out.protect hm7 (by omega) hmap.lt, ⟨0, by rw [show hkF (fun _ => false) = fun _ => none from by funext a; simp [hkF]]; exact hmap⟩, by simp, by omega, fun hx => ?_⟩
        have := hlt hb hx
        omega
      have HM7 := Lib.hid HW6.out.hm
      have HIM := Lib.hid HW6.out.imgs
      try rw [hw7, hhb]
      clear hw7 hhb HS6 HW6
      generalize hFF : [hb, tk, db, pb, nb, ob] = FF at *
      have HFF : Hid ((∀ g, g ∈ [tk, db, pb, nb, ob] → g ∈ FF) ∧ hb ∈ FF) := Lib.hid ⟨fun g hg => by rw [← hFF]; exact List.mem_cons_of_mem _ hg, by rw [← hFF]; simp⟩
      clear hFF
      go_loopw [100] (fun iv wr => ∃ i : Nat, i ≤ q ∧ iv = .int .i64 (i : Nat) ∧ ∃ M H, RhIn W wr FF x b p db tk pb nb ob hb M nw od pt H ∧ Hm M nw pt H (56 + i)) (fun iv _ => q - (intOf iv).toNat)
      case atStart => exact ⟨0, by omega, rfl, M2, _, HR7.out, HM7.out⟩
      case round =>
        clear HR7 HM7
        obtain ⟨i, hi, rfl, M, H, hR, hH⟩ := hrel
        have HR := Lib.hid hR
        have HH := Lib.hid hH
        clear hR hH
        by_cases hiq : i < q
        · as_aux_lemma =>
          have hiq2 : (i : Int) < (q : Int) := by omega
          have hzi : i < hs.length := by have := HHL.out; omega
          obtain ⟨bz, oz, rfl, d0, d1, d2, d3, d4⟩ := hRow8_at (HRH.out.keep HR.out.lo.own.mods (fun _ _ => by simp)) (List.getElem?_eq_getElem hzi)
          have hok := HOK.out _ (List.getElem_mem hzi)
          generalize hs[i] = ac at *
          obtain ⟨xb, xs, xd, xa, xy⟩ := ac
          unfold Harm8.Ok at hok
          simp only at d0 d1 d2 d3 d4 hok
          obtain ⟨y, rfl⟩ : ∃ y : UInt8, y.toNat = xy := ⟨UInt8.ofNat xy, by simp; omega⟩
          obtain ⟨k0, hk0⟩ : ∃ k0 : Nat, max (0 : Int) xb = (k0 : Int) := ⟨xb.toNat, by omega⟩
          obtain ⟨k, hk14⟩ : ∃ k : Nat, (k0 : Int) % 14 = (k : Int) := ⟨k0 % 14, by omega⟩
          obtain ⟨s0, hs0⟩ : ∃ s0 : Nat, max (0 : Int) xs = (s0 : Int) := ⟨xs.toNat, by omega⟩
          obtain ⟨s, hs2⟩ : ∃ s : Nat, (s0 : Int) % 2 = (s : Int) := ⟨s0 % 2, by omega⟩
          obtain ⟨r0, hr0⟩ : ∃ r0 : Nat, max (0 : Int) xd = (r0 : Int) := ⟨xd.toNat, by omega⟩
          obtain ⟨r, hr5⟩ : ∃ r : Nat, (r0 : Int) % 5 = (r : Int) := ⟨r0 % 5, by omega⟩
          obtain ⟨a0, ha0⟩ : ∃ a0 : Nat, max (0 : Int) xa = (a0 : Int) := ⟨xa.toNat, by omega⟩
          have hk : k < 14 := by omega
          have hs' : s < 2 := by omega
          have hr : r < 5 := by omega
          have hk14' : (k0 : Int).tmod 14 = (k : Int) := by rw [Int.tmod_eq_emod_of_nonneg (by omega)]; exact hk14
          have hs2' : (s0 : Int).tmod 2 = (s : Int) := by rw [Int.tmod_eq_emod_of_nonneg (by omega)]; exact hs2
          have hr5' : (r0 : Int).tmod 5 = (r : Int) := by rw [Int.tmod_eq_emod_of_nonneg (by omega)]; exact hr5
          have hsi : (s : Int) < 2 := by omega
          have hki : (k : Int) < 14 := by omega
          clear hok hzi
          obtain ⟨wa, hwa⟩ : ∃ wa, wr.alloc (.cells #[.int .i64 xb, .int .i64 xs, .int .i64 xd, .int .i64 xa, .int .u8 (y.toNat : Nat)] 96) = wa := ⟨_, rfl⟩
          obtain ⟨bx, hbx⟩ : ∃ bx, wr.heap.size = bx := ⟨_, rfl⟩
          have hma : Mods [] wr wa := by rw [← hwa]; exact (Mods.refl _ _).alloc _
          have hBa : Blk wa bx 96 [.int .i64 xb, .int .i64 xs, .int .i64 xd, .int .i64 xa, .int .u8 (y.toNat : Nat)] := by rw [← hwa, ← hbx]; exact Blk.new wr 96 _
          have HBA := Lib.hid hBa
          have HRA := Lib.hid (HR.out.protect hma (by omega) hBa.lt)
          have HNE : Hid (bx ≠ hb) := Lib.hid (fun e => by have := HR.out.lo.own.lt hb HR.out.hm; omega)
          clear HR hma hBa
          go_upto_region 28 with fail
          try rw [hwa, hbx]
          clear hwa hbx d0 d1 d2 d3 d4
          have q0 := HBA.out.cell (i := 0) rfl
          have q1 := HBA.out.cell (i := 1) rfl
          have q2 := HBA.out.cell (i := 2) rfl
          have q3 := HBA.out.cell (i := 3) rfl
          have q4 := HBA.out.cell (i := 4) rfl
          go_region
          have HRD := Lib.hid (HRA.out.calm ((Mods.refl _ _).drew))
          have HBD := Lib.hid (HBA.out.keep (L := []) ((Mods.refl _ _).drew) (by simp))
          have hlk := rhLook HRD.out k
          clear q0 q1 q3 q4 HRA HBA
          obtain ⟨wb, hwb⟩ : ∃ wb, wa.drew = wb := ⟨_, rfl⟩
          rw [hwb] at HRD HBD hlk ⊢
          clear q2 hwb
          cases hHk : H k with
          | true =>
            rw [hHk] at hlk
            go_wp2_with fail
            go_roundw
            case rel => exact ⟨i + 1, by omega, by go_num, M, H, HRD.out.less HFF.out.1 HFF.out.2, HH.out.mono (by omega)⟩
            case measure => simp [intOf]; omega
          | false =>
            rw [hHk] at hlk
            obtain ⟨wc, hup, HRC, HMC⟩ := rhStore HRD.out k
            have HBC := Lib.hid (HBD.out.keep HMC.out (by simpa using HNE.out))
            have q2 := HBC.out.cell (i := 2) rfl
            clear HRD HBD HMC
            obtain rfl | rfl | rfl | rfl | rfl : r = 0 ∨ r = 1 ∨ r = 2 ∨ r = 3 ∨ r = 4 := by omega
            · as_aux_lemma =>
                obtain ⟨k4, hk4, HK4, HW4⟩ := four_ex (k := k) (by omega)
                have cG := Lib.hid (rhGarble (HRC.out.calm ((Mods.refl _ _).drew)) HH.out (by omega) hs' hk hHk HK4.out a0 y)
                obtain ⟨v1, v2⟩ := HW4.out
                have hki4 : (k : Int) + 4 = (k4 : Int) := by rw [← hk4]; exact Int.add_comm _ _
                have z0 := HRC.out.dv_at hs'
                have z3 := HBC.out.cell (i := 3) rfl
                have z4 := HBC.out.cell (i := 4) rfl
                go_wp2_with fail
                clear hlk hup q2
                go_region_held3 (fun w' => w'.cell? ⟨db, s, none⟩ = some (.pointer (some ⟨x s, 0, none⟩)) ∧ w'.cell? ⟨bx, 3, none⟩ = some (.int .i64 xa) ∧ w'.cell? ⟨bx, 4, none⟩ = some (.int .u8 (y.toNat : Nat)))
                  (first | go_keep | exact HD.out | fail)
                  ((go_at_call 33; refine cG.out.mono ?_; rintro e w9 ⟨M3, rfl, HR9, HH9, HN9⟩; have HB9 := Lib.hid (HN9.out.blk (HBC.out.keep (L := []) ((Mods.refl _ _).drew) (by simp)) (by simp)); have HD := Lib.hid (And.intro (HR9.out.dv_at hs') (And.intro (HB9.out.cell (i := 3) rfl) (HB9.out.cell (i := 4) rfl)))))
                clear v1 v2
                go_wp2_with fail
                go_roundw
                case rel => exact ⟨i + 1, by omega, by go_num, M3, _, HR9.out.less HFF.out.1 HFF.out.2, by rw [show 56 + (i + 1) = 56 + i + 1 by omega]; exact HH9.out⟩
                case measure => simp [intOf]; omega
            · as_aux_lemma =>
                obtain ⟨k4, hk4, HK4, HW4⟩ := four_ex (k := k) (by omega)
                have cG := Lib.hid (rhStick HRC.out HH.out (by omega) hs' hk hHk HK4.out)
                obtain ⟨v1, v2⟩ := HW4.out
                have hki4 : (k : Int) + 4 = (k4 : Int) := by rw [← hk4]; exact Int.add_comm _ _
                have z0 := HRC.out.dv_at hs'
                go_wp2_with (go_at_call 18; refine cG.out.mono ?_; rintro e w9 ⟨M3, rfl, HR9, HH9, HN9⟩)
                clear v1 v2
                go_roundw
                case rel => exact ⟨i + 1, by omega, by go_num, M3, _, HR9.out.less HFF.out.1 HFF.out.2, by rw [show 56 + (i + 1) = 56 + i + 1 by omega]; exact HH9.out⟩
                case measure => simp [intOf]; omega
            · as_aux_lemma =>
                obtain ⟨k4, hk4, HK4, HW4⟩ := four_ex (k := k) (by omega)
                have hun := HIM.out.unlike_old hk
                have cG := Lib.hid (rhDWrite (HRC.out.calm ((Mods.refl _ _).drew)) HH.out (by omega) hs' hk hHk HK4.out hun.1 hun.2)
                obtain ⟨v1, v2⟩ := HW4.out
                have hki4 : (k : Int) + 4 = (k4 : Int) := by rw [← hk4]; exact Int.add_comm _ _
                have z0 := HRC.out.dv_at hs'
                have z1 := HRC.out.lo.old_at hk
                go_wp2_with fail
                clear hlk hup q2 hun
                go_region_held3 (fun w' => w'.cell? ⟨db, s, none⟩ = some (.pointer (some ⟨x s, 0, none⟩)) ∧ w'.cell? ⟨ob, k, none⟩ = some (.string (od k)))
                  (first | go_keep | exact HD.out | fail)
                  ((go_at_call 31; refine cG.out.mono ?_; rintro e w9 ⟨M3, rfl, HR9, HH9, HN9⟩; have HD := Lib.hid (And.intro (HR9.out.dv_at hs') (HR9.out.lo.old_at hk))))
                clear v1 v2
                go_wp2_with fail
                go_roundw
                case rel => exact ⟨i + 1, by omega, by go_num, M3, _, HR9.out.less HFF.out.1 HFF.out.2, by rw [show 56 + (i + 1) = 56 + i + 1 by omega]; exact HH9.out⟩
                case measure => simp [intOf]; omega
            · as_aux_lemma =>
                obtain ⟨k4, hk4, HK4, HW4⟩ := four_ex (k := k) (by omega)
                obtain ⟨j, hj14, hj1, hj2, hjne, HW1⟩ := next_ex hk
                have hun := HIM.out.unlike_next hk hj14 hjne
                have cG := Lib.hid (rhDWrite (HRC.out.calm ((Mods.refl _ _).drew)) HH.out (by omega) hs' hk hHk HK4.out hun.1 hun.2)
                obtain ⟨v1, v2⟩ := HW4.out
                obtain ⟨j1, u1, u2, u3, u4⟩ := HW1.out
                have hki4 : (k : Int) + 4 = (k4 : Int) := by rw [← hk4]; exact Int.add_comm _ _
                have z0 := HRC.out.dv_at hs'
                have z1 := HRC.out.lo.now_at hj14
                go_wp2_with fail
                clear hlk hup q2 hun
                go_region_held3 (fun w' => w'.cell? ⟨db, s, none⟩ = some (.pointer (some ⟨x s, 0, none⟩)) ∧ w'.cell? ⟨nb, j, none⟩ = some (.string (nw j)))
                  (first | go_keep | exact HD.out | fail)
                  ((go_at_call 31; refine cG.out.mono ?_; rintro e w9 ⟨M3, rfl, HR9, HH9, HN9⟩; have HD := Lib.hid (And.intro (HR9.out.dv_at hs') (HR9.out.lo.now_at hj14))))
                clear v1 v2 u1 u2 u3 u4
                go_wp2_with fail
                go_roundw
                case rel => exact ⟨i + 1, by omega, by go_num, M3, _, HR9.out.less HFF.out.1 HFF.out.2, by rw [show 56 + (i + 1) = 56 + i + 1 by omega]; exact HH9.out⟩
                case measure => simp [intOf]; omega
            · as_aux_lemma =>
                obtain ⟨k4, hk4, HK4, HW4⟩ := four_ex (k := k) (by omega)
                have hun := HIM.out.unlike_nought hk
                have cG := Lib.hid (fun (w : World) (hm : Mods [] wc w) => rhDWrite (HRC.out.calm hm) HH.out (by omega) hs' hk hHk HK4.out (show (nought 128).size = 128 by unfold nought; rfl) hun)
                obtain ⟨v1, v2⟩ := HW4.out
                have hki4 : (k : Int) + 4 = (k4 : Int) := by rw [← hk4]; exact Int.add_comm _ _
                have z0 := HRC.out.dv_at hs'
                go_wp2_with fail
                clear hlk hup q2 hun
                go_region_held3 (fun w' => w'.cell? ⟨db, s, none⟩ = some (.pointer (some ⟨x s, 0, none⟩)))
                  (first | go_keep | exact HE2.out | exact HE1.out | fail)
                  ((first | (go_at_call 31; have zz := HE1; clear zz; obtain rfl := HZ.out; refine (cG.out _ HM11.out).mono ?_; rintro e w9 ⟨M3, rfl, HR9, HH9, HN9⟩; have HE2 := Lib.hid (HR9.out.dv_at hs')) | (go_at_call 44; refine rep128.mono ?_; rintro e w11 ⟨z, rfl, HZ, hm11⟩; have HM11 := Lib.hid (((Mods.refl [] wc).drew).trans hm11.out (by simp)); have HE1 := Lib.hid ((HRC.out.calm HM11.out).dv_at hs')) | fail))
                clear v1 v2
                go_wp2_with fail
                go_roundw
                case rel => exact ⟨i + 1, by omega, by go_num, M3, _, HR9.out.less HFF.out.1 HFF.out.2, by rw [show 56 + (i + 1) = 56 + i + 1 by omega]; exact HH9.out⟩
                case measure => simp [intOf]; omega
        · obtain rfl : i = q := by omega
          clear HRH HHL HOK HSL
          have HK0 := Lib.hid (HH.out.ck (by omega))
          go_wp2_with fail
          go_loopw [176] (fun iv wr => ∃ k : Nat, k ≤ 14 ∧ iv = .int .i64 (k : Nat) ∧ ∃ M, RhIn W wr FF x b p db tk pb nb ob hb M nw od pt H ∧ Ck M nw pt H k) (fun iv _ => 14 - (intOf iv).toNat)
          case atStart => exact ⟨0, by omega, rfl, M, HR.out, HK0.out⟩
          case round =>
            clear HR HH HK0
            obtain ⟨k, hk, rfl, M3, hR, hK⟩ := hrel
            have HR := Lib.hid hR
            have HK := Lib.hid hK
            clear hR hK
            by_cases hk14 : k < 14
            · have hki : (k : Int) < 14 := by omega
              obtain ⟨T, hT⟩ : ∃ T, txR ls k = T := ⟨_, rfl⟩
              obtain ⟨n, M4, M5, M6, hn1, hn0, CR, CC1, CC2, HK6⟩ := rhStep (W := W) (F := FF) (x := x) (b := b) (p := p) (db := db) (tk := tk) (pb := pb) (nb := nb) (ob := ob) (hb := hb) HK.out hk14 HIM.out
              have hn1i : ¬ (1 : Int) < (n : Int) := by omega
              obtain ⟨⟨qa, qg, qs⟩, hpq⟩ : ∃ q, pt k = q := ⟨_, rfl⟩
              rw [hT, hpq] at CR
              rw [hpq] at CC1 CC2
              unfold ptrV at CR CC1 CC2
              simp only at CR CC1 CC2
              by_cases hkl : k < lLen
              · as_aux_lemma =>
                have hkli : (k : Int) < (lLen : Int) := by omega
                have hkz : k < ls.length := by have := HLL.out; omega
                have hsx : ls[k]? = some ls[k] := List.getElem?_eq_getElem hkz
                obtain ⟨bl, ol, rfl, hcl⟩ := strRow_at (HRL.out.keep HR.out.lo.own.mods (fun _ _ => by simp)) hsx
                generalize ls[k] = sx at *
                obtain ⟨m, hm⟩ : ∃ m : Nat, min (sx.size : Int) 90 = (m : Int) := ⟨min sx.size 90, by omega⟩
                have hms : m ≤ sx.size := by omega
                have hmw : (m : Int) ≤ (sx.size : Int) := by omega
                have hT2 : sx.extract 0 m = T := by rw [← hT, txR_some hsx hm]
                go_upto_region 48 with fail
                go_region
                have HR1 := Lib.hid (HR.out.calm ((Mods.refl _ _).drew))
                clear hcl hm hsx HR
                obtain ⟨p0, p1, p2⟩ := HR1.out.lo.ptr_at hk14
                rw [hpq] at p0 p1 p2
                simp only at p0 p1 p2
                cases hHk : H k with
                | true =>
                  go_wp2_with (first
                    | (go_at_call 39; have zz := HR3; clear zz; refine (CC2.out _ HR3.out).mono ?_; rintro e w4 ⟨rfl, HR4⟩)
                    | (go_at_call 39; refine (CC1.out _ HR2.out).mono ?_; rintro e w3 ⟨rfl, HR3⟩; have hlk := rhLook HR3.out k; rw [hHk] at hlk; obtain ⟨c0, c1, c2⟩ := HR3.out.lo.ptr_at hk14; rw [hpq] at c0 c1 c2; simp only at c0 c1 c2)
                    | (go_at_call 34; refine (CR.out _ HR1.out).mono ?_; rintro e w2 ⟨rfl, HR2⟩; obtain ⟨b0, b1, b2⟩ := HR2.out.lo.ptr_at hk14; rw [hpq] at b0 b1 b2; simp only at b0 b1 b2))
                  go_roundw
                  case rel => exact ⟨k + 1, by omega, by go_num, M6, HR4.out, HK6.out⟩
                  case measure => simp [intOf]; omega
                | false =>
                  obtain rfl := hn0 hHk
                  go_wp2_with (first
                    | (go_at_call 39; have zz := HR3; clear zz; refine (CC2.out _ HR3.out).mono ?_; rintro e w4 ⟨rfl, HR4⟩)
                    | (go_at_call 39; refine (CC1.out _ HR2.out).mono ?_; rintro e w3 ⟨rfl, HR3⟩; have hlk := rhLook HR3.out k; rw [hHk] at hlk; obtain ⟨c0, c1, c2⟩ := HR3.out.lo.ptr_at hk14; rw [hpq] at c0 c1 c2; simp only at c0 c1 c2)
                    | (go_at_call 34; refine (CR.out _ HR1.out).mono ?_; rintro e w2 ⟨rfl, HR2⟩; obtain ⟨b0, b1, b2⟩ := HR2.out.lo.ptr_at hk14; rw [hpq] at b0 b1 b2; simp only at b0 b1 b2))
                  go_roundw
                  case rel => exact ⟨k + 1, by omega, by go_num, M6, HR4.out, HK6.out⟩
                  case measure => simp [intOf]; omega
              · as_aux_lemma =>
                have hkli : ¬ (k : Int) < (lLen : Int) := by omega
                have hT2 : (⟨#[]⟩ : ByteArray) = T := by rw [← hT]; exact (txR_none (by rw [HLL.out]; omega)).symm
                have HR1 := HR
                clear HR
                obtain ⟨p0, p1, p2⟩ := HR1.out.lo.ptr_at hk14
                rw [hpq] at p0 p1 p2
                simp only at p0 p1 p2
                cases hHk : H k with
                | true =>
                  go_wp2_with (first
                    | (go_at_call 39; have zz := HR3; clear zz; refine (CC2.out _ HR3.out).mono ?_; rintro e w4 ⟨rfl, HR4⟩)
                    | (go_at_call 39; refine (CC1.out _ HR2.out).mono ?_; rintro e w3 ⟨rfl, HR3⟩; have hlk := rhLook HR3.out k; rw [hHk] at hlk; obtain ⟨c0, c1, c2⟩ := HR3.out.lo.ptr_at hk14; rw [hpq] at c0 c1 c2; simp only at c0 c1 c2)
                    | (go_at_call 34; refine (CR.out _ HR1.out).mono ?_; rintro e w2 ⟨rfl, HR2⟩; obtain ⟨b0, b1, b2⟩ := HR2.out.lo.ptr_at hk14; rw [hpq] at b0 b1 b2; simp only at b0 b1 b2))
                  go_roundw
                  case rel => exact ⟨k + 1, by omega, by go_num, M6, HR4.out, HK6.out⟩
                  case measure => simp [intOf]; omega
                | false =>
                  obtain rfl := hn0 hHk
                  go_wp2_with (first
                    | (go_at_call 39; have zz := HR3; clear zz; refine (CC2.out _ HR3.out).mono ?_; rintro e w4 ⟨rfl, HR4⟩)
                    | (go_at_call 39; refine (CC1.out _ HR2.out).mono ?_; rintro e w3 ⟨rfl, HR3⟩; have hlk := rhLook HR3.out k; rw [hHk] at hlk; obtain ⟨c0, c1, c2⟩ := HR3.out.lo.ptr_at hk14; rw [hpq] at c0 c1 c2; simp only at c0 c1 c2)
                    | (go_at_call 34; refine (CR.out _ HR1.out).mono ?_; rintro e w2 ⟨rfl, HR2⟩; obtain ⟨b0, b1, b2⟩ := HR2.out.lo.ptr_at hk14; rw [hpq] at b0 b1 b2; simp only at b0 b1 b2))
                  go_roundw
                  case rel => exact ⟨k + 1, by omega, by go_num, M6, HR4.out, HK6.out⟩
                  case measure => simp [intOf]; omega
            · obtain rfl : k = 14 := by omega
              rcases HK.out.few with hb0 | ⟨hb8, hmv⟩
              · as_aux_lemma =>
                have cB := Lib.hid (rdBad0 HR.out.lo.own hb0)
                go_wp2_with (go_at_call 42; refine cB.out.mono ?_; rintro e w2 ⟨rfl, HM2⟩)
                go_ret
                exact ⟨rfl, HR.out.lo.own.mods.trans HM2.out (by simp)⟩
              · as_aux_lemma =>
                have cB := Lib.hid (rdBad HR.out.lo.own (by omega))
                have cP := Lib.hid (fun (w : World) (h : RhIn W w FF x b p db tk pb nb ob hb M3 nw od pt H) => oPair h.lo.own)
                have cT0 := Lib.hid (fun (w : World) (h : RhIn W w FF x b p db tk pb nb ob hb M3 nw od pt H) => show Calls Tryz.prog 16 #[.pointer (some ⟨p, 0, none⟩), .int .i64 0] w _ from rdTab h.lo.own HK.out.gm (s := 0) (by decide))
                have cT1 := Lib.hid (fun (w : World) (h : RhIn W w FF x b p db tk pb nb ob hb M3 nw od pt H) => show Calls Tryz.prog 16 #[.pointer (some ⟨p, 0, none⟩), .int .i64 1] w _ from rdTab h.lo.own HK.out.gm (s := 1) (by decide))
                obtain ⟨l0, hl0⟩ : ∃ l0 : Nat, 6 - (M3.P.tab 0).moved.length = l0 := ⟨_, rfl⟩
                obtain ⟨l1, hl1⟩ : ∃ l1 : Nat, 6 - (M3.P.tab 1).moved.length = l1 := ⟨_, rfl⟩
                rw [hl0] at cT0
                rw [hl1] at cT1
                have hll : l0 = 0 ∨ l1 = 0 := by omega
                clear hl0 hl1 hmv hb8
                go_wp2_with fail
                refine cB.out.mono ?_
                rintro e w2 ⟨A, nn, c, rfl, HM2⟩
                have HR2 := Lib.hid (HR.out.calm HM2.out)
                by_cases hnn : nn = 0
                · subst hnn
                  go_wp2_with fail
                  go_ret
                  exact ⟨rfl, HR2.out.lo.own.mods⟩
                · have hnni : ¬ (nn : Int) = 0 := by omega
                  go_wp2_with fail
                  refine (cP.out _ HR2.out).mono ?_
                  rintro e w3 ⟨rfl, rfl⟩
                  go_wp2_with fail
                  refine (cT0.out _ HR2.out).mono ?_
                  rintro e w3 ⟨v0, rfl, HM3, HL3⟩
                  have HR3 := Lib.hid (HR2.out.calm HM3.out)
                  go_wp2_with fail
                  refine HL3.out.mono ?_
                  rintro e w4 ⟨rfl, HM4⟩
                  have HR4 := Lib.hid (HR3.out.calm HM4.out)
                  by_cases h0 : l0 = 0
                  · subst h0
                    go_wp2_with fail
                    go_ret
                    exact ⟨rfl, HR4.out.lo.own.mods⟩
                  · have h0i : ¬ (l0 : Int) = 0 := by omega
                    obtain rfl : l1 = 0 := by omega
                    go_wp2_with fail
                    refine (cP.out _ HR4.out).mono ?_
                    rintro e w5 ⟨rfl, rfl⟩
                    go_wp2_with fail
                    refine (cT1.out _ HR4.out).mono ?_
                    rintro e w5 ⟨v1, rfl, HM5, HL5⟩
                    have HR5 := Lib.hid (HR4.out.calm HM5.out)
                    go_wp2_with fail
                    refine HL5.out.mono ?_
                    rintro e w6 ⟨rfl, HM6⟩
                    go_wp2_with fail
                    go_ret
                    exact ⟨rfl, HR5.out.lo.own.mods.trans HM6.out (by simp)⟩

end Go.Proofs.YtnpfhfgegjocoaaGreat
