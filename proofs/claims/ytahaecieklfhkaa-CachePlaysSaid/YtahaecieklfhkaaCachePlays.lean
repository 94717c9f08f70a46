/- CachePlays: whatever the number and the acts, the law answers true: whatever is put, got and dropped, the answers, which addresses are kept in which order, and what was counted, are the document's. No condition but the form's own. -/
import Derived.Test.YtahaecieklfhkaaOwn
import Derived.Test.YtahaecieklfhkaaPlaysC
namespace Go.Proofs.Ytahaecieklfhkaa
open Go.ChangeShapes Go.WideShapes Go.ChangeAt Go.RowKit

set_option maxRecDepth 100000 in
set_option maxHeartbeats 32000000 in
theorem cachePlays_walk (x : Int) (Ad : Option Addr) (len cap : Nat) (zs : List Act11) (w : World) (hr : Row w Ad (actRow zs)) (hz : zs.length = len) (hlc : len ≤ cap) (hcm : cap ≤ maxLen) :
    Calls Try.prog 5 #[.int .i64 x, .slice Ad len cap] w fun e w' => e = .returned (.bool true) ∧ Mods [] w w' := by
  have HR := Lib.hid hr
  have HL := Lib.hid hz
  clear hr hz
  unfold maxLen at hcm
  obtain ⟨p, hp⟩ : ∃ p : Nat, min (len : Int) 50 = (p : Int) := ⟨min len 50, by omega⟩
  have hpl : p ≤ len := by omega
  have hp50 : p ≤ 50 := by omega
  have hpm : max (p : Int) 0 = (p : Int) := by omega
  obtain ⟨q0, hq0⟩ : ∃ q0 : Nat, max (0 : Int) x = (q0 : Int) := ⟨x.toNat, by omega⟩
  obtain ⟨q1, hq1⟩ : ∃ q1 : Nat, (q0 : Int) % 6 = (q1 : Int) := ⟨q0 % 6, by omega⟩
  obtain ⟨n, hn⟩ : ∃ n : Nat, 1 + (q1 : Int) = (n : Int) := ⟨1 + q1, by omega⟩
  have hn1 : 1 ≤ n := by omega
  have hn6 : n ≤ 6 := by omega
  obtain ⟨i63, hi63, _, _, _⟩ := info_parts info_act11
  have hsl := fun (k : Int) (h0 : 0 ≤ k) (h1 : k ≤ cap) (W : World) => run_prefix Try.prog 59 63 i63 Ad len cap k W Try.underlying59 hi63 h0 h1
  have HNew : ∀ W, Calls Try.prog 17 #[.int .i64 x] W fun e w' => ∃ ptr er, e = .returned (.tuple #[.pointer ptr, .int .i64 er]) ∧ Mods [] W w' ∧ ∃ bv : Bool, Hid ((decide (1 ≤ x) && decide (x ≤ 4096)) = bv) ∧ ((bv = true ∧ er = 0) ∨ (bv = false ∧ er = 2 ∧ ptr = none)) := by
    intro W
    by_cases hin : 1 ≤ x ∧ x ≤ 4096
    · obtain ⟨a, rfl⟩ := Int.eq_ofNat_of_zero_le (show 0 ≤ x by omega)
      exact (cNew_any W a (by omega) (by omega)).mono fun e w' ⟨_, _, he, hm, _⟩ => ⟨_, _, he, hm, true, by unfold Hid; simp; omega, .inl ⟨rfl, rfl⟩⟩
    · exact (cNew_bad W x hin).mono fun e w' ⟨he, hm⟩ => ⟨_, _, he, by rw [← hm]; exact Mods.refl _ _, false, by unfold Hid; rw [← Bool.not_eq_true]; simp only [Bool.and_eq_true, decide_eq_true_eq]; omega, .inr ⟨rfl, rfl, rfl⟩⟩
  have HN0 := Lib.hid HNew
  clear HNew
  go_enter Try.func5, Try.ntmps5
  go_wp2_with fail
  refine (HN0.out _).mono ?_
  rintro e w1 ⟨ptr, er, rfl, hM1, bv, HD, hcase⟩
  have HM1 := Lib.hid hM1
  clear hM1 HN0
  rcases hcase with ⟨rfl, rfl⟩ | ⟨rfl, rfl, rfl⟩
  all_goals
    go_wp2_with fail
    refine (rMay11_any _ _).mono ?_
    rintro e w' ⟨rfl, rfl⟩
    rw [HD.out]
    have hnw := Lib.hid (cNew_any w1 n hn1 (by omega))
    go_wp2_with fail
    refine hnw.out.mono ?_
    rintro e w2 ⟨b, fp0, rfl, hm2, hc2, hf2⟩
    have HM2 := Lib.hid (HM1.out.trans hm2 (by simp))
    have HC2 := Lib.hid hc2
    have HF2 := Lib.hid hf2
    have hsz1 := HM1.out.size
    clear hm2 hc2 hf2 hnw
    go_wp2_with fail
    refine (w11_any w2).mono ?_
    rintro e w3 ⟨rfl, hm3⟩
    have HW : Hid (PlaysW w w3 b n 0 [] none 0 0) := by
      refine ⟨⟨fp0, HC2.out.keep hm3 (by simp), fun k hk => by have := HF2.out k hk; omega, fun a ha => by cases ha⟩, .inl rfl, HM2.out.trans hm3 (by simp), Nat.le_refl _⟩
    clear hm3 HM2 HC2 HF2
    go_wp2_with fail
    clear hsl hp hq0 hq1 hn
    go_loopw [10, 11, 12, 73] (fun lv fv nv iv wr => ∃ i : Nat, i ≤ p ∧ iv = .int .i64 i ∧ ∃ R A c f0 f1, lv = .slice A (R.length : Nat) c ∧ R.length ≤ c ∧ fv = .int .i64 (f0 : Nat) ∧ nv = .int .i64 (f1 : Nat) ∧ PlaysW w wr b n i R A f0 f1) (fun _ _ _ iv _ => p - (intOf iv).toNat)
    case atStart => exact ⟨0, Nat.zero_le _, rfl, [], none, 0, 0, 0, rfl, Nat.le_refl _, rfl, rfl, HW.out⟩
    case round =>
      obtain ⟨i, hi, rfl, R, A, cR, f0, f1, rfl, hRc, rfl, rfl, hW⟩ := hrel
      clear HW
      by_cases hlt : i < p
      · have hzi : i < zs.length := by have := HL.out; omega
        obtain ⟨bz, oz, rfl, d0, d1, d2, d3, d4⟩ := actRow_at (HR.out.keep hW.mods (fun _ _ => by simp)) (List.getElem?_eq_getElem hzi)
        have HA := Lib.hid (actRow_bound zs[i])
        generalize zs[i] = ac at *
        obtain ⟨dn, ad, gn, sm, pay⟩ := ac
        simp only at d0 d1 d2 d3 d4 HA
        obtain ⟨r0, hr0⟩ : ∃ r0 : Nat, max (0 : Int) dn = (r0 : Int) := ⟨dn.toNat, by omega⟩
        obtain ⟨r, hr5⟩ : ∃ r : Nat, (r0 : Int) % 5 = (r : Int) := ⟨r0 % 5, by omega⟩
        have hr50 : r < 5 := by omega
        have hr5' : r = 0 ∨ r = 1 ∨ r = 2 ∨ r = 3 ∨ r = 4 := by omega
        obtain ⟨W6, hW6⟩ : ∃ W6 : World, (wr.alloc (.cells #[.int .i64 dn, .int .i64 ad, .int .u64 gn, .int .u32 sm, .string pay] 63)).alloc (.cells #[.int .i64 ad, .int .u64 gn, .int .u32 sm] 53) = W6 := ⟨_, rfl⟩
        have hm6 : Mods [] wr W6 := by rw [← hW6]; exact ((Mods.refl _ _).alloc _).alloc _
        have hB6 : Blk W6 wr.heap.size 63 [.int .i64 dn, .int .i64 ad, .int .u64 gn, .int .u32 sm, .string pay] := by rw [← hW6]; exact (Blk.new wr 63 _).alloc _
        have hP6 : Blk W6 (wr.heap.size + 1) 53 [.int .i64 ad, .int .u64 gn, .int .u32 sm] := by
          rw [← hW6]
          have := Blk.new (wr.alloc (.cells #[.int .i64 dn, .int .i64 ad, .int .u64 gn, .int .u32 sm, .string pay] 63)) 53 [.int .i64 ad, .int .u64 gn, .int .u32 sm]
          simpa using this
        have hadr := hW.adr
        have hlen := hW.len
        obtain ⟨fp, hC, hF, hAf⟩ := hW.ex
        have HC := Lib.hid hC
        have HF := Lib.hid (And.intro hF hAf)
        have HCW := Lib.hid (hC.keep hm6 (by simp))
        have hnB : wr.heap.size ∉ fp ∧ wr.heap.size + 1 ∉ fp := ⟨fun h => by have := hC.lt _ h; omega, fun h => by have := hC.lt _ h; omega⟩
        have HRW := Lib.hid (hW.row.keep hm6 (fun _ _ => by simp))
        have hcnt := hW.cnt
        have HW := Lib.hid hW
        have HM6 := Lib.hid hm6
        have HB6 := Lib.hid hB6
        have HP6 := Lib.hid hP6
        have HNB := Lib.hid hnB
        have HADR := Lib.hid hadr
        clear hC hF hAf hW hm6 hB6 hP6 hnB hadr
        rcases hr5' with rfl | rfl | rfl | rfl | rfl
        · as_aux_lemma =>
            have hpt := Lib.hid (cPut_any HCW.out hn1 ad gn sm (gn % 5 + 1) pay (by omega))
            have hkd : (gn : Int) % 5 = ((gn % 5 : Nat) : Int) := by omega
            have hkl : gn % 5 < 5 := by omega
            generalize hkg : gn % 5 = kd at *
            simp only [show (((kd + 1 : Nat)) : Int) = (kd : Int) + 1 by omega] at hpt
            have o0 := HB6.out.cell (i := 0) (v := .int .i64 dn) rfl
            have o1 := HB6.out.cell (i := 1) (v := .int .i64 ad) rfl
            have o2 := HB6.out.cell (i := 2) (v := .int .u64 gn) rfl
            have o3 := HB6.out.cell (i := 3) (v := .int .u32 sm) rfl
            have o4 := HB6.out.cell (i := 4) (v := .string pay) rfl
            have p0 := HP6.out.cell (i := 0) (v := .int .i64 ad) rfl
            have p1 := HP6.out.cell (i := 1) (v := .int .u64 gn) rfl
            have p2 := HP6.out.cell (i := 2) (v := .int .u32 sm) rfl
            go_wp2_with fail
            clear o0 o1 o2 o3 o4 p0 p1 p2 hW6 d0 d1 d2 d3 d4
            refine hpt.out.mono ?_
            rintro y wa ⟨rfl, fp1, hCa, hma, hfa⟩
            have hBa := HB6.out.keep hma HNB.out.1
            have o1 := hBa.cell (i := 1) (v := .int .i64 ad) rfl
            have o2 := hBa.cell (i := 2) (v := .int .u64 gn) rfl
            have o3 := hBa.cell (i := 3) (v := .int .u32 sm) rfl
            have o4 := hBa.cell (i := 4) (v := .string pay) rfl
            have hrp := rPut11_any (HRW.out.keep hma (fun a ha => (HF.out.2 a ha).2)) (by omega) hRc hn1 (by omega) ⟨ad, gn, sm, kd + 1, pay⟩
            simp only [kcells, show (((kd + 1 : Nat)) : Int) = (kd : Int) + 1 by omega] at hrp
            have HRP := Lib.hid hrp
            have HCA := Lib.hid hCa
            have HMA := Lib.hid hma
            have HFA := Lib.hid hfa
            clear hrp hCa hma hfa hpt hBa
            go_wp2_with fail
            refine HRP.out.mono ?_
            rintro y wX ⟨u, rfl, hown, hmX⟩
            obtain ⟨A2, c2, rfl, hrow2, hc2, hA2⟩ := owns5 hown
            have HN : Hid (PlaysW w wX b n (i + 1) (putK n R ⟨ad, gn, sm, kd + 1, pay⟩) A2 f0 f1) := HW.out.next (HM6.out.mono (by simp)) HMA.out HCA.out HFA.out hmX hown hrow2 rfl HF.out.1 (by omega) HC.out.lt
            clear hown hrow2 hmX hA2 o1 o2 o3 o4 HRP HCA HMA HFA
            obtain ⟨R2, hR2⟩ : ∃ R2, putK n R ⟨ad, gn, sm, kd + 1, pay⟩ = R2 := ⟨_, rfl⟩
            rw [hR2] at HN hc2 ⊢
            clear hR2
            obtain ⟨fpN, hCN, hFN, hAN⟩ := HN.out.ex
            have hls := Lib.hid (cList_any hCN)
            have hcts := fun W (hmm : Mods [] wX W) => cCounts_any (hCN.keep hmm (by simp))
            have HCT := Lib.hid hcts
            have HRN := Lib.hid HN.out.row
            have hlenN := HN.out.len
            have hcntN := HN.out.cnt
            clear hCN hFN hAN hcts
            go_wp2_with fail
            refine hls.out.mono ?_
            rintro y wL ⟨u, rfl, hown, hmL, _⟩
            have HNL := Lib.hid (HN.out.still hmL)
            have HRL := Lib.hid (HRN.out.keep hmL (fun _ _ => by simp))
            obtain ⟨uA, uC, rfl, hurow, huc, _⟩ := row_of_owns3 hown
            have HU := Lib.hid hurow
            have HCL := Lib.hid (HCT.out wL hmL)
            clear hown hmL hls hurow HCT HRN HN
            go_wp2_with fail
            refine HCL.out.mono ?_
            rintro y wK ⟨rfl, qK, hK⟩
            have hmK : Mods [] wL wK := by rw [hK]; exact (Mods.refl _ _).drewN _
            have HNK := Lib.hid (HNL.out.still hmK)
            have HUK := Lib.hid (HU.out.keep hmK (fun _ _ => by simp))
            have HRK := Lib.hid (HRL.out.keep hmK (fun _ _ => by simp))
            clear hK hmK HNL HRL HU HCL
            generalize hR2L : R2.length = lR at *
            have HR2L := Lib.hid hR2L
            clear hR2L
            go_wp2_with fail
            go_loopw [195] (fun jv wq => ∃ j : Nat, j ≤ lR ∧ jv = .int .i64 j ∧ Mods [] wK wq) (fun jv _ => lR - (intOf jv).toNat)
            case atStart => exact ⟨0, Nat.zero_le _, rfl, Mods.refl _ _⟩
            case round =>
              obtain ⟨j, hj, rfl, hmq⟩ := hrel
              by_cases hjl : j < lR
              · obtain ⟨z, hz⟩ : ∃ z, R2[j]? = some z := ⟨_, List.getElem?_eq_getElem (by rw [HR2L.out]; exact hjl)⟩
                obtain ⟨bu, ou, rfl, k0⟩ := (HUK.out.keep hmq (fun _ _ => by simp)).at (i := j) (u := .int .i64 z.addr) (by rw [List.getElem?_map, hz]; rfl)
                obtain ⟨bl, ol, rfl, l0, _⟩ := kRow_at (HRK.out.keep hmq (fun _ _ => by simp)) hz
                have HMQ := Lib.hid hmq
                have heq : (z.addr == z.addr) = true := by simp
                clear hmq hz
                go_wp2_with fail
                go_quiet (fail)
                go_wp2_with fail
                go_roundw
                case rel => exact ⟨j + 1, by omega, by simp, HMQ.out.drewN _⟩
                case measure => simp [intOf]; omega
              · obtain rfl : j = lR := by omega
                have HMQ := Lib.hid hmq
                clear hmq
                go_wp2_with fail
                go_roundw
                case rel => exact ⟨i + 1, by omega, by simp, R2, A2, c2, f0, f1, by rw [HR2L.out], by rw [HR2L.out]; exact hc2, by simp, by simp, HNK.out.still HMQ.out⟩
                case measure => simp [intOf]; omega
        · as_aux_lemma =>
            have hpt := Lib.hid (cPut_any HCW.out hn1 ad gn sm (gn % 5 + 1) pay (by omega))
            have hkd : (gn : Int) % 5 = ((gn % 5 : Nat) : Int) := by omega
            have hkl : gn % 5 < 5 := by omega
            generalize hkg : gn % 5 = kd at *
            simp only [show (((kd + 1 : Nat)) : Int) = (kd : Int) + 1 by omega] at hpt
            have o0 := HB6.out.cell (i := 0) (v := .int .i64 dn) rfl
            have o1 := HB6.out.cell (i := 1) (v := .int .i64 ad) rfl
            have o2 := HB6.out.cell (i := 2) (v := .int .u64 gn) rfl
            have o3 := HB6.out.cell (i := 3) (v := .int .u32 sm) rfl
            have o4 := HB6.out.cell (i := 4) (v := .string pay) rfl
            have p0 := HP6.out.cell (i := 0) (v := .int .i64 ad) rfl
            have p1 := HP6.out.cell (i := 1) (v := .int .u64 gn) rfl
            have p2 := HP6.out.cell (i := 2) (v := .int .u32 sm) rfl
            go_wp2_with fail
            clear o0 o1 o2 o3 o4 p0 p1 p2 hW6 d0 d1 d2 d3 d4
            refine hpt.out.mono ?_
            rintro y wa ⟨rfl, fp1, hCa, hma, hfa⟩
            have hBa := HB6.out.keep hma HNB.out.1
            have o1 := hBa.cell (i := 1) (v := .int .i64 ad) rfl
            have o2 := hBa.cell (i := 2) (v := .int .u64 gn) rfl
            have o3 := hBa.cell (i := 3) (v := .int .u32 sm) rfl
            have o4 := hBa.cell (i := 4) (v := .string pay) rfl
            have hrp := rPut11_any (HRW.out.keep hma (fun a ha => (HF.out.2 a ha).2)) (by omega) hRc hn1 (by omega) ⟨ad, gn, sm, kd + 1, pay⟩
            simp only [kcells, show (((kd + 1 : Nat)) : Int) = (kd : Int) + 1 by omega] at hrp
            have HRP := Lib.hid hrp
            have HCA := Lib.hid hCa
            have HMA := Lib.hid hma
            have HFA := Lib.hid hfa
            clear hrp hCa hma hfa hpt hBa
            go_wp2_with fail
            refine HRP.out.mono ?_
            rintro y wX ⟨u, rfl, hown, hmX⟩
            obtain ⟨A2, c2, rfl, hrow2, hc2, hA2⟩ := owns5 hown
            have HN : Hid (PlaysW w wX b n (i + 1) (putK n R ⟨ad, gn, sm, kd + 1, pay⟩) A2 f0 f1) := HW.out.next (HM6.out.mono (by simp)) HMA.out HCA.out HFA.out hmX hown hrow2 rfl HF.out.1 (by omega) HC.out.lt
            clear hown hrow2 hmX hA2 o1 o2 o3 o4 HRP HCA HMA HFA
            obtain ⟨R2, hR2⟩ : ∃ R2, putK n R ⟨ad, gn, sm, kd + 1, pay⟩ = R2 := ⟨_, rfl⟩
            rw [hR2] at HN hc2 ⊢
            clear hR2
            obtain ⟨fpN, hCN, hFN, hAN⟩ := HN.out.ex
            have hls := Lib.hid (cList_any hCN)
            have hcts := fun W (hmm : Mods [] wX W) => cCounts_any (hCN.keep hmm (by simp))
            have HCT := Lib.hid hcts
            have HRN := Lib.hid HN.out.row
            have hlenN := HN.out.len
            have hcntN := HN.out.cnt
            clear hCN hFN hAN hcts
            go_wp2_with fail
            refine hls.out.mono ?_
            rintro y wL ⟨u, rfl, hown, hmL, _⟩
            have HNL := Lib.hid (HN.out.still hmL)
            have HRL := Lib.hid (HRN.out.keep hmL (fun _ _ => by simp))
            obtain ⟨uA, uC, rfl, hurow, huc, _⟩ := row_of_owns3 hown
            have HU := Lib.hid hurow
            have HCL := Lib.hid (HCT.out wL hmL)
            clear hown hmL hls hurow HCT HRN HN
            go_wp2_with fail
            refine HCL.out.mono ?_
            rintro y wK ⟨rfl, qK, hK⟩
            have hmK : Mods [] wL wK := by rw [hK]; exact (Mods.refl _ _).drewN _
            have HNK := Lib.hid (HNL.out.still hmK)
            have HUK := Lib.hid (HU.out.keep hmK (fun _ _ => by simp))
            have HRK := Lib.hid (HRL.out.keep hmK (fun _ _ => by simp))
            clear hK hmK HNL HRL HU HCL
            generalize hR2L : R2.length = lR at *
            have HR2L := Lib.hid hR2L
            clear hR2L
            go_wp2_with fail
            go_loopw [195] (fun jv wq => ∃ j : Nat, j ≤ lR ∧ jv = .int .i64 j ∧ Mods [] wK wq) (fun jv _ => lR - (intOf jv).toNat)
            case atStart => exact ⟨0, Nat.zero_le _, rfl, Mods.refl _ _⟩
            case round =>
              obtain ⟨j, hj, rfl, hmq⟩ := hrel
              by_cases hjl : j < lR
              · obtain ⟨z, hz⟩ : ∃ z, R2[j]? = some z := ⟨_, List.getElem?_eq_getElem (by rw [HR2L.out]; exact hjl)⟩
                obtain ⟨bu, ou, rfl, k0⟩ := (HUK.out.keep hmq (fun _ _ => by simp)).at (i := j) (u := .int .i64 z.addr) (by rw [List.getElem?_map, hz]; rfl)
                obtain ⟨bl, ol, rfl, l0, _⟩ := kRow_at (HRK.out.keep hmq (fun _ _ => by simp)) hz
                have HMQ := Lib.hid hmq
                have heq : (z.addr == z.addr) = true := by simp
                clear hmq hz
                go_wp2_with fail
                go_quiet (fail)
                go_wp2_with fail
                go_roundw
                case rel => exact ⟨j + 1, by omega, by simp, HMQ.out.drewN _⟩
                case measure => simp [intOf]; omega
              · obtain rfl : j = lR := by omega
                have HMQ := Lib.hid hmq
                clear hmq
                go_wp2_with fail
                go_roundw
                case rel => exact ⟨i + 1, by omega, by simp, R2, A2, c2, f0, f1, by rw [HR2L.out], by rw [HR2L.out]; exact hc2, by simp, by simp, HNK.out.still HMQ.out⟩
                case measure => simp [intOf]; omega
        · as_aux_lemma =>
            have o0 := HB6.out.cell (i := 0) (v := .int .i64 dn) rfl
            have o1 := HB6.out.cell (i := 1) (v := .int .i64 ad) rfl
            have o2 := HB6.out.cell (i := 2) (v := .int .u64 gn) rfl
            have o3 := HB6.out.cell (i := 3) (v := .int .u32 sm) rfl
            have p0 := HP6.out.cell (i := 0) (v := .int .i64 ad) rfl
            have p1 := HP6.out.cell (i := 1) (v := .int .u64 gn) rfl
            have p2 := HP6.out.cell (i := 2) (v := .int .u32 sm) rfl
            cases hgk : getK R ad gn sm with
            | none =>
              have hpt := Lib.hid (cGet_miss HCW.out ad gn sm hgk (by omega))
              have HGK := Lib.hid hgk
              clear hgk
              go_wp2_with fail
              clear o0 o1 o2 o3 p0 p1 p2 hW6 d0 d1 d2 d3 d4
              refine hpt.out.mono ?_
              rintro y wa ⟨rfl, hCa, hma⟩
              have hBa := HB6.out.keep hma HNB.out.1
              have o1 := hBa.cell (i := 1) (v := .int .i64 ad) rfl
              have o2 := hBa.cell (i := 2) (v := .int .u64 gn) rfl
              have o3 := hBa.cell (i := 3) (v := .int .u32 sm) rfl
              have HRP := Lib.hid (rGet11_miss (cap := cR) (HRW.out.keep hma (fun a ha => (HF.out.2 a ha).2)) (by omega) ad gn sm HGK.out)
              have HCA := Lib.hid hCa
              have HMA := Lib.hid hma
              clear hCa hma hpt hBa
              unfold zcells at HRP
              go_wp2_with fail
              refine HRP.out.mono ?_
              rintro y wb ⟨rfl, hmb⟩
              have HMB := Lib.hid hmb
              clear hmb HRP o1 o2 o3
              go_wp2_with fail
              obtain ⟨wX, hwX⟩ : ∃ wX, wb.alloc (.cells #[.int .i64 0, .int .u64 0, .int .u32 0, .int .u8 0, .string ⟨#[]⟩] 66) = wX := ⟨_, rfl⟩
              have hmX : Mods [] wb wX := by rw [← hwX]; exact (Mods.refl _ _).alloc _
              rw [hwX]
              have HN : Hid (PlaysW w wX b n (i + 1) R A f0 (f1 + 1)) := HW.out.missed (HM6.out.mono (by simp)) HMA.out HCA.out (HMB.out.trans hmX (by simp)) HF.out.1 HF.out.2
              clear hwX hmX HCA HMA HMB
              obtain ⟨fpN, hCN, hFN, hAN⟩ := HN.out.ex
              have hls := Lib.hid (cList_any hCN)
              have hcts := fun W (hmm : Mods [] wX W) => cCounts_any (hCN.keep hmm (by simp))
              have HCT := Lib.hid hcts
              have HRN := Lib.hid HN.out.row
              have hlenN := HN.out.len
              have hcntN := HN.out.cnt
              clear hCN hFN hAN hcts
              skip
              refine hls.out.mono ?_
              rintro y wL ⟨u, rfl, hown, hmL, _⟩
              have HNL := Lib.hid (HN.out.still hmL)
              have HRL := Lib.hid (HRN.out.keep hmL (fun _ _ => by simp))
              obtain ⟨uA, uC, rfl, hurow, huc, _⟩ := row_of_owns3 hown
              have HU := Lib.hid hurow
              have HCL := Lib.hid (HCT.out wL hmL)
              clear hown hmL hls hurow HCT HRN HN
              go_wp2_with fail
              refine HCL.out.mono ?_
              rintro y wK ⟨rfl, qK, hK⟩
              have hmK : Mods [] wL wK := by rw [hK]; exact (Mods.refl _ _).drewN _
              have HNK := Lib.hid (HNL.out.still hmK)
              have HUK := Lib.hid (HU.out.keep hmK (fun _ _ => by simp))
              have HRK := Lib.hid (HRL.out.keep hmK (fun _ _ => by simp))
              clear hK hmK HNL HRL HU HCL
              generalize hRL : R.length = lR at *
              have HRL := Lib.hid hRL
              clear hRL
              go_wp2_with fail
              go_loopw [195] (fun jv wq => ∃ j : Nat, j ≤ lR ∧ jv = .int .i64 j ∧ Mods [] wK wq) (fun jv _ => lR - (intOf jv).toNat)
              case atStart => exact ⟨0, Nat.zero_le _, rfl, Mods.refl _ _⟩
              case round =>
                obtain ⟨j, hj, rfl, hmq⟩ := hrel
                by_cases hjl : j < lR
                · obtain ⟨z, hz⟩ : ∃ z, R[j]? = some z := ⟨_, List.getElem?_eq_getElem (by rw [HRL.out]; exact hjl)⟩
                  obtain ⟨bu, ou, rfl, k0⟩ := (HUK.out.keep hmq (fun _ _ => by simp)).at (i := j) (u := .int .i64 z.addr) (by rw [List.getElem?_map, hz]; rfl)
                  obtain ⟨bl, ol, rfl, l0, _⟩ := kRow_at (HRK.out.keep hmq (fun _ _ => by simp)) hz
                  have HMQ := Lib.hid hmq
                  have heq : (z.addr == z.addr) = true := by simp
                  clear hmq hz
                  go_wp2_with fail
                  go_quiet (fail)
                  go_wp2_with fail
                  go_roundw
                  case rel => exact ⟨j + 1, by omega, by simp, HMQ.out.drewN _⟩
                  case measure => simp [intOf]; omega
                · obtain rfl : j = lR := by omega
                  have HMQ := Lib.hid hmq
                  clear hmq
                  go_wp2_with fail
                  go_roundw
                  case rel => exact ⟨i + 1, by omega, by simp, R, A, cR, f0, f1 + 1, by rw [HRL.out], by rw [HRL.out]; exact hRc, by simp, by simp, HNK.out.still HMQ.out⟩
                  case measure => simp [intOf]; omega
            | some x =>
              have hpt := Lib.hid (cGet_hit HCW.out ad gn sm hgk (by omega) (by omega))
              obtain ⟨hpk, hpos⟩ := putK_hit HADR.out hgk
              have HGK := Lib.hid (And.intro hgk hpk)
              clear hgk hpk
              go_wp2_with fail
              clear o0 o1 o2 o3 p0 p1 p2 hW6 d0 d1 d2 d3 d4
              refine hpt.out.mono ?_
              rintro y wa ⟨rfl, fp1, hCa, hma, hfa⟩
              have hBa := HB6.out.keep hma HNB.out.1
              have o1 := hBa.cell (i := 1) (v := .int .i64 ad) rfl
              have o2 := hBa.cell (i := 2) (v := .int .u64 gn) rfl
              have o3 := hBa.cell (i := 3) (v := .int .u32 sm) rfl
              have hrp := rGet11_hit (cap := cR) (HRW.out.keep hma (fun a ha => (HF.out.2 a ha).2)) (by omega) hRc ad gn sm HGK.out.1
              rw [HGK.out.2] at hrp
              simp only [kcells] at hrp
              have HRP := Lib.hid hrp
              have HCA := Lib.hid hCa
              have HMA := Lib.hid hma
              have HFA := Lib.hid hfa
              clear hCa hma hfa hpt hBa hrp
              go_wp2_with fail
              refine HRP.out.mono ?_
              rintro y wb ⟨u, rfl, hown, hmb⟩
              obtain ⟨A2, c2, rfl, hrow2, hc2, hA2⟩ := owns5 hown
              obtain ⟨R2, hR2⟩ : ∃ R2, x :: others ad R = R2 := ⟨_, rfl⟩
              rw [hR2] at hown hrow2 hc2 ⊢
              have HMB := Lib.hid (And.intro hmb (And.intro hown hrow2))
              have HR2E := Lib.hid hR2
              clear hmb hown hrow2 HRP o1 o2 o3 hA2 hR2
              go_wp2_with fail
              obtain ⟨wX, hwX⟩ : ∃ wX, wb.alloc (.cells #[.int .i64 x.addr, .int .u64 x.gen, .int .u32 x.sum, .int .u8 x.kind, .string x.pay] 66) = wX := ⟨_, rfl⟩
              have hmX : Mods [] wb wX := by rw [← hwX]; exact (Mods.refl _ _).alloc _
              rw [hwX]
              have HN : Hid (PlaysW w wX b n (i + 1) R2 A2 (f0 + 1) f1) := (HW.out.next (HM6.out.mono (by simp)) HMA.out (HR2E.out ▸ HCA.out) (fun k hk => .inl (HFA.out k hk)) HMB.out.1 HMB.out.2.1 HMB.out.2.2 rfl HF.out.1 (by omega) HC.out.lt).still hmX
              clear hwX hmX HCA HMA HFA HMB
              obtain ⟨fpN, hCN, hFN, hAN⟩ := HN.out.ex
              have hls := Lib.hid (cList_any hCN)
              have hcts := fun W (hmm : Mods [] wX W) => cCounts_any (hCN.keep hmm (by simp))
              have HCT := Lib.hid hcts
              have HRN := Lib.hid HN.out.row
              have hlenN := HN.out.len
              have hcntN := HN.out.cnt
              clear hCN hFN hAN hcts
              skip
              refine hls.out.mono ?_
              rintro y wL ⟨u, rfl, hown, hmL, _⟩
              have HNL := Lib.hid (HN.out.still hmL)
              have HRL := Lib.hid (HRN.out.keep hmL (fun _ _ => by simp))
              obtain ⟨uA, uC, rfl, hurow, huc, _⟩ := row_of_owns3 hown
              have HU := Lib.hid hurow
              have HCL := Lib.hid (HCT.out wL hmL)
              clear hown hmL hls hurow HCT HRN HN
              go_wp2_with fail
              refine HCL.out.mono ?_
              rintro y wK ⟨rfl, qK, hK⟩
              have hmK : Mods [] wL wK := by rw [hK]; exact (Mods.refl _ _).drewN _
              have HNK := Lib.hid (HNL.out.still hmK)
              have HUK := Lib.hid (HU.out.keep hmK (fun _ _ => by simp))
              have HRK := Lib.hid (HRL.out.keep hmK (fun _ _ => by simp))
              clear hK hmK HNL HRL HU HCL
              generalize hR2L : R2.length = lR at *
              have HR2L := Lib.hid hR2L
              clear hR2L
              go_wp2_with fail
              go_loopw [195] (fun jv wq => ∃ j : Nat, j ≤ lR ∧ jv = .int .i64 j ∧ Mods [] wK wq) (fun jv _ => lR - (intOf jv).toNat)
              case atStart => exact ⟨0, Nat.zero_le _, rfl, Mods.refl _ _⟩
              case round =>
                obtain ⟨j, hj, rfl, hmq⟩ := hrel
                by_cases hjl : j < lR
                · obtain ⟨z, hz⟩ : ∃ z, R2[j]? = some z := ⟨_, List.getElem?_eq_getElem (by rw [HR2L.out]; exact hjl)⟩
                  obtain ⟨bu, ou, rfl, k0⟩ := (HUK.out.keep hmq (fun _ _ => by simp)).at (i := j) (u := .int .i64 z.addr) (by rw [List.getElem?_map, hz]; rfl)
                  obtain ⟨bl, ol, rfl, l0, _⟩ := kRow_at (HRK.out.keep hmq (fun _ _ => by simp)) hz
                  have HMQ := Lib.hid hmq
                  have heq : (z.addr == z.addr) = true := by simp
                  clear hmq hz
                  go_wp2_with fail
                  go_quiet (fail)
                  go_wp2_with fail
                  go_roundw
                  case rel => exact ⟨j + 1, by omega, by simp, HMQ.out.drewN _⟩
                  case measure => simp [intOf]; omega
                · obtain rfl : j = lR := by omega
                  have HMQ := Lib.hid hmq
                  clear hmq
                  go_wp2_with fail
                  go_roundw
                  case rel => exact ⟨i + 1, by omega, by simp, R2, A2, c2, f0 + 1, f1, by rw [HR2L.out], by rw [HR2L.out]; exact hc2, by simp, by simp, HNK.out.still HMQ.out⟩
                  case measure => simp [intOf]; omega
        · as_aux_lemma =>
            have o0 := HB6.out.cell (i := 0) (v := .int .i64 dn) rfl
            have o1 := HB6.out.cell (i := 1) (v := .int .i64 ad) rfl
            have o2 := HB6.out.cell (i := 2) (v := .int .u64 gn) rfl
            have o3 := HB6.out.cell (i := 3) (v := .int .u32 sm) rfl
            have p0 := HP6.out.cell (i := 0) (v := .int .i64 ad) rfl
            have p1 := HP6.out.cell (i := 1) (v := .int .u64 gn) rfl
            have p2 := HP6.out.cell (i := 2) (v := .int .u32 sm) rfl
            cases hgk : getK R ad gn sm with
            | none =>
              have hpt := Lib.hid (cGet_miss HCW.out ad gn sm hgk (by omega))
              have HGK := Lib.hid hgk
              clear hgk
              go_wp2_with fail
              clear o0 o1 o2 o3 p0 p1 p2 hW6 d0 d1 d2 d3 d4
              refine hpt.out.mono ?_
              rintro y wa ⟨rfl, hCa, hma⟩
              have hBa := HB6.out.keep hma HNB.out.1
              have o1 := hBa.cell (i := 1) (v := .int .i64 ad) rfl
              have o2 := hBa.cell (i := 2) (v := .int .u64 gn) rfl
              have o3 := hBa.cell (i := 3) (v := .int .u32 sm) rfl
              have HRP := Lib.hid (rGet11_miss (cap := cR) (HRW.out.keep hma (fun a ha => (HF.out.2 a ha).2)) (by omega) ad gn sm HGK.out)
              have HCA := Lib.hid hCa
              have HMA := Lib.hid hma
              clear hCa hma hpt hBa
              unfold zcells at HRP
              go_wp2_with fail
              refine HRP.out.mono ?_
              rintro y wb ⟨rfl, hmb⟩
              have HMB := Lib.hid hmb
              clear hmb HRP o1 o2 o3
              go_wp2_with fail
              obtain ⟨wX, hwX⟩ : ∃ wX, wb.alloc (.cells #[.int .i64 0, .int .u64 0, .int .u32 0, .int .u8 0, .string ⟨#[]⟩] 66) = wX := ⟨_, rfl⟩
              have hmX : Mods [] wb wX := by rw [← hwX]; exact (Mods.refl _ _).alloc _
              rw [hwX]
              have HN : Hid (PlaysW w wX b n (i + 1) R A f0 (f1 + 1)) := HW.out.missed (HM6.out.mono (by simp)) HMA.out HCA.out (HMB.out.trans hmX (by simp)) HF.out.1 HF.out.2
              clear hwX hmX HCA HMA HMB
              obtain ⟨fpN, hCN, hFN, hAN⟩ := HN.out.ex
              have hls := Lib.hid (cList_any hCN)
              have hcts := fun W (hmm : Mods [] wX W) => cCounts_any (hCN.keep hmm (by simp))
              have HCT := Lib.hid hcts
              have HRN := Lib.hid HN.out.row
              have hlenN := HN.out.len
              have hcntN := HN.out.cnt
              clear hCN hFN hAN hcts
              skip
              refine hls.out.mono ?_
              rintro y wL ⟨u, rfl, hown, hmL, _⟩
              have HNL := Lib.hid (HN.out.still hmL)
              have HRL := Lib.hid (HRN.out.keep hmL (fun _ _ => by simp))
              obtain ⟨uA, uC, rfl, hurow, huc, _⟩ := row_of_owns3 hown
              have HU := Lib.hid hurow
              have HCL := Lib.hid (HCT.out wL hmL)
              clear hown hmL hls hurow HCT HRN HN
              go_wp2_with fail
              refine HCL.out.mono ?_
              rintro y wK ⟨rfl, qK, hK⟩
              have hmK : Mods [] wL wK := by rw [hK]; exact (Mods.refl _ _).drewN _
              have HNK := Lib.hid (HNL.out.still hmK)
              have HUK := Lib.hid (HU.out.keep hmK (fun _ _ => by simp))
              have HRK := Lib.hid (HRL.out.keep hmK (fun _ _ => by simp))
              clear hK hmK HNL HRL HU HCL
              generalize hRL : R.length = lR at *
              have HRL := Lib.hid hRL
              clear hRL
              go_wp2_with fail
              go_loopw [195] (fun jv wq => ∃ j : Nat, j ≤ lR ∧ jv = .int .i64 j ∧ Mods [] wK wq) (fun jv _ => lR - (intOf jv).toNat)
              case atStart => exact ⟨0, Nat.zero_le _, rfl, Mods.refl _ _⟩
              case round =>
                obtain ⟨j, hj, rfl, hmq⟩ := hrel
                by_cases hjl : j < lR
                · obtain ⟨z, hz⟩ : ∃ z, R[j]? = some z := ⟨_, List.getElem?_eq_getElem (by rw [HRL.out]; exact hjl)⟩
                  obtain ⟨bu, ou, rfl, k0⟩ := (HUK.out.keep hmq (fun _ _ => by simp)).at (i := j) (u := .int .i64 z.addr) (by rw [List.getElem?_map, hz]; rfl)
                  obtain ⟨bl, ol, rfl, l0, _⟩ := kRow_at (HRK.out.keep hmq (fun _ _ => by simp)) hz
                  have HMQ := Lib.hid hmq
                  have heq : (z.addr == z.addr) = true := by simp
                  clear hmq hz
                  go_wp2_with fail
                  go_quiet (fail)
                  go_wp2_with fail
                  go_roundw
                  case rel => exact ⟨j + 1, by omega, by simp, HMQ.out.drewN _⟩
                  case measure => simp [intOf]; omega
                · obtain rfl : j = lR := by omega
                  have HMQ := Lib.hid hmq
                  clear hmq
                  go_wp2_with fail
                  go_roundw
                  case rel => exact ⟨i + 1, by omega, by simp, R, A, cR, f0, f1 + 1, by rw [HRL.out], by rw [HRL.out]; exact hRc, by simp, by simp, HNK.out.still HMQ.out⟩
                  case measure => simp [intOf]; omega
            | some x =>
              have hpt := Lib.hid (cGet_hit HCW.out ad gn sm hgk (by omega) (by omega))
              obtain ⟨hpk, hpos⟩ := putK_hit HADR.out hgk
              have HGK := Lib.hid (And.intro hgk hpk)
              clear hgk hpk
              go_wp2_with fail
              clear o0 o1 o2 o3 p0 p1 p2 hW6 d0 d1 d2 d3 d4
              refine hpt.out.mono ?_
              rintro y wa ⟨rfl, fp1, hCa, hma, hfa⟩
              have hBa := HB6.out.keep hma HNB.out.1
              have o1 := hBa.cell (i := 1) (v := .int .i64 ad) rfl
              have o2 := hBa.cell (i := 2) (v := .int .u64 gn) rfl
              have o3 := hBa.cell (i := 3) (v := .int .u32 sm) rfl
              have hrp := rGet11_hit (cap := cR) (HRW.out.keep hma (fun a ha => (HF.out.2 a ha).2)) (by omega) hRc ad gn sm HGK.out.1
              rw [HGK.out.2] at hrp
              simp only [kcells] at hrp
              have HRP := Lib.hid hrp
              have HCA := Lib.hid hCa
              have HMA := Lib.hid hma
              have HFA := Lib.hid hfa
              clear hCa hma hfa hpt hBa hrp
              go_wp2_with fail
              refine HRP.out.mono ?_
              rintro y wb ⟨u, rfl, hown, hmb⟩
              obtain ⟨A2, c2, rfl, hrow2, hc2, hA2⟩ := owns5 hown
              obtain ⟨R2, hR2⟩ : ∃ R2, x :: others ad R = R2 := ⟨_, rfl⟩
              rw [hR2] at hown hrow2 hc2 ⊢
              have HMB := Lib.hid (And.intro hmb (And.intro hown hrow2))
              have HR2E := Lib.hid hR2
              clear hmb hown hrow2 HRP o1 o2 o3 hA2 hR2
              go_wp2_with fail
              obtain ⟨wX, hwX⟩ : ∃ wX, wb.alloc (.cells #[.int .i64 x.addr, .int .u64 x.gen, .int .u32 x.sum, .int .u8 x.kind, .string x.pay] 66) = wX := ⟨_, rfl⟩
              have hmX : Mods [] wb wX := by rw [← hwX]; exact (Mods.refl _ _).alloc _
              rw [hwX]
              have HN : Hid (PlaysW w wX b n (i + 1) R2 A2 (f0 + 1) f1) := (HW.out.next (HM6.out.mono (by simp)) HMA.out (HR2E.out ▸ HCA.out) (fun k hk => .inl (HFA.out k hk)) HMB.out.1 HMB.out.2.1 HMB.out.2.2 rfl HF.out.1 (by omega) HC.out.lt).still hmX
              clear hwX hmX HCA HMA HFA HMB
              obtain ⟨fpN, hCN, hFN, hAN⟩ := HN.out.ex
              have hls := Lib.hid (cList_any hCN)
              have hcts := fun W (hmm : Mods [] wX W) => cCounts_any (hCN.keep hmm (by simp))
              have HCT := Lib.hid hcts
              have HRN := Lib.hid HN.out.row
              have hlenN := HN.out.len
              have hcntN := HN.out.cnt
              clear hCN hFN hAN hcts
              skip
              refine hls.out.mono ?_
              rintro y wL ⟨u, rfl, hown, hmL, _⟩
              have HNL := Lib.hid (HN.out.still hmL)
              have HRL := Lib.hid (HRN.out.keep hmL (fun _ _ => by simp))
              obtain ⟨uA, uC, rfl, hurow, huc, _⟩ := row_of_owns3 hown
              have HU := Lib.hid hurow
              have HCL := Lib.hid (HCT.out wL hmL)
              clear hown hmL hls hurow HCT HRN HN
              go_wp2_with fail
              refine HCL.out.mono ?_
              rintro y wK ⟨rfl, qK, hK⟩
              have hmK : Mods [] wL wK := by rw [hK]; exact (Mods.refl _ _).drewN _
              have HNK := Lib.hid (HNL.out.still hmK)
              have HUK := Lib.hid (HU.out.keep hmK (fun _ _ => by simp))
              have HRK := Lib.hid (HRL.out.keep hmK (fun _ _ => by simp))
              clear hK hmK HNL HRL HU HCL
              generalize hR2L : R2.length = lR at *
              have HR2L := Lib.hid hR2L
              clear hR2L
              go_wp2_with fail
              go_loopw [195] (fun jv wq => ∃ j : Nat, j ≤ lR ∧ jv = .int .i64 j ∧ Mods [] wK wq) (fun jv _ => lR - (intOf jv).toNat)
              case atStart => exact ⟨0, Nat.zero_le _, rfl, Mods.refl _ _⟩
              case round =>
                obtain ⟨j, hj, rfl, hmq⟩ := hrel
                by_cases hjl : j < lR
                · obtain ⟨z, hz⟩ : ∃ z, R2[j]? = some z := ⟨_, List.getElem?_eq_getElem (by rw [HR2L.out]; exact hjl)⟩
                  obtain ⟨bu, ou, rfl, k0⟩ := (HUK.out.keep hmq (fun _ _ => by simp)).at (i := j) (u := .int .i64 z.addr) (by rw [List.getElem?_map, hz]; rfl)
                  obtain ⟨bl, ol, rfl, l0, _⟩ := kRow_at (HRK.out.keep hmq (fun _ _ => by simp)) hz
                  have HMQ := Lib.hid hmq
                  have heq : (z.addr == z.addr) = true := by simp
                  clear hmq hz
                  go_wp2_with fail
                  go_quiet (fail)
                  go_wp2_with fail
                  go_roundw
                  case rel => exact ⟨j + 1, by omega, by simp, HMQ.out.drewN _⟩
                  case measure => simp [intOf]; omega
                · obtain rfl : j = lR := by omega
                  have HMQ := Lib.hid hmq
                  clear hmq
                  go_wp2_with fail
                  go_roundw
                  case rel => exact ⟨i + 1, by omega, by simp, R2, A2, c2, f0 + 1, f1, by rw [HR2L.out], by rw [HR2L.out]; exact hc2, by simp, by simp, HNK.out.still HMQ.out⟩
                  case measure => simp [intOf]; omega
        · as_aux_lemma =>
            have hpt := Lib.hid (cDrop_any HCW.out ad)
            have o0 := HB6.out.cell (i := 0) (v := .int .i64 dn) rfl
            have o1 := HB6.out.cell (i := 1) (v := .int .i64 ad) rfl
            have o2 := HB6.out.cell (i := 2) (v := .int .u64 gn) rfl
            have o3 := HB6.out.cell (i := 3) (v := .int .u32 sm) rfl
            go_wp2_with fail
            clear o0 o1 o2 o3 hW6 d0 d1 d2 d3 d4
            refine hpt.out.mono ?_
            rintro y wa ⟨rfl, fp1, hCa, hfa, hma⟩
            have hBa := HB6.out.keep hma HNB.out.1
            have o1 := hBa.cell (i := 1) (v := .int .i64 ad) rfl
            have HRP := Lib.hid (rDrop11_any (HRW.out.keep hma (fun a ha => (HF.out.2 a ha).2)) (by omega) hRc ad)
            have HCA := Lib.hid hCa
            have HMA := Lib.hid hma
            have HFA := Lib.hid hfa
            clear hCa hma hfa hpt hBa
            go_wp2_with fail
            refine HRP.out.mono ?_
            rintro y wX ⟨u, rfl, hown, hmX⟩
            obtain ⟨A2, c2, rfl, hrow2, hc2, hA2⟩ := owns5 hown
            have HN : Hid (PlaysW w wX b n (i + 1) (others ad R) A2 f0 f1) := HW.out.next (HM6.out.mono (by simp)) HMA.out HCA.out (fun k hk => .inl (HFA.out k hk)) hmX hown hrow2 rfl HF.out.1 (by omega) HC.out.lt
            clear hown hrow2 hmX hA2 o1 HRP HCA HMA HFA
            obtain ⟨R2, hR2⟩ : ∃ R2, others ad R = R2 := ⟨_, rfl⟩
            rw [hR2] at HN hc2 ⊢
            clear hR2
            obtain ⟨fpN, hCN, hFN, hAN⟩ := HN.out.ex
            have hls := Lib.hid (cList_any hCN)
            have hcts := fun W (hmm : Mods [] wX W) => cCounts_any (hCN.keep hmm (by simp))
            have HCT := Lib.hid hcts
            have HRN := Lib.hid HN.out.row
            have hlenN := HN.out.len
            have hcntN := HN.out.cnt
            clear hCN hFN hAN hcts
            go_wp2_with fail
            refine hls.out.mono ?_
            rintro y wL ⟨u, rfl, hown, hmL, _⟩
            have HNL := Lib.hid (HN.out.still hmL)
            have HRL := Lib.hid (HRN.out.keep hmL (fun _ _ => by simp))
            obtain ⟨uA, uC, rfl, hurow, huc, _⟩ := row_of_owns3 hown
            have HU := Lib.hid hurow
            have HCL := Lib.hid (HCT.out wL hmL)
            clear hown hmL hls hurow HCT HRN HN
            go_wp2_with fail
            refine HCL.out.mono ?_
            rintro y wK ⟨rfl, qK, hK⟩
            have hmK : Mods [] wL wK := by rw [hK]; exact (Mods.refl _ _).drewN _
            have HNK := Lib.hid (HNL.out.still hmK)
            have HUK := Lib.hid (HU.out.keep hmK (fun _ _ => by simp))
            have HRK := Lib.hid (HRL.out.keep hmK (fun _ _ => by simp))
            clear hK hmK HNL HRL HU HCL
            generalize hR2L : R2.length = lR at *
            have HR2L := Lib.hid hR2L
            clear hR2L
            go_wp2_with fail
            go_loopw [195] (fun jv wq => ∃ j : Nat, j ≤ lR ∧ jv = .int .i64 j ∧ Mods [] wK wq) (fun jv _ => lR - (intOf jv).toNat)
            case atStart => exact ⟨0, Nat.zero_le _, rfl, Mods.refl _ _⟩
            case round =>
              obtain ⟨j, hj, rfl, hmq⟩ := hrel
              by_cases hjl : j < lR
              · obtain ⟨z, hz⟩ : ∃ z, R2[j]? = some z := ⟨_, List.getElem?_eq_getElem (by rw [HR2L.out]; exact hjl)⟩
                obtain ⟨bu, ou, rfl, k0⟩ := (HUK.out.keep hmq (fun _ _ => by simp)).at (i := j) (u := .int .i64 z.addr) (by rw [List.getElem?_map, hz]; rfl)
                obtain ⟨bl, ol, rfl, l0, _⟩ := kRow_at (HRK.out.keep hmq (fun _ _ => by simp)) hz
                have HMQ := Lib.hid hmq
                have heq : (z.addr == z.addr) = true := by simp
                clear hmq hz
                go_wp2_with fail
                go_quiet (fail)
                go_wp2_with fail
                go_roundw
                case rel => exact ⟨j + 1, by omega, by simp, HMQ.out.drewN _⟩
                case measure => simp [intOf]; omega
              · obtain rfl : j = lR := by omega
                have HMQ := Lib.hid hmq
                clear hmq
                go_wp2_with fail
                go_roundw
                case rel => exact ⟨i + 1, by omega, by simp, R2, A2, c2, f0, f1, by rw [HR2L.out], by rw [HR2L.out]; exact hc2, by simp, by simp, HNK.out.still HMQ.out⟩
                case measure => simp [intOf]; omega
      · obtain rfl : i = p := by omega
        have HM := Lib.hid hW.mods
        clear hW
        go_wp2_with fail
        go_ret
        exact ⟨rfl, HM.out⟩
theorem readables_cachePlays : ∀ t ∈ (#[3, 59] : Array TypeId).toList, Try.prog.readableRec t = true ∧ t < Try.prog.types.size := by
  intro t ht
  simp only [List.mem_cons, List.not_mem_nil, or_false] at ht
  rcases ht with rfl | rfl
  all_goals exact ⟨by kernel_rfl, of_decide_eq_true (by kernel_rfl)⟩

set_option maxRecDepth 100000 in
theorem cachePlays_contract (H : Type) (enc : TypeId × Value → H) (W : World) (base : Nat) (args : Array Value) (ds gs : List (DataW H)) (before : List MemPlace)
    (hval : ∀ (j : Nat) t v, Try.f5.params[j]? = some t → args[j]? = some v → Value.okWide Try.prog W .any base t v)
    (hW : DataW.Whole enc Try.prog Try.f5.params.toList Rows.cachePlaysSpec.vars false W args.toList ds gs before) :
    Calls Try.prog 5 args W fun e W' => ∃ v, e = .returned v ∧ Rows.cachePlaysSpec.post enc Try.prog Try.f5 false true false false W args v W' := by
  have hW' := hW
  obtain ⟨p, q, hA0, hV, he, hfz, hnd⟩ := hW
  have hA : DataW.TrodAll enc Try.prog W 0 (fun _ => true) true Try.f5.params.toList args.toList ds p := hA0
  rw [Try.params5] at hA hval
  obtain ⟨v0, vs0, d0, ds0, p0, q0, hargs, rfl, rfl, h0, r0⟩ := trodAll_cons hA
  obtain ⟨v1, vs1, d1, ds1, p1, q1, rfl, rfl, rfl, h1, r1⟩ := trodAll_cons r0
  obtain ⟨rfl, rfl, rfl⟩ := trodAll_nil r1
  obtain rfl : args = #[v0, v1] := by cases args; simp_all
  obtain ⟨s, rfl, rfl, rfl, ws⟩ := open_int Try.underlying3 (hval 0 3 v0 rfl rfl) h0
  obtain ⟨lA, lLen, lCap, l, rfl, lRow, lL, lC, lM⟩ := acts_open11 (hval 1 59 v1 rfl rfl) h1
  refine (cachePlays_walk s lA lLen lCap l W lRow lL lC lM).mono fun e W' ⟨he', hm⟩ => ?_
  subst he'
  exact ⟨_, rfl, post_law laidOut (by rw [Try.params5]; exact readables_cachePlays) (by rfl) Try.underlying4 rfl rfl hW' hm.below⟩

set_option maxRecDepth 100000 in
theorem cachePlays_lifted (os : Os) (started : os.Started) (H : Type) (enc : TypeId × Value → H) :
    ReturnsInHanded {} Try.checked os 5 .any (Rows.cachePlaysSpec.pre6 enc Try.prog Try.f5 Rows.cachePlaysRow.domain false) (Rows.cachePlaysSpec.post enc Try.prog Try.f5 false true false false) := by
  refine returnsInHanded_of_change (C := Try.checked) own started (by kernel_rfl) Try.func5
    (ChangeSpec.witness6 (enc := enc) (C := Try.checked) false ⟨#[], #[.int .i64 0, .slice none 0 0], []⟩ 8 (by kernel_rfl) (by kernel_rfl) (by kernel_rfl) (by kernel_rfl)) ?_
  intro W base args ds gs before hval hW _ _
  exact cachePlays_contract H enc W base args ds gs before hval hW

/-- The law. -/
theorem cachePlays_said : Rows.CachePlaysSaid :=
  OpenClaim.holds_of_wide 5 Try.f5 rfl rfl rfl rfl rfl rfl rfl ⟨rfl, rfl, rfl, rfl, rfl⟩ rfl rfl rfl rfl rfl (by kernel_rfl) Try.func5 (by kernel_rfl)
    (of_decide_eq_true (by kernel_rfl)) (by unfold Func.isWrapper; first | (rw [if_pos (by decide +kernel)]; kernel_rfl) | (rw [if_neg (by decide +kernel)]; exact ⟨rfl, rfl⟩))
    (fun os started H enc _ => cachePlays_lifted os started H enc)
end Go.Proofs.Ytahaecieklfhkaa
