/- remap.made, Format. -/
import Derived.Test.YtkjpdfomppjiiaaGreatDoorKC
import Derived.LoopN
import Derived.LaidEqlPtr
/- Pair.keep: a side's table is written to both devices. (Printed by wip/pair6.py.) -/
namespace Go.Proofs.YtkjpdfomppjiiaaGreatDoor
open Go.RowKit

theorem shape_size (a c : Int) (w : World) : (Instr.field 54 (.agg #[.int .i64 a, .int .i64 c]) 1).run Tryz.prog w = .ok (.int .i64 c) w := by kernel_rfl
theorem text_fit {P : Pr} (h : P.Fit) {t : Tab} (ht : t.moved.length ≤ P.n) : (bA (textL t.moved)).size + 24 ≤ (P.dev 0).size := by
 rw [bA_size, textL_len]
 have := h.2.2.1
 omega
set_option maxRecDepth 100000 in
set_option maxHeartbeats 6400000 in
theorem rKeep_0 {W : World} {b : Nat} {gp : List Nat} {x : Nat → Nat} {fx : Nat → List Nat} {P : Pr} (h : IsPair W b gp x fx P) {t : Tab} {mv : Value} (hmv : IsMv W mv t.moved) (hfr : ∀ g, mv.ownBlock = some g → ∀ k, k < 2 → g ∉ fx k) (ht : t.Ok) (htn : t.moved.length ≤ P.n) (hc : ∀ k, k < 2 → (P.dev k).cache.length + 1 < 1000000) :
  Calls Tryz.prog 55 #[.pointer (some ⟨b, 0, none⟩), .int .i64 0, tabV t mv] W fun e w' => ∃ gp' fx', e = .returned (.int .i64 ((P.keep 0 t).1 : Nat)) ∧ Hid (IsPair w' b gp' x fx' (P.keep 0 t).2) ∧ Hid (Mods (b :: (fx 0 ++ fx 1)) W w') ∧ Hid (∀ k, k < 2 → ∀ g ∈ fx' k, g ∈ fx k ∨ W.heap.size ≤ g) ∧ Hid (∀ g ∈ gp', g ∈ gp ∨ mv.ownBlock = some g ∨ W.heap.size ≤ g) := by
 obtain ⟨A0, c0, e0, _⟩ := mv_shape hmv
 have hsz := (h.same 0 (by decide)).1
 obtain ⟨img, himg⟩ : ∃ img, bA (imageOf (P.dev 0).size 0 t.moved) = img := ⟨_, rfl⟩
 obtain ⟨w1, hw1⟩ : ∃ w1, W.alloc (.cells #[.int .i64 (t.blocks : Nat), .int .i64 (t.spares : Nat), mv] 71) = w1 := ⟨_, rfl⟩
 have hx1 : Blk w1 W.heap.size 71 [.int .i64 (t.blocks : Nat), .int .i64 (t.spares : Nat), mv] := by rw [← hw1]; exact Blk.new W 71 [.int .i64 (t.blocks : Nat), .int .i64 (t.spares : Nat), mv]
 have hm1 : Mods [] W w1 := by rw [← hw1]; exact (Mods.refl _ _).alloc _
 have h1 := h.keep0 hm1
 have HM1 := Lib.hid hm1
 have hWl : W.heap.size < w1.heap.size := by rw [← hw1]; simp
 obtain ⟨L, hL⟩ : ∃ L, fx 0 ++ fx 1 = L := ⟨_, rfl⟩
 have hLk : ∀ k, k < 2 → ∀ z ∈ fx k, z ∈ L := by
  intro k hk z hz
  rw [← hL]
  rcases (show k = 0 ∨ k = 1 by omega) with rfl | rfl
  ·exact List.mem_append_left _ hz
  ·exact List.mem_append_right _ hz
 have hLW : ∀ z ∈ L, z < W.heap.size ∧ z ∉ gp ∧ ∀ g, mv.ownBlock = some g → z ≠ g := by
  intro z hz
  rw [← hL] at hz
  rcases List.mem_append.1 hz with hz | hz
  ·exact ⟨(h.dev 0 (by decide)).lt z hz, fun hg => h.free z hg 0 (by decide) hz, fun g hg e => hfr g hg 0 (by decide) (e ▸ hz)⟩
  ·exact ⟨(h.dev 1 (by decide)).lt z hz, fun hg => h.free z hg 1 (by decide) hz, fun g hg e => hfr g hg 1 (by decide) (e ▸ hz)⟩
 have HLK := Lib.hid hLk
 have HLE : Hid (fx 0 ++ fx 1 = L) := Lib.hid hL
 have HLW := Lib.hid hLW
 obtain ⟨sb, m, hin, hgp, _⟩ := h1.pb
 have hbgp : b ∈ gp := by rw [hgp]; simp [pairFoot]
 have HP1 := Lib.hid h1
 have hbne : ¬ b = W.heap.size := by have := h.pb.lt b hbgp; omega
 have HBG := Lib.hid hbgp
 have HB : Hid (∀ w', Mods L w1 w' → PairIn w' b sb x m P.n P.tab) := Lib.hid (fun w' hm => hin.keep hm (fun g hg hg2 => (hLW g hg2).2.1 (by rw [hgp]; exact hg)))
 have HT5 : Hid (∀ w', Mods L w1 w' → Blk w' W.heap.size 71 [.int .i64 (t.blocks : Nat), .int .i64 (t.spares : Nat), mv]) := Lib.hid (fun w' hm => hx1.keep hm (fun hg => by have := (hLW _ hg).1; omega))
 have HMV : Hid (∀ w', Mods L w1 w' → IsMv w' mv t.moved) := Lib.hid (fun w' hm => IsMv.keep (IsMv.keep hmv hm1 (by simp)) hm (fun g hg hg2 => (hLW g hg2).2.2 g hg rfl))
 have cGen := Lib.hid (fun W hm => tGen_any (W := W) t (mv := mv) hm ht)
 have cText := Lib.hid (fun W hm => tText_any (W := W) t (mv := mv) hm ht)
 obtain ⟨m0, hm0⟩ : ∃ m0, t.moved.length = m0 := ⟨_, rfl⟩
 have hm32 : m0 ≤ 32 := by have := h.fit.2.1; omega
 have hr := right_parts h.fit.1
 have HS := Lib.hid (fun (W : World) (hT : Blk W sb 218 sumRow) => eSeal_any hT (P.dev 0).size ⟨2, 0, m0⟩ (bA (textL t.moved)) (by omega) (by omega) (by simp [EHead.right, placedE]) (by show m0 < 18446744073709551616; omega) (text_fit h.fit htn))
 have himg2 : bA (sealL (P.dev 0).size ⟨2, 0, m0⟩ (bA (textL t.moved)).toList) = img := by
  rw [← himg, hsz, ← hm0, bA_list]; rfl
 rw [himg2] at HS
 have HSh := Lib.hid (fun (w : World) (h : IsPair w b gp x fx P) => h.sh (s := 0) (by decide))
 obtain ⟨txt, htxt⟩ : ∃ txt, bA (textL t.moved) = txt := ⟨_, rfl⟩
 rw [htxt] at cText HS
 rw [hm0] at cGen
 have hlt : m0 < 18446744073709551616 := by omega
 have cSlotT := Lib.hid (fun W => rSlot_any (W := W) true m0 hlt)
 have cSlotF := Lib.hid (fun W => rSlot_any (W := W) false m0 hlt)
 have cOther := Lib.hid (fun W => rOther_any (W := W) 0 (by decide))
 unfold tabV at cGen cText ⊢
 have hkd : P.keep 0 t = (let r := putD (P.dev 0) (slotOf true m0) img
  let P1 := P.setDev 0 r.2
  if r.1.2 ≠ 0 then (r.1.2, P1) else
   let q := putD (P.dev 1) (slotOf false m0) img
   let P2 := P1.setDev 1 q.2
   if q.1.2 ≠ 0 then (q.1.2, P2) else if (r.1.1 || q.1.1) = false then (8, P2) else (0, P2.setTab 0 t)) := by
  unfold Pr.keep
  rw [himg, hm0]
 rw [hkd]
 obtain ⟨k1, hk1⟩ : ∃ k1, slotOf true m0 = k1 := ⟨_, rfl⟩
 obtain ⟨k2, hk2⟩ : ∃ k2, slotOf false m0 = k2 := ⟨_, rfl⟩
 rw [hk1] at cSlotT ⊢
 rw [hk2] at cSlotF ⊢
 have cPutS := Lib.hid (fun (W : World) (fp : List Nat) (hd : IsDev W (x 0) fp (P.dev 0)) => rPut_any hd (hc 0 (by decide)) k1 img)
 have cPutO := Lib.hid (fun (W : World) (fp : List Nat) (hd : IsDev W (x 1) fp (P.dev 1)) => rPut_any hd (hc 1 (by decide)) k2 img)
 have hshS := put_shape (P.dev 0) k1 img
 have hshO := put_shape (P.dev 1) k2 img
 generalize putD (P.dev 0) k1 img = r at cPutS hshS ⊢
 generalize putD (P.dev 1) k2 img = q at cPutO hshO ⊢
 obtain ⟨⟨b1, e1⟩, D1⟩ := r
 obtain ⟨⟨b2, e2⟩, D2⟩ := q
 simp only at cPutS cPutO hshS hshO ⊢
 have HshS := Lib.hid hshS
 have HshO := Lib.hid hshO
 have HTok := Lib.hid ht
 have HCE : Hid (∀ w', Mods L w1 w' → w'.cell? ⟨b, 0, none⟩ = some (.pointer (some ⟨sb, 0, none⟩)) ∧ w'.cell? ⟨b, 2, none⟩ = some (.pointer (some ⟨x 0, 0, none⟩)) ∧ w'.cell? ⟨b, 3, none⟩ = some (.pointer (some ⟨x 1, 0, none⟩)) ∧ w'.cell? ⟨W.heap.size, 0, none⟩ = some (.int .i64 (t.blocks : Nat)) ∧ w'.cell? ⟨W.heap.size, 1, none⟩ = some (.int .i64 (t.spares : Nat)) ∧ w'.cell? ⟨W.heap.size, 2, none⟩ = some mv) := Lib.hid (fun w' hm => by
  have hb := (HB.out w' hm).blk
  have h5 := HT5.out w' hm
  exact ⟨hb.cell (i := 0) rfl, hb.cell (i := 2) rfl, hb.cell (i := 3) rfl, h5.cell (i := 0) rfl, h5.cell (i := 1) rfl, h5.cell (i := 2) rfl⟩)
 obtain ⟨q0, q1, q2, q3, q4, q5⟩ := HCE.out w1 (Mods.refl _ _)
 subst e0
 rw [hm0] at q5 hx1 cGen cText hw1
 have HM0 := Lib.hid hm0
 rw [hm0] at hmv hfr
 have HMVW := Lib.hid hmv
 have HFR := Lib.hid hfr
 clear h h1 hmv hfr ht htn hc hx1 hm1 hLk hLW hin hgp hbgp himg himg2 htxt hm32 hr hkd hk1 hk2 hshS hshO hsz hL
 rw [HM0.out]
 have hfd := fun w => shape_size (P.dev 0).sectors (P.dev 0).size w
 go_enter Tryz.func55, Tryz.ntmps55
 go_upto_region 2 with (go_at_call 53; refine (HSh.out _ HP1.out).mono ?_; rintro e w2 ⟨rfl, hm2⟩; have HM2 : Hid (Mods [] w1 w2) := Lib.hid hm2; clear hm2)
 obtain ⟨q0, q1, q2, q3, q4, q5⟩ := HCE.out w2 (HM2.out.mono (by simp))
 rw [HM0.out] at q5
 have HCX : Hid (∀ w', Mods [] w1 w' → w'.cell? ⟨b, 0, none⟩ = some (.pointer (some ⟨sb, 0, none⟩)) ∧ w'.cell? ⟨W.heap.size, 0, none⟩ = some (.int .i64 (t.blocks : Nat)) ∧ w'.cell? ⟨W.heap.size, 1, none⟩ = some (.int .i64 (t.spares : Nat)) ∧ w'.cell? ⟨W.heap.size, 2, none⟩ = some (.slice A0 m0 c0)) := Lib.hid (fun w' hm => by
  obtain ⟨q0, _, _, q3, q4, q5⟩ := HCE.out w' (hm.mono (by simp))
  rw [HM0.out] at q5
  exact ⟨q0, q3, q4, q5⟩)
 have HMVX : Hid (∀ w', Mods [] w1 w' → IsMv w' (.slice A0 m0 c0) t.moved) := Lib.hid (fun w' hm => by
  have h := HMV.out w' (hm.mono (by simp))
  rw [HM0.out] at h; exact h)
 have HSBX : Hid (∀ w', Mods [] w1 w' → Blk w' sb 218 sumRow) := Lib.hid (fun w' hm => (HB.out w' (hm.mono (by simp))).sum)
 have HSL : Hid (∀ w', Mods L w1 w' → w'.cell? ⟨b, 2, none⟩ = some (.pointer (some ⟨x 0, 0, none⟩)) ∧ w'.cell? ⟨W.heap.size, 0, none⟩ = some (.int .i64 (t.blocks : Nat)) ∧ w'.cell? ⟨W.heap.size, 1, none⟩ = some (.int .i64 (t.spares : Nat)) ∧ w'.cell? ⟨W.heap.size, 2, none⟩ = some (.slice A0 m0 c0)) := Lib.hid (fun w' hm => by
  obtain ⟨_, q1, _, q3, q4, q5⟩ := HCE.out w' hm
  rw [HM0.out] at q5
  exact ⟨q1, q3, q4, q5⟩)
 go_cut [8, 9, 10] from 24 to 39 (fun iv _ ev wx => iv = .string img ∧ ev = .int .i64 0 ∧ Hid (Mods [] w1 wx))
 case first =>
  go_region_held3 (fun w' => w'.cell? ⟨b, 0, none⟩ = some (.pointer (some ⟨sb, 0, none⟩)) ∧ w'.cell? ⟨W.heap.size, 0, none⟩ = some (.int .i64 (t.blocks : Nat)) ∧ w'.cell? ⟨W.heap.size, 1, none⟩ = some (.int .i64 (t.spares : Nat)) ∧ w'.cell? ⟨W.heap.size, 2, none⟩ = some (.slice A0 m0 c0))
   (first | go_keep | exact HCX.out _ HM5.out | exact HCX.out _ HM4.out | exact HCX.out _ HM3.out | exact HCX.out _ (HM5.out.alloc _) | exact HCX.out _ (HM5.out.set3 HM4.out.size _ _ _) | exact HCX.out _ (HM5.out.set3 HM3.out.size _ _ _) | exact HCX.out _ (HM5.out.set3 HM2.out.size _ _ _) | fail)
   (first | (go_at_call 104; refine (cGen.out _ (HMVX.out _ (by first | exact HM2.out.drew | exact (HM2.out.alloc _).drew))).mono ?_; rintro e w3 ⟨rfl, hm3⟩; have HM3 : Hid (Mods [] w1 w3) := (by first | exact Lib.hid (HM2.out.drew.tr hm3) | exact Lib.hid ((HM2.out.alloc _).drew.tr hm3)); (first | (have hz : Blk w3 w2.heap.size 79 [.int .i64 0, .int .u64 0, .int .u32 0] := Blk.newD hm3) | skip)) | (go_at_call 105; refine (cText.out _ (HMVX.out _ (by first | exact HM3.out | exact HM3.out.alloc _))).mono ?_; rintro e w4 ⟨rfl, hm4⟩; have HM4 : Hid (Mods [] w1 w4) := (by first | exact Lib.hid (HM3.out.tr hm4) | exact Lib.hid ((HM3.out.alloc _).tr hm4)); (first | (have hz := hz.keep0 hm4) | (have hz : Blk w4 w3.heap.size 79 [.int .i64 0, .int .u64 0, .int .u32 0] := Blk.newK hm4) | skip)) | (go_at_call 103; refine (HS.out _ (HSBX.out _ (by first | exact HM4.out | exact HM4.out.alloc _))).mono ?_; rintro e w5 ⟨a0, a1, a2, rfl, hm5⟩; have HM5 : Hid (Mods [] w1 w5) := (by first | exact Lib.hid (HM4.out.tr hm5) | exact Lib.hid ((HM4.out.alloc _).tr hm5)); (first | (have hz := hz.keep0 hm5) | (have hz : Blk w5 w4.heap.size 79 [.int .i64 0, .int .u64 0, .int .u32 0] := Blk.newK hm5) | skip); (first | (have z0 := hz.cell (i := 0) rfl; have z1 := hz.cell (i := 1) rfl; have z2 := hz.cell (i := 2) rfl; have f0 := hz.free 0; have f1 := hz.free 1; have f2 := hz.free 2) | skip)))
  all_goals go_wp2_with fail
  all_goals go_meet
  all_goals
   first
    | exact ⟨rfl, rfl, Lib.hid (HM5.out.alloc _)⟩
    | exact ⟨rfl, rfl, Lib.hid (HM5.out.set3 HM4.out.size _ _ _)⟩
    | exact ⟨rfl, rfl, Lib.hid (HM5.out.set3 HM3.out.size _ _ _)⟩
    | exact ⟨rfl, rfl, Lib.hid (HM5.out.set3 HM2.out.size _ _ _)⟩
 case rest =>
  obtain ⟨rfl, rfl, HMX⟩ := hcut
  go_wp2_with (first | (go_at_call 54; refine (cOther.out _).mono ?_; rintro e w' ⟨rfl, rfl⟩))
  obtain ⟨wL, hwL⟩ : ∃ wL, wc.alloc (.cells #[.int .i64 0, .int .i64 1] 3) = wL := ⟨_, rfl⟩
  obtain ⟨LB, hLB⟩ : ∃ LB, wc.heap.size = LB := ⟨_, rfl⟩
  have hbl : Blk wL LB 3 [.int .i64 0, .int .i64 1] := by rw [← hwL, ← hLB]; exact Blk.new wc 3 [.int .i64 0, .int .i64 1]
  have HLBW : Hid (w1.heap.size ≤ LB) := Lib.hid (by rw [← hLB]; exact HMX.out.size)
  have HL0 : Hid (Mods [] w1 wL) := Lib.hid (by rw [← hwL]; exact HMX.out.alloc _)
  have HLL : Hid (∀ w', Mods L wL w' → w'.cell? ⟨LB, 0, none⟩ = some (.int .i64 0) ∧ w'.cell? ⟨LB, 1, none⟩ = some (.int .i64 1)) := Lib.hid (fun w' hm => by
   have h := hbl.keep hm (fun hg => by have h1 := (HLW.out _ hg).1; have h2 := HLBW.out; omega)
   exact ⟨h.cell (i := 0) rfl, h.cell (i := 1) rfl⟩)
  have HPL : Hid (IsPair wL b gp x fx P) := Lib.hid (HP1.out.keep0 HL0.out)
  have HCL : Hid (∀ w', Mods L w1 w' → w'.cell? ⟨b, 2, none⟩ = some (.pointer (some ⟨x 0, 0, none⟩)) ∧ w'.cell? ⟨b, 3, none⟩ = some (.pointer (some ⟨x 1, 0, none⟩)) ∧ w'.cell? ⟨W.heap.size, 0, none⟩ = some (.int .i64 (t.blocks : Nat)) ∧ w'.cell? ⟨W.heap.size, 1, none⟩ = some (.int .i64 (t.spares : Nat)) ∧ w'.cell? ⟨W.heap.size, 2, none⟩ = some (.slice A0 m0 c0)) := Lib.hid (fun w' hm => by
   obtain ⟨_, q1, q2, q3, q4, q5⟩ := HCE.out w' hm
   rw [HM0.out] at q5
   exact ⟨q1, q2, q3, q4, q5⟩)
  have HMVL : Hid (∀ w', Mods L w1 w' → IsMv w' (.slice A0 m0 c0) t.moved) := Lib.hid (fun w' hm => by
   have h := HMV.out w' hm
   rw [HM0.out] at h; exact h)
  rw [hwL, hLB]
  clear hbl hwL hLB HMX q0 q1 q2 q3 q4 q5 HCX HMVX HSBX
  obtain ⟨q1, q2, q3, q4, q5⟩ := HCL.out wL (HL0.out.mono (by simp))
  obtain ⟨l0, l1⟩ := HLL.out wL (Mods.refl _ _)
  refine wp_loop_rounds 3 ?_
  rw [rounds_succ]
  go_wp2_with fail
  go_region_held3 (fun w' => w'.cell? ⟨b, 2, none⟩ = some (.pointer (some ⟨x 0, 0, none⟩)) ∧ w'.cell? ⟨W.heap.size, 0, none⟩ = some (.int .i64 (t.blocks : Nat)) ∧ w'.cell? ⟨W.heap.size, 1, none⟩ = some (.int .i64 (t.spares : Nat)) ∧ w'.cell? ⟨W.heap.size, 2, none⟩ = some (.slice A0 m0 c0))
   (first | go_keep | exact HSL.out _ HL5.out | exact HSL.out _ HL3.out | fail)
   (first | (go_at_call 104; refine (cGen.out _ (HMVL.out _ (HL0.out.drew.mono (by simp)))).mono ?_; rintro e w3 ⟨rfl, hm3⟩; have HL3 : Hid (Mods L w1 w3) := Lib.hid ((HL0.out.drew.tr hm3).mono (by simp)); have HP3 : Hid (IsPair w3 b gp x fx P) := Lib.hid (HPL.out.keep0 (((Mods.refl _ _).drew).tr hm3)); have HW3 : Hid (Mods L wL w3) := Lib.hid ((((Mods.refl _ _).drew).tr hm3).mono (by simp))) | (go_at_call 107; refine (cSlotT.out _).mono ?_; rintro e w' ⟨rfl, rfl⟩) | (go_at_call 106; refine (cPutS.out _ _ (HP3.out.dev 0 (by decide))).mono ?_; rintro e w5 ⟨fp1, rfl, hd5⟩; have HL5 : Hid (Mods L w1 w5) := Lib.hid (HL3.out.trans hd5.mods (fun z hz => .inl (HLK.out 0 (by decide) z hz))); have HW5 : Hid (Mods L wL w5) := Lib.hid (HW3.out.trans hd5.mods (fun z hz => .inl (HLK.out 0 (by decide) z hz)))))
  have HP5 : Hid (IsPair w5 b gp x (upd fx 0 fp1) (P.setDev 0 D1)) := Lib.hid (HP3.out.turn (by decide) hd5 HshS.out)
  have HN5 : Hid (∀ k, k < 2 → ∀ z ∈ upd fx 0 fp1 k, z ∈ fx k ∨ w1.heap.size ≤ z) := Lib.hid (fun k hk z hz => by
   unfold upd at hz
   split at hz
   ·rename_i e; subst e
    exact (hd5.new z hz).imp id (fun h => Nat.le_trans HL3.out.size h)
   ·exact .inl hz)
  clear hd5
  obtain ⟨q1, q2, q3, q4, q5⟩ := HCL.out w5 HL5.out
  obtain ⟨l0, l1⟩ := HLL.out w5 HW5.out
  by_cases he1 : e1 = 0
  ·subst he1
   go_wp2_with fail
   rw [rounds_succ]
   go_wp2_with fail
   obtain ⟨q1, q2, q3, q4, q5⟩ := HCL.out w5 HL5.out
   go_region_held3 (fun w' => w'.cell? ⟨b, 3, none⟩ = some (.pointer (some ⟨x 1, 0, none⟩)) ∧ w'.cell? ⟨W.heap.size, 0, none⟩ = some (.int .i64 (t.blocks : Nat)) ∧ w'.cell? ⟨W.heap.size, 1, none⟩ = some (.int .i64 (t.spares : Nat)) ∧ w'.cell? ⟨W.heap.size, 2, none⟩ = some (.slice A0 m0 c0))
    (first | go_keep | exact (HCL.out _ HL7.out).2 | exact (HCL.out _ HL6.out).2 | fail)
    (first | (go_at_call 104; refine (cGen.out _ (HMVL.out _ HL5.out.drew)).mono ?_; rintro e w6 ⟨rfl, hm6⟩; have HL6 : Hid (Mods L w1 w6) := Lib.hid (HL5.out.drew.trans hm6 (by simp)); have HP6 : Hid (IsPair w6 b gp x (upd fx 0 fp1) (P.setDev 0 D1)) := Lib.hid (HP5.out.keep0 (((Mods.refl _ _).drew).tr hm6)); have HD6 : Hid (IsDev w6 (x 1) (fx 1) (P.dev 1)) := Lib.hid (HP6.out.dev 1 (by decide))) | (go_at_call 107; refine (cSlotF.out _).mono ?_; rintro e w' ⟨rfl, rfl⟩) | (go_at_call 106; refine (cPutO.out _ _ HD6.out).mono ?_; rintro e w7 ⟨fp2, rfl, hd7⟩; have HL7 : Hid (Mods L w1 w7) := Lib.hid (HL6.out.trans hd7.mods (fun z hz => .inl (HLK.out 1 (by decide) z hz)))))
   have HP7 : Hid (IsPair w7 b gp x (upd (upd fx 0 fp1) 1 fp2) ((P.setDev 0 D1).setDev 1 D2)) := Lib.hid (HP6.out.turn (s := 1) (by decide) hd7 HshO.out)
   have HN7 : Hid (∀ k, k < 2 → ∀ z ∈ upd (upd fx 0 fp1) 1 fp2 k, z ∈ fx k ∨ w1.heap.size ≤ z) := Lib.hid (fun k hk z hz => by
    unfold upd at hz
    split at hz
    ·rename_i e; subst e
     exact (hd7.new z hz).imp id (fun h => Nat.le_trans HL6.out.size h)
    ·exact HN5.out k hk z hz)
   have HM7 : Hid (Mods (b :: (fx 0 ++ fx 1)) W w7) := Lib.hid ((HM1.out.mono (by simp)).trans HL7.out (fun z hz => .inl (by rw [HLE.out]; exact List.mem_cons_of_mem _ hz)))
   have HN7W : Hid (∀ k, k < 2 → ∀ z ∈ upd (upd fx 0 fp1) 1 fp2 k, z ∈ fx k ∨ W.heap.size ≤ z) := Lib.hid (fun k hk z hz => (HN7.out k hk z hz).imp id (fun h => Nat.le_trans HM1.out.size h))
   clear hd7
   by_cases he2 : e2 = 0
   ·subst he2
    have HF7 : Hid (∀ g, (Value.slice A0 m0 c0).ownBlock = some g → ∀ k, k < 2 → g ∉ upd (upd fx 0 fp1) 1 fp2 k) := Lib.hid (fun g hg k hk hz => by
     rcases HN7.out k hk g hz with h | h
     ·exact HFR.out g hg k hk h
     ·have h2 := (owns_ltF HMVW.out hg).2
      have h3 := HM1.out.size
      omega)
    obtain ⟨gp9, hp9, hm9, hg9⟩ := HP7.out.putTab (s := 0) (by decide) (HMVL.out w7 HL7.out) HTok.out HF7.out
    have HP9 := Lib.hid hp9
    have HM9 := Lib.hid hm9
    have HG9 := Lib.hid hg9
    clear hp9 hm9 hg9
    obtain ⟨_, _, q3, q4, q5⟩ := HCL.out w7 HL7.out
    have hb7 := (HB.out w7 HL7.out).blk
    have z0 := hb7.cell (i := 4) rfl
    have z1 := hb7.cell (i := 5) rfl
    have z2 := hb7.cell (i := 6) rfl
    have f0 := hb7.free 4
    have f1 := hb7.free 5
    have f2 := hb7.free 6
    obtain ⟨l0, l1⟩ := HLL.out wL (Mods.refl _ _)
    cases b1 <;> cases b2
    ·go_wp2_with fail
     rw [rounds_succ]
     go_wp2_with fail
     go_returns
     simp only []
     exact ⟨rfl, gp, _, HP7, HM7, HN7W, Lib.hid (fun g hg => .inl hg)⟩
    all_goals
     go_wp2_with fail
     rw [rounds_succ]
     go_wp2_with fail
     go_region_held3 (fun w' => w'.cell? ⟨W.heap.size, 0, none⟩ = some (.int .i64 (t.blocks : Nat)) ∧ w'.cell? ⟨W.heap.size, 1, none⟩ = some (.int .i64 (t.spares : Nat)) ∧ w'.cell? ⟨W.heap.size, 2, none⟩ = some (.slice A0 m0 c0)) (go_keep) (fail)
     go_wp2_with fail
     go_returns
     simp only []
     exact ⟨rfl, gp9, _, Lib.hid (HP9.out.keep0 (Mods.refl _ _).drew), Lib.hid ((HM7.out.trans HM9.out (fun z hz => .inl (by rw [List.mem_singleton.1 hz]; exact List.mem_cons_self ..))).drew), HN7W, Lib.hid (fun g hg => (HG9.out g hg).imp id .inl)⟩
   ·have hb2 : ((e2 : Int) == 0) = false := by simpa using he2
    have hne2 : ¬ (e2 : Int) = 0 := by omega
    go_wp2_with fail
    go_returns
    simp only []
    exact ⟨rfl, gp, _, HP7, HM7, HN7W, Lib.hid (fun g hg => .inl hg)⟩
  ·have hb : ((e1 : Int) == 0) = false := by simpa using he1
   have hne : ¬ (e1 : Int) = 0 := by omega
   go_wp2_with fail
   go_returns
   refine ⟨rfl, gp, upd fx 0 fp1, HP5, Lib.hid ((HM1.out.mono (by simp)).trans HL5.out (fun z hz => .inl (by rw [HLE.out]; exact List.mem_cons_of_mem _ hz))), Lib.hid (fun k hk z hz => (HN5.out k hk z hz).imp id (fun h => Nat.le_trans HM1.out.size h)), Lib.hid (fun g hg => .inl hg)⟩
set_option maxRecDepth 100000 in
set_option maxHeartbeats 6400000 in
theorem rKeep_1 {W : World} {b : Nat} {gp : List Nat} {x : Nat → Nat} {fx : Nat → List Nat} {P : Pr} (h : IsPair W b gp x fx P) {t : Tab} {mv : Value} (hmv : IsMv W mv t.moved) (hfr : ∀ g, mv.ownBlock = some g → ∀ k, k < 2 → g ∉ fx k) (ht : t.Ok) (htn : t.moved.length ≤ P.n) (hc : ∀ k, k < 2 → (P.dev k).cache.length + 1 < 1000000) :
  Calls Tryz.prog 55 #[.pointer (some ⟨b, 0, none⟩), .int .i64 1, tabV t mv] W fun e w' => ∃ gp' fx', e = .returned (.int .i64 ((P.keep 1 t).1 : Nat)) ∧ Hid (IsPair w' b gp' x fx' (P.keep 1 t).2) ∧ Hid (Mods (b :: (fx 0 ++ fx 1)) W w') ∧ Hid (∀ k, k < 2 → ∀ g ∈ fx' k, g ∈ fx k ∨ W.heap.size ≤ g) ∧ Hid (∀ g ∈ gp', g ∈ gp ∨ mv.ownBlock = some g ∨ W.heap.size ≤ g) := by
 obtain ⟨A0, c0, e0, _⟩ := mv_shape hmv
 have hsz := (h.same 1 (by decide)).1
 obtain ⟨img, himg⟩ : ∃ img, bA (imageOf (P.dev 1).size 1 t.moved) = img := ⟨_, rfl⟩
 obtain ⟨w1, hw1⟩ : ∃ w1, W.alloc (.cells #[.int .i64 (t.blocks : Nat), .int .i64 (t.spares : Nat), mv] 71) = w1 := ⟨_, rfl⟩
 have hx1 : Blk w1 W.heap.size 71 [.int .i64 (t.blocks : Nat), .int .i64 (t.spares : Nat), mv] := by rw [← hw1]; exact Blk.new W 71 [.int .i64 (t.blocks : Nat), .int .i64 (t.spares : Nat), mv]
 have hm1 : Mods [] W w1 := by rw [← hw1]; exact (Mods.refl _ _).alloc _
 have h1 := h.keep0 hm1
 have HM1 := Lib.hid hm1
 have hWl : W.heap.size < w1.heap.size := by rw [← hw1]; simp
 obtain ⟨L, hL⟩ : ∃ L, fx 0 ++ fx 1 = L := ⟨_, rfl⟩
 have hLk : ∀ k, k < 2 → ∀ z ∈ fx k, z ∈ L := by
  intro k hk z hz
  rw [← hL]
  rcases (show k = 0 ∨ k = 1 by omega) with rfl | rfl
  ·exact List.mem_append_left _ hz
  ·exact List.mem_append_right _ hz
 have hLW : ∀ z ∈ L, z < W.heap.size ∧ z ∉ gp ∧ ∀ g, mv.ownBlock = some g → z ≠ g := by
  intro z hz
  rw [← hL] at hz
  rcases List.mem_append.1 hz with hz | hz
  ·exact ⟨(h.dev 0 (by decide)).lt z hz, fun hg => h.free z hg 0 (by decide) hz, fun g hg e => hfr g hg 0 (by decide) (e ▸ hz)⟩
  ·exact ⟨(h.dev 1 (by decide)).lt z hz, fun hg => h.free z hg 1 (by decide) hz, fun g hg e => hfr g hg 1 (by decide) (e ▸ hz)⟩
 have HLK := Lib.hid hLk
 have HLE : Hid (fx 0 ++ fx 1 = L) := Lib.hid hL
 have HLW := Lib.hid hLW
 obtain ⟨sb, m, hin, hgp, _⟩ := h1.pb
 have hbgp : b ∈ gp := by rw [hgp]; simp [pairFoot]
 have HP1 := Lib.hid h1
 have hbne : ¬ b = W.heap.size := by have := h.pb.lt b hbgp; omega
 have HBG := Lib.hid hbgp
 have HB : Hid (∀ w', Mods L w1 w' → PairIn w' b sb x m P.n P.tab) := Lib.hid (fun w' hm => hin.keep hm (fun g hg hg2 => (hLW g hg2).2.1 (by rw [hgp]; exact hg)))
 have HT5 : Hid (∀ w', Mods L w1 w' → Blk w' W.heap.size 71 [.int .i64 (t.blocks : Nat), .int .i64 (t.spares : Nat), mv]) := Lib.hid (fun w' hm => hx1.keep hm (fun hg => by have := (hLW _ hg).1; omega))
 have HMV : Hid (∀ w', Mods L w1 w' → IsMv w' mv t.moved) := Lib.hid (fun w' hm => IsMv.keep (IsMv.keep hmv hm1 (by simp)) hm (fun g hg hg2 => (hLW g hg2).2.2 g hg rfl))
 have cGen := Lib.hid (fun W hm => tGen_any (W := W) t (mv := mv) hm ht)
 have cText := Lib.hid (fun W hm => tText_any (W := W) t (mv := mv) hm ht)
 obtain ⟨m0, hm0⟩ : ∃ m0, t.moved.length = m0 := ⟨_, rfl⟩
 have hm32 : m0 ≤ 32 := by have := h.fit.2.1; omega
 have hr := right_parts h.fit.1
 have HS := Lib.hid (fun (W : World) (hT : Blk W sb 218 sumRow) => eSeal_any hT (P.dev 0).size ⟨2, 1, m0⟩ (bA (textL t.moved)) (by omega) (by omega) (by simp [EHead.right, placedE]) (by show m0 < 18446744073709551616; omega) (text_fit h.fit htn))
 have himg2 : bA (sealL (P.dev 0).size ⟨2, 1, m0⟩ (bA (textL t.moved)).toList) = img := by
  rw [← himg, hsz, ← hm0, bA_list]; rfl
 rw [himg2] at HS
 have HSh := Lib.hid (fun (w : World) (h : IsPair w b gp x fx P) => h.sh (s := 1) (by decide))
 obtain ⟨txt, htxt⟩ : ∃ txt, bA (textL t.moved) = txt := ⟨_, rfl⟩
 rw [htxt] at cText HS
 rw [hm0] at cGen
 have hlt : m0 < 18446744073709551616 := by omega
 have cSlotT := Lib.hid (fun W => rSlot_any (W := W) true m0 hlt)
 have cSlotF := Lib.hid (fun W => rSlot_any (W := W) false m0 hlt)
 have cOther := Lib.hid (fun W => rOther_any (W := W) 1 (by decide))
 unfold tabV at cGen cText ⊢
 have hkd : P.keep 1 t = (let r := putD (P.dev 1) (slotOf true m0) img
  let P1 := P.setDev 1 r.2
  if r.1.2 ≠ 0 then (r.1.2, P1) else
   let q := putD (P.dev 0) (slotOf false m0) img
   let P2 := P1.setDev 0 q.2
   if q.1.2 ≠ 0 then (q.1.2, P2) else if (r.1.1 || q.1.1) = false then (8, P2) else (0, P2.setTab 1 t)) := by
  unfold Pr.keep
  rw [himg, hm0]
 rw [hkd]
 obtain ⟨k1, hk1⟩ : ∃ k1, slotOf true m0 = k1 := ⟨_, rfl⟩
 obtain ⟨k2, hk2⟩ : ∃ k2, slotOf false m0 = k2 := ⟨_, rfl⟩
 rw [hk1] at cSlotT ⊢
 rw [hk2] at cSlotF ⊢
 have cPutS := Lib.hid (fun (W : World) (fp : List Nat) (hd : IsDev W (x 1) fp (P.dev 1)) => rPut_any hd (hc 1 (by decide)) k1 img)
 have cPutO := Lib.hid (fun (W : World) (fp : List Nat) (hd : IsDev W (x 0) fp (P.dev 0)) => rPut_any hd (hc 0 (by decide)) k2 img)
 have hshS := put_shape (P.dev 1) k1 img
 have hshO := put_shape (P.dev 0) k2 img
 generalize putD (P.dev 1) k1 img = r at cPutS hshS ⊢
 generalize putD (P.dev 0) k2 img = q at cPutO hshO ⊢
 obtain ⟨⟨b1, e1⟩, D1⟩ := r
 obtain ⟨⟨b2, e2⟩, D2⟩ := q
 simp only at cPutS cPutO hshS hshO ⊢
 have HshS := Lib.hid hshS
 have HshO := Lib.hid hshO
 have HTok := Lib.hid ht
 have HCE : Hid (∀ w', Mods L w1 w' → w'.cell? ⟨b, 0, none⟩ = some (.pointer (some ⟨sb, 0, none⟩)) ∧ w'.cell? ⟨b, 3, none⟩ = some (.pointer (some ⟨x 1, 0, none⟩)) ∧ w'.cell? ⟨b, 2, none⟩ = some (.pointer (some ⟨x 0, 0, none⟩)) ∧ w'.cell? ⟨W.heap.size, 0, none⟩ = some (.int .i64 (t.blocks : Nat)) ∧ w'.cell? ⟨W.heap.size, 1, none⟩ = some (.int .i64 (t.spares : Nat)) ∧ w'.cell? ⟨W.heap.size, 2, none⟩ = some mv) := Lib.hid (fun w' hm => by
  have hb := (HB.out w' hm).blk
  have h5 := HT5.out w' hm
  exact ⟨hb.cell (i := 0) rfl, hb.cell (i := 3) rfl, hb.cell (i := 2) rfl, h5.cell (i := 0) rfl, h5.cell (i := 1) rfl, h5.cell (i := 2) rfl⟩)
 obtain ⟨q0, q1, q2, q3, q4, q5⟩ := HCE.out w1 (Mods.refl _ _)
 subst e0
 rw [hm0] at q5 hx1 cGen cText hw1
 have HM0 := Lib.hid hm0
 rw [hm0] at hmv hfr
 have HMVW := Lib.hid hmv
 have HFR := Lib.hid hfr
 clear h h1 hmv hfr ht htn hc hx1 hm1 hLk hLW hin hgp hbgp himg himg2 htxt hm32 hr hkd hk1 hk2 hshS hshO hsz hL
 rw [HM0.out]
 have hfd := fun w => shape_size (P.dev 0).sectors (P.dev 0).size w
 go_enter Tryz.func55, Tryz.ntmps55
 go_upto_region 2 with (go_at_call 53; refine (HSh.out _ HP1.out).mono ?_; rintro e w2 ⟨rfl, hm2⟩; have HM2 : Hid (Mods [] w1 w2) := Lib.hid hm2; clear hm2)
 obtain ⟨q0, q1, q2, q3, q4, q5⟩ := HCE.out w2 (HM2.out.mono (by simp))
 rw [HM0.out] at q5
 have HCX : Hid (∀ w', Mods [] w1 w' → w'.cell? ⟨b, 0, none⟩ = some (.pointer (some ⟨sb, 0, none⟩)) ∧ w'.cell? ⟨W.heap.size, 0, none⟩ = some (.int .i64 (t.blocks : Nat)) ∧ w'.cell? ⟨W.heap.size, 1, none⟩ = some (.int .i64 (t.spares : Nat)) ∧ w'.cell? ⟨W.heap.size, 2, none⟩ = some (.slice A0 m0 c0)) := Lib.hid (fun w' hm => by
  obtain ⟨q0, _, _, q3, q4, q5⟩ := HCE.out w' (hm.mono (by simp))
  rw [HM0.out] at q5
  exact ⟨q0, q3, q4, q5⟩)
 have HMVX : Hid (∀ w', Mods [] w1 w' → IsMv w' (.slice A0 m0 c0) t.moved) := Lib.hid (fun w' hm => by
  have h := HMV.out w' (hm.mono (by simp))
  rw [HM0.out] at h; exact h)
 have HSBX : Hid (∀ w', Mods [] w1 w' → Blk w' sb 218 sumRow) := Lib.hid (fun w' hm => (HB.out w' (hm.mono (by simp))).sum)
 have HSL : Hid (∀ w', Mods L w1 w' → w'.cell? ⟨b, 3, none⟩ = some (.pointer (some ⟨x 1, 0, none⟩)) ∧ w'.cell? ⟨W.heap.size, 0, none⟩ = some (.int .i64 (t.blocks : Nat)) ∧ w'.cell? ⟨W.heap.size, 1, none⟩ = some (.int .i64 (t.spares : Nat)) ∧ w'.cell? ⟨W.heap.size, 2, none⟩ = some (.slice A0 m0 c0)) := Lib.hid (fun w' hm => by
  obtain ⟨_, q1, _, q3, q4, q5⟩ := HCE.out w' hm
  rw [HM0.out] at q5
  exact ⟨q1, q3, q4, q5⟩)
 go_cut [8, 9, 10] from 24 to 39 (fun iv _ ev wx => iv = .string img ∧ ev = .int .i64 0 ∧ Hid (Mods [] w1 wx))
 case first =>
  go_region_held3 (fun w' => w'.cell? ⟨b, 0, none⟩ = some (.pointer (some ⟨sb, 0, none⟩)) ∧ w'.cell? ⟨W.heap.size, 0, none⟩ = some (.int .i64 (t.blocks : Nat)) ∧ w'.cell? ⟨W.heap.size, 1, none⟩ = some (.int .i64 (t.spares : Nat)) ∧ w'.cell? ⟨W.heap.size, 2, none⟩ = some (.slice A0 m0 c0))
   (first | go_keep | exact HCX.out _ HM5.out | exact HCX.out _ HM4.out | exact HCX.out _ HM3.out | exact HCX.out _ (HM5.out.alloc _) | exact HCX.out _ (HM5.out.set3 HM4.out.size _ _ _) | exact HCX.out _ (HM5.out.set3 HM3.out.size _ _ _) | exact HCX.out _ (HM5.out.set3 HM2.out.size _ _ _) | fail)
   (first | (go_at_call 104; refine (cGen.out _ (HMVX.out _ (by first | exact HM2.out.drew | exact (HM2.out.alloc _).drew))).mono ?_; rintro e w3 ⟨rfl, hm3⟩; have HM3 : Hid (Mods [] w1 w3) := (by first | exact Lib.hid (HM2.out.drew.tr hm3) | exact Lib.hid ((HM2.out.alloc _).drew.tr hm3)); (first | (have hz : Blk w3 w2.heap.size 79 [.int .i64 0, .int .u64 0, .int .u32 0] := Blk.newD hm3) | skip)) | (go_at_call 105; refine (cText.out _ (HMVX.out _ (by first | exact HM3.out | exact HM3.out.alloc _))).mono ?_; rintro e w4 ⟨rfl, hm4⟩; have HM4 : Hid (Mods [] w1 w4) := (by first | exact Lib.hid (HM3.out.tr hm4) | exact Lib.hid ((HM3.out.alloc _).tr hm4)); (first | (have hz := hz.keep0 hm4) | (have hz : Blk w4 w3.heap.size 79 [.int .i64 0, .int .u64 0, .int .u32 0] := Blk.newK hm4) | skip)) | (go_at_call 103; refine (HS.out _ (HSBX.out _ (by first | exact HM4.out | exact HM4.out.alloc _))).mono ?_; rintro e w5 ⟨a0, a1, a2, rfl, hm5⟩; have HM5 : Hid (Mods [] w1 w5) := (by first | exact Lib.hid (HM4.out.tr hm5) | exact Lib.hid ((HM4.out.alloc _).tr hm5)); (first | (have hz := hz.keep0 hm5) | (have hz : Blk w5 w4.heap.size 79 [.int .i64 0, .int .u64 0, .int .u32 0] := Blk.newK hm5) | skip); (first | (have z0 := hz.cell (i := 0) rfl; have z1 := hz.cell (i := 1) rfl; have z2 := hz.cell (i := 2) rfl; have f0 := hz.free 0; have f1 := hz.free 1; have f2 := hz.free 2) | skip)))
  all_goals go_wp2_with fail
  all_goals go_meet
  all_goals
   first
    | exact ⟨rfl, rfl, Lib.hid (HM5.out.alloc _)⟩
    | exact ⟨rfl, rfl, Lib.hid (HM5.out.set3 HM4.out.size _ _ _)⟩
    | exact ⟨rfl, rfl, Lib.hid (HM5.out.set3 HM3.out.size _ _ _)⟩
    | exact ⟨rfl, rfl, Lib.hid (HM5.out.set3 HM2.out.size _ _ _)⟩
 case rest =>
  obtain ⟨rfl, rfl, HMX⟩ := hcut
  go_wp2_with (first | (go_at_call 54; refine (cOther.out _).mono ?_; rintro e w' ⟨rfl, rfl⟩))
  obtain ⟨wL, hwL⟩ : ∃ wL, wc.alloc (.cells #[.int .i64 1, .int .i64 0] 3) = wL := ⟨_, rfl⟩
  obtain ⟨LB, hLB⟩ : ∃ LB, wc.heap.size = LB := ⟨_, rfl⟩
  have hbl : Blk wL LB 3 [.int .i64 1, .int .i64 0] := by rw [← hwL, ← hLB]; exact Blk.new wc 3 [.int .i64 1, .int .i64 0]
  have HLBW : Hid (w1.heap.size ≤ LB) := Lib.hid (by rw [← hLB]; exact HMX.out.size)
  have HL0 : Hid (Mods [] w1 wL) := Lib.hid (by rw [← hwL]; exact HMX.out.alloc _)
  have HLL : Hid (∀ w', Mods L wL w' → w'.cell? ⟨LB, 0, none⟩ = some (.int .i64 1) ∧ w'.cell? ⟨LB, 1, none⟩ = some (.int .i64 0)) := Lib.hid (fun w' hm => by
   have h := hbl.keep hm (fun hg => by have h1 := (HLW.out _ hg).1; have h2 := HLBW.out; omega)
   exact ⟨h.cell (i := 0) rfl, h.cell (i := 1) rfl⟩)
  have HPL : Hid (IsPair wL b gp x fx P) := Lib.hid (HP1.out.keep0 HL0.out)
  have HCL : Hid (∀ w', Mods L w1 w' → w'.cell? ⟨b, 3, none⟩ = some (.pointer (some ⟨x 1, 0, none⟩)) ∧ w'.cell? ⟨b, 2, none⟩ = some (.pointer (some ⟨x 0, 0, none⟩)) ∧ w'.cell? ⟨W.heap.size, 0, none⟩ = some (.int .i64 (t.blocks : Nat)) ∧ w'.cell? ⟨W.heap.size, 1, none⟩ = some (.int .i64 (t.spares : Nat)) ∧ w'.cell? ⟨W.heap.size, 2, none⟩ = some (.slice A0 m0 c0)) := Lib.hid (fun w' hm => by
   obtain ⟨_, q1, q2, q3, q4, q5⟩ := HCE.out w' hm
   rw [HM0.out] at q5
   exact ⟨q1, q2, q3, q4, q5⟩)
  have HMVL : Hid (∀ w', Mods L w1 w' → IsMv w' (.slice A0 m0 c0) t.moved) := Lib.hid (fun w' hm => by
   have h := HMV.out w' hm
   rw [HM0.out] at h; exact h)
  rw [hwL, hLB]
  clear hbl hwL hLB HMX q0 q1 q2 q3 q4 q5 HCX HMVX HSBX
  obtain ⟨q1, q2, q3, q4, q5⟩ := HCL.out wL (HL0.out.mono (by simp))
  obtain ⟨l0, l1⟩ := HLL.out wL (Mods.refl _ _)
  refine wp_loop_rounds 3 ?_
  rw [rounds_succ]
  go_wp2_with fail
  go_region_held3 (fun w' => w'.cell? ⟨b, 3, none⟩ = some (.pointer (some ⟨x 1, 0, none⟩)) ∧ w'.cell? ⟨W.heap.size, 0, none⟩ = some (.int .i64 (t.blocks : Nat)) ∧ w'.cell? ⟨W.heap.size, 1, none⟩ = some (.int .i64 (t.spares : Nat)) ∧ w'.cell? ⟨W.heap.size, 2, none⟩ = some (.slice A0 m0 c0))
   (first | go_keep | exact HSL.out _ HL5.out | exact HSL.out _ HL3.out | fail)
   (first | (go_at_call 104; refine (cGen.out _ (HMVL.out _ (HL0.out.drew.mono (by simp)))).mono ?_; rintro e w3 ⟨rfl, hm3⟩; have HL3 : Hid (Mods L w1 w3) := Lib.hid ((HL0.out.drew.tr hm3).mono (by simp)); have HP3 : Hid (IsPair w3 b gp x fx P) := Lib.hid (HPL.out.keep0 (((Mods.refl _ _).drew).tr hm3)); have HW3 : Hid (Mods L wL w3) := Lib.hid ((((Mods.refl _ _).drew).tr hm3).mono (by simp))) | (go_at_call 107; refine (cSlotT.out _).mono ?_; rintro e w' ⟨rfl, rfl⟩) | (go_at_call 106; refine (cPutS.out _ _ (HP3.out.dev 1 (by decide))).mono ?_; rintro e w5 ⟨fp1, rfl, hd5⟩; have HL5 : Hid (Mods L w1 w5) := Lib.hid (HL3.out.trans hd5.mods (fun z hz => .inl (HLK.out 1 (by decide) z hz))); have HW5 : Hid (Mods L wL w5) := Lib.hid (HW3.out.trans hd5.mods (fun z hz => .inl (HLK.out 1 (by decide) z hz)))))
  have HP5 : Hid (IsPair w5 b gp x (upd fx 1 fp1) (P.setDev 1 D1)) := Lib.hid (HP3.out.turn (by decide) hd5 HshS.out)
  have HN5 : Hid (∀ k, k < 2 → ∀ z ∈ upd fx 1 fp1 k, z ∈ fx k ∨ w1.heap.size ≤ z) := Lib.hid (fun k hk z hz => by
   unfold upd at hz
   split at hz
   ·rename_i e; subst e
    exact (hd5.new z hz).imp id (fun h => Nat.le_trans HL3.out.size h)
   ·exact .inl hz)
  clear hd5
  obtain ⟨q1, q2, q3, q4, q5⟩ := HCL.out w5 HL5.out
  obtain ⟨l0, l1⟩ := HLL.out w5 HW5.out
  by_cases he1 : e1 = 0
  ·subst he1
   go_wp2_with fail
   rw [rounds_succ]
   go_wp2_with fail
   obtain ⟨q1, q2, q3, q4, q5⟩ := HCL.out w5 HL5.out
   go_region_held3 (fun w' => w'.cell? ⟨b, 2, none⟩ = some (.pointer (some ⟨x 0, 0, none⟩)) ∧ w'.cell? ⟨W.heap.size, 0, none⟩ = some (.int .i64 (t.blocks : Nat)) ∧ w'.cell? ⟨W.heap.size, 1, none⟩ = some (.int .i64 (t.spares : Nat)) ∧ w'.cell? ⟨W.heap.size, 2, none⟩ = some (.slice A0 m0 c0))
    (first | go_keep | exact (HCL.out _ HL7.out).2 | exact (HCL.out _ HL6.out).2 | fail)
    (first | (go_at_call 104; refine (cGen.out _ (HMVL.out _ HL5.out.drew)).mono ?_; rintro e w6 ⟨rfl, hm6⟩; have HL6 : Hid (Mods L w1 w6) := Lib.hid (HL5.out.drew.trans hm6 (by simp)); have HP6 : Hid (IsPair w6 b gp x (upd fx 1 fp1) (P.setDev 1 D1)) := Lib.hid (HP5.out.keep0 (((Mods.refl _ _).drew).tr hm6)); have HD6 : Hid (IsDev w6 (x 0) (fx 0) (P.dev 0)) := Lib.hid (HP6.out.dev 0 (by decide))) | (go_at_call 107; refine (cSlotF.out _).mono ?_; rintro e w' ⟨rfl, rfl⟩) | (go_at_call 106; refine (cPutO.out _ _ HD6.out).mono ?_; rintro e w7 ⟨fp2, rfl, hd7⟩; have HL7 : Hid (Mods L w1 w7) := Lib.hid (HL6.out.trans hd7.mods (fun z hz => .inl (HLK.out 0 (by decide) z hz)))))
   have HP7 : Hid (IsPair w7 b gp x (upd (upd fx 1 fp1) 0 fp2) ((P.setDev 1 D1).setDev 0 D2)) := Lib.hid (HP6.out.turn (s := 0) (by decide) hd7 HshO.out)
   have HN7 : Hid (∀ k, k < 2 → ∀ z ∈ upd (upd fx 1 fp1) 0 fp2 k, z ∈ fx k ∨ w1.heap.size ≤ z) := Lib.hid (fun k hk z hz => by
    unfold upd at hz
    split at hz
    ·rename_i e; subst e
     exact (hd7.new z hz).imp id (fun h => Nat.le_trans HL6.out.size h)
    ·exact HN5.out k hk z hz)
   have HM7 : Hid (Mods (b :: (fx 0 ++ fx 1)) W w7) := Lib.hid ((HM1.out.mono (by simp)).trans HL7.out (fun z hz => .inl (by rw [HLE.out]; exact List.mem_cons_of_mem _ hz)))
   have HN7W : Hid (∀ k, k < 2 → ∀ z ∈ upd (upd fx 1 fp1) 0 fp2 k, z ∈ fx k ∨ W.heap.size ≤ z) := Lib.hid (fun k hk z hz => (HN7.out k hk z hz).imp id (fun h => Nat.le_trans HM1.out.size h))
   clear hd7
   by_cases he2 : e2 = 0
   ·subst he2
    have HF7 : Hid (∀ g, (Value.slice A0 m0 c0).ownBlock = some g → ∀ k, k < 2 → g ∉ upd (upd fx 1 fp1) 0 fp2 k) := Lib.hid (fun g hg k hk hz => by
     rcases HN7.out k hk g hz with h | h
     ·exact HFR.out g hg k hk h
     ·have h2 := (owns_ltF HMVW.out hg).2
      have h3 := HM1.out.size
      omega)
    obtain ⟨gp9, hp9, hm9, hg9⟩ := HP7.out.putTab (s := 1) (by decide) (HMVL.out w7 HL7.out) HTok.out HF7.out
    have HP9 := Lib.hid hp9
    have HM9 := Lib.hid hm9
    have HG9 := Lib.hid hg9
    clear hp9 hm9 hg9
    obtain ⟨_, _, q3, q4, q5⟩ := HCL.out w7 HL7.out
    have hb7 := (HB.out w7 HL7.out).blk
    have z0 := hb7.cell (i := 7) rfl
    have z1 := hb7.cell (i := 8) rfl
    have z2 := hb7.cell (i := 9) rfl
    have f0 := hb7.free 7
    have f1 := hb7.free 8
    have f2 := hb7.free 9
    obtain ⟨l0, l1⟩ := HLL.out wL (Mods.refl _ _)
    cases b1 <;> cases b2
    ·go_wp2_with fail
     rw [rounds_succ]
     go_wp2_with fail
     go_returns
     simp only []
     exact ⟨rfl, gp, _, HP7, HM7, HN7W, Lib.hid (fun g hg => .inl hg)⟩
    all_goals
     go_wp2_with fail
     rw [rounds_succ]
     go_wp2_with fail
     go_region_held3 (fun w' => w'.cell? ⟨W.heap.size, 0, none⟩ = some (.int .i64 (t.blocks : Nat)) ∧ w'.cell? ⟨W.heap.size, 1, none⟩ = some (.int .i64 (t.spares : Nat)) ∧ w'.cell? ⟨W.heap.size, 2, none⟩ = some (.slice A0 m0 c0)) (go_keep) (fail)
     go_wp2_with fail
     go_returns
     simp only []
     exact ⟨rfl, gp9, _, Lib.hid (HP9.out.keep0 (Mods.refl _ _).drew), Lib.hid ((HM7.out.trans HM9.out (fun z hz => .inl (by rw [List.mem_singleton.1 hz]; exact List.mem_cons_self ..))).drew), HN7W, Lib.hid (fun g hg => (HG9.out g hg).imp id .inl)⟩
   ·have hb2 : ((e2 : Int) == 0) = false := by simpa using he2
    have hne2 : ¬ (e2 : Int) = 0 := by omega
    go_wp2_with fail
    go_returns
    simp only []
    exact ⟨rfl, gp, _, HP7, HM7, HN7W, Lib.hid (fun g hg => .inl hg)⟩
  ·have hb : ((e1 : Int) == 0) = false := by simpa using he1
   have hne : ¬ (e1 : Int) = 0 := by omega
   go_wp2_with fail
   go_returns
   refine ⟨rfl, gp, upd fx 1 fp1, HP5, Lib.hid ((HM1.out.mono (by simp)).trans HL5.out (fun z hz => .inl (by rw [HLE.out]; exact List.mem_cons_of_mem _ hz))), Lib.hid (fun k hk z hz => (HN5.out k hk z hz).imp id (fun h => Nat.le_trans HM1.out.size h)), Lib.hid (fun g hg => .inl hg)⟩
theorem rKeep_any {W : World} {b : Nat} {gp : List Nat} {x : Nat → Nat} {fx : Nat → List Nat} {P : Pr} (h : IsPair W b gp x fx P) (s : Nat) (hs : s < 2) {t : Tab} {mv : Value} (hmv : IsMv W mv t.moved) (hfr : ∀ g, mv.ownBlock = some g → ∀ k, k < 2 → g ∉ fx k) (ht : t.Ok) (htn : t.moved.length ≤ P.n) (hc : ∀ k, k < 2 → (P.dev k).cache.length + 1 < 1000000) :
  Calls Tryz.prog 55 #[.pointer (some ⟨b, 0, none⟩), .int .i64 (s : Nat), tabV t mv] W fun e w' => ∃ gp' fx', e = .returned (.int .i64 ((P.keep s t).1 : Nat)) ∧ Hid (IsPair w' b gp' x fx' (P.keep s t).2) ∧ Hid (Mods (b :: (fx 0 ++ fx 1)) W w') ∧ Hid (∀ k, k < 2 → ∀ g ∈ fx' k, g ∈ fx k ∨ W.heap.size ≤ g) ∧ Hid (∀ g ∈ gp', g ∈ gp ∨ mv.ownBlock = some g ∨ W.heap.size ≤ g) := by
 rcases (show s = 0 ∨ s = 1 by omega) with rfl | rfl
 ·exact rKeep_0 h hmv hfr ht htn hc
 ·exact rKeep_1 h hmv hfr ht htn hc
end Go.Proofs.YtkjpdfomppjiiaaGreatDoor
/- A pair's small methods: check, sector, Device, Table, Alive, Flush, Read. (Printed by wip/pair7.py.) -/
namespace Go.Proofs.YtkjpdfomppjiiaaGreatDoor
open Go.RowKit

theorem rCheck_any {W : World} {b : Nat} (s : Nat) (hs : s < 2) : Calls Tryz.prog 155 #[.pointer (some ⟨b, 0, none⟩), .int .i64 (s : Nat)] W fun e w' => e = .returned (.int .i64 0) ∧ W = w' := by
 have cIs := Lib.hid (fun W => rIs_any (W := W) (s : Int))
 rw [show (decide (0 ≤ (s : Int)) && decide ((s : Int) < 2)) = true by simp; omega] at cIs
 go_enter Tryz.func155, Tryz.ntmps155
 go_wp2_with (go_at_call 52; refine (cIs.out _).mono ?_; rintro e w' ⟨rfl, rfl⟩)
 go_ret
 exact ⟨rfl, rfl⟩
theorem at_le {t : Tab} (h : t.Ok) (i : Int) : (t.at_ i).1 ≤ 5000 := by
 unfold Tab.at_
 split
 ·exact Nat.zero_le _
 ·rename_i hb
  have hb' : t.isB i = true := by simpa using hb
  obtain ⟨k, rfl, hk⟩ := Tab.isB_nat hb'
  have h1 := h.blocks
  have h2 := h.len
  have h3 := h.spares
  simp only
  split
  ·rename_i j hj
   unfold Tab.spareOf at hj
   cases hf : (bw t.moved 0 t.moved.length).find? fun p => decide (p.2 = (k : Int).toNat) with
   | none => rw [hf] at hj; cases hj
   | some p =>
    rw [hf] at hj
    injection hj with hj
    have hm := List.mem_of_find?_eq_some hf
    unfold bw at hm
    obtain ⟨z, hz, rfl⟩ := List.mem_map.1 hm
    simp only [List.mem_range] at hz
    simp only at hj
    omega
  ·simp; omega
theorem Pr.setDev_self (P : Pr) (s : Nat) : P.setDev s (P.dev s) = P := by
 unfold Pr.setDev
 have : (fun k => if k = s then P.dev s else P.dev k) = P.dev := by
  funext k
  split
  ·rename_i e; rw [e]
  ·rfl
 rw [this]
theorem upd_self {α : Type} (f : Nat → α) (s : Nat) : upd f s (f s) = f := by
 funext k
 unfold upd
 split
 ·rename_i e; rw [e]
 ·rfl
theorem IsPair.stay {W w' : World} {b : Nat} {gp : List Nat} {x : Nat → Nat} {fx : Nat → List Nat} {P : Pr} (h : IsPair W b gp x fx P) {s : Nat} (hs : s < 2) (hd : IsDev w' (x s) (fx s) (P.dev s)) (hm : Mods [x s] W w') : IsPair w' b gp x fx P := by
 have h2 := h.turn hs (fp' := fx s) (D' := P.dev s) ⟨hd, fun z hz => .inl hz, hm.mono (by simpa using (h.dev s hs).head)⟩ ⟨rfl, rfl⟩
 rw [Pr.setDev_self, upd_self] at h2
 exact h2
theorem IsPair.at1 {w : World} {b : Nat} {gp : List Nat} {x : Nat → Nat} {fx : Nat → List Nat} {P : Pr} (h : IsPair w b gp x fx P) (s : Nat) (hs : s < 2) : ∃ A c, w.cell? ⟨b, 2 + s, none⟩ = some (.pointer (some ⟨x s, 0, none⟩)) ∧ w.cell? ⟨b, 4 + 3 * s, none⟩ = some (.int .i64 ((P.tab s).blocks : Nat)) ∧ w.cell? ⟨b, 4 + 3 * s + 1, none⟩ = some (.int .i64 ((P.tab s).spares : Nat)) ∧ w.cell? ⟨b, 4 + 3 * s + 2, none⟩ = some (.slice A (P.tab s).moved.length c) ∧ IsMv w (.slice A (P.tab s).moved.length c) (P.tab s).moved ∧ (P.tab s).Ok ∧ (∀ g, (Value.slice A (P.tab s).moved.length c).ownBlock = some g → g ∈ gp ∧ ∀ k, k < 2 → g ∉ fx k) := by
 obtain ⟨sb, m, hin, hgp, _⟩ := h.pb
 obtain ⟨A, c, e, _⟩ := mv_shape (hin.mv s hs)
 have hd := (pair_cell hin).2.2 s hs
 have hmv := hin.mv s hs
 rw [e] at hmv
 have hg : ∀ g, (Value.slice A (P.tab s).moved.length c).ownBlock = some g → g ∈ gp := by
  intro g hg
  rw [← e] at hg
  rw [hgp]
  simp only [pairFoot, List.mem_cons, List.mem_append, Option.mem_toList]
  rcases (show s = 0 ∨ s = 1 by omega) with rfl | rfl
  ·exact .inr (.inr (.inl hg))
  ·exact .inr (.inr (.inr hg))
 refine ⟨A, c, hd, ?_, ?_, ?_, hmv, hin.tok s hs, fun g h1 => ⟨hg g h1, fun k hk => h.free g (hg g h1) k hk⟩⟩
 ·rcases (show s = 0 ∨ s = 1 by omega) with rfl | rfl
  ·exact hin.blk.cell (i := 4) rfl
  ·exact hin.blk.cell (i := 7) rfl
 ·rcases (show s = 0 ∨ s = 1 by omega) with rfl | rfl
  ·exact hin.blk.cell (i := 5) rfl
  ·exact hin.blk.cell (i := 8) rfl
 ·rcases (show s = 0 ∨ s = 1 by omega) with rfl | rfl
  ·rw [← e]; exact hin.blk.cell (i := 6) rfl
  ·rw [← e]; exact hin.blk.cell (i := 9) rfl
theorem rIs_ok (W : World) (s : Nat) (hs : s < 2) : Calls Tryz.prog 52 #[.int .i64 (s : Nat)] W fun e w' => e = .returned (.bool true) ∧ W = w' := by
 have h := rIs_any (W := W) (s : Int)
 rw [show (decide (0 ≤ (s : Int)) && decide ((s : Int) < 2)) = true by simp; omega] at h
 exact h
theorem rDevice_0 {W : World} {b : Nat} {gp : List Nat} {x : Nat → Nat} {fx : Nat → List Nat} {P : Pr} (h : IsPair W b gp x fx P) :
  Calls Tryz.prog 108 #[.pointer (some ⟨b, 0, none⟩), .int .i64 0] W fun e w' => e = .returned (.pointer (some ⟨x 0, 0, none⟩)) ∧ W = w' := by
 have cIs := Lib.hid (fun W => rIs_ok W 0 (by decide))
 obtain ⟨A, c, d0, _⟩ := h.at1 0 (by decide)
 clear h
 go_enter Tryz.func108, Tryz.ntmps108
 go_wp2_with (go_at_call 52; refine (cIs.out _).mono ?_; rintro e w' ⟨rfl, rfl⟩)
 go_ret
 exact ⟨rfl, rfl⟩
theorem rAlive_0 {W : World} {b : Nat} {gp : List Nat} {x : Nat → Nat} {fx : Nat → List Nat} {P : Pr} (h : IsPair W b gp x fx P) :
  Calls Tryz.prog 56 #[.pointer (some ⟨b, 0, none⟩), .int .i64 0] W fun e w' => e = .returned (.bool (!(P.dev 0).gone)) ∧ W = w' := by
 have cDev := Lib.hid (rDevice_0 h)
 have cDead := Lib.hid (dDead_any (h.dev 0 (by decide)))
 clear h
 go_enter Tryz.func56, Tryz.ntmps56
 go_wp2_with (first | (go_at_call 108; refine cDev.out.mono ?_; rintro e w' ⟨rfl, rfl⟩) | (go_at_call 109; refine cDead.out.mono ?_; rintro e w' ⟨rfl, rfl⟩))
 go_ret
 exact ⟨by simp, rfl⟩
theorem rSector_0 {W : World} {b : Nat} {gp : List Nat} {x : Nat → Nat} {fx : Nat → List Nat} {P : Pr} (h : IsPair W b gp x fx P) (i : Int) :
  Calls Tryz.prog 188 #[.pointer (some ⟨b, 0, none⟩), .int .i64 0, .int .i64 i] W fun e w' => e = .returned (.tuple #[.int .i64 ((P.sector 0 i).1 : Nat), .int .i64 ((P.sector 0 i).2 : Nat)]) ∧ Mods [] W w' := by
 obtain ⟨A, c, _, d1, d2, d3, hmv, hok, _⟩ := h.at1 0 (by decide)
 have cAt := Lib.hid (tAt_any hmv hok i)
 have hle := at_le hok i
 unfold Pr.sector
 simp only
 generalize (P.tab 0).at_ i = r at cAt hle ⊢
 obtain ⟨k, en⟩ := r
 simp only at cAt hle ⊢
 unfold tabV at cAt
 have hw : IntKind.i64.wrap ((k : Int) + 4) = ((k + 4 : Nat) : Int) := by rw [IntKind.wrap_i64]; omega
 clear h hmv hok
 go_enter Tryz.func188, Tryz.ntmps188
 go_wp2_with (first | (go_at_call 155; refine (rCheck_any 0 (by decide)).mono ?_; rintro e w' ⟨rfl, rfl⟩) | (go_at_call 230; refine cAt.out.mono ?_; rintro e w2 ⟨rfl, hm2⟩))
 go_ret2
 exact ⟨by simp [], hm2⟩
theorem rFlush_0 {W : World} {b : Nat} {gp : List Nat} {x : Nat → Nat} {fx : Nat → List Nat} {P : Pr} (h : IsPair W b gp x fx P) (hc : (P.dev 0).cache.length < 1000000) :
  Calls Tryz.prog 101 #[.pointer (some ⟨b, 0, none⟩), .int .i64 0] W fun e w' => ∃ fp', e = .returned (.int .i64 ((P.flush 0).1 : Nat)) ∧ Hid (IsPair w' b gp x (upd fx 0 fp') (P.flush 0).2) ∧ Hid (DevTo W w' (x 0) (fx 0) fp' (P.dev 0).flush.2) := by
 have cFlush := Lib.hid (dFlush_ex (h.dev 0 (by decide)) hc)
 have HP := Lib.hid h
 have hsh := Lib.hid (flush_shape (P.dev 0))
 obtain ⟨A, c, d0, _⟩ := h.at1 0 (by decide)
 unfold Pr.flush
 simp only
 generalize (P.dev 0).flush = r at cFlush hsh ⊢
 obtain ⟨en, D'⟩ := r
 simp only at cFlush hsh ⊢
 clear h hc
 go_enter Tryz.func101, Tryz.ntmps101
 go_wp2_with (first | (go_at_call 155; refine (rCheck_any 0 (by decide)).mono ?_; rintro e w' ⟨rfl, rfl⟩) | (go_at_call 156; refine cFlush.out.mono ?_; rintro e w2 ⟨fp', rfl, hd, hn, hm⟩))
 go_ret
 exact ⟨fp', rfl, Lib.hid (HP.out.turn (by decide) ⟨hd.out, hn.out, hm.out⟩ hsh.out), Lib.hid ⟨hd.out, hn.out, hm.out⟩⟩
theorem rRead_0 {W : World} {b : Nat} {gp : List Nat} {x : Nat → Nat} {fx : Nat → List Nat} {P : Pr} (h : IsPair W b gp x fx P) (hc : (P.dev 0).cache.length < 1000000) (i : Int) :
  Calls Tryz.prog 137 #[.pointer (some ⟨b, 0, none⟩), .int .i64 0, .int .i64 i] W fun e w' => e = .returned (.tuple #[.string (P.read 0 i).1, .int .i64 ((P.read 0 i).2 : Nat)]) ∧ IsPair w' b gp x fx P ∧ Mods (fx 0) W w' := by
 have cSec := Lib.hid (rSector_0 h i)
 have HP := Lib.hid h
 have HC : Hid (∀ w', Mods [] W w' → w'.cell? ⟨b, 2, none⟩ = some (.pointer (some ⟨x 0, 0, none⟩))) := Lib.hid (fun w' hm => by
  obtain ⟨A, c, d0, _⟩ := (h.keep0 hm).at1 0 (by decide)
  exact d0)
 unfold Pr.read
 generalize P.sector 0 i = r at cSec ⊢
 obtain ⟨k, en⟩ := r
 simp only at cSec ⊢
 have cRead := Lib.hid (fun w' (hm : Mods [] W w') => dRead_any ((h.keep0 hm).dev 0 (by decide)) hc (k : Nat))
 clear h hc
 by_cases hen : en = 0
 ·subst hen
  generalize (P.dev 0).read (k : Nat) = r at cRead ⊢
  obtain ⟨s, en⟩ := r
  simp only at cRead
  go_enter Tryz.func137, Tryz.ntmps137
  go_wp2_with (first | (go_at_call 188; refine cSec.out.mono ?_; rintro e w2 ⟨rfl, hm2⟩; have d0 := HC.out w2 hm2; have HM2 := Lib.hid hm2; clear hm2) | (go_at_call 135; refine (cRead.out _ HM2.out).mono ?_; rintro e w3 ⟨rfl, hd, hm⟩))
  go_ret2
  have hm2' : Mods [x 0] W w2 := HM2.out.mono (by simp)
  have hm3 : Mods [x 0] W w3 := hm2'.trans hm (fun z hz => .inl hz)
  exact ⟨by simp, HP.out.stay (by decide) hd hm3, hm3.mono (by simpa using (HP.out.dev 0 (by decide)).head)⟩
 ·have hne : ¬ (en : Int) = 0 := by omega
  have hb : ((en : Int) == 0) = false := by simpa using hen
  go_enter Tryz.func137, Tryz.ntmps137
  go_wp2_with (first | (go_at_call 188; refine cSec.out.mono ?_; rintro e w2 ⟨rfl, hm2⟩))
  go_ret2
  exact ⟨by simp [], HP.out.keep0 hm2, hm2.mono (by simp)⟩
theorem rDevice_1 {W : World} {b : Nat} {gp : List Nat} {x : Nat → Nat} {fx : Nat → List Nat} {P : Pr} (h : IsPair W b gp x fx P) :
  Calls Tryz.prog 108 #[.pointer (some ⟨b, 0, none⟩), .int .i64 1] W fun e w' => e = .returned (.pointer (some ⟨x 1, 0, none⟩)) ∧ W = w' := by
 have cIs := Lib.hid (fun W => rIs_ok W 1 (by decide))
 obtain ⟨A, c, d0, _⟩ := h.at1 1 (by decide)
 clear h
 go_enter Tryz.func108, Tryz.ntmps108
 go_wp2_with (go_at_call 52; refine (cIs.out _).mono ?_; rintro e w' ⟨rfl, rfl⟩)
 go_ret
 exact ⟨rfl, rfl⟩
theorem rAlive_1 {W : World} {b : Nat} {gp : List Nat} {x : Nat → Nat} {fx : Nat → List Nat} {P : Pr} (h : IsPair W b gp x fx P) :
  Calls Tryz.prog 56 #[.pointer (some ⟨b, 0, none⟩), .int .i64 1] W fun e w' => e = .returned (.bool (!(P.dev 1).gone)) ∧ W = w' := by
 have cDev := Lib.hid (rDevice_1 h)
 have cDead := Lib.hid (dDead_any (h.dev 1 (by decide)))
 clear h
 go_enter Tryz.func56, Tryz.ntmps56
 go_wp2_with (first | (go_at_call 108; refine cDev.out.mono ?_; rintro e w' ⟨rfl, rfl⟩) | (go_at_call 109; refine cDead.out.mono ?_; rintro e w' ⟨rfl, rfl⟩))
 go_ret
 exact ⟨by simp, rfl⟩
theorem rSector_1 {W : World} {b : Nat} {gp : List Nat} {x : Nat → Nat} {fx : Nat → List Nat} {P : Pr} (h : IsPair W b gp x fx P) (i : Int) :
  Calls Tryz.prog 188 #[.pointer (some ⟨b, 0, none⟩), .int .i64 1, .int .i64 i] W fun e w' => e = .returned (.tuple #[.int .i64 ((P.sector 1 i).1 : Nat), .int .i64 ((P.sector 1 i).2 : Nat)]) ∧ Mods [] W w' := by
 obtain ⟨A, c, _, d1, d2, d3, hmv, hok, _⟩ := h.at1 1 (by decide)
 have cAt := Lib.hid (tAt_any hmv hok i)
 have hle := at_le hok i
 unfold Pr.sector
 simp only
 generalize (P.tab 1).at_ i = r at cAt hle ⊢
 obtain ⟨k, en⟩ := r
 simp only at cAt hle ⊢
 unfold tabV at cAt
 have hw : IntKind.i64.wrap ((k : Int) + 4) = ((k + 4 : Nat) : Int) := by rw [IntKind.wrap_i64]; omega
 clear h hmv hok
 go_enter Tryz.func188, Tryz.ntmps188
 go_wp2_with (first | (go_at_call 155; refine (rCheck_any 1 (by decide)).mono ?_; rintro e w' ⟨rfl, rfl⟩) | (go_at_call 230; refine cAt.out.mono ?_; rintro e w2 ⟨rfl, hm2⟩))
 go_ret2
 exact ⟨by simp [], hm2⟩
theorem rFlush_1 {W : World} {b : Nat} {gp : List Nat} {x : Nat → Nat} {fx : Nat → List Nat} {P : Pr} (h : IsPair W b gp x fx P) (hc : (P.dev 1).cache.length < 1000000) :
  Calls Tryz.prog 101 #[.pointer (some ⟨b, 0, none⟩), .int .i64 1] W fun e w' => ∃ fp', e = .returned (.int .i64 ((P.flush 1).1 : Nat)) ∧ Hid (IsPair w' b gp x (upd fx 1 fp') (P.flush 1).2) ∧ Hid (DevTo W w' (x 1) (fx 1) fp' (P.dev 1).flush.2) := by
 have cFlush := Lib.hid (dFlush_ex (h.dev 1 (by decide)) hc)
 have HP := Lib.hid h
 have hsh := Lib.hid (flush_shape (P.dev 1))
 obtain ⟨A, c, d0, _⟩ := h.at1 1 (by decide)
 unfold Pr.flush
 simp only
 generalize (P.dev 1).flush = r at cFlush hsh ⊢
 obtain ⟨en, D'⟩ := r
 simp only at cFlush hsh ⊢
 clear h hc
 go_enter Tryz.func101, Tryz.ntmps101
 go_wp2_with (first | (go_at_call 155; refine (rCheck_any 1 (by decide)).mono ?_; rintro e w' ⟨rfl, rfl⟩) | (go_at_call 156; refine cFlush.out.mono ?_; rintro e w2 ⟨fp', rfl, hd, hn, hm⟩))
 go_ret
 exact ⟨fp', rfl, Lib.hid (HP.out.turn (by decide) ⟨hd.out, hn.out, hm.out⟩ hsh.out), Lib.hid ⟨hd.out, hn.out, hm.out⟩⟩
theorem rRead_1 {W : World} {b : Nat} {gp : List Nat} {x : Nat → Nat} {fx : Nat → List Nat} {P : Pr} (h : IsPair W b gp x fx P) (hc : (P.dev 1).cache.length < 1000000) (i : Int) :
  Calls Tryz.prog 137 #[.pointer (some ⟨b, 0, none⟩), .int .i64 1, .int .i64 i] W fun e w' => e = .returned (.tuple #[.string (P.read 1 i).1, .int .i64 ((P.read 1 i).2 : Nat)]) ∧ IsPair w' b gp x fx P ∧ Mods (fx 1) W w' := by
 have cSec := Lib.hid (rSector_1 h i)
 have HP := Lib.hid h
 have HC : Hid (∀ w', Mods [] W w' → w'.cell? ⟨b, 3, none⟩ = some (.pointer (some ⟨x 1, 0, none⟩))) := Lib.hid (fun w' hm => by
  obtain ⟨A, c, d0, _⟩ := (h.keep0 hm).at1 1 (by decide)
  exact d0)
 unfold Pr.read
 generalize P.sector 1 i = r at cSec ⊢
 obtain ⟨k, en⟩ := r
 simp only at cSec ⊢
 have cRead := Lib.hid (fun w' (hm : Mods [] W w') => dRead_any ((h.keep0 hm).dev 1 (by decide)) hc (k : Nat))
 clear h hc
 by_cases hen : en = 0
 ·subst hen
  generalize (P.dev 1).read (k : Nat) = r at cRead ⊢
  obtain ⟨s, en⟩ := r
  simp only at cRead
  go_enter Tryz.func137, Tryz.ntmps137
  go_wp2_with (first | (go_at_call 188; refine cSec.out.mono ?_; rintro e w2 ⟨rfl, hm2⟩; have d0 := HC.out w2 hm2; have HM2 := Lib.hid hm2; clear hm2) | (go_at_call 135; refine (cRead.out _ HM2.out).mono ?_; rintro e w3 ⟨rfl, hd, hm⟩))
  go_ret2
  have hm2' : Mods [x 1] W w2 := HM2.out.mono (by simp)
  have hm3 : Mods [x 1] W w3 := hm2'.trans hm (fun z hz => .inl hz)
  exact ⟨by simp, HP.out.stay (by decide) hd hm3, hm3.mono (by simpa using (HP.out.dev 1 (by decide)).head)⟩
 ·have hne : ¬ (en : Int) = 0 := by omega
  have hb : ((en : Int) == 0) = false := by simpa using hen
  go_enter Tryz.func137, Tryz.ntmps137
  go_wp2_with (first | (go_at_call 188; refine cSec.out.mono ?_; rintro e w2 ⟨rfl, hm2⟩))
  go_ret2
  exact ⟨by simp [], HP.out.keep0 hm2, hm2.mono (by simp)⟩
end Go.Proofs.YtkjpdfomppjiiaaGreatDoor
/- A pair's Table, Move, Write. (Printed by wip/pair8.py.) -/
namespace Go.Proofs.YtkjpdfomppjiiaaGreatDoor
open Go.RowKit

theorem flush_cache (D : Dev) : D.flush.2.cache.length ≤ D.cache.length := by
 have hb := (Dev.burn_same D).2.2.2.2.1
 unfold Dev.flush
 split
 ·exact Nat.le_refl _
 ·split
  ·rw [hb]; exact Nat.le_refl _
  ·exact Nat.zero_le _
theorem put_cache (D : Dev) (k : Nat) (x : ByteArray) : (putD D k x).2.cache.length ≤ D.cache.length + 1 := by
 have h1 := write_cache D k x
 unfold putD
 simp only
 split
 ·exact Nat.le_trans (flush_cache _) h1
 ·exact h1
theorem keep_same (P : Pr) (s : Nat) (t : Tab) (k : Nat) : ((P.keep s t).2.dev k).cache.length ≤ (P.dev k).cache.length + 1 ∧ (P.keep s t).2.n = P.n ∧ ((P.keep s t).1 = 0 → (P.keep s t).2.tab = fun j => if j = s then t else P.tab j) ∧ ((P.keep s t).1 ≠ 0 → (P.keep s t).2.tab = P.tab) := by
 have h1 := put_cache (P.dev s) (slotOf true t.moved.length) (bA (imageOf (P.dev s).size s t.moved))
 have h2 := put_cache (P.dev (1 - s)) (slotOf false t.moved.length) (bA (imageOf (P.dev s).size s t.moved))
 unfold Pr.keep
 simp only
 generalize putD (P.dev s) (slotOf true t.moved.length) (bA (imageOf (P.dev s).size s t.moved)) = r at h1 ⊢
 generalize putD (P.dev (1 - s)) (slotOf false t.moved.length) (bA (imageOf (P.dev s).size s t.moved)) = q at h2 ⊢
 have a1 : ((P.setDev s r.2).dev k).cache.length ≤ (P.dev k).cache.length + 1 := by
  show (if k = s then r.2 else P.dev k).cache.length ≤ _
  split
  ·rename_i e; rw [e]; exact h1
  ·omega
 have a2 : (((P.setDev s r.2).setDev (1 - s) q.2).dev k).cache.length ≤ (P.dev k).cache.length + 1 := by
  show (if k = 1 - s then q.2 else (P.setDev s r.2).dev k).cache.length ≤ _
  split
  ·rename_i e; rw [e]; exact h2
  ·exact a1
 by_cases g1 : r.1.2 = 0
 ·rw [if_neg (by simpa using g1)]
  by_cases g2 : q.1.2 = 0
  ·rw [if_neg (by simpa using g2)]
   split
   ·exact ⟨a2, rfl, fun h => absurd h (by simp), fun _ => rfl⟩
   ·exact ⟨a2, rfl, fun _ => rfl, fun h => absurd rfl h⟩
  ·rw [if_pos g2]
   exact ⟨a2, rfl, fun h => absurd h g2, fun _ => rfl⟩
 ·rw [if_pos g1]
  exact ⟨a1, rfl, fun h => absurd h g1, fun _ => rfl⟩
structure PairTo (W w' : World) (b : Nat) (gp gp' : List Nat) (x : Nat → Nat) (fx fx' : Nat → List Nat) (P' : Pr) : Prop where
 pair : IsPair w' b gp' x fx' P'
 mods : Mods (b :: (fx 0 ++ fx 1)) W w'
 newF : ∀ k, k < 2 → ∀ g ∈ fx' k, g ∈ fx k ∨ W.heap.size ≤ g
 newG : ∀ g ∈ gp', g ∈ gp ∨ W.heap.size ≤ g
theorem PairTo.trans {W w1 w2 : World} {b : Nat} {gp gp1 gp2 : List Nat} {x : Nat → Nat} {fx fx1 fx2 : Nat → List Nat} {P1 P2 : Pr} (h : PairTo W w1 b gp gp1 x fx fx1 P1) (g : PairTo w1 w2 b gp1 gp2 x fx1 fx2 P2) : PairTo W w2 b gp gp2 x fx fx2 P2 :=
 ⟨g.pair, h.mods.trans g.mods (fun z hz => by
   rcases List.mem_cons.1 hz with rfl | hz
   ·exact .inl (List.mem_cons_self ..)
   ·rcases List.mem_append.1 hz with hz | hz
    ·exact (h.newF 0 (by decide) z hz).imp (fun k => List.mem_cons_of_mem _ (List.mem_append_left _ k)) id
    ·exact (h.newF 1 (by decide) z hz).imp (fun k => List.mem_cons_of_mem _ (List.mem_append_right _ k)) id),
  fun k hk z hz => (g.newF k hk z hz).elim (fun k2 => h.newF k hk z k2) (fun k2 => .inr (Nat.le_trans h.mods.size k2)),
  fun z hz => (g.newG z hz).elim (fun k2 => h.newG z k2) (fun k2 => .inr (Nat.le_trans h.mods.size k2))⟩
theorem PairTo.still {W w' : World} {b : Nat} {gp : List Nat} {x : Nat → Nat} {fx : Nat → List Nat} {P : Pr} (h : IsPair W b gp x fx P) (hm : Mods [] W w') : PairTo W w' b gp gp x fx fx P :=
 ⟨h.keep0 hm, hm.mono (by simp), fun _ _ _ hg => .inl hg, fun _ hg => .inl hg⟩
theorem PairTo.dev {W w' : World} {b : Nat} {gp : List Nat} {x : Nat → Nat} {fx : Nat → List Nat} {P : Pr} (h : IsPair W b gp x fx P) {s : Nat} (hs : s < 2) {fp' : List Nat} {D' : Dev} (g : DevTo W w' (x s) (fx s) fp' D') (hd : D'.size = (P.dev s).size ∧ D'.sectors = (P.dev s).sectors) : PairTo W w' b gp gp x fx (upd fx s fp') (P.setDev s D') := by
 refine ⟨h.turn hs g hd, g.mods.mono (fun z hz => ?_), fun k hk z hz => ?_, fun _ hg => .inl hg⟩
 ·rcases (show s = 0 ∨ s = 1 by omega) with rfl | rfl
  ·exact List.mem_cons_of_mem _ (List.mem_append_left _ hz)
  ·exact List.mem_cons_of_mem _ (List.mem_append_right _ hz)
 ·unfold upd at hz
  split at hz
  ·rename_i e; subst e; exact g.new z hz
  ·exact .inl hz
theorem rTable_0 {W : World} {b : Nat} {gp : List Nat} {x : Nat → Nat} {fx : Nat → List Nat} {P : Pr} (h : IsPair W b gp x fx P) :
  Calls Tryz.prog 31 #[.pointer (some ⟨b, 0, none⟩), .int .i64 0] W fun e w' => ∃ mv, e = .returned (tabV (P.tab 0) mv) ∧ IsMv w' mv (P.tab 0).moved ∧ (∀ g, mv.ownBlock = some g → g ∈ gp ∧ ∀ k, k < 2 → g ∉ fx k) ∧ Mods [] W w' := by
 obtain ⟨w1, hw1⟩ : ∃ w1, W.alloc (.cells #[.int .i64 0, .int .i64 0, .slice none 0 0] 71) = w1 := ⟨_, rfl⟩
 have hx1 : Blk w1 W.heap.size 71 [.int .i64 0, .int .i64 0, .slice none 0 0] := by rw [← hw1]; exact Blk.new W 71 [.int .i64 0, .int .i64 0, .slice none 0 0]
 have hm1 : Mods [] W w1 := by rw [← hw1]; exact (Mods.refl _ _).alloc _
 obtain ⟨A, c, _, d1, d2, d3, hmv, _, hgp⟩ := (h.keep0 hm1).at1 0 (by decide)
 have hbW := h.pb.lt b (by obtain ⟨_, _, _, hg, _⟩ := h.pb; rw [hg]; simp [pairFoot])
 have hne : ¬ W.heap.size = b := by omega
 have s0 := hx1.cell (i := 0) rfl
 have s1 := hx1.cell (i := 1) rfl
 have s2 := hx1.cell (i := 2) rfl
 have f0 := hx1.free 0
 have f1 := hx1.free 1
 have f2 := hx1.free 2
 have HX := Lib.hid hx1
 have HM := Lib.hid hm1
 have HMV := Lib.hid hmv
 have HGP := Lib.hid hgp
 have cIs := Lib.hid (fun W => rIs_ok W 0 (by decide))
 have HLT : Hid (∀ g, (Value.slice A (P.tab 0).moved.length c).ownBlock = some g → g < W.heap.size) := Lib.hid (fun g hg => h.pb.lt g (hgp g hg).1)
 obtain ⟨m0, hm0⟩ : ∃ m0, (P.tab 0).moved.length = m0 := ⟨_, rfl⟩
 rw [hm0] at d3
 have HM0 := Lib.hid hm0
 clear hx1 hm1 hmv hgp h hbW hm0
 go_enter Tryz.func31, Tryz.ntmps31
 go_wp2_with (go_at_call 52; refine (cIs.out _).mono ?_; rintro e w' ⟨rfl, rfl⟩)
 obtain ⟨k1, k2⟩ := three_sets HX.out (.int .i64 ((P.tab 0).blocks : Nat)) (.int .i64 ((P.tab 0).spares : Nat)) (.slice A m0 c)
 refine bodyPost_ret (results_c rfl rfl (load_tab k1)) rfl ?_
 refine ⟨.slice A (P.tab 0).moved.length c, by rw [HM0.out]; rfl, IsMv.keep HMV.out k2 (fun g hg => by have := HLT.out g hg; simp; omega), HGP.out, HM.out.trans k2 (fun k hk => .inr (by rw [List.mem_singleton.1 hk]; exact Nat.le_refl _))⟩
set_option maxHeartbeats 1600000 in
theorem rMove_0 {W : World} {b : Nat} {gp : List Nat} {x : Nat → Nat} {fx : Nat → List Nat} {P : Pr} (h : IsPair W b gp x fx P) (i : Int) (hsp : (P.tab 0).spares = P.n) (hc : ∀ k, k < 2 → (P.dev k).cache.length + 1 < 1000000) :
  Calls Tryz.prog 251 #[.pointer (some ⟨b, 0, none⟩), .int .i64 0, .int .i64 i] W fun e w' => ∃ gp' fx', e = .returned (.int .i64 ((P.move 0 i).1 : Nat)) ∧ Hid (PairTo W w' b gp gp' x fx fx' (P.move 0 i).2) := by
 obtain ⟨A, c, _, d1, d2, d3, hmv, hok, _⟩ := h.at1 0 (by decide)
 have cMove := Lib.hid (tMove_any hmv hok i)
 have hok2 := hok.mv i
 have hlen : ((P.tab 0).move i).2 = 0 → ((P.tab 0).move i).1.moved.length ≤ P.n := by
  intro h0
  have h1 := hok2.len
  have h2 : ((P.tab 0).move i).1.spares = (P.tab 0).spares := by
   unfold Tab.move at h0 ⊢
   split at h0
   ·cases h0
   ·split at h0
    ·cases h0
    ·rename_i g1 g2; rw [if_neg g1, if_neg g2]
  omega
 unfold Pr.move
 generalize (P.tab 0).move i = r at cMove hok2 hlen ⊢
 obtain ⟨t2, en⟩ := r
 simp only at cMove hok2 hlen ⊢
 have HP := Lib.hid h
 have HO := Lib.hid hok2
 unfold tabV at cMove
 obtain ⟨m0, hm0⟩ : ∃ m0, (P.tab 0).moved.length = m0 := ⟨_, rfl⟩
 rw [hm0] at d3 cMove
 by_cases hen : en = 0
 ·subst hen
  have hl := hlen rfl
  have cKeep := Lib.hid (fun (w : World) (mv : Value) (hm : Mods [] W w) (hmv : IsMv w mv t2.moved) (hf : ∀ g, mv.ownBlock = some g → W.heap.size ≤ g) => rKeep_any (h.keep0 hm) 0 (by decide) hmv (fun g hg k hk hz => by have h1 := hf g hg; have h2 := (h.dev k hk).lt g hz; omega) hok2 hl hc)
  generalize P.keep 0 t2 = r at cKeep ⊢
  obtain ⟨ek, P2⟩ := r
  simp only at cKeep
  unfold tabV at cKeep
  clear h hmv hok hok2 hlen hl hm0 hsp hc
  go_enter Tryz.func251, Tryz.ntmps251
  go_wp2_with (first | (go_at_call 155; refine (rCheck_any 0 (by decide)).mono ?_; rintro e w' ⟨rfl, rfl⟩) | (go_at_call 229; refine cMove.out.mono ?_; rintro e w2 ⟨mv2, rfl, hmv2, hm2, hf2⟩; obtain ⟨A2, c2, e2, _⟩ := mv_shape hmv2; subst e2; have HMV2 := Lib.hid hmv2; have HM2 := Lib.hid hm2; have HF2 := Lib.hid hf2; clear hmv2 hm2 hf2) | (go_at_call 55; refine (cKeep.out _ _ (HM2.out.alloc _) (IsMv.keep HMV2.out ((Mods.refl [] w2).alloc _) (by simp)) HF2.out).mono ?_; rintro e w3 ⟨gp', fx', rfl, hp, hm, hnf, hng⟩))
  go_ret
  have hm0 : Mods [] W _ := HM2.out.alloc (.cells #[.int .i64 (t2.blocks : Nat), .int .i64 (t2.spares : Nat), .slice A2 t2.moved.length c2] 71)
  have hm0s := hm0.size
  exact ⟨rfl, gp', fx', Lib.hid ⟨hp.out, (hm0.mono (by simp)).trans hm.out (fun z hz => .inl hz), fun k hk g hg => (hnf.out k hk g hg).imp id (fun h => Nat.le_trans hm0s h), fun g hg => (hng.out g hg).elim .inl (fun h => .inr (h.elim (fun h => HF2.out g h) (fun h => Nat.le_trans hm0s h)))⟩⟩
 ·have hne : ¬ (en : Int) = 0 := by omega
  have hb : ((en : Int) == 0) = false := by simpa using hen
  clear h hmv hok hok2 hlen hm0 hsp hc
  go_enter Tryz.func251, Tryz.ntmps251
  go_wp2_with (first | (go_at_call 155; refine (rCheck_any 0 (by decide)).mono ?_; rintro e w' ⟨rfl, rfl⟩) | (go_at_call 229; refine cMove.out.mono ?_; rintro e w2 ⟨mv2, rfl, hmv2, hm2, hf2⟩; obtain ⟨A2, c2, e2, _⟩ := mv_shape hmv2; subst e2))
  go_ret
  refine ⟨by first | rfl | simp [hen], gp, fx, Lib.hid (by first | exact PairTo.still HP.out (hm2.alloc _) | (rw [if_pos hen]; exact PairTo.still HP.out (hm2.alloc _)))⟩
theorem rTable_1 {W : World} {b : Nat} {gp : List Nat} {x : Nat → Nat} {fx : Nat → List Nat} {P : Pr} (h : IsPair W b gp x fx P) :
  Calls Tryz.prog 31 #[.pointer (some ⟨b, 0, none⟩), .int .i64 1] W fun e w' => ∃ mv, e = .returned (tabV (P.tab 1) mv) ∧ IsMv w' mv (P.tab 1).moved ∧ (∀ g, mv.ownBlock = some g → g ∈ gp ∧ ∀ k, k < 2 → g ∉ fx k) ∧ Mods [] W w' := by
 obtain ⟨w1, hw1⟩ : ∃ w1, W.alloc (.cells #[.int .i64 0, .int .i64 0, .slice none 0 0] 71) = w1 := ⟨_, rfl⟩
 have hx1 : Blk w1 W.heap.size 71 [.int .i64 0, .int .i64 0, .slice none 0 0] := by rw [← hw1]; exact Blk.new W 71 [.int .i64 0, .int .i64 0, .slice none 0 0]
 have hm1 : Mods [] W w1 := by rw [← hw1]; exact (Mods.refl _ _).alloc _
 obtain ⟨A, c, _, d1, d2, d3, hmv, _, hgp⟩ := (h.keep0 hm1).at1 1 (by decide)
 have hbW := h.pb.lt b (by obtain ⟨_, _, _, hg, _⟩ := h.pb; rw [hg]; simp [pairFoot])
 have hne : ¬ W.heap.size = b := by omega
 have s0 := hx1.cell (i := 0) rfl
 have s1 := hx1.cell (i := 1) rfl
 have s2 := hx1.cell (i := 2) rfl
 have f0 := hx1.free 0
 have f1 := hx1.free 1
 have f2 := hx1.free 2
 have HX := Lib.hid hx1
 have HM := Lib.hid hm1
 have HMV := Lib.hid hmv
 have HGP := Lib.hid hgp
 have cIs := Lib.hid (fun W => rIs_ok W 1 (by decide))
 have HLT : Hid (∀ g, (Value.slice A (P.tab 1).moved.length c).ownBlock = some g → g < W.heap.size) := Lib.hid (fun g hg => h.pb.lt g (hgp g hg).1)
 obtain ⟨m0, hm0⟩ : ∃ m0, (P.tab 1).moved.length = m0 := ⟨_, rfl⟩
 rw [hm0] at d3
 have HM0 := Lib.hid hm0
 clear hx1 hm1 hmv hgp h hbW hm0
 go_enter Tryz.func31, Tryz.ntmps31
 go_wp2_with (go_at_call 52; refine (cIs.out _).mono ?_; rintro e w' ⟨rfl, rfl⟩)
 obtain ⟨k1, k2⟩ := three_sets HX.out (.int .i64 ((P.tab 1).blocks : Nat)) (.int .i64 ((P.tab 1).spares : Nat)) (.slice A m0 c)
 refine bodyPost_ret (results_c rfl rfl (load_tab k1)) rfl ?_
 refine ⟨.slice A (P.tab 1).moved.length c, by rw [HM0.out]; rfl, IsMv.keep HMV.out k2 (fun g hg => by have := HLT.out g hg; simp; omega), HGP.out, HM.out.trans k2 (fun k hk => .inr (by rw [List.mem_singleton.1 hk]; exact Nat.le_refl _))⟩
set_option maxHeartbeats 1600000 in
theorem rMove_1 {W : World} {b : Nat} {gp : List Nat} {x : Nat → Nat} {fx : Nat → List Nat} {P : Pr} (h : IsPair W b gp x fx P) (i : Int) (hsp : (P.tab 1).spares = P.n) (hc : ∀ k, k < 2 → (P.dev k).cache.length + 1 < 1000000) :
  Calls Tryz.prog 251 #[.pointer (some ⟨b, 0, none⟩), .int .i64 1, .int .i64 i] W fun e w' => ∃ gp' fx', e = .returned (.int .i64 ((P.move 1 i).1 : Nat)) ∧ Hid (PairTo W w' b gp gp' x fx fx' (P.move 1 i).2) := by
 obtain ⟨A, c, _, d1, d2, d3, hmv, hok, _⟩ := h.at1 1 (by decide)
 have cMove := Lib.hid (tMove_any hmv hok i)
 have hok2 := hok.mv i
 have hlen : ((P.tab 1).move i).2 = 0 → ((P.tab 1).move i).1.moved.length ≤ P.n := by
  intro h0
  have h1 := hok2.len
  have h2 : ((P.tab 1).move i).1.spares = (P.tab 1).spares := by
   unfold Tab.move at h0 ⊢
   split at h0
   ·cases h0
   ·split at h0
    ·cases h0
    ·rename_i g1 g2; rw [if_neg g1, if_neg g2]
  omega
 unfold Pr.move
 generalize (P.tab 1).move i = r at cMove hok2 hlen ⊢
 obtain ⟨t2, en⟩ := r
 simp only at cMove hok2 hlen ⊢
 have HP := Lib.hid h
 have HO := Lib.hid hok2
 unfold tabV at cMove
 obtain ⟨m0, hm0⟩ : ∃ m0, (P.tab 1).moved.length = m0 := ⟨_, rfl⟩
 rw [hm0] at d3 cMove
 by_cases hen : en = 0
 ·subst hen
  have hl := hlen rfl
  have cKeep := Lib.hid (fun (w : World) (mv : Value) (hm : Mods [] W w) (hmv : IsMv w mv t2.moved) (hf : ∀ g, mv.ownBlock = some g → W.heap.size ≤ g) => rKeep_any (h.keep0 hm) 1 (by decide) hmv (fun g hg k hk hz => by have h1 := hf g hg; have h2 := (h.dev k hk).lt g hz; omega) hok2 hl hc)
  generalize P.keep 1 t2 = r at cKeep ⊢
  obtain ⟨ek, P2⟩ := r
  simp only at cKeep
  unfold tabV at cKeep
  clear h hmv hok hok2 hlen hl hm0 hsp hc
  go_enter Tryz.func251, Tryz.ntmps251
  go_wp2_with (first | (go_at_call 155; refine (rCheck_any 1 (by decide)).mono ?_; rintro e w' ⟨rfl, rfl⟩) | (go_at_call 229; refine cMove.out.mono ?_; rintro e w2 ⟨mv2, rfl, hmv2, hm2, hf2⟩; obtain ⟨A2, c2, e2, _⟩ := mv_shape hmv2; subst e2; have HMV2 := Lib.hid hmv2; have HM2 := Lib.hid hm2; have HF2 := Lib.hid hf2; clear hmv2 hm2 hf2) | (go_at_call 55; refine (cKeep.out _ _ (HM2.out.alloc _) (IsMv.keep HMV2.out ((Mods.refl [] w2).alloc _) (by simp)) HF2.out).mono ?_; rintro e w3 ⟨gp', fx', rfl, hp, hm, hnf, hng⟩))
  go_ret
  have hm0 : Mods [] W _ := HM2.out.alloc (.cells #[.int .i64 (t2.blocks : Nat), .int .i64 (t2.spares : Nat), .slice A2 t2.moved.length c2] 71)
  have hm0s := hm0.size
  exact ⟨rfl, gp', fx', Lib.hid ⟨hp.out, (hm0.mono (by simp)).trans hm.out (fun z hz => .inl hz), fun k hk g hg => (hnf.out k hk g hg).imp id (fun h => Nat.le_trans hm0s h), fun g hg => (hng.out g hg).elim .inl (fun h => .inr (h.elim (fun h => HF2.out g h) (fun h => Nat.le_trans hm0s h)))⟩⟩
 ·have hne : ¬ (en : Int) = 0 := by omega
  have hb : ((en : Int) == 0) = false := by simpa using hen
  clear h hmv hok hok2 hlen hm0 hsp hc
  go_enter Tryz.func251, Tryz.ntmps251
  go_wp2_with (first | (go_at_call 155; refine (rCheck_any 1 (by decide)).mono ?_; rintro e w' ⟨rfl, rfl⟩) | (go_at_call 229; refine cMove.out.mono ?_; rintro e w2 ⟨mv2, rfl, hmv2, hm2, hf2⟩; obtain ⟨A2, c2, e2, _⟩ := mv_shape hmv2; subst e2))
  go_ret
  refine ⟨by first | rfl | simp [hen], gp, fx, Lib.hid (by first | exact PairTo.still HP.out (hm2.alloc _) | (rw [if_pos hen]; exact PairTo.still HP.out (hm2.alloc _)))⟩
end Go.Proofs.YtkjpdfomppjiiaaGreatDoor
/- A pair's Write. (Printed by wip/pair9.py.) -/
namespace Go.Proofs.YtkjpdfomppjiiaaGreatDoor
open Go.RowKit

def lenAt (w : World) (b o : Nat) : Nat := match w.cell? ⟨b, o, none⟩ with
 | some (.slice _ n _) => n
 | _ => 0
theorem tmove_ok {t : Tab} {i : Int} (h : (t.move i).2 = 0) : (t.move i).1 = { t with moved := t.moved ++ [i.toNat] } ∧ t.moved.length < t.spares := by
 unfold Tab.move at h ⊢
 split at h
 ·cases h
 ·split at h
  ·cases h
  ·rename_i g1 g2
   rw [if_neg g1, if_neg g2]
   exact ⟨rfl, by omega⟩
theorem move_tab (P : Pr) (s : Nat) (i : Int) (k : Nat) (h : (P.move s i).1 = 0) : (P.move s i).2.n = P.n ∧ ((P.move s i).2.tab s).spares = (P.tab s).spares ∧ ((P.move s i).2.tab s).moved.length = (P.tab s).moved.length + 1 ∧ (P.tab s).moved.length < (P.tab s).spares ∧ ((P.move s i).2.dev k).cache.length ≤ (P.dev k).cache.length + 1 := by
 unfold Pr.move at h ⊢
 by_cases h2 : ((P.tab s).move i).2 = 0
 ·rw [if_neg (by simpa using h2)] at h ⊢
  obtain ⟨k1, k2, k3, _⟩ := keep_same P s ((P.tab s).move i).1 k
  obtain ⟨e1, e2⟩ := tmove_ok h2
  have e3 : (P.keep s ((P.tab s).move i).1).2.tab s = ((P.tab s).move i).1 := by rw [k3 h]; simp
  refine ⟨k2, ?_, ?_, e2, k1⟩
  ·rw [e3, e1]
  ·rw [e3, e1]; simp
 ·rw [if_pos h2] at h; exact absurd h h2
structure WrIn (W wr : World) (b : Nat) (gp gp' : List Nat) (x : Nat → Nat) (fx fx' : Nat → List Nat) (n : Nat) (s : Nat) (P' : Pr) (k : Nat) : Prop where
 toP : PairTo W wr b gp gp' x fx fx' P'
 sp : (P'.tab s).spares = P'.n
 nn : P'.n = n
 left : (P'.tab s).spares - (P'.tab s).moved.length < k
 cache : ∀ j, j < 2 → (P'.dev j).cache.length + 2 * k + 10 < 1000000
set_option maxRecDepth 100000 in
set_option maxHeartbeats 3200000 in
theorem rWrite_0 {W : World} {b : Nat} {gp : List Nat} {x : Nat → Nat} {fx : Nat → List Nat} {P : Pr} (h : IsPair W b gp x fx P) (i : Int) (img : ByteArray) (hsp : (P.tab 0).spares = P.n) (k : Nat) (hk : (P.tab 0).spares - (P.tab 0).moved.length < k) (hc : ∀ j, j < 2 → (P.dev j).cache.length + 2 * k + 10 < 1000000) :
  Calls Tryz.prog 218 #[.pointer (some ⟨b, 0, none⟩), .int .i64 0, .int .i64 i, .string img] W fun e w' => ∃ gp' fx', e = .returned (.int .i64 ((Pr.write k P 0 i img).1 : Nat)) ∧ Hid (PairTo W w' b gp gp' x fx fx' (Pr.write k P 0 i img).2) := by
 obtain ⟨R, hR⟩ : ∃ R, Pr.write k P 0 i img = R := ⟨_, rfl⟩
 rw [hR]
 have HRR := Lib.hid hR
 have H0 : Hid (WrIn W W b gp gp x fx fx P.n 0 P k) := Lib.hid ⟨PairTo.still h (Mods.refl _ _), hsp, rfl, hk, hc⟩
 obtain ⟨R1, R2⟩ := R
 clear h hsp hk hc hR
 go_enter Tryz.func218, Tryz.ntmps218
 go_wp2_with fail
 go_loopw [9, 10] (fun _ _ wr => ∃ (k' : Nat) (P' : Pr) (gp' : List Nat) (fx' : Nat → List Nat), Hid (WrIn W wr b gp gp' x fx fx' P.n 0 P' k') ∧ Hid (Pr.write k' P' 0 i img = (R1, R2))) (fun _ _ wr => 100 - lenAt wr b 6)
 case atStart => exact ⟨k, P, gp, fx, H0, HRR⟩
 case round =>
  obtain ⟨k', P', gp', fx', HI, HR⟩ := hrel
  have hleft := HI.out.left
  obtain ⟨kk, rfl⟩ : ∃ kk, k' = kk + 1 := ⟨k' - 1, by omega⟩
  have hw := HR.out
  rw [Pr.write] at hw
  have hp := HI.out.toP.pair
  have cSec := Lib.hid (rSector_0 hp i)
  have HC : Hid (∀ w', Mods [] wr w' → w'.cell? ⟨b, 2, none⟩ = some (.pointer (some ⟨x 0, 0, none⟩))) := Lib.hid (fun w' hm => by
   obtain ⟨A, c, d0, _⟩ := (hp.keep0 hm).at1 0 (by decide)
   exact d0)
  obtain ⟨A, c, _, _, _, d3, _⟩ := hp.at1 0 (by decide)
  have HLEN : Hid (lenAt wr b 6 = (P'.tab 0).moved.length) := Lib.hid (by unfold lenAt; rw [d3])
  clear d3
  generalize hsec : P'.sector 0 i = r at cSec hw
  obtain ⟨sc, en⟩ := r
  simp only at cSec hw
  by_cases hen : en = 0
  ·subst hen
   rw [if_neg (by simp)] at hw
   have cWrite := Lib.hid (fun w' (hm : Mods [] wr w') => dWrite_ex ((hp.keep0 hm).dev 0 (by decide)) (by have := HI.out.cache 0 (by decide); omega) (sc : Nat) img)
   have hsh := write_shape (P'.dev 0) (sc : Nat) img
   have hwc := write_cache (P'.dev 0) (sc : Nat) img
   generalize (P'.dev 0).write (sc : Nat) img = q at cWrite hw hsh hwc
   obtain ⟨ew, D1⟩ := q
   simp only at cWrite hw hsh hwc
   have HSH := Lib.hid hsh
   by_cases hew : ew = 7
   ·subst hew
    rw [if_neg (by simp)] at hw
    have hc1 : ∀ j, j < 2 → ((P'.setDev 0 D1).dev j).cache.length ≤ (P'.dev j).cache.length + 1 := by
     intro j hj
     show (if j = 0 then D1 else P'.dev j).cache.length ≤ _
     split
     ·rename_i e; rw [e]; exact hwc
     ·omega
    have cMove := Lib.hid (fun (w : World) (gp2 : List Nat) (fx2 : Nat → List Nat) (h2 : IsPair w b gp2 x fx2 (P'.setDev 0 D1)) => rMove_0 h2 i HI.out.sp (fun j hj => by have h1 := hc1 j hj; have h3 := HI.out.cache j hj; omega))
    have hmt := fun j => move_tab (P'.setDev 0 D1) 0 i j
    generalize (P'.setDev 0 D1).move 0 i = q at cMove hw hmt
    obtain ⟨em, P2⟩ := q
    simp only at cMove hw hmt
    have HMT := Lib.hid hmt
    have HC1 := Lib.hid hc1
    have HW := Lib.hid hw
    have HP := Lib.hid hp
    clear hmt hc1 hw hp hsh hwc hsec
    by_cases hem : em = 0
    ·subst hem
     go_wp2_with (first | (go_at_call 188; refine cSec.out.mono ?_; rintro e w2 ⟨rfl, hm2⟩; have d0 := HC.out w2 hm2; have HM2 := Lib.hid hm2; clear hm2) | (go_at_call 164; refine (cWrite.out _ HM2.out).mono ?_; rintro e w3 ⟨fp1, rfl, hd, hn, hm⟩; have HT3 : Hid (PairTo w2 w3 b gp' gp' x fx' (upd fx' 0 fp1) (P'.setDev 0 D1)) := Lib.hid (PairTo.dev (HP.out.keep0 HM2.out) (by decide) ⟨hd.out, hn.out, hm.out⟩ HSH.out); clear hd hn hm) | (go_at_call 251; refine (cMove.out _ _ _ HT3.out.pair).mono ?_; rintro e w4 ⟨gp4, fx4, rfl, HT4⟩))
     have HT : Hid (PairTo W w4 b gp gp4 x fx fx4 P2) := Lib.hid (((HI.out.toP.trans (PairTo.still HP.out HM2.out)).trans HT3.out).trans HT4.out)
     go_roundw
     case rel =>
      refine ⟨kk, P2, gp4, fx4, Lib.hid ⟨HT.out, ?_, ?_, ?_, ?_⟩, Lib.hid (by have h := HW.out; rw [if_neg (by simp)] at h; exact h)⟩
      ·obtain ⟨k1, k2, _, _, _⟩ := HMT.out 0 trivial
       rw [k2, k1]; exact HI.out.sp
      ·obtain ⟨k1, _⟩ := HMT.out 0 trivial
       rw [k1]; exact HI.out.nn
      ·obtain ⟨_, k2, k3, k4, _⟩ := HMT.out 0 trivial
       have e1 : ((P'.setDev 0 D1).tab 0) = P'.tab 0 := rfl
       rw [e1] at k2 k3 k4
       omega
      ·intro j hj
       obtain ⟨_, _, _, _, k5⟩ := HMT.out j trivial
       have h1 := HC1.out j hj
       have h3 := HI.out.cache j hj
       omega
     case measure =>
      obtain ⟨_, k2, k3, k4, _⟩ := HMT.out 0 trivial
      have e1 : ((P'.setDev 0 D1).tab 0) = P'.tab 0 := rfl
      rw [e1] at k2 k3 k4
      obtain ⟨A4, c4, _, _, _, d4, _, hok4, _⟩ := HT.out.pair.at1 0 (by decide)
      have hl4 : lenAt w4 b 6 = (P2.tab 0).moved.length := by unfold lenAt; rw [d4]
      rw [HLEN.out, hl4]
      have h5 := hok4.len
      have h6 := hok4.spares
      omega
    ·have hne : ¬ (em : Int) = 0 := by omega
     have hb : ((em : Int) == 0) = false := by simpa using hem
     go_wp2_with (first | (go_at_call 188; refine cSec.out.mono ?_; rintro e w2 ⟨rfl, hm2⟩; have d0 := HC.out w2 hm2; have HM2 := Lib.hid hm2; clear hm2) | (go_at_call 164; refine (cWrite.out _ HM2.out).mono ?_; rintro e w3 ⟨fp1, rfl, hd, hn, hm⟩; have HT3 : Hid (PairTo w2 w3 b gp' gp' x fx' (upd fx' 0 fp1) (P'.setDev 0 D1)) := Lib.hid (PairTo.dev (HP.out.keep0 HM2.out) (by decide) ⟨hd.out, hn.out, hm.out⟩ HSH.out); clear hd hn hm) | (go_at_call 251; refine (cMove.out _ _ _ HT3.out.pair).mono ?_; rintro e w4 ⟨gp4, fx4, rfl, HT4⟩))
     have HT : Hid (PairTo W w4 b gp gp4 x fx fx4 P2) := Lib.hid (((HI.out.toP.trans (PairTo.still HP.out HM2.out)).trans HT3.out).trans HT4.out)
     have hfin := HW.out
     rw [if_pos hem] at hfin
     injection hfin with e1 e2
     subst e1
     subst e2
     go_ret
     exact ⟨gp4, fx4, rfl, HT⟩
   ·have hne : ¬ (ew : Int) = 7 := by omega
    have hb : ((ew : Int) == 7) = false := beq_eq_false_iff_ne.2 hne
    rw [if_pos hew] at hw
    injection hw with e1 e2
    subst e1
    subst e2
    have HP := Lib.hid hp
    clear hp hsh hwc hsec
    go_wp2_with (first | (go_at_call 188; refine cSec.out.mono ?_; rintro e w2 ⟨rfl, hm2⟩; have d0 := HC.out w2 hm2; have HM2 := Lib.hid hm2; clear hm2) | (go_at_call 164; refine (cWrite.out _ HM2.out).mono ?_; rintro e w3 ⟨fp1, rfl, hd, hn, hm⟩; have HT3 : Hid (PairTo w2 w3 b gp' gp' x fx' (upd fx' 0 fp1) (P'.setDev 0 D1)) := Lib.hid (PairTo.dev (HP.out.keep0 HM2.out) (by decide) ⟨hd.out, hn.out, hm.out⟩ HSH.out); clear hd hn hm))
    go_ret
    exact ⟨gp', _, rfl, Lib.hid ((HI.out.toP.trans (PairTo.still HP.out HM2.out)).trans HT3.out)⟩
  ·have hne : ¬ (en : Int) = 0 := by omega
   have hb : ((en : Int) == 0) = false := by simpa using hen
   rw [if_pos hen] at hw
   injection hw with e1 e2
   subst e1
   subst e2
   have HP := Lib.hid hp
   clear hp hsec
   go_wp2_with (first | (go_at_call 188; refine cSec.out.mono ?_; rintro e w2 ⟨rfl, hm2⟩))
   go_ret
   exact ⟨gp', fx', rfl, Lib.hid (HI.out.toP.trans (PairTo.still HP.out hm2))⟩
set_option maxRecDepth 100000 in
set_option maxHeartbeats 3200000 in
theorem rWrite_1 {W : World} {b : Nat} {gp : List Nat} {x : Nat → Nat} {fx : Nat → List Nat} {P : Pr} (h : IsPair W b gp x fx P) (i : Int) (img : ByteArray) (hsp : (P.tab 1).spares = P.n) (k : Nat) (hk : (P.tab 1).spares - (P.tab 1).moved.length < k) (hc : ∀ j, j < 2 → (P.dev j).cache.length + 2 * k + 10 < 1000000) :
  Calls Tryz.prog 218 #[.pointer (some ⟨b, 0, none⟩), .int .i64 1, .int .i64 i, .string img] W fun e w' => ∃ gp' fx', e = .returned (.int .i64 ((Pr.write k P 1 i img).1 : Nat)) ∧ Hid (PairTo W w' b gp gp' x fx fx' (Pr.write k P 1 i img).2) := by
 obtain ⟨R, hR⟩ : ∃ R, Pr.write k P 1 i img = R := ⟨_, rfl⟩
 rw [hR]
 have HRR := Lib.hid hR
 have H0 : Hid (WrIn W W b gp gp x fx fx P.n 1 P k) := Lib.hid ⟨PairTo.still h (Mods.refl _ _), hsp, rfl, hk, hc⟩
 obtain ⟨R1, R2⟩ := R
 clear h hsp hk hc hR
 go_enter Tryz.func218, Tryz.ntmps218
 go_wp2_with fail
 go_loopw [9, 10] (fun _ _ wr => ∃ (k' : Nat) (P' : Pr) (gp' : List Nat) (fx' : Nat → List Nat), Hid (WrIn W wr b gp gp' x fx fx' P.n 1 P' k') ∧ Hid (Pr.write k' P' 1 i img = (R1, R2))) (fun _ _ wr => 100 - lenAt wr b 9)
 case atStart => exact ⟨k, P, gp, fx, H0, HRR⟩
 case round =>
  obtain ⟨k', P', gp', fx', HI, HR⟩ := hrel
  have hleft := HI.out.left
  obtain ⟨kk, rfl⟩ : ∃ kk, k' = kk + 1 := ⟨k' - 1, by omega⟩
  have hw := HR.out
  rw [Pr.write] at hw
  have hp := HI.out.toP.pair
  have cSec := Lib.hid (rSector_1 hp i)
  have HC : Hid (∀ w', Mods [] wr w' → w'.cell? ⟨b, 3, none⟩ = some (.pointer (some ⟨x 1, 0, none⟩))) := Lib.hid (fun w' hm => by
   obtain ⟨A, c, d0, _⟩ := (hp.keep0 hm).at1 1 (by decide)
   exact d0)
  obtain ⟨A, c, _, _, _, d3, _⟩ := hp.at1 1 (by decide)
  have HLEN : Hid (lenAt wr b 9 = (P'.tab 1).moved.length) := Lib.hid (by unfold lenAt; rw [d3])
  clear d3
  generalize hsec : P'.sector 1 i = r at cSec hw
  obtain ⟨sc, en⟩ := r
  simp only at cSec hw
  by_cases hen : en = 0
  ·subst hen
   rw [if_neg (by simp)] at hw
   have cWrite := Lib.hid (fun w' (hm : Mods [] wr w') => dWrite_ex ((hp.keep0 hm).dev 1 (by decide)) (by have := HI.out.cache 1 (by decide); omega) (sc : Nat) img)
   have hsh := write_shape (P'.dev 1) (sc : Nat) img
   have hwc := write_cache (P'.dev 1) (sc : Nat) img
   generalize (P'.dev 1).write (sc : Nat) img = q at cWrite hw hsh hwc
   obtain ⟨ew, D1⟩ := q
   simp only at cWrite hw hsh hwc
   have HSH := Lib.hid hsh
   by_cases hew : ew = 7
   ·subst hew
    rw [if_neg (by simp)] at hw
    have hc1 : ∀ j, j < 2 → ((P'.setDev 1 D1).dev j).cache.length ≤ (P'.dev j).cache.length + 1 := by
     intro j hj
     show (if j = 1 then D1 else P'.dev j).cache.length ≤ _
     split
     ·rename_i e; rw [e]; exact hwc
     ·omega
    have cMove := Lib.hid (fun (w : World) (gp2 : List Nat) (fx2 : Nat → List Nat) (h2 : IsPair w b gp2 x fx2 (P'.setDev 1 D1)) => rMove_1 h2 i HI.out.sp (fun j hj => by have h1 := hc1 j hj; have h3 := HI.out.cache j hj; omega))
    have hmt := fun j => move_tab (P'.setDev 1 D1) 1 i j
    generalize (P'.setDev 1 D1).move 1 i = q at cMove hw hmt
    obtain ⟨em, P2⟩ := q
    simp only at cMove hw hmt
    have HMT := Lib.hid hmt
    have HC1 := Lib.hid hc1
    have HW := Lib.hid hw
    have HP := Lib.hid hp
    clear hmt hc1 hw hp hsh hwc hsec
    by_cases hem : em = 0
    ·subst hem
     go_wp2_with (first | (go_at_call 188; refine cSec.out.mono ?_; rintro e w2 ⟨rfl, hm2⟩; have d0 := HC.out w2 hm2; have HM2 := Lib.hid hm2; clear hm2) | (go_at_call 164; refine (cWrite.out _ HM2.out).mono ?_; rintro e w3 ⟨fp1, rfl, hd, hn, hm⟩; have HT3 : Hid (PairTo w2 w3 b gp' gp' x fx' (upd fx' 1 fp1) (P'.setDev 1 D1)) := Lib.hid (PairTo.dev (HP.out.keep0 HM2.out) (by decide) ⟨hd.out, hn.out, hm.out⟩ HSH.out); clear hd hn hm) | (go_at_call 251; refine (cMove.out _ _ _ HT3.out.pair).mono ?_; rintro e w4 ⟨gp4, fx4, rfl, HT4⟩))
     have HT : Hid (PairTo W w4 b gp gp4 x fx fx4 P2) := Lib.hid (((HI.out.toP.trans (PairTo.still HP.out HM2.out)).trans HT3.out).trans HT4.out)
     go_roundw
     case rel =>
      refine ⟨kk, P2, gp4, fx4, Lib.hid ⟨HT.out, ?_, ?_, ?_, ?_⟩, Lib.hid (by have h := HW.out; rw [if_neg (by simp)] at h; exact h)⟩
      ·obtain ⟨k1, k2, _, _, _⟩ := HMT.out 0 trivial
       rw [k2, k1]; exact HI.out.sp
      ·obtain ⟨k1, _⟩ := HMT.out 0 trivial
       rw [k1]; exact HI.out.nn
      ·obtain ⟨_, k2, k3, k4, _⟩ := HMT.out 0 trivial
       have e1 : ((P'.setDev 1 D1).tab 1) = P'.tab 1 := rfl
       rw [e1] at k2 k3 k4
       omega
      ·intro j hj
       obtain ⟨_, _, _, _, k5⟩ := HMT.out j trivial
       have h1 := HC1.out j hj
       have h3 := HI.out.cache j hj
       omega
     case measure =>
      obtain ⟨_, k2, k3, k4, _⟩ := HMT.out 0 trivial
      have e1 : ((P'.setDev 1 D1).tab 1) = P'.tab 1 := rfl
      rw [e1] at k2 k3 k4
      obtain ⟨A4, c4, _, _, _, d4, _, hok4, _⟩ := HT.out.pair.at1 1 (by decide)
      have hl4 : lenAt w4 b 9 = (P2.tab 1).moved.length := by unfold lenAt; rw [d4]
      rw [HLEN.out, hl4]
      have h5 := hok4.len
      have h6 := hok4.spares
      omega
    ·have hne : ¬ (em : Int) = 0 := by omega
     have hb : ((em : Int) == 0) = false := by simpa using hem
     go_wp2_with (first | (go_at_call 188; refine cSec.out.mono ?_; rintro e w2 ⟨rfl, hm2⟩; have d0 := HC.out w2 hm2; have HM2 := Lib.hid hm2; clear hm2) | (go_at_call 164; refine (cWrite.out _ HM2.out).mono ?_; rintro e w3 ⟨fp1, rfl, hd, hn, hm⟩; have HT3 : Hid (PairTo w2 w3 b gp' gp' x fx' (upd fx' 1 fp1) (P'.setDev 1 D1)) := Lib.hid (PairTo.dev (HP.out.keep0 HM2.out) (by decide) ⟨hd.out, hn.out, hm.out⟩ HSH.out); clear hd hn hm) | (go_at_call 251; refine (cMove.out _ _ _ HT3.out.pair).mono ?_; rintro e w4 ⟨gp4, fx4, rfl, HT4⟩))
     have HT : Hid (PairTo W w4 b gp gp4 x fx fx4 P2) := Lib.hid (((HI.out.toP.trans (PairTo.still HP.out HM2.out)).trans HT3.out).trans HT4.out)
     have hfin := HW.out
     rw [if_pos hem] at hfin
     injection hfin with e1 e2
     subst e1
     subst e2
     go_ret
     exact ⟨gp4, fx4, rfl, HT⟩
   ·have hne : ¬ (ew : Int) = 7 := by omega
    have hb : ((ew : Int) == 7) = false := beq_eq_false_iff_ne.2 hne
    rw [if_pos hew] at hw
    injection hw with e1 e2
    subst e1
    subst e2
    have HP := Lib.hid hp
    clear hp hsh hwc hsec
    go_wp2_with (first | (go_at_call 188; refine cSec.out.mono ?_; rintro e w2 ⟨rfl, hm2⟩; have d0 := HC.out w2 hm2; have HM2 := Lib.hid hm2; clear hm2) | (go_at_call 164; refine (cWrite.out _ HM2.out).mono ?_; rintro e w3 ⟨fp1, rfl, hd, hn, hm⟩; have HT3 : Hid (PairTo w2 w3 b gp' gp' x fx' (upd fx' 1 fp1) (P'.setDev 1 D1)) := Lib.hid (PairTo.dev (HP.out.keep0 HM2.out) (by decide) ⟨hd.out, hn.out, hm.out⟩ HSH.out); clear hd hn hm))
    go_ret
    exact ⟨gp', _, rfl, Lib.hid ((HI.out.toP.trans (PairTo.still HP.out HM2.out)).trans HT3.out)⟩
  ·have hne : ¬ (en : Int) = 0 := by omega
   have hb : ((en : Int) == 0) = false := by simpa using hen
   rw [if_pos hen] at hw
   injection hw with e1 e2
   subst e1
   subst e2
   have HP := Lib.hid hp
   clear hp hsec
   go_wp2_with (first | (go_at_call 188; refine cSec.out.mono ?_; rintro e w2 ⟨rfl, hm2⟩))
   go_ret
   exact ⟨gp', fx', rfl, Lib.hid (HI.out.toP.trans (PairTo.still HP.out hm2))⟩
end Go.Proofs.YtkjpdfomppjiiaaGreatDoor
namespace Go.Proofs.YtkjpdfomppjiiaaGreatDoor
open Go.RowKit

structure Devs (w : World) (x : Nat → Nat) (fx : Nat → List Nat) (dev : Nat → Dev) : Prop where
 devs : ∀ s, s < 2 → IsDev w (x s) (fx s) (dev s)
 apart : ∀ s, s < 2 → ∀ g ∈ fx s, g ∉ fx (1 - s)
 same : ∀ s, s < 2 → (dev s).size = (dev 0).size ∧ (dev s).sectors = (dev 0).sectors
def newP (n : Nat) (dev : Nat → Dev) : Pr := ⟨n, dev, fun _ => Tab.zero⟩
theorem Devs.keep0 {w w' : World} {x : Nat → Nat} {fx : Nat → List Nat} {dev : Nat → Dev} (h : Devs w x fx dev) (hm : Mods [] w w') : Devs w' x fx dev :=
 ⟨fun s hs => (h.devs s hs).keep hm (by simp), h.apart, h.same⟩
theorem IsPair.devs {w : World} {b : Nat} {gp : List Nat} {x : Nat → Nat} {fx : Nat → List Nat} {P : Pr} (h : IsPair w b gp x fx P) : Devs w x fx P.dev := ⟨h.dev, h.apart, h.same⟩
theorem Devs.ne {w : World} {x : Nat → Nat} {fx : Nat → List Nat} {dev : Nat → Dev} (h : Devs w x fx dev) : x 0 ≠ x 1 := fun e => by
 have h0 := (h.devs 0 (by decide)).head
 have h1 := (h.devs 1 (by decide)).head
 rw [← e] at h1
 exact h.apart 0 (by decide) _ h0 h1
theorem Devs.sh {w : World} {x : Nat → Nat} {fx : Nat → List Nat} {dev : Nat → Dev} (h : Devs w x fx dev) {s : Nat} (hs : s < 2) :
  Calls Tryz.prog 53 #[.pointer (some ⟨x s, 0, none⟩)] w fun e w' => e = .returned (.agg #[.int .i64 ((dev 0).sectors : Nat), .int .i64 ((dev 0).size : Nat)]) ∧ Mods [] w w' := by
 have h2 := h.same s hs
 rw [← h2.1, ← h2.2]
 exact dShape_any (h.devs s hs)
theorem IsDev.heap {w : World} {b : Nat} {fp : List Nat} {D : Dev} (h : IsDev w b fp D) : ∃ c, w.heap[b]? = some (.cells c 106 (0, 0)) := by
 obtain ⟨mb, bb, cv, c0, c1, c2, hi, _⟩ := h
 exact ⟨_, hi.dev⟩
theorem dev_ne {w : World} {a c : Nat} {fa fc : List Nat} {D E : Dev} (ha : IsDev w a fa D) (hc : IsDev w c fc E) (h : a ≠ c) : (binOp .eql 22 (.pointer (some ⟨a, 0, none⟩)) (.pointer (some ⟨c, 0, none⟩))).run Tryz.prog w = .ok (.bool false) w := by
 obtain ⟨ca, h1⟩ := ha.heap
 obtain ⟨cc, h2⟩ := hc.heap
 obtain ⟨i0, hi0, hz, _⟩ : ∃ i, Tryz.prog.info? 106 = some i ∧ i.size ≠ 0 ∧ True := by
  obtain ⟨i, hi⟩ := Option.isSome_iff_exists.1 (show (Tryz.prog.info? 106).isSome = true by kernel_rfl)
  have hs : (Tryz.prog.info? 106).map (·.size) = some 14 := by kernel_rfl
  rw [hi] at hs
  injection hs with hs
  replace hs : i.size = 14 := hs
  exact ⟨i, hi, by rw [hs]; decide, trivial⟩
 exact run_eql_ptr_other w (tp := 22) (te := 106) (j := i0) Tryz.underlying22 hi0 hz (by intro e; injection e with e; exact h e) h1 h2
set_option maxRecDepth 100000 in
set_option maxHeartbeats 1600000 in
theorem rMade_any {W : World} {x : Nat → Nat} {fx : Nat → List Nat} {dev : Nat → Dev} (h : Devs W x fx dev) (n : Nat) (hf : (newP n dev).Fit) :
  Calls Tryz.prog 57 #[.pointer (some ⟨x 0, 0, none⟩), .pointer (some ⟨x 1, 0, none⟩), .int .i64 (n : Nat)] W fun e w' => ∃ b gp, e = .returned (.tuple #[.pointer (some ⟨b, 0, none⟩), .int .i64 0]) ∧ Hid (IsPair w' b gp x fx (newP n dev)) ∧ Hid (Mods [] W w') ∧ Hid (∀ g ∈ gp, W.heap.size ≤ g) := by
 obtain ⟨hbl, hb1, hb2⟩ := hf.blocks
 have hbl' : blocksI (dev 0).sectors (dev 0).size n = ((blocksN (dev 0).sectors (dev 0).size n : Nat) : Int) := hbl
 have hb1' : 1 ≤ blocksN (dev 0).sectors (dev 0).size n := hb1
 generalize blocksN (dev 0).sectors (dev 0).size n = B at hbl' hb1'
 have cBlocks := Lib.hid (fun W => rBlocks_any (W := W) (dev 0).sectors (dev 0).size n)
 rw [hbl'] at cBlocks
 have hne : ¬ x 0 = x 1 := h.ne
 have hB : ¬ (B : Int) = 0 := by omega
 have hBb : ((B : Int) == 0) = false := beq_eq_false_iff_ne.2 hB
 have hpe := dev_ne (h.devs 0 (by decide)) (h.devs 1 (by decide)) h.ne
 have HD := Lib.hid h
 have HF := Lib.hid hf
 have HS0 := Lib.hid (fun w (hm : Mods [] W w) => (h.keep0 hm).sh (s := 0) (by decide))
 have HS1 := Lib.hid (fun w (hm : Mods [] W w) => (h.keep0 hm).sh (s := 1) (by decide))
 clear h hf hbl hb1 hb2 hbl' hb1'
 go_enter Tryz.func57, Tryz.ntmps57
 go_wp2_with (first | (go_at_call 53; refine (HS0.out _ HM3.out).mono ?_; rintro e w4 ⟨rfl, hm4⟩; have HM4 := Lib.hid (HM3.out.tr hm4); clear hm4) | (go_at_call 53; refine (HS1.out _ HM2.out).mono ?_; rintro e w3 ⟨rfl, hm3⟩; have HM3 := Lib.hid (HM2.out.tr hm3); clear hm3) | (go_at_call 53; refine (HS0.out _ (Mods.refl _ _)).mono ?_; rintro e w2 ⟨rfl, hm2⟩; have HM2 := Lib.hid hm2; clear hm2) | (go_at_call 110; refine (cBlocks.out _).mono ?_; rintro e w5 ⟨rfl, hm5⟩; have HM5 := Lib.hid (HM4.out.tr hm5); clear hm5) | (go_at_call 61; refine (sumMake_any _).mono ?_; rintro e w6 ⟨sb, rfl, hsum, hm6, hsb⟩))
 go_ret2
 have HM6 : Hid (Mods [] W w6) := Lib.hid (HM5.out.tr hm6)
 have hsbl := hsum.lt
 have h0 := HM5.out.size
 have h1 := hm6.size
 have hD : Devs (w6.alloc (.cells (pairCells sb n x (fun _ => Tab.zero) (fun _ => .slice none 0 0)).toArray 123 (0, 0))) x fx dev := (HD.out.keep0 HM6.out).keep0 ((Mods.refl _ _).alloc _)
 have hfoot : ∀ g ∈ pairFoot w6.heap.size sb (fun _ => .slice none 0 0), W.heap.size ≤ g := by
  intro g hg
  simp [pairFoot, Value.ownBlock] at hg
  rcases hg with rfl | rfl <;> omega
 refine ⟨w6.heap.size, pairFoot w6.heap.size sb (fun _ => .slice none 0 0), rfl, Lib.hid ⟨⟨sb, fun _ => .slice none 0 0, ⟨Blk.new w6 123 (pairCells sb n x (fun _ => Tab.zero) (fun _ => .slice none 0 0)), hsum.alloc _, fun s _ => IsMv.nil _, fun s _ => Tab.zero_ok, HF.out.2.1⟩, rfl, by omega⟩, hD.devs, hD.apart, fun g hg s hs hz => ?_, hD.same, HF.out⟩, Lib.hid (HM6.out.alloc _), Lib.hid hfoot⟩
 have h2 := hfoot g hg
 have h3 := (HD.out.devs s hs).lt g hz
 omega
theorem keep_shape (P : Pr) (s : Nat) (t : Tab) (k : Nat) : ((P.keep s t).2.dev k).size = (P.dev k).size ∧ ((P.keep s t).2.dev k).sectors = (P.dev k).sectors := by
 have h1 := put_shape (P.dev s) (slotOf true t.moved.length) (bA (imageOf (P.dev s).size s t.moved))
 have h2 := put_shape (P.dev (1 - s)) (slotOf false t.moved.length) (bA (imageOf (P.dev s).size s t.moved))
 unfold Pr.keep
 simp only
 generalize putD (P.dev s) (slotOf true t.moved.length) (bA (imageOf (P.dev s).size s t.moved)) = r at h1 ⊢
 generalize putD (P.dev (1 - s)) (slotOf false t.moved.length) (bA (imageOf (P.dev s).size s t.moved)) = q at h2 ⊢
 have a1 : ((P.setDev s r.2).dev k).size = (P.dev k).size ∧ ((P.setDev s r.2).dev k).sectors = (P.dev k).sectors := by
  show (if k = s then r.2 else P.dev k).size = _ ∧ (if k = s then r.2 else P.dev k).sectors = _
  split
  ·rename_i e; rw [e]; exact h1
  ·exact ⟨rfl, rfl⟩
 have a2 : (((P.setDev s r.2).setDev (1 - s) q.2).dev k).size = (P.dev k).size ∧ (((P.setDev s r.2).setDev (1 - s) q.2).dev k).sectors = (P.dev k).sectors := by
  show (if k = 1 - s then q.2 else (P.setDev s r.2).dev k).size = _ ∧ (if k = 1 - s then q.2 else (P.setDev s r.2).dev k).sectors = _
  split
  ·rename_i e; rw [e]; exact h2
  ·exact a1
 split
 ·exact a1
 ·split
  ·exact a2
  ·split
   ·exact a2
   ·exact a2
def tab0 (P : Pr) : Tab := ⟨blocksN (P.dev 0).sectors (P.dev 0).size P.n, P.n, []⟩
set_option maxRecDepth 100000 in
set_option maxHeartbeats 1600000 in
theorem rFormat_any {W : World} {x : Nat → Nat} {fx : Nat → List Nat} {dev : Nat → Dev} (h : Devs W x fx dev) (n : Nat) (hf : (newP n dev).Fit) (hc : ∀ k, k < 2 → (dev k).cache.length + 2 < 1000000)
  (hk1 : ((newP n dev).keep 0 (tab0 (newP n dev))).1 = 0) (hk2 : (((newP n dev).keep 0 (tab0 (newP n dev))).2.keep 1 (tab0 (newP n dev))).1 = 0) :
  Calls Tryz.prog 28 #[.pointer (some ⟨x 0, 0, none⟩), .pointer (some ⟨x 1, 0, none⟩), .int .i64 (n : Nat)] W fun e w' => ∃ b gp fx', e = .returned (.tuple #[.pointer (some ⟨b, 0, none⟩), .int .i64 0]) ∧ Hid (IsPair w' b gp x fx' (((newP n dev).keep 0 (tab0 (newP n dev))).2.keep 1 (tab0 (newP n dev))).2) ∧ Hid (Mods (fx 0 ++ fx 1) W w') ∧ Hid (∀ k, k < 2 → ∀ g ∈ fx' k, g ∈ fx k ∨ W.heap.size ≤ g) ∧ Hid (∀ g ∈ gp, W.heap.size ≤ g) := by
 obtain ⟨P0, hP0⟩ : ∃ P0, newP n dev = P0 := ⟨_, rfl⟩
 have cMade := Lib.hid (rMade_any h n hf)
 rw [hP0] at hk1 hk2 cMade hf ⊢
 obtain ⟨T, hT⟩ : ∃ T, tab0 P0 = T := ⟨_, rfl⟩
 have hn : P0.n = n := by rw [← hP0]; rfl
 have hdev : P0.dev = dev := by rw [← hP0]; rfl
 have hTok : T.Ok := by rw [← hT]; exact ⟨hf.blocks.2.2, hf.2.1, Nat.zero_le _, fun x hx => (by cases hx)⟩
 have hTm : T.moved = [] := by rw [← hT]; rfl
 have cF0 := Lib.hid (fun (w : World) (b : Nat) (gp : List Nat) (fx : Nat → List Nat) (hp : IsPair w b gp x fx P0) => rFresh_any hp)
 have hk1s := keep_shape P0 0 T 0
 have hk1n := (keep_same P0 0 T 0).2.1
 have hk1c := fun k => (keep_same P0 0 T k).1
 have hT0 : (⟨blocksN (P0.dev 0).sectors (P0.dev 0).size P0.n, P0.n, []⟩ : Tab) = T := hT
 rw [hT] at hk1 hk2 ⊢
 rw [hT0] at cF0
 have cK0 := Lib.hid (fun (w : World) (b : Nat) (gp : List Nat) (fx : Nat → List Nat) (hp : IsPair w b gp x fx P0) => rKeep_any hp 0 (by decide) (t := T) (mv := .slice none 0 0) (by rw [hTm]; exact IsMv.nil _) (fun g hg => by cases hg) hTok (by rw [hTm]; exact Nat.zero_le _) (fun k hk => by rw [hdev]; have := hc k hk; omega))
 generalize hP1 : (P0.keep 0 T).2 = P1 at hk2 hk1s hk1n hk1c ⊢
 have cF1 := Lib.hid (fun (w : World) (b : Nat) (gp : List Nat) (fx : Nat → List Nat) (hp : IsPair w b gp x fx P1) => rFresh_any hp)
 rw [hk1s.1, hk1s.2, hk1n, hT0] at cF1
 have cK1 := Lib.hid (fun (w : World) (b : Nat) (gp : List Nat) (fx : Nat → List Nat) (hp : IsPair w b gp x fx P1) => rKeep_any hp 1 (by decide) (t := T) (mv := .slice none 0 0) (by rw [hTm]; exact IsMv.nil _) (fun g hg => by cases hg) hTok (by rw [hTm]; exact Nat.zero_le _) (fun k hk => by have h1 := hk1c k; rw [hdev] at h1; have := hc k hk; omega))
 rw [hk1, hP1] at cK0
 rw [hk2] at cK1
 generalize (P1.keep 1 T).2 = P2 at cK1 ⊢
 have HD := Lib.hid h
 unfold tabV at cF0 cF1 cK0 cK1
 clear h hf hc hk1 hk2 hP0 hT hn hdev hTok hTm hk1s hk1n hk1c hT0 hP1
 go_enter Tryz.func28, Tryz.ntmps28
 go_wp2_with (go_at_call 57; refine cMade.out.mono ?_; rintro e w1 ⟨b, gp, rfl, hp0, hm0, hg0⟩)
 refine wp_loop_rounds 3 ?_
 rw [rounds_succ]
 go_wp2_with (first | (go_at_call 58; refine (cF0.out _ _ _ _ hp0.out).mono ?_; rintro e w2 ⟨rfl, hm2⟩; have hp2 := Lib.hid (hp0.out.keep0 hm2); have HM2 := Lib.hid hm2; clear hm2) | (go_at_call 55; refine (cK0.out _ _ _ _ hp2.out).mono ?_; rintro e w3 ⟨gp3, fx3, rfl, hp3, hm3, hn3, hg3⟩))
 rw [rounds_succ]
 go_wp2_with (first | (go_at_call 58; refine (cF1.out _ _ _ _ hp3.out).mono ?_; rintro e w4 ⟨rfl, hm4⟩; have hp4 := Lib.hid (hp3.out.keep0 hm4); have HM4 := Lib.hid hm4; clear hm4) | (go_at_call 55; refine (cK1.out _ _ _ _ hp4.out).mono ?_; rintro e w5 ⟨gp5, fx5, rfl, hp5, hm5, hn5, hg5⟩))
 rw [rounds_succ]
 go_wp2_with fail
 go_ret2
 have PT3 : PairTo w2 w3 b gp gp3 x fx fx3 P1 := ⟨hp3.out, hm3.out, hn3.out, fun g hg => (hg3.out g hg).elim .inl (fun h => h.elim (fun e => by cases e) .inr)⟩
 have PT5 : PairTo w4 w5 b gp3 gp5 x fx3 fx5 P2 := ⟨hp5.out, hm5.out, hn5.out, fun g hg => (hg5.out g hg).elim .inl (fun h => h.elim (fun e => by cases e) .inr)⟩
 have PT := (((PairTo.still hp0.out HM2.out).trans PT3).trans (PairTo.still hp3.out HM4.out)).trans PT5
 have hbg : b ∈ gp := by
  obtain ⟨_, _, _, hg, _⟩ := hp0.out.pb
  rw [hg]; simp [pairFoot]
 have hsz := hm0.out.size
 refine ⟨b, gp5, fx5, rfl, hp5, Lib.hid ((hm0.out.mono (by simp)).trans PT.mods (fun z hz => ?_)), Lib.hid (fun k hk g hg => (PT.newF k hk g hg).imp id (fun h => Nat.le_trans hsz h)), Lib.hid (fun g hg => (PT.newG g hg).elim (fun h => hg0.out g h) (fun h => Nat.le_trans hsz h))⟩
 rcases List.mem_cons.1 hz with rfl | hz
 ·exact .inr (hg0.out _ hbg)
 ·exact .inl hz
end Go.Proofs.YtkjpdfomppjiiaaGreatDoor
