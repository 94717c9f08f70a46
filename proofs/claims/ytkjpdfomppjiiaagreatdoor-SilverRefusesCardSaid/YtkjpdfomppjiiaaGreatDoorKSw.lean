/- Checkpoint. -/
import Derived.Test.YtkjpdfomppjiiaaGreatDoorKSv
import Derived.Test.YtkjpdfomppjiiaaGreatDoorKSu
import Derived.Test.YtkjpdfomppjiiaaGreatDoorKWalo
/- The newest superblock of a store's mirror: the slot 1 has one, the slot 0 none. -/
namespace Go.Proofs.YtkjpdfomppjiiaaGreatDoor
open Go.RowKit

section
variable {W w : World} {F : List Nat} {x : Nat → Nat} {mb p sb tk ib n nn : Nat} {M : Mi} {B z c : Nat} {cf : CfE} {ca sp lg tr wt : Value} {b0 b : SupE} {rd : Nat → ByteArray}
theorem two_row {w : World} {A : Option Addr} {nk ck : Nat} {y : ByteArray} (h : w.ownsRow 0 9 1 (.slice A nk ck) nk ([y, y].map Value.string)) (hn : nk = 2) : ∃ g, A = some ⟨g, 0, none⟩ ∧ w.cell? ⟨g, 0, none⟩ = some (.string y) ∧ w.cell? ⟨g, 1, none⟩ = some (.string y) := by
 subst hn
 obtain ⟨A2, cap, e, hc⟩ := owns_shapeD h
 injection e with e1 e2 e3
 subst e1
 obtain ⟨g, rfl, h0⟩ := hc 0 (.string y) rfl
 obtain ⟨g1, e1, h1⟩ := hc 1 (.string y) rfl
 cases e1
 exact ⟨g, rfl, h0, h1⟩
set_option maxRecDepth 100000 in
set_option maxHeartbeats 3200000 in
theorem stNewest_01 (h : OwnM W F w mb p x M) (hw : WS B z nn c M rd) (hc : c ≤ 600000) (hz0 : 128 ≤ z) (hz : z ≤ 1024) (hB : 2 ≤ B) (hb : Blk w sb 85 (stC cf mb tk ca sp lg tr b0 wt n ib)) (htk : Blk w tk 218 sumRow) (hF : sb ∈ F ∧ tk ∈ F) (h0 : openL (rd 0).toList = none) (hok : b.Ok) (h1 : b.gen % 2 = 1) (hrd : rd 1 = bA (supImg z b)) :
  Calls Tryz.prog 38 #[.pointer (some ⟨sb, 0, none⟩)] w fun e w' => e = .returned (.tuple #[supV b, .int .i64 0]) ∧ Hid (OwnM W F w' mb p x M) ∧ Hid (Minds F w w') := by
 obtain ⟨i0, hi0, hz0', hz1', hz2'⟩ := info_parts (show (Tryz.prog.info? 9).map (fun i => (i.zero, i.size, i.bytes)) = some (some (.string ⟨#[]⟩), 1, 16) by kernel_rfl)
 obtain ⟨w1, hw1⟩ : ∃ w1, w.alloc (.cells #[.int .u64 0, .int .i64 0, .int .u64 0, .int .u32 0, .int .i64 0, .int .u64 0, .int .u32 0] 81) = w1 := ⟨_, rfl⟩
 obtain ⟨r, hr1⟩ : ∃ r, w.heap.size = r := ⟨_, rfl⟩
 have hm1 : Mods [] w w1 := by rw [← hw1]; exact (Mods.refl _ _).alloc _
 have hs1 : w1.heap.size = r + 1 := by rw [← hw1, ← hr1]; simp
 have hbr : Blk w1 r 81 [.int .u64 0, .int .i64 0, .int .u64 0, .int .u32 0, .int .i64 0, .int .u64 0, .int .u32 0] := by rw [← hw1, ← hr1]; exact Blk.new w 81 _
 have HM1 := Lib.hid hm1
 have HBR := Lib.hid hbr
 have HR := Lib.hid hr1
 have HH := Lib.hid (h.protect (G := r :: F) hm1 (fun g hg => by
  rcases List.mem_cons.1 hg with rfl | hg
  ·exact .inr ⟨by omega, by omega⟩
  ·exact .inl hg))
 have HOLD := Lib.hid h
 have HW := Lib.hid hw
 have HB := Lib.hid (hb.keep hm1 (by simp))
 have HTK := Lib.hid (htk.keep hm1 (by simp))
 have HF := Lib.hid hF
 have hlt := bestS_take (bs := [b, b]) (i := 0) (b := b) rfl
 have hbest : bestS [b, b] = b := by
  unfold bestS
  have := hok.h.1
  simp [newer, supZero]
  omega
 have hpos : decide (0 < (bestS [b, b]).gen) = true := by rw [hbest]; exact decide_eq_true (by have := hok.h.1; omega)
 have HBE := Lib.hid (And.intro hbest hpos)
 have H0 := Lib.hid h0
 have HOK := Lib.hid hok
 have HG1 := Lib.hid h1
 have HRD := Lib.hid hrd
 clear hm1 hbr h hw hb htk hF hbest hpos hlt h0 hok h1 hrd hs1
 go_enter Tryz.func38, Tryz.ntmps38
 go_upto_region 1 with fail
 try rw [hw1, hr1]
 clear hw1 hr1
 go_wp2_with fail
 refine wp_loop_rounds 3 ?_
 rw [rounds_succ]
 have cI := oImages HH.out HW.out.fine (show c ≤ 800000 by omega) (show 0 < B by omega)
 rw [HW.out.imgs (show 0 < B by omega)] at cI
 replace cI := Lib.hid cI
 have q7 : w1.cell? ⟨sb, 7, none⟩ = some (.pointer (some ⟨mb, 0, none⟩)) := HB.out.cell (i := 7) rfl
 go_upto_region 8 with (go_at_call 78; refine cI.out.mono ?_; rintro e w3 ⟨A, ck, nk, rfl, HO3, HN3, HROW3, HNEW3⟩)
 have hnk : nk = 2 := by have := HROW3.out.1; simp at this; omega
 obtain ⟨ga, rfl, i0', i1'⟩ := two_row HROW3.out hnk
 subst hnk
 have HC3 : Hid (∀ w', Mods [] w3 w' → w'.cell? ⟨ga, 0, none⟩ = some (.string (rd 0)) ∧ w'.cell? ⟨ga, 1, none⟩ = some (.string (rd 0))) := Lib.hid (fun w' hm => by
  have hl := World.block_lt_of_cell? w3 _ i0'
  have hl1 := World.block_lt_of_cell? w3 _ i1'
  exact ⟨(hm.cell hl (by simp)).trans i0', (hm.cell hl1 (by simp)).trans i1'⟩)
 have HN3' : Hid (Minds (r :: F) w1 w3) := HN3
 have cO := Lib.hid (fun (w' : World) (hm : Mods [] w3 w') => suOpen_no (HN3'.out.blk HTK.out (List.mem_cons_of_mem _ HF.out.2) |>.keep hm (by simp)) (rd 0) H0.out)
 have q8 : w3.cell? ⟨sb, 8, none⟩ = some (.pointer (some ⟨tk, 0, none⟩)) := (HN3'.out.blk HB.out (List.mem_cons_of_mem _ HF.out.1)).cell (i := 8) rfl
 obtain ⟨y0, hy0⟩ : ∃ y0, rd 0 = y0 := ⟨_, rfl⟩
 rw [hy0] at cO HC3
 have hsz : supV supZero = .agg #[.int .u64 0, .int .i64 0, .int .u64 0, .int .u32 0, .int .i64 0, .int .u64 0, .int .u32 0] := rfl
 rw [hsz] at cO
 clear hsz
 have HQ8 : Hid (∀ w', Mods [] w3 w' → w'.cell? ⟨sb, 8, none⟩ = some (.pointer (some ⟨tk, 0, none⟩)) ∧ w'.cell? ⟨sb, 7, none⟩ = some (.pointer (some ⟨mb, 0, none⟩))) := Lib.hid (fun w' hm => ⟨((HN3'.out.blk HB.out (List.mem_cons_of_mem _ HF.out.1)).keep hm (by simp)).cell (i := 8) rfl, ((HN3'.out.blk HB.out (List.mem_cons_of_mem _ HF.out.1)).keep hm (by simp)).cell (i := 7) rfl⟩)
 obtain ⟨c0, c1⟩ := HC3.out w3 (Mods.refl _ _)
 clear q7 cI i0' i1'
 go_wp2_with fail
 refine wp_loop_rounds 3 ?_
 rw [rounds_succ]
 go_wp2_with (go_at_call 79; refine (cO.out _ (Mods.refl _ _)).mono ?_; rintro e w4 ⟨en, rfl, hen, HM4⟩)
 obtain ⟨w5, hw5⟩ : ∃ w5, w4.alloc (.cells #[.int .u64 0, .int .i64 0, .int .u64 0, .int .u32 0, .int .i64 0, .int .u64 0, .int .u32 0] 81) = w5 := ⟨_, rfl⟩
 have hm5 : Mods [] w3 w5 := by rw [← hw5]; exact HM4.out.alloc _
 obtain ⟨c0, c1⟩ := HC3.out w5 hm5
 obtain ⟨q8, q7⟩ := HQ8.out w5 hm5
 rw [hw5]
 have HM5 := Lib.hid hm5
 clear hw5 hm5
 rw [rounds_succ]
 go_wp2_with (go_at_call 79; refine (cO.out _ HM5.out).mono ?_; rintro e w6 ⟨en2, rfl, hen2, HM6⟩)
 obtain ⟨w7, hw7⟩ : ∃ w7, w6.alloc (.cells #[.int .u64 0, .int .i64 0, .int .u64 0, .int .u32 0, .int .i64 0, .int .u64 0, .int .u32 0] 81) = w7 := ⟨_, rfl⟩
 have hm7 : Mods [] w3 w7 := by rw [← hw7]; exact (HM5.out.tr HM6.out).alloc _
 rw [hw7]
 have HM7 := Lib.hid hm7
 clear hw7 hm7 c0 c1 q7 q8
 rw [rounds_succ]
 go_wp2_with fail
 rw [rounds_succ]
 obtain ⟨q8, q7⟩ := HQ8.out w7 HM7.out
 have cI := oImages (HO3.out.still HM7.out) HW.out.fine (show c ≤ 800000 by omega) (show 1 < B by omega)
 rw [HW.out.imgs (show 1 < B by omega)] at cI
 replace cI := Lib.hid cI
 go_upto_region 8 with (go_at_call 78; refine cI.out.mono ?_; rintro e w8 ⟨A, ck8, nk, rfl, HO8, HN8, HROW8, HNEW8⟩)
 have hnk : nk = 2 := by have := HROW8.out.1; simp at this; omega
 obtain ⟨ga, rfl, i0', i1'⟩ := two_row HROW8.out hnk
 subst hnk
 rw [HRD.out] at i0' i1'
 have HN8' : Hid (Minds (r :: F) w3 w8) := Lib.hid ((Minds.of HM7.out).trans HN8.out)
 have HN18 : Hid (Minds (r :: F) w1 w8) := Lib.hid (HN3'.out.trans HN8'.out)
 have cO := Lib.hid (fun (w' : World) (hm : Mods [] w8 w') => suOpen_yes ((HN18.out.blk HTK.out (List.mem_cons_of_mem _ HF.out.2)).keep hm (by simp)) HOK.out (bA (supImg z b)) (open_img HOK.out hz0 hz))
 have cS := Lib.hid (fun W => suSlot_any (W := W) b.gen)
 rw [HG1.out] at cS
 have HBAll : Hid (∀ w', Mods [] w8 w' → w'.cell? ⟨sb, 8, none⟩ = some (.pointer (some ⟨tk, 0, none⟩)) ∧ w'.cell? ⟨ga, 0, none⟩ = some (.string (bA (supImg z b))) ∧ w'.cell? ⟨ga, 1, none⟩ = some (.string (bA (supImg z b)))) := Lib.hid (fun w' hm => by
  have hl := World.block_lt_of_cell? w8 _ i0'
  have hl1 := World.block_lt_of_cell? w8 _ i1'
  exact ⟨((HN18.out.blk HB.out (List.mem_cons_of_mem _ HF.out.1)).keep hm (by simp)).cell (i := 8) rfl, (hm.cell hl (by simp)).trans i0', (hm.cell hl1 (by simp)).trans i1'⟩)
 have cN := Lib.hid (fun (w' : World) (hm : Mods [] w8 w') (A : Option Addr) (cp : Nat) (hr : Row w' A (imgRow z [b, b])) => suNew_any (cp := cp) ((HN18.out.blk HTK.out (List.mem_cons_of_mem _ HF.out.2)).keep hm (by simp)) hz0 hz hr (n := 2) rfl (by decide) (fun c hc => by
  have : c = b := by simpa using hc
  rw [this]; exact HOK.out))
 rw [HBE.out.2, HBE.out.1] at cN
 obtain ⟨y, hy⟩ : ∃ y, bA (supImg z b) = y := ⟨_, rfl⟩
 have HYY := Lib.hid hy
 rw [hy] at cO HBAll
 obtain ⟨q8, c0, c1⟩ := HBAll.out w8 (Mods.refl _ _)
 obtain ⟨bg, hbg⟩ : ∃ bg, b.gen = bg := ⟨_, rfl⟩
 obtain ⟨ba, hba⟩ : ∃ ba, b.root.addr = ba := ⟨_, rfl⟩
 obtain ⟨bgn, hbgn⟩ : ∃ bgn, b.root.gen = bgn := ⟨_, rfl⟩
 obtain ⟨bsm, hbsm⟩ : ∃ bsm, b.root.sum = bsm := ⟨_, rfl⟩
 obtain ⟨bh, hbh⟩ : ∃ bh, b.height = bh := ⟨_, rfl⟩
 obtain ⟨bq, hbq⟩ : ∃ bq, b.seq = bq := ⟨_, rfl⟩
 obtain ⟨bc, hbc⟩ : ∃ bc, b.chain = bc := ⟨_, rfl⟩
 have hsv : supV b = .agg #[.int .u64 (bg : Nat), .int .i64 ba, .int .u64 (bgn : Nat), .int .u32 (bsm : Nat), .int .i64 (bh : Nat), .int .u64 (bq : Nat), .int .u32 (bc : Nat)] := by unfold supV; rw [hbg, hba, hbgn, hbsm, hbh, hbq, hbc]
 have HSV := Lib.hid hsv
 rw [hsv] at cO cN
 rw [hbg] at cS
 clear q7 cI i0' i1' hy hbg hba hbgn hbsm hbh hbq hbc hsv
 go_wp2_with fail
 refine wp_loop_rounds 3 ?_
 rw [rounds_succ]
 go_upto_region 12 with (go_at_call 79; refine (cO.out _ (Mods.refl _ _)).mono ?_; rintro e w9 ⟨rfl, HM9⟩)
 obtain ⟨w10, hw10⟩ : ∃ w10, w9.alloc (.cells #[.int .u64 (bg : Nat), .int .i64 ba, .int .u64 (bgn : Nat), .int .u32 (bsm : Nat), .int .i64 (bh : Nat), .int .u64 (bq : Nat), .int .u32 (bc : Nat)] 81) = w10 := ⟨_, rfl⟩
 obtain ⟨r10, hr10⟩ : ∃ r10, w9.heap.size = r10 := ⟨_, rfl⟩
 have hb10 : Blk w10 r10 81 [.int .u64 (bg : Nat), .int .i64 ba, .int .u64 (bgn : Nat), .int .u32 (bsm : Nat), .int .i64 (bh : Nat), .int .u64 (bq : Nat), .int .u32 (bc : Nat)] := by rw [← hw10, ← hr10]; exact Blk.new w9 81 _
 have k0 := hb10.cell (i := 0) rfl
 have HM10 : Hid (Mods [] w8 w10) := Lib.hid (by rw [← hw10]; exact HM9.out.alloc _)
 rw [hw10, hr10]
 clear hw10 hr10 hb10 c0 c1 q8
 go_upto_region 14 with (first | (go_at_call 80; refine (cS.out _).mono ?_; rintro e w11 ⟨rfl, hw11⟩; subst w11) | (at_builtin; refine wpList_append_own _ rfl (.tmp 54) (.tmp 56) 101 rfl w8.heap.size 9 i0 (.string ⟨#[]⟩) 1 16 Tryz.underlying101 hi0 hz0' hz1' hz2' rfl (by decide) _ _ _ rfl (World.ownsRow_nil _ _ _ _) ⟨w10.heap.size, 0, none⟩ 1 1 [.string y] rfl rfl (one_src ((Blk.new w10 9 [.string y]).cell (i := 0) rfl)) (by simp [Value.oneCell']) (by unfold maxLen; omega) (by omega) (by simp; have := HM10.out.size; omega) ?_; intro v1 w12 hown1 hg1 _))
 have HO12 := Lib.hid hown1
 have HM12 : Hid (Mods [] w8 w12) := Lib.hid ((HM10.out.alloc _).grown hg1 (fun q hq => by cases hq))
 clear hown1 hg1 k0
 obtain ⟨q8, c0, c1⟩ := HBAll.out w12 HM12.out
 go_wp2_with fail
 rw [rounds_succ]
 go_upto_region 12 with (go_at_call 79; refine (cO.out _ HM12.out).mono ?_; rintro e w13 ⟨rfl, HM13⟩)
 obtain ⟨w14, hw14⟩ : ∃ w14, w13.alloc (.cells #[.int .u64 (bg : Nat), .int .i64 ba, .int .u64 (bgn : Nat), .int .u32 (bsm : Nat), .int .i64 (bh : Nat), .int .u64 (bq : Nat), .int .u32 (bc : Nat)] 81) = w14 := ⟨_, rfl⟩
 obtain ⟨r14, hr14⟩ : ∃ r14, w13.heap.size = r14 := ⟨_, rfl⟩
 have hb14 : Blk w14 r14 81 [.int .u64 (bg : Nat), .int .i64 ba, .int .u64 (bgn : Nat), .int .u32 (bsm : Nat), .int .i64 (bh : Nat), .int .u64 (bq : Nat), .int .u32 (bc : Nat)] := by rw [← hw14, ← hr14]; exact Blk.new w13 81 _
 have k0 := hb14.cell (i := 0) rfl
 have hm14 : Mods [] w12 w14 := by rw [← hw14]; exact HM13.out.alloc _
 have HM14 : Hid (Mods [] w8 w14) := Lib.hid (HM12.out.tr hm14)
 have HO14 := Lib.hid (owns_keepL HO12.out hm14)
 rw [hw14, hr14]
 clear hw14 hr14 hb14 c0 c1 q8 hm14
 go_upto_region 14 with (first | (go_at_call 80; refine (cS.out _).mono ?_; rintro e w15 ⟨rfl, hw15⟩; subst w15) | (at_builtin; refine wpList_append_own _ rfl (.tmp 54) (.tmp 56) 101 rfl w8.heap.size 9 i0 (.string ⟨#[]⟩) 1 16 Tryz.underlying101 hi0 hz0' hz1' hz2' rfl (by decide) _ _ _ rfl (HO14.out.alloc _) ⟨w14.heap.size, 0, none⟩ 1 1 [.string y] rfl rfl (one_src ((Blk.new w14 9 [.string y]).cell (i := 0) rfl)) (by simp [Value.oneCell']) (by unfold maxLen; omega) (by omega) (by simp; have := HM14.out.size; omega) ?_; intro v2 w16 hown2 hg2 _))
 have HM16 : Hid (Mods [] w8 w16) := Lib.hid ((HM14.out.alloc _).grown hg2 (fun q hq => .inr (HO14.out.lt q hq).1))
 obtain ⟨A2, cap2, rfl, hA2⟩ := owns_shapeD hown2
 have HR16 : Hid (Row w16 A2 (imgRow z [b, b])) := Lib.hid (by
  refine .inr ?_
  obtain ⟨g, rfl, _⟩ := hA2 0 (.string y) rfl
  refine ⟨g, 0, rfl, fun i u hi => ?_⟩
  rw [show imgRow z [b, b] = [.string y, .string y] from by unfold imgRow; simp only [List.map_cons, List.map_nil]; rw [HYY.out]] at hi
  obtain ⟨g2, e, h⟩ := hA2 i u hi
  cases e
  rw [Nat.zero_add]; exact h)
 clear hown2 hg2 k0 hA2
 go_wp2_with fail
 rw [rounds_succ]
 go_wp2_with fail
 rw [rounds_succ]
 have q8 := (HBAll.out w16 HM16.out).1
 go_upto_region 17 with (go_at_call 81; refine (cN.out _ HM16.out _ _ HR16.out).mono ?_; rintro e w17 ⟨rfl, HM17⟩)
 obtain ⟨w18, hw18⟩ : ∃ w18, w17.alloc (.cells #[.int .u64 (bg : Nat), .int .i64 ba, .int .u64 (bgn : Nat), .int .u32 (bsm : Nat), .int .i64 (bh : Nat), .int .u64 (bq : Nat), .int .u32 (bc : Nat)] 81) = w18 := ⟨_, rfl⟩
 obtain ⟨r18, hr18⟩ : ∃ r18, w17.heap.size = r18 := ⟨_, rfl⟩
 have hb18 : Blk w18 r18 81 [.int .u64 (bg : Nat), .int .i64 ba, .int .u64 (bgn : Nat), .int .u32 (bsm : Nat), .int .i64 (bh : Nat), .int .u64 (bq : Nat), .int .u32 (bc : Nat)] := by rw [← hw18, ← hr18]; exact Blk.new w17 81 _
 have hm18 : Mods [] w8 w18 := (HM16.out.tr HM17.out).tr (by rw [← hw18]; exact (Mods.refl _ _).alloc _)
 have hbr : Blk w18 r 81 [.int .u64 0, .int .i64 0, .int .u64 0, .int .u32 0, .int .i64 0, .int .u64 0, .int .u32 0] := (HN18.out.blk HBR.out (List.mem_cons_self ..)).keep hm18 (by simp)
 have HBR18 := Lib.hid hbr
 have HM18 := Lib.hid hm18
 have e0 := hb18.cell (i := 0) rfl
 have e1 := hb18.cell (i := 1) rfl
 have e2 := hb18.cell (i := 2) rfl
 have e3 := hb18.cell (i := 3) rfl
 have e4 := hb18.cell (i := 4) rfl
 have e5 := hb18.cell (i := 5) rfl
 have e6 := hb18.cell (i := 6) rfl
 have z0 := hbr.cell (i := 0) rfl
 have z1 := hbr.cell (i := 1) rfl
 have z2 := hbr.cell (i := 2) rfl
 have z3 := hbr.cell (i := 3) rfl
 have z4 := hbr.cell (i := 4) rfl
 have z5 := hbr.cell (i := 5) rfl
 have z6 := hbr.cell (i := 6) rfl
 have f0 := hbr.free 0
 have f1 := hbr.free 1
 have f2 := hbr.free 2
 have f3 := hbr.free 3
 have f4 := hbr.free 4
 have f5 := hbr.free 5
 have f6 := hbr.free 6
 rw [hw18, hr18]
 clear hw18 hr18 hb18 hbr hm18 q8
 go_wp2_with fail
 obtain ⟨y1, y2⟩ := seven_sets HBR18.out (.int .u64 (bg : Nat)) (.int .i64 ba) (.int .u64 (bgn : Nat)) (.int .u32 (bsm : Nat)) (.int .i64 (bh : Nat)) (.int .u64 (bq : Nat)) (.int .u32 (bc : Nat))
 obtain ⟨w20, hw20⟩ : ∃ w20, (((((((w18.setCell ⟨r, 0, none⟩ (.int .u64 (bg : Nat))).setCell ⟨r, 1, none⟩ (.int .i64 ba)).setCell ⟨r, 2, none⟩ (.int .u64 (bgn : Nat))).setCell ⟨r, 3, none⟩ (.int .u32 (bsm : Nat))).setCell ⟨r, 4, none⟩ (.int .i64 (bh : Nat))).setCell ⟨r, 5, none⟩ (.int .u64 (bq : Nat))).setCell ⟨r, 6, none⟩ (.int .u32 (bc : Nat))) = w20 := ⟨_, rfl⟩
 have hb20 : Blk w20 r 81 [.int .u64 (bg : Nat), .int .i64 ba, .int .u64 (bgn : Nat), .int .u32 (bsm : Nat), .int .i64 (bh : Nat), .int .u64 (bq : Nat), .int .u32 (bc : Nat)] := by rw [← hw20]; exact y1
 have hm20 : Mods [r] w18 w20 := by rw [← hw20]; exact y2
 rw [hw20]
 clear hw20 y1 y2
 refine bodyPost_ret (results_ct rfl rfl (load_sup hb20)) rfl ?_
 have hRF : r ∉ F := fun hx => by have := HOLD.out.lt r hx; have := HR.out; omega
 have hmin : Minds F w w20 := ((Minds.of HM1.out).trans ((HN18.out.mono (fun g hg => List.mem_cons_of_mem _ hg)).tr HM18.out)).trans ⟨[r], hm20, fun k hk => by rw [List.mem_singleton.1 hk]; exact hRF⟩
 have hWw := HOLD.out.mods.size
 refine ⟨by first | rfl | (rw [HSV.out]; rfl), Lib.hid (((HO8.out.still HM18.out).aside hm20 (fun k hk => ?_)).fewer (fun g hg => List.mem_cons_of_mem _ hg)), Lib.hid hmin⟩
 rw [List.mem_singleton.1 hk]
 exact ⟨List.mem_cons_self .., by have := HR.out; omega⟩
end
end Go.Proofs.YtkjpdfomppjiiaaGreatDoor
/- A store's mirror and blocks; the blocks that a one-leaf tree has are used. -/
namespace Go.Proofs.YtkjpdfomppjiiaaGreatDoor
open Go.RowKit

section
variable {W w : World} {F : List Nat} {x : Nat → Nat} {mb p sb tk ib n : Nat} {M : Mi} {B z c : Nat} {cf : CfE} {ca sp lg tr wt : Value} {b : SupE}
theorem stMirror_any (hb : Blk w sb 85 (stC cf mb tk ca sp lg tr b wt n ib)) : Calls Tryz.prog 20 #[.pointer (some ⟨sb, 0, none⟩)] w fun e w' => e = .returned (.pointer (some ⟨mb, 0, none⟩)) ∧ w = w' := by
 have c7 := hb.cell (i := 7) rfl
 clear hb
 go_enter Tryz.func20, Tryz.ntmps20
 go_wp2_with fail
 go_ret
 exact ⟨rfl, rfl⟩
theorem stBlocks_any (h : OwnM W F w mb p x M) (hF : Fine B z c M.P) (hb : Blk w sb 85 (stC cf mb tk ca sp lg tr b wt n ib)) : Calls Tryz.prog 26 #[.pointer (some ⟨sb, 0, none⟩)] w fun e w' => e = .returned (.int .i64 (B : Nat)) ∧ Hid (Mods [] w w') := by
 obtain ⟨tb, mmb, gp, fx, hI, _⟩ := h.ex
 have cP := Lib.hid (oPair h)
 have cTb := Lib.hid (rTable_s hI.pair (s := 0) (by decide))
 have hB := hF.blocks 0 (by decide)
 obtain ⟨T, hT⟩ : ∃ T, M.P.tab 0 = T := ⟨_, rfl⟩
 rw [hT] at cTb hB
 have cBl := Lib.hid (fun (w : World) (A : Option Addr) (k : Nat) => show Calls Tryz.prog 32 #[.agg #[.int .i64 (T.blocks : Nat), .int .i64 (T.spares : Nat), .slice A T.moved.length k]] w fun e w' => e = .returned (.int .i64 (B : Nat)) ∧ Mods [] w w' from by
  have h1 := tBlocks_any (W := w) T (.slice A T.moved.length k)
  rw [hB] at h1 ⊢; unfold tabV at h1; rw [hB] at h1; exact h1)
 have c7 := hb.cell (i := 7) rfl
 clear h hF hI hb hB
 go_enter Tryz.func26, Tryz.ntmps26
 go_wp2_with (first | (go_at_call 21; refine cP.out.mono ?_; rintro e w1 ⟨rfl, rfl⟩) | (go_at_call 31; refine cTb.out.mono ?_; rintro e w2 ⟨A, ck, rfl, _, _, HM2⟩) | (go_at_call 32; refine (cBl.out _ _ _).mono ?_; rintro e w3 ⟨rfl, hm3⟩; have HM3 := Lib.hid hm3; clear hm3))
 go_ret
 exact ⟨rfl, Lib.hid (HM2.out.tr HM3.out)⟩
theorem stOcc1_any {pb d bx : Nat} {sfp : List Nat} {S : Sp} {q : PtrE} (hx : Blk w bx 24 [.pointer (some ⟨sb, 0, none⟩)]) (hb : Blk w sb 85 (stC cf mb tk ca (.pointer (some ⟨pb, 0, none⟩)) lg tr b wt n ib)) (hs : IsSpace w pb sfp S) (hU : S.useE q.addr = 0) (hn : bx ∉ sfp ∧ sb ∉ sfp) :
  Calls Tryz.prog 83 #[ptrV q, .int .i64 (d : Nat), .pointer (some ⟨bx, 0, none⟩)] w fun e w' => e = .returned (.int .i64 0) ∧ Hid (Mods sfp w w') ∧ Hid (IsSpace w' pb sfp (S.useS q.addr)) := by
 obtain ⟨w1, hw1⟩ : ∃ w1, w.alloc (.cells #[.int .i64 q.addr, .int .u64 (q.gen : Nat), .int .u32 (q.sum : Nat)] 79) = w1 := ⟨_, rfl⟩
 obtain ⟨g, hg⟩ : ∃ g, w.heap.size = g := ⟨_, rfl⟩
 have hb1 : Blk w1 g 79 [.int .i64 q.addr, .int .u64 (q.gen : Nat), .int .u32 (q.sum : Nat)] := by rw [← hw1, ← hg]; exact Blk.new w 79 _
 have hm1 : Mods [] w w1 := by rw [← hw1]; exact (Mods.refl _ _).alloc _
 have cU := Lib.hid (fun (w' : World) (hm : Mods [] w1 w') => spUse_any ((hs.keep hm1 (by simp)).keep hm (by simp)) q.addr)
 rw [hU] at cU
 have HCC : Hid (∀ w', Mods sfp w1 w' → w'.cell? ⟨bx, 0, none⟩ = some (.pointer (some ⟨sb, 0, none⟩)) ∧ w'.cell? ⟨sb, 10, none⟩ = some (.pointer (some ⟨pb, 0, none⟩)) ∧ w'.cell? ⟨g, 0, none⟩ = some (.int .i64 q.addr)) := Lib.hid (fun w' hm => ⟨((hx.keep hm1 (by simp)).keep hm hn.1).cell (i := 0) rfl, ((hb.keep hm1 (by simp)).keep hm hn.2).cell (i := 10) rfl, (hb1.keep hm (fun hk => by have := hs.lt g hk; omega)).cell (i := 0) rfl⟩)
 have c0 : w1.cell? ⟨bx, 0, none⟩ = some (.pointer (some ⟨sb, 0, none⟩)) := (hx.keep hm1 (by simp)).cell (i := 0) rfl
 have c10 : w1.cell? ⟨sb, 10, none⟩ = some (.pointer (some ⟨pb, 0, none⟩)) := (hb.keep hm1 (by simp)).cell (i := 10) rfl
 have p0 := hb1.cell (i := 0) rfl
 have HM1 := Lib.hid hm1
 obtain ⟨qa, qg, qs⟩ := q
 unfold ptrV at *
 simp only at *
 clear hx hb hs hU hb1 hm1 hn
 go_enter Tryz.func83, Tryz.ntmps83
 go_upto_region 1 with fail
 try rw [hw1, hg]
 clear hw1 hg
 go_region_held3 (fun w' => w'.cell? ⟨bx, 0, none⟩ = some (.pointer (some ⟨sb, 0, none⟩)) ∧ w'.cell? ⟨sb, 10, none⟩ = some (.pointer (some ⟨pb, 0, none⟩)) ∧ w'.cell? ⟨g, 0, none⟩ = some (.int .i64 qa))
  (first | exact HCC.out _ (((Mods.refl _ _).drew).trans HM2.out (fun k hk => .inl hk)) | exact HCC.out _ HM2.out | go_keep | fail)
  (first | (go_at_call 84; refine (cU.out _ (by first | exact (Mods.refl _ _).drew | exact Mods.refl _ _)).mono ?_; rintro e w2 ⟨rfl, hm2, hs2⟩; have HM2 := Lib.hid hm2; have HS2 := Lib.hid hs2; clear hm2 hs2) | fail)
 go_wp2_with fail
 go_ret
 exact ⟨rfl, Lib.hid ((HM1.out.drew.mono (by simp) : Mods sfp w w1.drew).trans HM2.out (fun k hk => .inl hk)), HS2⟩
def OcPost (B : Nat) (cf : CfE) (sb mb tk ib n : Nat) (ca lg tr wt : Value) (b : SupE) (w w' : World) : Prop :=
 ∃ (pb : Nat) (sfp : List Nat), Hid (Blk w' sb 85 (stC cf mb tk ca (.pointer (some ⟨pb, 0, none⟩)) lg tr b wt n ib)) ∧ Hid (IsSpace w' pb sfp ((Sp.new B (2 + cf.log) b.gen cf.last).useS b.root.addr)) ∧ Hid (∀ k ∈ sfp, w.heap.size ≤ k) ∧ Hid (Mods [sb] w w')
set_option maxRecDepth 100000 in
set_option maxHeartbeats 6400000 in
theorem stOccupy_any {tb v : Nat} {pl : PlanE} (h : OwnM W F w mb p x M) (hF : Fine B z c M.P) (hc : cf.Ok B z) (hb : Blk w sb 85 (stC cf mb tk ca sp lg (.pointer (some ⟨tb, 0, none⟩)) b wt n ib))
  (ht : Blk w tb 153 (treeC pl sb v 1 nilS 0 0)) (hv : Blk w v 151 (vC true b.root false nilS nilS nilS nilS)) (hg : b.gen ≤ cf.last) (hne : sb ≠ tb ∧ sb ≠ v) (hU : (Sp.new B (2 + cf.log) b.gen cf.last).useE b.root.addr = 0) :
  Calls Tryz.prog 40 #[.pointer (some ⟨sb, 0, none⟩)] w fun e w' => e = .returned (.int .i64 0) ∧ Hid (OcPost B cf sb mb tk ib n ca lg (.pointer (some ⟨tb, 0, none⟩)) wt b w w') := by
 obtain ⟨w1, hw1⟩ : ∃ w1, w.alloc (.cells #[.pointer (some ⟨sb, 0, none⟩)] 24) = w1 := ⟨_, rfl⟩
 obtain ⟨g, hg1⟩ : ∃ g, w.heap.size = g := ⟨_, rfl⟩
 have hb1 : Blk w1 g 24 [.pointer (some ⟨sb, 0, none⟩)] := by rw [← hw1, ← hg1]; exact Blk.new w 24 _
 have hm1 : Mods [] w w1 := by rw [← hw1]; exact (Mods.refl _ _).alloc _
 have hs1 : w1.heap.size = g + 1 := by rw [← hw1, ← hg1]; simp
 have HM1 := Lib.hid hm1
 have HO := Lib.hid (h.still hm1)
 have HB1 := Lib.hid hb1
 have HST := Lib.hid (hb.keep hm1 (by simp))
 have HT := Lib.hid (ht.keep hm1 (by simp))
 have HV := Lib.hid (hv.keep hm1 (by simp))
 have cBl := Lib.hid (fun (w' : World) (hm : Mods [] w1 w') => stBlocks_any (HO.out.still hm) hF (HST.out.keep hm (by simp)))
 have cFi := Lib.hid (fun W => cfFirst_any (W := W) cf hc.log.2)
 have HNE : g ≠ sb := by have := hb.lt; omega
 have hroom := hc.room
 have cSp := Lib.hid (fun w => spNew_any w B (2 + cf.log) b.gen cf.last hc.blocks (by omega) hg hc.last.2)
 have HU := Lib.hid hU
 have HG := Lib.hid (And.intro hg (And.intro hne hs1))
 have HSZ := Lib.hid hg1
 clear h hF hc ht hv hb hg hb1 hm1 hs1 hU hroom hne
 obtain ⟨f, hf⟩ : ∃ f, 2 + cf.log = f := ⟨_, rfl⟩
 rw [hf] at cFi cSp HU
 have HSG : Hid (g ≠ sb) := Lib.hid HNE
 have HC : Hid (∀ w', Mods [] w1 w' → Blk w' g 24 [.pointer (some ⟨sb, 0, none⟩)] ∧ Blk w' sb 85 (stC cf mb tk ca sp lg (.pointer (some ⟨tb, 0, none⟩)) b wt n ib)) := Lib.hid (fun w' hm => ⟨HB1.out.keep hm (by simp), HST.out.keep hm (by simp)⟩)
 obtain ⟨csp, clg, cca, ⟨fan, buf, leaf⟩, la⟩ := cf
 obtain ⟨bg, ⟨ba, bgn, bsm⟩, bh, bsq, bch⟩ := b
 unfold cfV at *
 simp only at *
 have hmin : ∀ (ts : Array TypeId) (t : TypeId) (w : World), (Builtin.min_ ts t #[.int .u64 (bg : Nat), .int .u64 (la : Nat)]).run Tryz.prog w = .ok (.int .u64 (bg : Nat)) w := fun ts t w => by
  rw [run_min_int2, if_neg (by have := HG.out.1; omega)]
 have HX : Hid (∀ (w' : World) (v : Value), Mods [] w1 w' → Blk (w'.setCell ⟨sb, 10, none⟩ v) g 24 [.pointer (some ⟨sb, 0, none⟩)] ∧ Blk (w'.setCell ⟨sb, 10, none⟩ v) sb 85 (stC ⟨csp, clg, cca, ⟨fan, buf, leaf⟩, la⟩ mb tk ca v lg (.pointer (some ⟨tb, 0, none⟩)) ⟨bg, ⟨ba, bgn, bsm⟩, bh, bsq, bch⟩ wt n ib)) := Lib.hid (fun w' v hm => ⟨(HC.out w' hm).1.keep ((Mods.refl [sb] _).setCell (.inl (by simp)) _) (by simp; exact HSG.out), (HC.out w' hm).2.set 10 v⟩)
 obtain ⟨a0, a1⟩ := HC.out w1 (Mods.refl _ _)
 unfold stC at a1
 simp only at a1
 have q0 := a0.cell (i := 0) rfl
 have c0 := a1.cell (i := 0) rfl
 have c1 := a1.cell (i := 1) rfl
 have c2 := a1.cell (i := 2) rfl
 have c3 := a1.cell (i := 3) rfl
 have c4 := a1.cell (i := 4) rfl
 have c5 := a1.cell (i := 5) rfl
 have c6 := a1.cell (i := 6) rfl
 have c13 := a1.cell (i := 13) rfl
 clear a0 a1
 go_enter Tryz.func40, Tryz.ntmps40
 go_upto_region 1 with fail
 try rw [hw1, hg1]
 clear hw1 hg1
 go_upto_region 2 with fail
 go_cut [3] from 4 to 33 (fun ev wx => ∃ (pb : Nat) (sfp : List Nat), ev = .int .i64 0 ∧ Hid (Blk wx sb 85 (stC ⟨csp, clg, cca, ⟨fan, buf, leaf⟩, la⟩ mb tk ca (.pointer (some ⟨pb, 0, none⟩)) lg (.pointer (some ⟨tb, 0, none⟩)) ⟨bg, ⟨ba, bgn, bsm⟩, bh, bsq, bch⟩ wt n ib)) ∧ Hid (IsSpace wx pb sfp (Sp.new B f bg la)) ∧ Hid (∀ k ∈ sfp, w1.heap.size ≤ k) ∧ Hid (Mods [sb] w1 wx))
 case first =>
  go_region_held3 (fun w' => w'.cell? ⟨g, 0, none⟩ = some (.pointer (some ⟨sb, 0, none⟩)) ∧ w'.cell? ⟨sb, 0, none⟩ = some (.int .i64 (csp : Nat)) ∧ w'.cell? ⟨sb, 1, none⟩ = some (.int .i64 (clg : Nat)) ∧ w'.cell? ⟨sb, 2, none⟩ = some (.int .i64 (cca : Nat)) ∧ w'.cell? ⟨sb, 3, none⟩ = some (.int .i64 fan) ∧ w'.cell? ⟨sb, 4, none⟩ = some (.int .i64 buf) ∧ w'.cell? ⟨sb, 5, none⟩ = some (.int .i64 leaf) ∧ w'.cell? ⟨sb, 6, none⟩ = some (.int .u64 (la : Nat)) ∧ w'.cell? ⟨sb, 13, none⟩ = some (.int .u64 (bg : Nat)))
   (first | exact ⟨(HC.out _ hmc.out).1.cell (i := 0) rfl, (HC.out _ hmc.out).2.cell (i := 0) rfl, (HC.out _ hmc.out).2.cell (i := 1) rfl, (HC.out _ hmc.out).2.cell (i := 2) rfl, (HC.out _ hmc.out).2.cell (i := 3) rfl, (HC.out _ hmc.out).2.cell (i := 4) rfl, (HC.out _ hmc.out).2.cell (i := 5) rfl, (HC.out _ hmc.out).2.cell (i := 6) rfl, (HC.out _ hmc.out).2.cell (i := 13) rfl⟩ | exact ⟨(HX.out _ _ hmc.out).1.cell (i := 0) rfl, (HX.out _ _ hmc.out).2.cell (i := 0) rfl, (HX.out _ _ hmc.out).2.cell (i := 1) rfl, (HX.out _ _ hmc.out).2.cell (i := 2) rfl, (HX.out _ _ hmc.out).2.cell (i := 3) rfl, (HX.out _ _ hmc.out).2.cell (i := 4) rfl, (HX.out _ _ hmc.out).2.cell (i := 5) rfl, (HX.out _ _ hmc.out).2.cell (i := 6) rfl, (HX.out _ _ hmc.out).2.cell (i := 13) rfl⟩ | go_keep | fail)
   (first | (go_at_call 30; refine (cSp.out _).mono ?_; rintro e w7 ⟨pb, sfp, rfl, hm7, hsp, hnw⟩; have hnw3 : Hid (∀ k ∈ sfp, w1.heap.size ≤ k) := Lib.hid (fun k hk => Nat.le_trans hmc.out.size (hnw k hk)); replace hmc := Lib.hid (hmc.out.tr hm7); have hst := (HC.out _ hmc.out).2; have e10 := hst.cell (i := 10) rfl; have f10 := hst.free 10) | (go_at_call 26; refine (cBl.out _ (by first | exact hmc.out | exact (Mods.refl _ _).drew | exact Mods.refl _ _)).mono ?_; rintro e w5 ⟨rfl, hm5⟩; have hmc : Hid (Mods [] w1 w5) := (by first | exact Lib.hid (hmc.out.tr hm5.out) | exact Lib.hid (((Mods.refl _ _).drew).tr hm5.out))) | (go_at_call 33; refine (cFi.out _).mono ?_; rintro e w6 ⟨rfl, hm6⟩; have hmc : Hid (Mods [] w1 w6) := (by first | exact Lib.hid (hmc.out.tr hm6.out) | exact Lib.hid (((Mods.refl _ _).drew).tr hm6.out))) | fail)
  all_goals go_wp2_with fail
  all_goals go_meet
  all_goals
   have hsl := HST.out.lt
   exact ⟨pb, sfp, rfl, Lib.hid (HX.out _ _ hmc.out).2, Lib.hid (hsp.keep ((Mods.refl [sb] _).setCell (.inl (by simp)) _) (fun k hk hx => by have h1 := hnw3.out k hk; have h2 := List.mem_singleton.1 hx; omega)), hnw3, Lib.hid ((hmc.out.mono (by simp) : Mods [sb] w1 w7).setCell (.inl (by simp)) _)⟩
 case rest =>
  obtain ⟨pb, sfp, rfl, HST2, HSP2, HNW2, HM2⟩ := hcut
  have hsl := HST.out.lt
  have htl := HT.out.lt
  have hvl := HV.out.lt
  have hgl := HB1.out.lt
  have hnn := HG.out.2.1
  have HBG := Lib.hid (HB1.out.keep HM2.out (by simp; exact HSG.out))
  have HT2 := Lib.hid (HT.out.keep HM2.out (by simp; exact fun h => hnn.1 h.symm))
  have HV2 := Lib.hid (HV.out.keep HM2.out (by simp; exact fun h => hnn.2 h.symm))
  have hns : ∀ t, t < w1.heap.size → t ∉ sfp := fun t ht hx => by have := HNW2.out t hx; omega
  have cW := Lib.hid (trWalk_o (c := g) (P := fun w' => Mods sfp wc w' ∧ IsSpace w' pb sfp ((Sp.new B f bg la).useS ba)) HT2.out HV2.out (fun w2 hm2 => (stOcc1_any (d := 0) (HBG.out.keep hm2 (by simp)) (HST2.out.keep hm2 (by simp)) (HSP2.out.keep hm2 (by simp)) HU.out ⟨hns _ hgl, hns _ hsl⟩).mono (fun e w' ⟨h1, h2, h3⟩ => ⟨h1, (hm2.mono (by simp) : Mods sfp wc w2).trans h2.out (fun k hk => .inl hk), h3.out⟩)) (fun w' hp => HT2.out.keep hp.1 (hns _ htl)))
  have q0 : wc.cell? ⟨g, 0, none⟩ = some (.pointer (some ⟨sb, 0, none⟩)) := HBG.out.cell (i := 0) rfl
  have c12 : wc.cell? ⟨sb, 12, none⟩ = some (.pointer (some ⟨tb, 0, none⟩)) := HST2.out.cell (i := 12) rfl
  have HSS := Lib.hid (hns _ hsl)
  clear hns hsl htl hvl hgl hnn c0 c1 c2 c3 c4 c5 c6 c13
  go_wp2_with (go_at_call 82; refine cW.out.mono ?_; rintro e w8 ⟨rfl, hm8, hs8⟩; have HM8 := Lib.hid hm8; have HS8 := Lib.hid hs8; clear hm8 hs8)
  go_ret
  refine ⟨rfl, Lib.hid ⟨pb, sfp, Lib.hid (HST2.out.keep HM8.out HSS.out), Lib.hid ?_, Lib.hid (fun k hk => Nat.le_trans HM1.out.size (HNW2.out k hk)), Lib.hid ?_⟩⟩
  ·simp only
   rw [hf]
   exact HS8.out
  ·exact (HM1.out.mono (by simp) : Mods [sb] w w1).trans (HM2.out.trans HM8.out (fun k hk => .inr (HNW2.out k hk))) (fun k hk => .inl hk)
end
end Go.Proofs.YtkjpdfomppjiiaaGreatDoor
namespace Go.Proofs.YtkjpdfomppjiiaaGreatDoor
open Go.RowKit

def CkAll (B z nn : Nat) (W w w' : World) (F : List Nat) (x : Nat → Nat) (a : StA) (lb ltk : Nat) (L : LogE) (M2 : Mi) (rd2 : Nat → ByteArray) (gen : Nat) (q : PtrE) (S' : Sp) : Prop :=
 ∃ M3 F' fp1 tb2 v2 ib2, StIn W w' F' x (a.after gen (L.next + L.count) L.chain q S'.settleS fp1 tb2 v2 ib2) M3 ∧ WS B z nn 0 M3 (updR rd2 (gen % 2) (bA (supImg z ⟨gen, q, 1, L.next + L.count, L.chain⟩))) ∧ (M3.reps = M2.reps ∧ (M2.bl = [] → M3.bl = [])) ∧ Turn F (lb :: a.sb :: a.sfp) w w' ∧ (∀ g ∈ F, g ∈ F') ∧ (∀ g ∈ fp1, g ∈ a.sfp ∨ w.heap.size ≤ g) ∧ (w.heap.size ≤ tb2 ∧ w.heap.size ≤ v2 ∧ w.heap.size ≤ ib2) ∧ Blk w' lb 178 (lgC a.mb ltk ⟨L.first, L.count, L.next + L.count, L.chain, 0⟩)
section
variable {W w w' : World} {F G : List Nat} {x : Nat → Nat} {a : StA} {M M' : Mi} {B z nn c gen lb ltk : Nat} {rd rd2 : Nat → ByteArray} {S' : Sp} {M2 : Mi} {q : PtrE} {L : LogE}
set_option maxRecDepth 100000 in
set_option maxHeartbeats 6400000 in
theorem stCheck_any (h : StIn W w F x a M) (hT : DbTab W) (hst : ¬ a.S.last ≤ a.S.gen) (hg : a.S.gen + 1 = gen)
  (hlg : a.lg = .pointer (some ⟨lb, 0, none⟩)) (hlb : Blk w lb 178 (lgC a.mb ltk L)) (hL : L.Ok) (hLn : L.next + L.count < 18446744073709551616) (hlF : lb ∈ F ∧ W.heap.size ≤ lb ∧ lb ∉ a.all)
  (hCom : ∀ G w1, StIn W w1 G x { a with S := a.S.step } M → Calls Tryz.prog 70 #[.pointer (some ⟨a.sb, 0, none⟩), .int .u64 (gen : Nat)] w1 fun e w' => ∃ tb2 v2, e = .returned (.tuple #[.pointer (some ⟨tb2, 0, none⟩), supV ⟨gen, q, 1, 0, 0⟩, .slice none 0 0, .int .i64 0]) ∧ Hid (ComIn W w1 w' G x { a with S := a.S.step } S' M2 tb2 v2 q))
  (hw : WS B z nn c M2 rd2) (hc : c ≤ 600000) (hz0 : 128 ≤ z) (hz : z ≤ 1024) (hB : 2 ≤ B) (hok : SupE.Ok ⟨gen, q, 1, L.next + L.count, L.chain⟩) :
  Calls Tryz.prog 44 #[.pointer (some ⟨a.sb, 0, none⟩)] w fun e w' => e = .returned (.int .i64 0) ∧ Hid (CkAll B z nn W w w' F x a lb ltk L M2 rd2 gen q S') := by
 obtain ⟨lf, lc, ln, lch, lh⟩ := L
 unfold lgC at *
 simp only at *
 have q11 : w.cell? ⟨a.sb, 11, none⟩ = some (.pointer (some ⟨lb, 0, none⟩)) := by
  have := h.st.cell (i := 11) (v := a.lg) rfl
  rw [hlg] at this
  exact this
 obtain ⟨w1, hw1⟩ : ∃ w1, w.alloc (.cells #[.pointer (some ⟨a.mb, 0, none⟩), .pointer (some ⟨ltk, 0, none⟩), .int .i64 (lf : Nat), .int .i64 (lc : Nat), .int .u64 (ln : Nat), .int .u32 (lch : Nat), .int .i64 (lh : Nat)] 178) = w1 := ⟨_, rfl⟩
 obtain ⟨g, hg1⟩ : ∃ g, w.heap.size = g := ⟨_, rfl⟩
 have hb1 : Blk w1 g 178 [.pointer (some ⟨a.mb, 0, none⟩), .pointer (some ⟨ltk, 0, none⟩), .int .i64 (lf : Nat), .int .i64 (lc : Nat), .int .u64 (ln : Nat), .int .u32 (lch : Nat), .int .i64 (lh : Nat)] := by rw [← hw1, ← hg1]; exact Blk.new w 178 _
 have hm1 : Mods [] w w1 := by rw [← hw1]; exact (Mods.refl _ _).alloc _
 have hs1 : w1.heap.size = g + 1 := by rw [← hw1, ← hg1]; simp
 have HI1 := Lib.hid (h.protect (G := [g]) hm1 (fun k hk => by rw [List.mem_singleton.1 hk]; omega))
 have HLB := Lib.hid (hlb.keep hm1 (by simp))
 have HM1 := Lib.hid hm1
 have HG := Lib.hid hg1
 have HS1 := Lib.hid hs1
 have HLF := Lib.hid hlF
 have cC := Lib.hid (lgCut_any (L := ⟨lf, lc, ln, lch, lh⟩) hb1 hL hLn)
 unfold lgC at cC
 simp only at cC
 have HH := Lib.hid h
 have p0 := hlb.cell (i := 0) rfl
 have p1 := hlb.cell (i := 1) rfl
 have p2 := hlb.cell (i := 2) rfl
 have p3 := hlb.cell (i := 3) rfl
 have p4 := hlb.cell (i := 4) rfl
 have p5 := hlb.cell (i := 5) rfl
 have p6 := hlb.cell (i := 6) rfl
 clear h hlb hb1 hm1 hs1 hlF
 go_enter Tryz.func44, Tryz.ntmps44
 go_upto_region 4 with fail
 try rw [hw1, hg1]
 clear hw1 hg1 p0 p1 p2 p3 p4 p5 p6 q11
 obtain ⟨nx, hnx⟩ : ∃ nx, ln + lc = nx := ⟨_, rfl⟩
 have HNX := Lib.hid hnx
 rw [hnx] at cC hok
 clear hnx hL hLn
 go_upto_region 5 with (go_at_call 92; refine cC.out.mono ?_; rintro e w2 ⟨rfl, HM2, HB2⟩)
 have hgn : ∀ k ∈ a.all, k ≠ g := fun k hk e => by have h1 := HH.out.all_lt hk; have := HG.out; omega
 have hWw := HH.out.own.mods.size
 have HI2 : Hid (StIn W w2 ([g] ++ F) x a M) := Lib.hid (HI1.out.aside HM2.out (fun k hk => by
  rw [List.mem_singleton.1 hk]
  exact ⟨by simp, by have := HG.out; omega, fun hx => hgn g hx rfl⟩))
 have cK := Lib.hid (stCheck1_any HI2.out hT hst hg (fun w3 h3 => hCom _ w3 h3) hw hc hz0 hz hB hok)
 clear cC hT hst hg hCom hw hc hz0 hz hB hok hgn hWw
 go_upto_region 8 with (go_at_call 36; refine cK.out.mono ?_; rintro e w3 ⟨rfl, HK3⟩)
 obtain ⟨M3, F', fp1, tb2, v2, ib2, g1, g2, g3, g4, g5, g6, g7, g8, g9⟩ := HK3.out
 have hgg : g ∉ a.sb :: a.sfp := fun hx => by
  have h1 := HG.out
  rcases List.mem_cons.1 hx with e | hx
  ·have := HH.out.all_lt (a := a) (StA.in5 (by simp [StA.five] : a.sb ∈ a.five)); omega
  ·have := HH.out.all_lt (StA.inS hx); omega
 have hll : lb ∉ a.sb :: a.sfp := fun hx => by
  rcases List.mem_cons.1 hx with e | hx
  ·exact HLF.out.2.2 (by rw [e]; exact StA.in5 (by simp [StA.five]))
  ·exact HLF.out.2.2 (StA.inS hx)
 have hnl : g ≠ lb := fun e => by have h1 := HH.out.own.lt lb HLF.out.1; have := HG.out; omega
 have hbg := g4.blk HB2.out (by simp) hgg
 have hbl := g4.blk (HLB.out.keep HM2.out (by simp; exact fun e => hnl e.symm)) (List.mem_append_right _ HLF.out.1) hll
 have HBL := Lib.hid hbl
 have k11 : w3.cell? ⟨a.sb, 11, none⟩ = some (.pointer (some ⟨lb, 0, none⟩)) := by
  have := g1.st.cell (i := 11) (v := a.lg) rfl
  rw [hlg] at this
  exact this
 have HK1 := Lib.hid g1
 have HK2 := Lib.hid (And.intro g2 g3)
 have HK4 := Lib.hid g4
 have HK5 := Lib.hid (And.intro g5 (And.intro g6 (And.intro g7 (And.intro g8 g9))))
 have e0 := hbg.cell (i := 0) rfl
 have e1 := hbg.cell (i := 1) rfl
 have e2 := hbg.cell (i := 2) rfl
 have e3 := hbg.cell (i := 3) rfl
 have e4 := hbg.cell (i := 4) rfl
 have e5 := hbg.cell (i := 5) rfl
 have e6 := hbg.cell (i := 6) rfl
 have z0 := hbl.cell (i := 0) rfl
 have z1 := hbl.cell (i := 1) rfl
 have z2 := hbl.cell (i := 2) rfl
 have z3 := hbl.cell (i := 3) rfl
 have z4 := hbl.cell (i := 4) rfl
 have z5 := hbl.cell (i := 5) rfl
 have z6 := hbl.cell (i := 6) rfl
 have f0 := hbl.free 0
 have f1 := hbl.free 1
 have f2 := hbl.free 2
 have f3 := hbl.free 3
 have f4 := hbl.free 4
 have f5 := hbl.free 5
 have f6 := hbl.free 6
 clear g1 g2 g3 g4 g5 g6 g7 g8 g9 hbg hbl hgg hll
 go_upto_region 10 with fail
 go_region
 obtain ⟨y1, y2⟩ := seven_sets HBL.out (.pointer (some ⟨a.mb, 0, none⟩)) (.pointer (some ⟨ltk, 0, none⟩)) (.int .i64 (lf : Nat)) (.int .i64 (lc : Nat)) (.int .u64 (nx : Nat)) (.int .u32 (lch : Nat)) (.int .i64 0)
 obtain ⟨w4, hw4⟩ : ∃ w4, (((((((w3.setCell ⟨lb, 0, none⟩ (.pointer (some ⟨a.mb, 0, none⟩))).setCell ⟨lb, 1, none⟩ (.pointer (some ⟨ltk, 0, none⟩))).setCell ⟨lb, 2, none⟩ (.int .i64 (lf : Nat))).setCell ⟨lb, 3, none⟩ (.int .i64 (lc : Nat))).setCell ⟨lb, 4, none⟩ (.int .u64 (nx : Nat))).setCell ⟨lb, 5, none⟩ (.int .u32 (lch : Nat))).setCell ⟨lb, 6, none⟩ (.int .i64 0)).drew = w4 := ⟨_, rfl⟩
 have hb4 := y1.keep ((Mods.refl [] _).drew) (by simp)
 have hm4 : Mods [lb] w3 w4 := by rw [← hw4]; exact y2.drew
 rw [hw4] at hb4
 have HB4 := Lib.hid hb4
 have HM4 := Lib.hid hm4
 try rw [hw4]
 clear hw4 hb4 hm4 y1 y2 e0 e1 e2 e3 e4 e5 e6 z0 z1 z2 z3 z4 z5 z6 f0 f1 f2 f3 f4 f5 f6 k11
 go_wp2_with fail
 go_ret
 obtain ⟨h1, h2, h3, h4, h5⟩ := HK5.out
 have hlw := HH.out.own.lt lb HLF.out.1
 have hs2 : w.heap.size ≤ w2.heap.size := by have := HM1.out.size; have := HM2.out.size; omega
 refine ⟨rfl, Lib.hid ⟨M3, F', fp1, tb2, v2, ib2, ?_, ?_, HK2.out.2, ?_, fun k hk => h1 k (List.mem_append_right _ hk), fun k hk => (h2 k hk).imp id (fun h => by omega), ⟨by omega, by omega, by omega⟩, ?_⟩⟩
 ·simp only
  rw [HNX.out]
  refine HK1.out.aside HM4.out (fun k hk => ?_)
  rw [List.mem_singleton.1 hk]
  refine ⟨h1 lb (List.mem_append_right _ HLF.out.1), HLF.out.2.1, fun hx => ?_⟩
  simp only [StA.all, StA.five, StA.after, List.mem_append, List.mem_cons, List.not_mem_nil, or_false] at hx
  have hno := HLF.out.2.2
  simp only [StA.all, StA.five, List.mem_append, List.mem_cons, List.not_mem_nil, or_false, not_or] at hno
  rcases hx with (hx | hx | hx | hx | hx) | hx | hx
  ·exact hno.1.1 hx
  ·exact hno.1.2.1 hx
  ·omega
  ·omega
  ·omega
  ·exact hno.2.1 hx
  ·rcases h2 lb hx with h | h
   ·exact hno.2.2 h
   ·omega
 ·simp only
  rw [HNX.out]
  exact HK2.out.1
 ·have hgF : g ∉ F := fun hx => by have := HH.out.own.lt g hx; have := HG.out; omega
  exact (((Turn.of HM1.out).trans ⟨[g], HM2.out, fun k hk => .inr (by rw [List.mem_singleton.1 hk]; exact hgF)⟩).trans (HK4.out.mono (fun k hk => List.mem_append_right _ hk) (fun k hk => List.mem_cons_of_mem _ hk))).trans ⟨[lb], HM4.out, fun k hk => .inl (by rw [List.mem_singleton.1 hk]; simp)⟩
 ·unfold lgC
  simp only
  rw [HNX.out]
  exact HB4.out
end
end Go.Proofs.YtkjpdfomppjiiaaGreatDoor
