/- A pair's find. (Printed by wip/pair11.py.) -/
import Derived.Test.YtkjpdfomppjiiaaGreatDoorKD
namespace Go.Proofs.YtkjpdfomppjiiaaGreatDoor
open Go.RowKit

def accN (P : Pr) (side d : Nat) (a : Option Tab) : Nat → Option Tab
 | 0 => a
 | k + 1 => better (accN P side d a k) (look P side d k)
structure FindInv (w1 wr : World) (tb b : Nat) (gp : List Nat) (x : Nat → Nat) (fx : Nat → List Nat) (P : Pr) (acc : Option Tab) (mv : Value) : Prop where
 blk : Blk wr tb 71 [.int .i64 ((acc.getD Tab.zero).blocks : Nat), .int .i64 ((acc.getD Tab.zero).spares : Nat), mv]
 mvs : IsMv wr mv (acc.getD Tab.zero).moved
 tok : (acc.getD Tab.zero).Ok
 new : ∀ g, mv.ownBlock = some g → w1.heap.size ≤ g
 pair : IsPair wr b gp x fx P
 mods : Mods (tb :: (fx 0 ++ fx 1)) w1 wr
theorem FindInv.step {w1 wr w2 : World} {tb b : Nat} {gp : List Nat} {x : Nat → Nat} {fx : Nat → List Nat} {P : Pr} {acc : Option Tab} {mv : Value} (h : FindInv w1 wr tb b gp x fx P acc mv) {L : List Nat} (hm : Mods L wr w2) (hL : ∀ g ∈ L, g ∈ fx 0 ++ fx 1) (hlt : ∀ g ∈ fx 0 ++ fx 1, g < tb) (htb : tb < w1.heap.size) (hp : IsPair w2 b gp x fx P) : FindInv w1 w2 tb b gp x fx P acc mv :=
 ⟨h.blk.keep hm (fun hg => by have := hlt _ (hL _ hg); omega), IsMv.keep h.mvs hm (fun g hg hz => by have h1 := hlt _ (hL _ hz); have h2 := h.new g hg; omega), h.tok, h.new, hp, h.mods.trans hm (fun g hg => .inl (List.mem_cons_of_mem _ (hL g hg)))⟩
theorem FindInv.step0 {w1 wr w2 : World} {tb b : Nat} {gp : List Nat} {x : Nat → Nat} {fx : Nat → List Nat} {P : Pr} {acc : Option Tab} {mv : Value} (h : FindInv w1 wr tb b gp x fx P acc mv) (hm : Mods [] wr w2) : FindInv w1 w2 tb b gp x fx P acc mv :=
 ⟨h.blk.keep0 hm, IsMv.keep h.mvs hm (by simp), h.tok, h.new, h.pair.keep0 hm, h.mods.trans hm (by simp)⟩
theorem FindInv.store {w1 wr : World} {tb b : Nat} {gp : List Nat} {x : Nat → Nat} {fx : Nat → List Nat} {P : Pr} {acc : Option Tab} {mv mv' : Value} {u : Tab} (h : FindInv w1 wr tb b gp x fx P acc mv) (hmv : IsMv wr mv' u.moved) (hu : u.Ok) (hn : ∀ g, mv'.ownBlock = some g → w1.heap.size ≤ g) (htb : tb < w1.heap.size) (htg : tb ∉ gp) (htf : ∀ g ∈ fx 0 ++ fx 1, g < tb) :
  FindInv w1 (((wr.setCell ⟨tb, 0, none⟩ (.int .i64 (u.blocks : Nat))).setCell ⟨tb, 1, none⟩ (.int .i64 (u.spares : Nat))).setCell ⟨tb, 2, none⟩ mv') tb b gp x fx P (some u) mv' := by
 obtain ⟨k1, k2⟩ := three_sets h.blk (.int .i64 (u.blocks : Nat)) (.int .i64 (u.spares : Nat)) mv'
 refine ⟨k1, IsMv.keep hmv k2 (fun g hg => by have := hn g hg; simp; omega), hu, hn, h.pair.keep k2 (fun g hg hz => htg (by rw [← List.mem_singleton.1 hz]; exact hg)) (fun s hs g hg hz => ?_), h.mods.trans k2 (fun g hg => .inl (by rw [List.mem_singleton.1 hg]; exact List.mem_cons_self ..))⟩
 have h1 := List.mem_singleton.1 hz
 have h2 := htf g (by
  rcases (show s = 0 ∨ s = 1 by omega) with rfl | rfl
  ·exact List.mem_append_left _ hg
  ·exact List.mem_append_right _ hg)
 omega
theorem parseP_ok {b n side : Nat} {img : ByteArray} {u : Tab} (hb : b ≤ 4096) (hn : n ≤ 32) (h : parseP b n side img = some u) : u.Ok := by
 unfold parseP at h
 split at h
 ·cases h
 ·split at h
  ·obtain ⟨t, h1, h2⟩ := Option.bind_eq_some_iff.1 h
   split at h2
   ·injection h2 with h2; rw [← h2]; exact Tab.parse_ok hb hn h1
   ·cases h2
  ·cases h
set_option maxRecDepth 100000 in
set_option maxHeartbeats 6400000 in
theorem rFind_0 {W : World} {b : Nat} {gp : List Nat} {x : Nat → Nat} {fx : Nat → List Nat} {P : Pr} (h : IsPair W b gp x fx P) (hc : ∀ k, k < 2 → (P.dev k).cache.length < 1000000) :
  Calls Tryz.prog 77 #[.pointer (some ⟨b, 0, none⟩), .int .i64 0] W fun e w' => ∃ mv, e = .returned (.tuple #[tabV ((findP P 0).getD Tab.zero) mv, .bool (findP P 0).isSome]) ∧ Hid (IsMv w' mv ((findP P 0).getD Tab.zero).moved) ∧ Hid (((findP P 0).getD Tab.zero).Ok) ∧ Hid (∀ g, mv.ownBlock = some g → W.heap.size ≤ g) ∧ Hid (IsPair w' b gp x fx P) ∧ Hid (Mods (fx 0 ++ fx 1) W w') := by
 obtain ⟨w1, hw1⟩ : ∃ w1, (W.alloc (.cells #[.int .i64 0, .int .i64 0, .slice none 0 0] 71)).alloc (.cells #[.int .i64 0, .int .i64 0, .slice none 0 0] 71) = w1 := ⟨_, rfl⟩
 have hr1 : Blk w1 W.heap.size 71 [.int .i64 0, .int .i64 0, .slice none 0 0] := by rw [← hw1]; exact (Blk.new W 71 [.int .i64 0, .int .i64 0, .slice none 0 0]).alloc _
 have ht1 : Blk w1 (W.heap.size + 1) 71 [.int .i64 0, .int .i64 0, .slice none 0 0] := by
  have hx := Blk.new (W.alloc (.cells #[.int .i64 0, .int .i64 0, .slice none 0 0] 71)) 71 [.int .i64 0, .int .i64 0, .slice none 0 0]
  have e : (W.alloc (.cells #[.int .i64 0, .int .i64 0, .slice none 0 0] 71)).heap.size = W.heap.size + 1 := by simp
  rw [e] at hx
  rw [← hw1]; exact hx
 have hm1 : Mods [] W w1 := by rw [← hw1]; exact ((Mods.refl _ _).alloc _).alloc _
 have hsz1 : w1.heap.size = W.heap.size + 2 := by rw [← hw1]; simp
 have hlt : ∀ g ∈ fx 0 ++ fx 1, g < W.heap.size := by
  intro g hg
  rcases List.mem_append.1 hg with hg | hg
  ·exact (h.dev 0 (by decide)).lt g hg
  ·exact (h.dev 1 (by decide)).lt g hg
 have hgp : ∀ g ∈ gp, g < W.heap.size := h.pb.lt
 have hbW : b < W.heap.size := h.pb.lt b (by obtain ⟨_, _, _, hg, _⟩ := h.pb; rw [hg]; simp [pairFoot])
 have HLT := Lib.hid hlt
 have HGP := Lib.hid hgp
 have HM1 := Lib.hid hm1
 have HR1 := Lib.hid hr1
 have HT1 := Lib.hid ht1
 have HP1 : Hid (IsPair w1 b gp x fx P) := Lib.hid (h.keep0 hm1)
 have HS1 := Lib.hid hsz1
 have HC := Lib.hid hc
 have HFB := Lib.hid h.fit
 obtain ⟨B, hB⟩ : ∃ B, blocksN (P.dev 0).sectors (P.dev 0).size P.n = B := ⟨_, rfl⟩
 have HBB := Lib.hid hB
 have cOther := Lib.hid (fun W => rOther_any (W := W) 0 (by decide))
 have hne1 : ¬ W.heap.size + 1 = b := by omega
 have hne2 : ¬ W.heap.size = b := by omega
 clear hr1 ht1 hm1 hsz1 hlt hgp h hc hB
 go_enter Tryz.func77, Tryz.ntmps77
 go_wp2_with (first | (go_at_call 54; refine (cOther.out _).mono ?_; rintro e w' ⟨rfl, rfl⟩))
 obtain ⟨wL, hwL⟩ : ∃ wL, w1.alloc (.cells #[.int .i64 0, .int .i64 1] 3) = wL := ⟨_, rfl⟩
 have hLB : w1.heap.size = W.heap.size + 2 := HS1.out
 have HLB : Hid (Blk wL (W.heap.size + 2) 3 [.int .i64 0, .int .i64 1]) := Lib.hid (by rw [← hwL, ← hLB]; exact Blk.new w1 3 [.int .i64 0, .int .i64 1])
 have HIL : Hid (FindInv w1 wL (W.heap.size + 1) b gp x fx P none (.slice none 0 0)) := Lib.hid (by
  have hm : Mods [] w1 wL := by rw [← hwL]; exact (Mods.refl _ _).alloc _
  exact ⟨HT1.out.keep0 hm, IsMv.nil _, Tab.zero_ok, fun g hg => (by cases hg), HP1.out.keep0 hm, hm.mono (by simp)⟩)
 have HWL : Hid (Mods [] w1 wL) := Lib.hid (by rw [← hwL]; exact (Mods.refl _ _).alloc _)
 have HLC : Hid (∀ w', Mods ((W.heap.size + 1) :: (fx 0 ++ fx 1)) wL w' → w'.cell? ⟨W.heap.size + 2, 0, none⟩ = some (.int .i64 0) ∧ w'.cell? ⟨W.heap.size + 2, 1, none⟩ = some (.int .i64 1)) := Lib.hid (fun w' hm => by
  have h := HLB.out.keep hm (fun hz => by
   rcases List.mem_cons.1 hz with hz | hz
   ·omega
   ·have := HLT.out _ hz; omega)
  exact ⟨h.cell (i := 0) rfl, h.cell (i := 1) rfl⟩)
 rw [hwL]
 rw [hLB]
 clear hwL
 obtain ⟨l0, l1⟩ := HLC.out wL (Mods.refl _ _)
 refine wp_loop_rounds 3 ?_
 rw [rounds_succ]
 go_wp2_with fail
 go_loopw [7, 10, 11, 12, 13, 14, 24] (fun fv _ _ _ _ _ iv wr => ∃ (k : Nat) (acc1 : Option Tab) (mv1_ : Value), k ≤ 2 ∧ iv = .int .u64 k ∧ fv = .bool acc1.isSome ∧ Hid (FindInv w1 wr (W.heap.size + 1) b gp x fx P acc1 mv1_) ∧ Hid (accN P 0 0 (none : Option Tab) k = acc1) ∧ Hid (Mods ((W.heap.size + 1) :: (fx 0 ++ fx 1)) wL wr)) (fun _ _ _ _ _ _ iv _ => 2 - (intOf iv).toNat)
 case atStart => exact ⟨0, (none : Option Tab), _, by decide, rfl, rfl, HIL, Lib.hid rfl, Lib.hid (Mods.refl _ _)⟩
 case round =>
  obtain ⟨k, acc1, mv1_, hk, rfl, rfl, HI1, HA1, HMB1⟩ := hrel
  by_cases hk2 : k < 2
  ·have hklt : k < 18446744073709551616 := by omega
   have cSlot := Lib.hid (fun W => rSlot_any (W := W) true k hklt)
   obtain ⟨sl, hsl⟩ : ∃ sl, slotOf true k = sl := ⟨_, rfl⟩
   rw [hsl] at cSlot
   have HCX : Hid (∀ w', Mods [] wr w' → w'.cell? ⟨b, 2, none⟩ = some (.pointer (some ⟨x 0, 0, none⟩))) := Lib.hid (fun w' hm => by
    obtain ⟨_, _, d0, _⟩ := (HI1.out.pair.keep0 hm).at1 0 (by decide)
    exact d0)
   have cRead := Lib.hid (fun w' (hm : Mods [] wr w') => dRead_any ((HI1.out.pair.keep0 hm).dev 0 (by decide)) (HC.out 0 (by decide)) (sl : Nat))
   have hlook : look P 0 0 k = (let r := (P.dev 0).read (sl : Nat); if r.2 ≠ 0 then none else parseP B P.n 0 r.1) := by
    unfold look
    rw [show decide (0 = 0) = true by decide, hsl, (HP1.out.same 0 (by decide)).1, (HP1.out.same 0 (by decide)).2, HBB.out]
   generalize (P.dev 0).read (sl : Nat) = r at cRead hlook
   obtain ⟨img, er⟩ := r
   simp only at cRead hlook
   have q1 := HCX.out wr (Mods.refl _ _)
   have HL := Lib.hid hlook
   clear hlook hsl
   go_wp2_with fail
   go_region_held3 (fun w' => w'.cell? ⟨b, 2, none⟩ = some (.pointer (some ⟨x 0, 0, none⟩)))
    (first | go_keep | exact (HQ2.out) | fail)
    (first | (go_at_call 107; refine (cSlot.out _).mono ?_; rintro e w' ⟨rfl, rfl⟩) | (go_at_call 135; refine (cRead.out _ ((Mods.refl _ _).drew)).mono ?_; rintro e w2 ⟨rfl, hd2, hm2⟩; have HM2 : Hid (Mods [x 0] wr w2) := Lib.hid ((((Mods.refl [] wr).drew).mono (by simp)).trans hm2 (fun z hz => .inl hz)); have HP2 : Hid (IsPair w2 b gp x fx P) := Lib.hid (HI1.out.pair.stay (by decide) hd2 HM2.out); have HQ2 : Hid (w2.cell? ⟨b, 2, none⟩ = some (.pointer (some ⟨x 0, 0, none⟩))) := Lib.hid (by obtain ⟨_, _, d0, _⟩ := HP2.out.at1 0 (by decide); exact d0)))
   have HXF : Hid (∀ g ∈ [x 0], g ∈ fx 0 ++ fx 1) := Lib.hid (fun g hg => by
    rw [List.mem_singleton.1 hg]
    have := (HI1.out.pair.dev 0 (by decide)).head
    first | exact List.mem_append_left _ this | exact List.mem_append_right _ this)
   have HIx : Hid (FindInv w1 w2 (W.heap.size + 1) b gp x fx P acc1 mv1_) := Lib.hid (HI1.out.step HM2.out HXF.out (fun g hg => by have := HLT.out g hg; omega) (by have := HS1.out; omega) HP2.out)
   have HMBx : Hid (Mods ((W.heap.size + 1) :: (fx 0 ++ fx 1)) wL w2) := Lib.hid (HMB1.out.trans HM2.out (fun g hg => .inl (List.mem_cons_of_mem _ (HXF.out g hg))))
   clear hd2 hm2
   by_cases her : er = 0
   ·subst her
    have cParse := Lib.hid (rParse_any HP2.out 0 (by decide) img)
    rw [HBB.out] at cParse
    have hL2 := HL.out
    rw [if_neg (by simp)] at hL2
    have hok := fun u (hu : parseP B P.n 0 img = some u) => parseP_ok (by rw [← HBB.out]; exact HFB.out.blocks.2.2) HFB.out.2.1 hu
    generalize parseP B P.n 0 img = o at cParse hL2 hok
    have HL3 := Lib.hid hL2
    have HOK := Lib.hid hok
    clear hL2 hok
    unfold tabV at cParse
    cases o with
    | none =>
     go_upto_region 12 with (go_at_call 136; refine cParse.out.mono ?_; rintro e w3 ⟨t, mv3, ok, rfl, rfl, hmv3, hnew3, hm3⟩; obtain ⟨A3, c3, e3, _⟩ := mv_shape hmv3; subst e3)
     go_quiet (fail)
     go_wp2_with fail
     go_roundw
     case rel => exact ⟨k + 1, acc1, mv1_, by omega, by simp, rfl, Lib.hid ((HIx.out.step0 hm3).step0 (((Mods.refl _ _).alloc _).drewN nq)), Lib.hid (by rw [accN, HA1.out, HL3.out]; rfl), Lib.hid ((HMBx.out.trans hm3 (by simp)).trans (((Mods.refl [] w3).alloc _).drewN nq) (by simp))⟩
     case measure => simp [intOf]; omega
    | some u =>
     go_upto_region 12 with (go_at_call 136; refine cParse.out.mono ?_; rintro e w3 ⟨t, mv3, ok, rfl, ⟨rfl, rfl⟩, hmv3, hnew3, hm3⟩; obtain ⟨A3, c3, e3, _⟩ := mv_shape hmv3; subst e3; have HMV3 := Lib.hid hmv3; have HNEW3 := Lib.hid hnew3; have HM3 := Lib.hid hm3; clear hmv3 hnew3 hm3)
     obtain ⟨w4, hw4⟩ : ∃ w4, w3.alloc (.cells #[.int .i64 (t.blocks : Nat), .int .i64 (t.spares : Nat), .slice A3 t.moved.length c3] 71) = w4 := ⟨_, rfl⟩
     have hb4 : Blk w4 w3.heap.size 71 [.int .i64 (t.blocks : Nat), .int .i64 (t.spares : Nat), .slice A3 t.moved.length c3] := by rw [← hw4]; exact Blk.new w3 71 [.int .i64 (t.blocks : Nat), .int .i64 (t.spares : Nat), .slice A3 t.moved.length c3]
     have HM4 : Hid (Mods [] w2 w4) := Lib.hid (by rw [← hw4]; exact HM3.out.alloc _)
     have HI4 : Hid (FindInv w1 w4 (W.heap.size + 1) b gp x fx P acc1 mv1_) := Lib.hid (HIx.out.step0 HM4.out)
     have HMVU : Hid (∀ w', Mods [] w4 w' → IsMv w' (.slice A3 t.moved.length c3) t.moved) := Lib.hid (fun w' hm => IsMv.keep HMV3.out ((by rw [← hw4] at hm; exact ((Mods.refl [] w3).alloc _).tr hm) : Mods [] w3 w') (by simp))
     have HMB4 : Hid (Mods ((W.heap.size + 1) :: (fx 0 ++ fx 1)) wL w4) := Lib.hid (HMBx.out.trans HM4.out (by simp))
     have HNU : Hid (∀ g, (Value.slice A3 t.moved.length c3).ownBlock = some g → w1.heap.size ≤ g) := Lib.hid (fun g hg => Nat.le_trans HIx.out.mods.size (HNEW3.out g hg))
     have htOK := HOK.out t rfl
     have HTOK := Lib.hid htOK
     have hT3 : ¬ W.heap.size + 1 = w3.heap.size := by have h1 := HIx.out.mods.size; have h2 := HM3.out.size; have h3 := HS1.out; omega
     have HB4 : Hid (∀ w', Mods [] w4 w' → Blk w' w3.heap.size 71 [.int .i64 (t.blocks : Nat), .int .i64 (t.spares : Nat), .slice A3 t.moved.length c3]) := Lib.hid (fun w' hm => hb4.keep0 hm)
     rw [hw4]
     clear htOK hw4 hb4
     have htbW : W.heap.size + 1 ∉ gp := fun hz => by have := HGP.out _ hz; omega
     have hfxW : ∀ g ∈ fx 0 ++ fx 1, g < W.heap.size + 1 := fun g hg => by have := HLT.out g hg; omega
     have HTG := Lib.hid (And.intro htbW hfxW)
     have htb1 : W.heap.size + 1 < w1.heap.size := by have := HS1.out; omega
     clear htbW hfxW
     cases acc1 with
     | none =>
      go_quiet (fail)
      have hb5 := HB4.out (w4.drewN nq) ((Mods.refl _ _).drewN nq)
      have z0 := hb5.cell (i := 0) rfl
      have z1 := hb5.cell (i := 1) rfl
      have z2 := hb5.cell (i := 2) rfl
      have hi5 := HI4.out.step0 ((Mods.refl [] w4).drewN nq)
      have s0 := hi5.blk.cell (i := 0) rfl
      have s1 := hi5.blk.cell (i := 1) rfl
      have s2 := hi5.blk.cell (i := 2) rfl
      have f0 := hi5.blk.free 0
      have f1 := hi5.blk.free 1
      have f2 := hi5.blk.free 2
      have HI5 := Lib.hid hi5
      clear hi5 hb5
      go_wp2_with fail
      go_roundw
      case rel => exact ⟨k + 1, some t, .slice A3 t.moved.length c3, by omega, by simp, rfl, Lib.hid (HI5.out.store (HMVU.out _ ((Mods.refl _ _).drewN nq)) HTOK.out HNU.out htb1 HTG.out.1 HTG.out.2), Lib.hid (by rw [accN, HA1.out, HL3.out]; rfl), Lib.hid ((HMB4.out.drewN nq).trans (three_sets HI5.out.blk _ _ _).2 (fun g hg => .inl (by rw [List.mem_singleton.1 hg]; exact List.mem_cons_self ..)))⟩
      case measure => simp [intOf]; omega
     | some v =>
      obtain ⟨A8, c8, e8, _⟩ := mv_shape HI4.out.mvs
      subst e8
      have cGenU := Lib.hid (fun W hm => tGen_any (W := W) t (mv := .slice A3 t.moved.length c3) hm HTOK.out)
      have cGenV := Lib.hid (fun W hm => tGen_any (W := W) v (mv := .slice A8 v.moved.length c8) hm HI4.out.tok)
      unfold tabV at cGenU cGenV
      have HMVV : Hid (∀ w', Mods [] w4 w' → IsMv w' (.slice A8 v.moved.length c8) v.moved) := Lib.hid (fun w' hm => (HI4.out.step0 hm).mvs)
      have HSX : Hid (∀ w', Mods [] w4 w' → w'.cell? ⟨w3.heap.size, 0, none⟩ = some (.int .i64 (t.blocks : Nat)) ∧ w'.cell? ⟨w3.heap.size, 1, none⟩ = some (.int .i64 (t.spares : Nat)) ∧ w'.cell? ⟨w3.heap.size, 2, none⟩ = some (.slice A3 t.moved.length c3) ∧ w'.cell? ⟨W.heap.size + 1, 0, none⟩ = some (.int .i64 (v.blocks : Nat)) ∧ w'.cell? ⟨W.heap.size + 1, 1, none⟩ = some (.int .i64 (v.spares : Nat)) ∧ w'.cell? ⟨W.heap.size + 1, 2, none⟩ = some (.slice A8 v.moved.length c8)) := Lib.hid (fun w' hm => by
       have h1 := HB4.out w' hm
       have h2 := (HI4.out.step0 hm).blk
       exact ⟨h1.cell (i := 0) rfl, h1.cell (i := 1) rfl, h1.cell (i := 2) rfl, h2.cell (i := 0) rfl, h2.cell (i := 1) rfl, h2.cell (i := 2) rfl⟩)
      obtain ⟨z0, z1, z2, s0, s1, s2⟩ := HSX.out w4 (Mods.refl _ _)
      by_cases hgt : v.moved.length < t.moved.length
      ·go_region_held3 (fun w' => w'.cell? ⟨w3.heap.size, 0, none⟩ = some (.int .i64 (t.blocks : Nat)) ∧ w'.cell? ⟨w3.heap.size, 1, none⟩ = some (.int .i64 (t.spares : Nat)) ∧ w'.cell? ⟨w3.heap.size, 2, none⟩ = some (.slice A3 t.moved.length c3) ∧ w'.cell? ⟨W.heap.size + 1, 0, none⟩ = some (.int .i64 (v.blocks : Nat)) ∧ w'.cell? ⟨W.heap.size + 1, 1, none⟩ = some (.int .i64 (v.spares : Nat)) ∧ w'.cell? ⟨W.heap.size + 1, 2, none⟩ = some (.slice A8 v.moved.length c8))
        (first | go_keep | exact HSX.out _ HM6.out | exact HSX.out _ HM5.out | fail)
        (first | (go_at_call 104; refine (cGenV.out _ (HMVV.out _ HM5.out)).mono ?_; rintro e w6 ⟨rfl, hm6⟩; have HM6 : Hid (Mods [] w4 w6) := Lib.hid (HM5.out.tr hm6)) | (go_at_call 104; refine (cGenU.out _ (HMVU.out _ HM5.out)).mono ?_; rintro e w6 ⟨rfl, hm6⟩; have HM6 : Hid (Mods [] w4 w6) := Lib.hid (HM5.out.tr hm6)) | (go_at_call 104; refine (cGenU.out _ (HMVU.out _ ((Mods.refl _ _).drew))).mono ?_; rintro e w5 ⟨rfl, hm5⟩; have HM5 : Hid (Mods [] w4 w5) := Lib.hid (((Mods.refl _ _).drew).tr hm5)) | (go_at_call 104; refine (cGenV.out _ (HMVV.out _ ((Mods.refl _ _).drew))).mono ?_; rintro e w5 ⟨rfl, hm5⟩; have HM5 : Hid (Mods [] w4 w5) := Lib.hid (((Mods.refl _ _).drew).tr hm5)))
       all_goals
        have hi6 := HI4.out.step0 HM6.out
        obtain ⟨z0, z1, z2, s0, s1, s2⟩ := HSX.out w6 HM6.out
        have f0 := hi6.blk.free 0
        have f1 := hi6.blk.free 1
        have f2 := hi6.blk.free 2
        have HI6 := Lib.hid hi6
        clear hi6
        go_wp2_with fail
        go_roundw
       case rel => exact ⟨k + 1, some t, .slice A3 t.moved.length c3, by omega, by simp, rfl, Lib.hid (HI6.out.store (HMVU.out _ HM6.out) HTOK.out HNU.out htb1 HTG.out.1 HTG.out.2), Lib.hid (by rw [accN, HA1.out, HL3.out]; show (if v.moved.length < t.moved.length then some t else some v) = some t; rw [if_pos hgt]), Lib.hid ((HMB4.out.trans HM6.out (by simp)).trans (three_sets HI6.out.blk _ _ _).2 (fun g hg => .inl (by rw [List.mem_singleton.1 hg]; exact List.mem_cons_self ..)))⟩
       case measure => simp [intOf]; omega
      ·go_region_held3 (fun w' => w'.cell? ⟨w3.heap.size, 0, none⟩ = some (.int .i64 (t.blocks : Nat)) ∧ w'.cell? ⟨w3.heap.size, 1, none⟩ = some (.int .i64 (t.spares : Nat)) ∧ w'.cell? ⟨w3.heap.size, 2, none⟩ = some (.slice A3 t.moved.length c3) ∧ w'.cell? ⟨W.heap.size + 1, 0, none⟩ = some (.int .i64 (v.blocks : Nat)) ∧ w'.cell? ⟨W.heap.size + 1, 1, none⟩ = some (.int .i64 (v.spares : Nat)) ∧ w'.cell? ⟨W.heap.size + 1, 2, none⟩ = some (.slice A8 v.moved.length c8))
        (first | go_keep | exact HSX.out _ HM6.out | exact HSX.out _ HM5.out | fail)
        (first | (go_at_call 104; refine (cGenV.out _ (HMVV.out _ HM5.out)).mono ?_; rintro e w6 ⟨rfl, hm6⟩; have HM6 : Hid (Mods [] w4 w6) := Lib.hid (HM5.out.tr hm6)) | (go_at_call 104; refine (cGenU.out _ (HMVU.out _ HM5.out)).mono ?_; rintro e w6 ⟨rfl, hm6⟩; have HM6 : Hid (Mods [] w4 w6) := Lib.hid (HM5.out.tr hm6)) | (go_at_call 104; refine (cGenU.out _ (HMVU.out _ ((Mods.refl _ _).drew))).mono ?_; rintro e w5 ⟨rfl, hm5⟩; have HM5 : Hid (Mods [] w4 w5) := Lib.hid (((Mods.refl _ _).drew).tr hm5)) | (go_at_call 104; refine (cGenV.out _ (HMVV.out _ ((Mods.refl _ _).drew))).mono ?_; rintro e w5 ⟨rfl, hm5⟩; have HM5 : Hid (Mods [] w4 w5) := Lib.hid (((Mods.refl _ _).drew).tr hm5)))
       all_goals
        go_wp2_with fail
        go_roundw
       case rel => exact ⟨k + 1, some v, .slice A8 v.moved.length c8, by omega, by simp, rfl, Lib.hid (HI4.out.step0 HM6.out), Lib.hid (by rw [accN, HA1.out, HL3.out]; show (if v.moved.length < t.moved.length then some t else some v) = some v; rw [if_neg hgt]), Lib.hid (HMB4.out.trans HM6.out (by simp))⟩
       case measure => simp [intOf]; omega
   ·have hne : ¬ (er : Int) = 0 := by omega
    have hb : ((er : Int) == 0) = false := beq_eq_false_iff_ne.2 hne
    go_wp2_with fail
    go_roundw
    case rel => exact ⟨k + 1, acc1, mv1_, by omega, by simp, rfl, HIx, Lib.hid (by rw [accN, HA1.out, HL.out, if_pos her]; rfl), HMBx⟩
    case measure => simp [intOf]; omega
  ·obtain rfl : k = 2 := by omega
   rename World => wM
   go_wp2_with fail
   rw [rounds_succ]
   obtain ⟨l0, l1⟩ := HLC.out wM HMB1.out
   go_wp2_with fail
   go_loopw [7, 10, 11, 12, 13, 14, 24] (fun fv _ _ _ _ _ iv wr => ∃ (k : Nat) (acc2 : Option Tab) (mv2_ : Value), k ≤ 2 ∧ iv = .int .u64 k ∧ fv = .bool acc2.isSome ∧ Hid (FindInv w1 wr (W.heap.size + 1) b gp x fx P acc2 mv2_) ∧ Hid (accN P 0 1 acc1 k = acc2) ∧ Hid (Mods ((W.heap.size + 1) :: (fx 0 ++ fx 1)) wM wr)) (fun _ _ _ _ _ _ iv _ => 2 - (intOf iv).toNat)
   case atStart => exact ⟨0, acc1, _, by decide, rfl, rfl, HI1, Lib.hid rfl, Lib.hid (Mods.refl _ _)⟩
   case round =>
    obtain ⟨k, acc2, mv2_, hk, rfl, rfl, HI2, HA2, HMB2⟩ := hrel
    by_cases hk2 : k < 2
    ·have hklt : k < 18446744073709551616 := by omega
     have cSlot := Lib.hid (fun W => rSlot_any (W := W) false k hklt)
     obtain ⟨sl, hsl⟩ : ∃ sl, slotOf false k = sl := ⟨_, rfl⟩
     rw [hsl] at cSlot
     have HCX : Hid (∀ w', Mods [] wr w' → w'.cell? ⟨b, 3, none⟩ = some (.pointer (some ⟨x 1, 0, none⟩))) := Lib.hid (fun w' hm => by
      obtain ⟨_, _, d0, _⟩ := (HI2.out.pair.keep0 hm).at1 1 (by decide)
      exact d0)
     have cRead := Lib.hid (fun w' (hm : Mods [] wr w') => dRead_any ((HI2.out.pair.keep0 hm).dev 1 (by decide)) (HC.out 1 (by decide)) (sl : Nat))
     have hlook : look P 0 1 k = (let r := (P.dev 1).read (sl : Nat); if r.2 ≠ 0 then none else parseP B P.n 0 r.1) := by
      unfold look
      rw [show decide (1 = 0) = false by decide, hsl, (HP1.out.same 0 (by decide)).1, (HP1.out.same 0 (by decide)).2, HBB.out]
     generalize (P.dev 1).read (sl : Nat) = r at cRead hlook
     obtain ⟨img, er⟩ := r
     simp only at cRead hlook
     have q1 := HCX.out wr (Mods.refl _ _)
     have HL := Lib.hid hlook
     clear hlook hsl
     go_wp2_with fail
     go_region_held3 (fun w' => w'.cell? ⟨b, 3, none⟩ = some (.pointer (some ⟨x 1, 0, none⟩)))
      (first | go_keep | exact (HQ2.out) | fail)
      (first | (go_at_call 107; refine (cSlot.out _).mono ?_; rintro e w' ⟨rfl, rfl⟩) | (go_at_call 135; refine (cRead.out _ ((Mods.refl _ _).drew)).mono ?_; rintro e w2 ⟨rfl, hd2, hm2⟩; have HM2 : Hid (Mods [x 1] wr w2) := Lib.hid ((((Mods.refl [] wr).drew).mono (by simp)).trans hm2 (fun z hz => .inl hz)); have HP2 : Hid (IsPair w2 b gp x fx P) := Lib.hid (HI2.out.pair.stay (by decide) hd2 HM2.out); have HQ2 : Hid (w2.cell? ⟨b, 3, none⟩ = some (.pointer (some ⟨x 1, 0, none⟩))) := Lib.hid (by obtain ⟨_, _, d0, _⟩ := HP2.out.at1 1 (by decide); exact d0)))
     have HXF : Hid (∀ g ∈ [x 1], g ∈ fx 0 ++ fx 1) := Lib.hid (fun g hg => by
      rw [List.mem_singleton.1 hg]
      have := (HI2.out.pair.dev 1 (by decide)).head
      first | exact List.mem_append_left _ this | exact List.mem_append_right _ this)
     have HIx : Hid (FindInv w1 w2 (W.heap.size + 1) b gp x fx P acc2 mv2_) := Lib.hid (HI2.out.step HM2.out HXF.out (fun g hg => by have := HLT.out g hg; omega) (by have := HS1.out; omega) HP2.out)
     have HMBx : Hid (Mods ((W.heap.size + 1) :: (fx 0 ++ fx 1)) wM w2) := Lib.hid (HMB2.out.trans HM2.out (fun g hg => .inl (List.mem_cons_of_mem _ (HXF.out g hg))))
     clear hd2 hm2
     by_cases her : er = 0
     ·subst her
      have cParse := Lib.hid (rParse_any HP2.out 0 (by decide) img)
      rw [HBB.out] at cParse
      have hL2 := HL.out
      rw [if_neg (by simp)] at hL2
      have hok := fun u (hu : parseP B P.n 0 img = some u) => parseP_ok (by rw [← HBB.out]; exact HFB.out.blocks.2.2) HFB.out.2.1 hu
      generalize parseP B P.n 0 img = o at cParse hL2 hok
      have HL3 := Lib.hid hL2
      have HOK := Lib.hid hok
      clear hL2 hok
      unfold tabV at cParse
      cases o with
      | none =>
       go_upto_region 12 with (go_at_call 136; refine cParse.out.mono ?_; rintro e w3 ⟨t, mv3, ok, rfl, rfl, hmv3, hnew3, hm3⟩; obtain ⟨A3, c3, e3, _⟩ := mv_shape hmv3; subst e3)
       go_quiet (fail)
       go_wp2_with fail
       go_roundw
       case rel => exact ⟨k + 1, acc2, mv2_, by omega, by simp, rfl, Lib.hid ((HIx.out.step0 hm3).step0 (((Mods.refl _ _).alloc _).drewN nq)), Lib.hid (by rw [accN, HA2.out, HL3.out]; rfl), Lib.hid ((HMBx.out.trans hm3 (by simp)).trans (((Mods.refl [] w3).alloc _).drewN nq) (by simp))⟩
       case measure => simp [intOf]; omega
      | some u =>
       go_upto_region 12 with (go_at_call 136; refine cParse.out.mono ?_; rintro e w3 ⟨t, mv3, ok, rfl, ⟨rfl, rfl⟩, hmv3, hnew3, hm3⟩; obtain ⟨A3, c3, e3, _⟩ := mv_shape hmv3; subst e3; have HMV3 := Lib.hid hmv3; have HNEW3 := Lib.hid hnew3; have HM3 := Lib.hid hm3; clear hmv3 hnew3 hm3)
       obtain ⟨w4, hw4⟩ : ∃ w4, w3.alloc (.cells #[.int .i64 (t.blocks : Nat), .int .i64 (t.spares : Nat), .slice A3 t.moved.length c3] 71) = w4 := ⟨_, rfl⟩
       have hb4 : Blk w4 w3.heap.size 71 [.int .i64 (t.blocks : Nat), .int .i64 (t.spares : Nat), .slice A3 t.moved.length c3] := by rw [← hw4]; exact Blk.new w3 71 [.int .i64 (t.blocks : Nat), .int .i64 (t.spares : Nat), .slice A3 t.moved.length c3]
       have HM4 : Hid (Mods [] w2 w4) := Lib.hid (by rw [← hw4]; exact HM3.out.alloc _)
       have HI4 : Hid (FindInv w1 w4 (W.heap.size + 1) b gp x fx P acc2 mv2_) := Lib.hid (HIx.out.step0 HM4.out)
       have HMVU : Hid (∀ w', Mods [] w4 w' → IsMv w' (.slice A3 t.moved.length c3) t.moved) := Lib.hid (fun w' hm => IsMv.keep HMV3.out ((by rw [← hw4] at hm; exact ((Mods.refl [] w3).alloc _).tr hm) : Mods [] w3 w') (by simp))
       have HMB4 : Hid (Mods ((W.heap.size + 1) :: (fx 0 ++ fx 1)) wM w4) := Lib.hid (HMBx.out.trans HM4.out (by simp))
       have HNU : Hid (∀ g, (Value.slice A3 t.moved.length c3).ownBlock = some g → w1.heap.size ≤ g) := Lib.hid (fun g hg => Nat.le_trans HIx.out.mods.size (HNEW3.out g hg))
       have htOK := HOK.out t rfl
       have HTOK := Lib.hid htOK
       have hT3 : ¬ W.heap.size + 1 = w3.heap.size := by have h1 := HIx.out.mods.size; have h2 := HM3.out.size; have h3 := HS1.out; omega
       have HB4 : Hid (∀ w', Mods [] w4 w' → Blk w' w3.heap.size 71 [.int .i64 (t.blocks : Nat), .int .i64 (t.spares : Nat), .slice A3 t.moved.length c3]) := Lib.hid (fun w' hm => hb4.keep0 hm)
       rw [hw4]
       clear htOK hw4 hb4
       have htbW : W.heap.size + 1 ∉ gp := fun hz => by have := HGP.out _ hz; omega
       have hfxW : ∀ g ∈ fx 0 ++ fx 1, g < W.heap.size + 1 := fun g hg => by have := HLT.out g hg; omega
       have HTG := Lib.hid (And.intro htbW hfxW)
       have htb1 : W.heap.size + 1 < w1.heap.size := by have := HS1.out; omega
       clear htbW hfxW
       cases acc2 with
       | none =>
        go_quiet (fail)
        have hb5 := HB4.out (w4.drewN nq) ((Mods.refl _ _).drewN nq)
        have z0 := hb5.cell (i := 0) rfl
        have z1 := hb5.cell (i := 1) rfl
        have z2 := hb5.cell (i := 2) rfl
        have hi5 := HI4.out.step0 ((Mods.refl [] w4).drewN nq)
        have s0 := hi5.blk.cell (i := 0) rfl
        have s1 := hi5.blk.cell (i := 1) rfl
        have s2 := hi5.blk.cell (i := 2) rfl
        have f0 := hi5.blk.free 0
        have f1 := hi5.blk.free 1
        have f2 := hi5.blk.free 2
        have HI5 := Lib.hid hi5
        clear hi5 hb5
        go_wp2_with fail
        go_roundw
        case rel => exact ⟨k + 1, some t, .slice A3 t.moved.length c3, by omega, by simp, rfl, Lib.hid (HI5.out.store (HMVU.out _ ((Mods.refl _ _).drewN nq)) HTOK.out HNU.out htb1 HTG.out.1 HTG.out.2), Lib.hid (by rw [accN, HA2.out, HL3.out]; rfl), Lib.hid ((HMB4.out.drewN nq).trans (three_sets HI5.out.blk _ _ _).2 (fun g hg => .inl (by rw [List.mem_singleton.1 hg]; exact List.mem_cons_self ..)))⟩
        case measure => simp [intOf]; omega
       | some v =>
        obtain ⟨A8, c8, e8, _⟩ := mv_shape HI4.out.mvs
        subst e8
        have cGenU := Lib.hid (fun W hm => tGen_any (W := W) t (mv := .slice A3 t.moved.length c3) hm HTOK.out)
        have cGenV := Lib.hid (fun W hm => tGen_any (W := W) v (mv := .slice A8 v.moved.length c8) hm HI4.out.tok)
        unfold tabV at cGenU cGenV
        have HMVV : Hid (∀ w', Mods [] w4 w' → IsMv w' (.slice A8 v.moved.length c8) v.moved) := Lib.hid (fun w' hm => (HI4.out.step0 hm).mvs)
        have HSX : Hid (∀ w', Mods [] w4 w' → w'.cell? ⟨w3.heap.size, 0, none⟩ = some (.int .i64 (t.blocks : Nat)) ∧ w'.cell? ⟨w3.heap.size, 1, none⟩ = some (.int .i64 (t.spares : Nat)) ∧ w'.cell? ⟨w3.heap.size, 2, none⟩ = some (.slice A3 t.moved.length c3) ∧ w'.cell? ⟨W.heap.size + 1, 0, none⟩ = some (.int .i64 (v.blocks : Nat)) ∧ w'.cell? ⟨W.heap.size + 1, 1, none⟩ = some (.int .i64 (v.spares : Nat)) ∧ w'.cell? ⟨W.heap.size + 1, 2, none⟩ = some (.slice A8 v.moved.length c8)) := Lib.hid (fun w' hm => by
         have h1 := HB4.out w' hm
         have h2 := (HI4.out.step0 hm).blk
         exact ⟨h1.cell (i := 0) rfl, h1.cell (i := 1) rfl, h1.cell (i := 2) rfl, h2.cell (i := 0) rfl, h2.cell (i := 1) rfl, h2.cell (i := 2) rfl⟩)
        obtain ⟨z0, z1, z2, s0, s1, s2⟩ := HSX.out w4 (Mods.refl _ _)
        by_cases hgt : v.moved.length < t.moved.length
        ·go_region_held3 (fun w' => w'.cell? ⟨w3.heap.size, 0, none⟩ = some (.int .i64 (t.blocks : Nat)) ∧ w'.cell? ⟨w3.heap.size, 1, none⟩ = some (.int .i64 (t.spares : Nat)) ∧ w'.cell? ⟨w3.heap.size, 2, none⟩ = some (.slice A3 t.moved.length c3) ∧ w'.cell? ⟨W.heap.size + 1, 0, none⟩ = some (.int .i64 (v.blocks : Nat)) ∧ w'.cell? ⟨W.heap.size + 1, 1, none⟩ = some (.int .i64 (v.spares : Nat)) ∧ w'.cell? ⟨W.heap.size + 1, 2, none⟩ = some (.slice A8 v.moved.length c8))
          (first | go_keep | exact HSX.out _ HM6.out | exact HSX.out _ HM5.out | fail)
          (first | (go_at_call 104; refine (cGenV.out _ (HMVV.out _ HM5.out)).mono ?_; rintro e w6 ⟨rfl, hm6⟩; have HM6 : Hid (Mods [] w4 w6) := Lib.hid (HM5.out.tr hm6)) | (go_at_call 104; refine (cGenU.out _ (HMVU.out _ HM5.out)).mono ?_; rintro e w6 ⟨rfl, hm6⟩; have HM6 : Hid (Mods [] w4 w6) := Lib.hid (HM5.out.tr hm6)) | (go_at_call 104; refine (cGenU.out _ (HMVU.out _ ((Mods.refl _ _).drew))).mono ?_; rintro e w5 ⟨rfl, hm5⟩; have HM5 : Hid (Mods [] w4 w5) := Lib.hid (((Mods.refl _ _).drew).tr hm5)) | (go_at_call 104; refine (cGenV.out _ (HMVV.out _ ((Mods.refl _ _).drew))).mono ?_; rintro e w5 ⟨rfl, hm5⟩; have HM5 : Hid (Mods [] w4 w5) := Lib.hid (((Mods.refl _ _).drew).tr hm5)))
         all_goals
          have hi6 := HI4.out.step0 HM6.out
          obtain ⟨z0, z1, z2, s0, s1, s2⟩ := HSX.out w6 HM6.out
          have f0 := hi6.blk.free 0
          have f1 := hi6.blk.free 1
          have f2 := hi6.blk.free 2
          have HI6 := Lib.hid hi6
          clear hi6
          go_wp2_with fail
          go_roundw
         case rel => exact ⟨k + 1, some t, .slice A3 t.moved.length c3, by omega, by simp, rfl, Lib.hid (HI6.out.store (HMVU.out _ HM6.out) HTOK.out HNU.out htb1 HTG.out.1 HTG.out.2), Lib.hid (by rw [accN, HA2.out, HL3.out]; show (if v.moved.length < t.moved.length then some t else some v) = some t; rw [if_pos hgt]), Lib.hid ((HMB4.out.trans HM6.out (by simp)).trans (three_sets HI6.out.blk _ _ _).2 (fun g hg => .inl (by rw [List.mem_singleton.1 hg]; exact List.mem_cons_self ..)))⟩
         case measure => simp [intOf]; omega
        ·go_region_held3 (fun w' => w'.cell? ⟨w3.heap.size, 0, none⟩ = some (.int .i64 (t.blocks : Nat)) ∧ w'.cell? ⟨w3.heap.size, 1, none⟩ = some (.int .i64 (t.spares : Nat)) ∧ w'.cell? ⟨w3.heap.size, 2, none⟩ = some (.slice A3 t.moved.length c3) ∧ w'.cell? ⟨W.heap.size + 1, 0, none⟩ = some (.int .i64 (v.blocks : Nat)) ∧ w'.cell? ⟨W.heap.size + 1, 1, none⟩ = some (.int .i64 (v.spares : Nat)) ∧ w'.cell? ⟨W.heap.size + 1, 2, none⟩ = some (.slice A8 v.moved.length c8))
          (first | go_keep | exact HSX.out _ HM6.out | exact HSX.out _ HM5.out | fail)
          (first | (go_at_call 104; refine (cGenV.out _ (HMVV.out _ HM5.out)).mono ?_; rintro e w6 ⟨rfl, hm6⟩; have HM6 : Hid (Mods [] w4 w6) := Lib.hid (HM5.out.tr hm6)) | (go_at_call 104; refine (cGenU.out _ (HMVU.out _ HM5.out)).mono ?_; rintro e w6 ⟨rfl, hm6⟩; have HM6 : Hid (Mods [] w4 w6) := Lib.hid (HM5.out.tr hm6)) | (go_at_call 104; refine (cGenU.out _ (HMVU.out _ ((Mods.refl _ _).drew))).mono ?_; rintro e w5 ⟨rfl, hm5⟩; have HM5 : Hid (Mods [] w4 w5) := Lib.hid (((Mods.refl _ _).drew).tr hm5)) | (go_at_call 104; refine (cGenV.out _ (HMVV.out _ ((Mods.refl _ _).drew))).mono ?_; rintro e w5 ⟨rfl, hm5⟩; have HM5 : Hid (Mods [] w4 w5) := Lib.hid (((Mods.refl _ _).drew).tr hm5)))
         all_goals
          go_wp2_with fail
          go_roundw
         case rel => exact ⟨k + 1, some v, .slice A8 v.moved.length c8, by omega, by simp, rfl, Lib.hid (HI4.out.step0 HM6.out), Lib.hid (by rw [accN, HA2.out, HL3.out]; show (if v.moved.length < t.moved.length then some t else some v) = some v; rw [if_neg hgt]), Lib.hid (HMB4.out.trans HM6.out (by simp))⟩
         case measure => simp [intOf]; omega
     ·have hne : ¬ (er : Int) = 0 := by omega
      have hb : ((er : Int) == 0) = false := beq_eq_false_iff_ne.2 hne
      go_wp2_with fail
      go_roundw
      case rel => exact ⟨k + 1, acc2, mv2_, by omega, by simp, rfl, HIx, Lib.hid (by rw [accN, HA2.out, HL.out, if_pos her]; rfl), HMBx⟩
      case measure => simp [intOf]; omega
    ·obtain rfl : k = 2 := by omega
     have hz := HI2.out
     have hlt2 := HLT.out
     have hs1 := HS1.out
     have hrb : Blk wr W.heap.size 71 [.int .i64 0, .int .i64 0, .slice none 0 0] := HR1.out.keep hz.mods (fun hg => by
      rcases List.mem_cons.1 hg with hg | hg
      ·omega
      ·have := hlt2 _ hg; omega)
     obtain ⟨A9, c9, e9, _⟩ := mv_shape hz.mvs
     subst e9
     have z0 := hz.blk.cell (i := 0) rfl
     have z1 := hz.blk.cell (i := 1) rfl
     have z2 := hz.blk.cell (i := 2) rfl
     have s0 := hrb.cell (i := 0) rfl
     have s1 := hrb.cell (i := 1) rfl
     have s2 := hrb.cell (i := 2) rfl
     have f0 := hrb.free 0
     have f1 := hrb.free 1
     have f2 := hrb.free 2
     have HZ := Lib.hid hz
     have HRB := Lib.hid hrb
     clear hz hrb hlt2 hs1
     have hfin : findP P 0 = acc2 := by
      rw [← HA2.out, ← HA1.out]; rfl
     have HFIN := Lib.hid hfin
     clear hfin
     go_wp2_with fail
     rw [rounds_succ]
     go_wp2_with fail
     obtain ⟨k1, k2⟩ := three_sets HRB.out (.int .i64 ((acc2.getD Tab.zero).blocks : Nat)) (.int .i64 ((acc2.getD Tab.zero).spares : Nat)) (.slice A9 (acc2.getD Tab.zero).moved.length c9)
     refine bodyPost_ret (results_ct rfl rfl (load_tab k1)) rfl ?_
     rw [HFIN.out]
     have hs1 := HS1.out
     have hnew := HZ.out.new
     refine ⟨.slice A9 (acc2.getD Tab.zero).moved.length c9, rfl, Lib.hid (IsMv.keep HZ.out.mvs k2 (fun g hg => by have := hnew g hg; simp; omega)), Lib.hid HZ.out.tok, Lib.hid (fun g hg => by have := hnew g hg; omega), Lib.hid (HZ.out.pair.keep k2 (fun g hg hz => by have h1 := HGP.out g hg; have h2 := List.mem_singleton.1 hz; omega) (fun s hs g hg hz => by
      have h2 := List.mem_singleton.1 hz
      have h1 := HLT.out g (by
       rcases (show s = 0 ∨ s = 1 by omega) with rfl | rfl
       ·exact List.mem_append_left _ hg
       ·exact List.mem_append_right _ hg)
      omega)), Lib.hid (((HM1.out.mono (by simp)).trans HZ.out.mods (fun g hg => ?_)).trans k2 (fun g hg => .inr (by rw [List.mem_singleton.1 hg]; exact Nat.le_refl _)))⟩
     rcases List.mem_cons.1 hg with rfl | hg
     ·exact .inr (by omega)
     ·exact .inl hg
set_option maxRecDepth 100000 in
set_option maxHeartbeats 6400000 in
theorem rFind_1 {W : World} {b : Nat} {gp : List Nat} {x : Nat → Nat} {fx : Nat → List Nat} {P : Pr} (h : IsPair W b gp x fx P) (hc : ∀ k, k < 2 → (P.dev k).cache.length < 1000000) :
  Calls Tryz.prog 77 #[.pointer (some ⟨b, 0, none⟩), .int .i64 1] W fun e w' => ∃ mv, e = .returned (.tuple #[tabV ((findP P 1).getD Tab.zero) mv, .bool (findP P 1).isSome]) ∧ Hid (IsMv w' mv ((findP P 1).getD Tab.zero).moved) ∧ Hid (((findP P 1).getD Tab.zero).Ok) ∧ Hid (∀ g, mv.ownBlock = some g → W.heap.size ≤ g) ∧ Hid (IsPair w' b gp x fx P) ∧ Hid (Mods (fx 0 ++ fx 1) W w') := by
 obtain ⟨w1, hw1⟩ : ∃ w1, (W.alloc (.cells #[.int .i64 0, .int .i64 0, .slice none 0 0] 71)).alloc (.cells #[.int .i64 0, .int .i64 0, .slice none 0 0] 71) = w1 := ⟨_, rfl⟩
 have hr1 : Blk w1 W.heap.size 71 [.int .i64 0, .int .i64 0, .slice none 0 0] := by rw [← hw1]; exact (Blk.new W 71 [.int .i64 0, .int .i64 0, .slice none 0 0]).alloc _
 have ht1 : Blk w1 (W.heap.size + 1) 71 [.int .i64 0, .int .i64 0, .slice none 0 0] := by
  have hx := Blk.new (W.alloc (.cells #[.int .i64 0, .int .i64 0, .slice none 0 0] 71)) 71 [.int .i64 0, .int .i64 0, .slice none 0 0]
  have e : (W.alloc (.cells #[.int .i64 0, .int .i64 0, .slice none 0 0] 71)).heap.size = W.heap.size + 1 := by simp
  rw [e] at hx
  rw [← hw1]; exact hx
 have hm1 : Mods [] W w1 := by rw [← hw1]; exact ((Mods.refl _ _).alloc _).alloc _
 have hsz1 : w1.heap.size = W.heap.size + 2 := by rw [← hw1]; simp
 have hlt : ∀ g ∈ fx 0 ++ fx 1, g < W.heap.size := by
  intro g hg
  rcases List.mem_append.1 hg with hg | hg
  ·exact (h.dev 0 (by decide)).lt g hg
  ·exact (h.dev 1 (by decide)).lt g hg
 have hgp : ∀ g ∈ gp, g < W.heap.size := h.pb.lt
 have hbW : b < W.heap.size := h.pb.lt b (by obtain ⟨_, _, _, hg, _⟩ := h.pb; rw [hg]; simp [pairFoot])
 have HLT := Lib.hid hlt
 have HGP := Lib.hid hgp
 have HM1 := Lib.hid hm1
 have HR1 := Lib.hid hr1
 have HT1 := Lib.hid ht1
 have HP1 : Hid (IsPair w1 b gp x fx P) := Lib.hid (h.keep0 hm1)
 have HS1 := Lib.hid hsz1
 have HC := Lib.hid hc
 have HFB := Lib.hid h.fit
 obtain ⟨B, hB⟩ : ∃ B, blocksN (P.dev 0).sectors (P.dev 0).size P.n = B := ⟨_, rfl⟩
 have HBB := Lib.hid hB
 have cOther := Lib.hid (fun W => rOther_any (W := W) 1 (by decide))
 have hne1 : ¬ W.heap.size + 1 = b := by omega
 have hne2 : ¬ W.heap.size = b := by omega
 clear hr1 ht1 hm1 hsz1 hlt hgp h hc hB
 go_enter Tryz.func77, Tryz.ntmps77
 go_wp2_with (first | (go_at_call 54; refine (cOther.out _).mono ?_; rintro e w' ⟨rfl, rfl⟩))
 obtain ⟨wL, hwL⟩ : ∃ wL, w1.alloc (.cells #[.int .i64 1, .int .i64 0] 3) = wL := ⟨_, rfl⟩
 have hLB : w1.heap.size = W.heap.size + 2 := HS1.out
 have HLB : Hid (Blk wL (W.heap.size + 2) 3 [.int .i64 1, .int .i64 0]) := Lib.hid (by rw [← hwL, ← hLB]; exact Blk.new w1 3 [.int .i64 1, .int .i64 0])
 have HIL : Hid (FindInv w1 wL (W.heap.size + 1) b gp x fx P none (.slice none 0 0)) := Lib.hid (by
  have hm : Mods [] w1 wL := by rw [← hwL]; exact (Mods.refl _ _).alloc _
  exact ⟨HT1.out.keep0 hm, IsMv.nil _, Tab.zero_ok, fun g hg => (by cases hg), HP1.out.keep0 hm, hm.mono (by simp)⟩)
 have HWL : Hid (Mods [] w1 wL) := Lib.hid (by rw [← hwL]; exact (Mods.refl _ _).alloc _)
 have HLC : Hid (∀ w', Mods ((W.heap.size + 1) :: (fx 0 ++ fx 1)) wL w' → w'.cell? ⟨W.heap.size + 2, 0, none⟩ = some (.int .i64 1) ∧ w'.cell? ⟨W.heap.size + 2, 1, none⟩ = some (.int .i64 0)) := Lib.hid (fun w' hm => by
  have h := HLB.out.keep hm (fun hz => by
   rcases List.mem_cons.1 hz with hz | hz
   ·omega
   ·have := HLT.out _ hz; omega)
  exact ⟨h.cell (i := 0) rfl, h.cell (i := 1) rfl⟩)
 rw [hwL]
 rw [hLB]
 clear hwL
 obtain ⟨l0, l1⟩ := HLC.out wL (Mods.refl _ _)
 refine wp_loop_rounds 3 ?_
 rw [rounds_succ]
 go_wp2_with fail
 go_loopw [7, 10, 11, 12, 13, 14, 24] (fun fv _ _ _ _ _ iv wr => ∃ (k : Nat) (acc1 : Option Tab) (mv1_ : Value), k ≤ 2 ∧ iv = .int .u64 k ∧ fv = .bool acc1.isSome ∧ Hid (FindInv w1 wr (W.heap.size + 1) b gp x fx P acc1 mv1_) ∧ Hid (accN P 1 1 (none : Option Tab) k = acc1) ∧ Hid (Mods ((W.heap.size + 1) :: (fx 0 ++ fx 1)) wL wr)) (fun _ _ _ _ _ _ iv _ => 2 - (intOf iv).toNat)
 case atStart => exact ⟨0, (none : Option Tab), _, by decide, rfl, rfl, HIL, Lib.hid rfl, Lib.hid (Mods.refl _ _)⟩
 case round =>
  obtain ⟨k, acc1, mv1_, hk, rfl, rfl, HI1, HA1, HMB1⟩ := hrel
  by_cases hk2 : k < 2
  ·have hklt : k < 18446744073709551616 := by omega
   have cSlot := Lib.hid (fun W => rSlot_any (W := W) true k hklt)
   obtain ⟨sl, hsl⟩ : ∃ sl, slotOf true k = sl := ⟨_, rfl⟩
   rw [hsl] at cSlot
   have HCX : Hid (∀ w', Mods [] wr w' → w'.cell? ⟨b, 3, none⟩ = some (.pointer (some ⟨x 1, 0, none⟩))) := Lib.hid (fun w' hm => by
    obtain ⟨_, _, d0, _⟩ := (HI1.out.pair.keep0 hm).at1 1 (by decide)
    exact d0)
   have cRead := Lib.hid (fun w' (hm : Mods [] wr w') => dRead_any ((HI1.out.pair.keep0 hm).dev 1 (by decide)) (HC.out 1 (by decide)) (sl : Nat))
   have hlook : look P 1 1 k = (let r := (P.dev 1).read (sl : Nat); if r.2 ≠ 0 then none else parseP B P.n 1 r.1) := by
    unfold look
    rw [show decide (1 = 1) = true by decide, hsl, (HP1.out.same 1 (by decide)).1, (HP1.out.same 1 (by decide)).2, HBB.out]
   generalize (P.dev 1).read (sl : Nat) = r at cRead hlook
   obtain ⟨img, er⟩ := r
   simp only at cRead hlook
   have q1 := HCX.out wr (Mods.refl _ _)
   have HL := Lib.hid hlook
   clear hlook hsl
   go_wp2_with fail
   go_region_held3 (fun w' => w'.cell? ⟨b, 3, none⟩ = some (.pointer (some ⟨x 1, 0, none⟩)))
    (first | go_keep | exact (HQ2.out) | fail)
    (first | (go_at_call 107; refine (cSlot.out _).mono ?_; rintro e w' ⟨rfl, rfl⟩) | (go_at_call 135; refine (cRead.out _ ((Mods.refl _ _).drew)).mono ?_; rintro e w2 ⟨rfl, hd2, hm2⟩; have HM2 : Hid (Mods [x 1] wr w2) := Lib.hid ((((Mods.refl [] wr).drew).mono (by simp)).trans hm2 (fun z hz => .inl hz)); have HP2 : Hid (IsPair w2 b gp x fx P) := Lib.hid (HI1.out.pair.stay (by decide) hd2 HM2.out); have HQ2 : Hid (w2.cell? ⟨b, 3, none⟩ = some (.pointer (some ⟨x 1, 0, none⟩))) := Lib.hid (by obtain ⟨_, _, d0, _⟩ := HP2.out.at1 1 (by decide); exact d0)))
   have HXF : Hid (∀ g ∈ [x 1], g ∈ fx 0 ++ fx 1) := Lib.hid (fun g hg => by
    rw [List.mem_singleton.1 hg]
    have := (HI1.out.pair.dev 1 (by decide)).head
    first | exact List.mem_append_left _ this | exact List.mem_append_right _ this)
   have HIx : Hid (FindInv w1 w2 (W.heap.size + 1) b gp x fx P acc1 mv1_) := Lib.hid (HI1.out.step HM2.out HXF.out (fun g hg => by have := HLT.out g hg; omega) (by have := HS1.out; omega) HP2.out)
   have HMBx : Hid (Mods ((W.heap.size + 1) :: (fx 0 ++ fx 1)) wL w2) := Lib.hid (HMB1.out.trans HM2.out (fun g hg => .inl (List.mem_cons_of_mem _ (HXF.out g hg))))
   clear hd2 hm2
   by_cases her : er = 0
   ·subst her
    have cParse := Lib.hid (rParse_any HP2.out 1 (by decide) img)
    rw [HBB.out] at cParse
    have hL2 := HL.out
    rw [if_neg (by simp)] at hL2
    have hok := fun u (hu : parseP B P.n 1 img = some u) => parseP_ok (by rw [← HBB.out]; exact HFB.out.blocks.2.2) HFB.out.2.1 hu
    generalize parseP B P.n 1 img = o at cParse hL2 hok
    have HL3 := Lib.hid hL2
    have HOK := Lib.hid hok
    clear hL2 hok
    unfold tabV at cParse
    cases o with
    | none =>
     go_upto_region 12 with (go_at_call 136; refine cParse.out.mono ?_; rintro e w3 ⟨t, mv3, ok, rfl, rfl, hmv3, hnew3, hm3⟩; obtain ⟨A3, c3, e3, _⟩ := mv_shape hmv3; subst e3)
     go_quiet (fail)
     go_wp2_with fail
     go_roundw
     case rel => exact ⟨k + 1, acc1, mv1_, by omega, by simp, rfl, Lib.hid ((HIx.out.step0 hm3).step0 (((Mods.refl _ _).alloc _).drewN nq)), Lib.hid (by rw [accN, HA1.out, HL3.out]; rfl), Lib.hid ((HMBx.out.trans hm3 (by simp)).trans (((Mods.refl [] w3).alloc _).drewN nq) (by simp))⟩
     case measure => simp [intOf]; omega
    | some u =>
     go_upto_region 12 with (go_at_call 136; refine cParse.out.mono ?_; rintro e w3 ⟨t, mv3, ok, rfl, ⟨rfl, rfl⟩, hmv3, hnew3, hm3⟩; obtain ⟨A3, c3, e3, _⟩ := mv_shape hmv3; subst e3; have HMV3 := Lib.hid hmv3; have HNEW3 := Lib.hid hnew3; have HM3 := Lib.hid hm3; clear hmv3 hnew3 hm3)
     obtain ⟨w4, hw4⟩ : ∃ w4, w3.alloc (.cells #[.int .i64 (t.blocks : Nat), .int .i64 (t.spares : Nat), .slice A3 t.moved.length c3] 71) = w4 := ⟨_, rfl⟩
     have hb4 : Blk w4 w3.heap.size 71 [.int .i64 (t.blocks : Nat), .int .i64 (t.spares : Nat), .slice A3 t.moved.length c3] := by rw [← hw4]; exact Blk.new w3 71 [.int .i64 (t.blocks : Nat), .int .i64 (t.spares : Nat), .slice A3 t.moved.length c3]
     have HM4 : Hid (Mods [] w2 w4) := Lib.hid (by rw [← hw4]; exact HM3.out.alloc _)
     have HI4 : Hid (FindInv w1 w4 (W.heap.size + 1) b gp x fx P acc1 mv1_) := Lib.hid (HIx.out.step0 HM4.out)
     have HMVU : Hid (∀ w', Mods [] w4 w' → IsMv w' (.slice A3 t.moved.length c3) t.moved) := Lib.hid (fun w' hm => IsMv.keep HMV3.out ((by rw [← hw4] at hm; exact ((Mods.refl [] w3).alloc _).tr hm) : Mods [] w3 w') (by simp))
     have HMB4 : Hid (Mods ((W.heap.size + 1) :: (fx 0 ++ fx 1)) wL w4) := Lib.hid (HMBx.out.trans HM4.out (by simp))
     have HNU : Hid (∀ g, (Value.slice A3 t.moved.length c3).ownBlock = some g → w1.heap.size ≤ g) := Lib.hid (fun g hg => Nat.le_trans HIx.out.mods.size (HNEW3.out g hg))
     have htOK := HOK.out t rfl
     have HTOK := Lib.hid htOK
     have hT3 : ¬ W.heap.size + 1 = w3.heap.size := by have h1 := HIx.out.mods.size; have h2 := HM3.out.size; have h3 := HS1.out; omega
     have HB4 : Hid (∀ w', Mods [] w4 w' → Blk w' w3.heap.size 71 [.int .i64 (t.blocks : Nat), .int .i64 (t.spares : Nat), .slice A3 t.moved.length c3]) := Lib.hid (fun w' hm => hb4.keep0 hm)
     rw [hw4]
     clear htOK hw4 hb4
     have htbW : W.heap.size + 1 ∉ gp := fun hz => by have := HGP.out _ hz; omega
     have hfxW : ∀ g ∈ fx 0 ++ fx 1, g < W.heap.size + 1 := fun g hg => by have := HLT.out g hg; omega
     have HTG := Lib.hid (And.intro htbW hfxW)
     have htb1 : W.heap.size + 1 < w1.heap.size := by have := HS1.out; omega
     clear htbW hfxW
     cases acc1 with
     | none =>
      go_quiet (fail)
      have hb5 := HB4.out (w4.drewN nq) ((Mods.refl _ _).drewN nq)
      have z0 := hb5.cell (i := 0) rfl
      have z1 := hb5.cell (i := 1) rfl
      have z2 := hb5.cell (i := 2) rfl
      have hi5 := HI4.out.step0 ((Mods.refl [] w4).drewN nq)
      have s0 := hi5.blk.cell (i := 0) rfl
      have s1 := hi5.blk.cell (i := 1) rfl
      have s2 := hi5.blk.cell (i := 2) rfl
      have f0 := hi5.blk.free 0
      have f1 := hi5.blk.free 1
      have f2 := hi5.blk.free 2
      have HI5 := Lib.hid hi5
      clear hi5 hb5
      go_wp2_with fail
      go_roundw
      case rel => exact ⟨k + 1, some t, .slice A3 t.moved.length c3, by omega, by simp, rfl, Lib.hid (HI5.out.store (HMVU.out _ ((Mods.refl _ _).drewN nq)) HTOK.out HNU.out htb1 HTG.out.1 HTG.out.2), Lib.hid (by rw [accN, HA1.out, HL3.out]; rfl), Lib.hid ((HMB4.out.drewN nq).trans (three_sets HI5.out.blk _ _ _).2 (fun g hg => .inl (by rw [List.mem_singleton.1 hg]; exact List.mem_cons_self ..)))⟩
      case measure => simp [intOf]; omega
     | some v =>
      obtain ⟨A8, c8, e8, _⟩ := mv_shape HI4.out.mvs
      subst e8
      have cGenU := Lib.hid (fun W hm => tGen_any (W := W) t (mv := .slice A3 t.moved.length c3) hm HTOK.out)
      have cGenV := Lib.hid (fun W hm => tGen_any (W := W) v (mv := .slice A8 v.moved.length c8) hm HI4.out.tok)
      unfold tabV at cGenU cGenV
      have HMVV : Hid (∀ w', Mods [] w4 w' → IsMv w' (.slice A8 v.moved.length c8) v.moved) := Lib.hid (fun w' hm => (HI4.out.step0 hm).mvs)
      have HSX : Hid (∀ w', Mods [] w4 w' → w'.cell? ⟨w3.heap.size, 0, none⟩ = some (.int .i64 (t.blocks : Nat)) ∧ w'.cell? ⟨w3.heap.size, 1, none⟩ = some (.int .i64 (t.spares : Nat)) ∧ w'.cell? ⟨w3.heap.size, 2, none⟩ = some (.slice A3 t.moved.length c3) ∧ w'.cell? ⟨W.heap.size + 1, 0, none⟩ = some (.int .i64 (v.blocks : Nat)) ∧ w'.cell? ⟨W.heap.size + 1, 1, none⟩ = some (.int .i64 (v.spares : Nat)) ∧ w'.cell? ⟨W.heap.size + 1, 2, none⟩ = some (.slice A8 v.moved.length c8)) := Lib.hid (fun w' hm => by
       have h1 := HB4.out w' hm
       have h2 := (HI4.out.step0 hm).blk
       exact ⟨h1.cell (i := 0) rfl, h1.cell (i := 1) rfl, h1.cell (i := 2) rfl, h2.cell (i := 0) rfl, h2.cell (i := 1) rfl, h2.cell (i := 2) rfl⟩)
      obtain ⟨z0, z1, z2, s0, s1, s2⟩ := HSX.out w4 (Mods.refl _ _)
      by_cases hgt : v.moved.length < t.moved.length
      ·go_region_held3 (fun w' => w'.cell? ⟨w3.heap.size, 0, none⟩ = some (.int .i64 (t.blocks : Nat)) ∧ w'.cell? ⟨w3.heap.size, 1, none⟩ = some (.int .i64 (t.spares : Nat)) ∧ w'.cell? ⟨w3.heap.size, 2, none⟩ = some (.slice A3 t.moved.length c3) ∧ w'.cell? ⟨W.heap.size + 1, 0, none⟩ = some (.int .i64 (v.blocks : Nat)) ∧ w'.cell? ⟨W.heap.size + 1, 1, none⟩ = some (.int .i64 (v.spares : Nat)) ∧ w'.cell? ⟨W.heap.size + 1, 2, none⟩ = some (.slice A8 v.moved.length c8))
        (first | go_keep | exact HSX.out _ HM6.out | exact HSX.out _ HM5.out | fail)
        (first | (go_at_call 104; refine (cGenV.out _ (HMVV.out _ HM5.out)).mono ?_; rintro e w6 ⟨rfl, hm6⟩; have HM6 : Hid (Mods [] w4 w6) := Lib.hid (HM5.out.tr hm6)) | (go_at_call 104; refine (cGenU.out _ (HMVU.out _ HM5.out)).mono ?_; rintro e w6 ⟨rfl, hm6⟩; have HM6 : Hid (Mods [] w4 w6) := Lib.hid (HM5.out.tr hm6)) | (go_at_call 104; refine (cGenU.out _ (HMVU.out _ ((Mods.refl _ _).drew))).mono ?_; rintro e w5 ⟨rfl, hm5⟩; have HM5 : Hid (Mods [] w4 w5) := Lib.hid (((Mods.refl _ _).drew).tr hm5)) | (go_at_call 104; refine (cGenV.out _ (HMVV.out _ ((Mods.refl _ _).drew))).mono ?_; rintro e w5 ⟨rfl, hm5⟩; have HM5 : Hid (Mods [] w4 w5) := Lib.hid (((Mods.refl _ _).drew).tr hm5)))
       all_goals
        have hi6 := HI4.out.step0 HM6.out
        obtain ⟨z0, z1, z2, s0, s1, s2⟩ := HSX.out w6 HM6.out
        have f0 := hi6.blk.free 0
        have f1 := hi6.blk.free 1
        have f2 := hi6.blk.free 2
        have HI6 := Lib.hid hi6
        clear hi6
        go_wp2_with fail
        go_roundw
       case rel => exact ⟨k + 1, some t, .slice A3 t.moved.length c3, by omega, by simp, rfl, Lib.hid (HI6.out.store (HMVU.out _ HM6.out) HTOK.out HNU.out htb1 HTG.out.1 HTG.out.2), Lib.hid (by rw [accN, HA1.out, HL3.out]; show (if v.moved.length < t.moved.length then some t else some v) = some t; rw [if_pos hgt]), Lib.hid ((HMB4.out.trans HM6.out (by simp)).trans (three_sets HI6.out.blk _ _ _).2 (fun g hg => .inl (by rw [List.mem_singleton.1 hg]; exact List.mem_cons_self ..)))⟩
       case measure => simp [intOf]; omega
      ·go_region_held3 (fun w' => w'.cell? ⟨w3.heap.size, 0, none⟩ = some (.int .i64 (t.blocks : Nat)) ∧ w'.cell? ⟨w3.heap.size, 1, none⟩ = some (.int .i64 (t.spares : Nat)) ∧ w'.cell? ⟨w3.heap.size, 2, none⟩ = some (.slice A3 t.moved.length c3) ∧ w'.cell? ⟨W.heap.size + 1, 0, none⟩ = some (.int .i64 (v.blocks : Nat)) ∧ w'.cell? ⟨W.heap.size + 1, 1, none⟩ = some (.int .i64 (v.spares : Nat)) ∧ w'.cell? ⟨W.heap.size + 1, 2, none⟩ = some (.slice A8 v.moved.length c8))
        (first | go_keep | exact HSX.out _ HM6.out | exact HSX.out _ HM5.out | fail)
        (first | (go_at_call 104; refine (cGenV.out _ (HMVV.out _ HM5.out)).mono ?_; rintro e w6 ⟨rfl, hm6⟩; have HM6 : Hid (Mods [] w4 w6) := Lib.hid (HM5.out.tr hm6)) | (go_at_call 104; refine (cGenU.out _ (HMVU.out _ HM5.out)).mono ?_; rintro e w6 ⟨rfl, hm6⟩; have HM6 : Hid (Mods [] w4 w6) := Lib.hid (HM5.out.tr hm6)) | (go_at_call 104; refine (cGenU.out _ (HMVU.out _ ((Mods.refl _ _).drew))).mono ?_; rintro e w5 ⟨rfl, hm5⟩; have HM5 : Hid (Mods [] w4 w5) := Lib.hid (((Mods.refl _ _).drew).tr hm5)) | (go_at_call 104; refine (cGenV.out _ (HMVV.out _ ((Mods.refl _ _).drew))).mono ?_; rintro e w5 ⟨rfl, hm5⟩; have HM5 : Hid (Mods [] w4 w5) := Lib.hid (((Mods.refl _ _).drew).tr hm5)))
       all_goals
        go_wp2_with fail
        go_roundw
       case rel => exact ⟨k + 1, some v, .slice A8 v.moved.length c8, by omega, by simp, rfl, Lib.hid (HI4.out.step0 HM6.out), Lib.hid (by rw [accN, HA1.out, HL3.out]; show (if v.moved.length < t.moved.length then some t else some v) = some v; rw [if_neg hgt]), Lib.hid (HMB4.out.trans HM6.out (by simp))⟩
       case measure => simp [intOf]; omega
   ·have hne : ¬ (er : Int) = 0 := by omega
    have hb : ((er : Int) == 0) = false := beq_eq_false_iff_ne.2 hne
    go_wp2_with fail
    go_roundw
    case rel => exact ⟨k + 1, acc1, mv1_, by omega, by simp, rfl, HIx, Lib.hid (by rw [accN, HA1.out, HL.out, if_pos her]; rfl), HMBx⟩
    case measure => simp [intOf]; omega
  ·obtain rfl : k = 2 := by omega
   rename World => wM
   go_wp2_with fail
   rw [rounds_succ]
   obtain ⟨l0, l1⟩ := HLC.out wM HMB1.out
   go_wp2_with fail
   go_loopw [7, 10, 11, 12, 13, 14, 24] (fun fv _ _ _ _ _ iv wr => ∃ (k : Nat) (acc2 : Option Tab) (mv2_ : Value), k ≤ 2 ∧ iv = .int .u64 k ∧ fv = .bool acc2.isSome ∧ Hid (FindInv w1 wr (W.heap.size + 1) b gp x fx P acc2 mv2_) ∧ Hid (accN P 1 0 acc1 k = acc2) ∧ Hid (Mods ((W.heap.size + 1) :: (fx 0 ++ fx 1)) wM wr)) (fun _ _ _ _ _ _ iv _ => 2 - (intOf iv).toNat)
   case atStart => exact ⟨0, acc1, _, by decide, rfl, rfl, HI1, Lib.hid rfl, Lib.hid (Mods.refl _ _)⟩
   case round =>
    obtain ⟨k, acc2, mv2_, hk, rfl, rfl, HI2, HA2, HMB2⟩ := hrel
    by_cases hk2 : k < 2
    ·have hklt : k < 18446744073709551616 := by omega
     have cSlot := Lib.hid (fun W => rSlot_any (W := W) false k hklt)
     obtain ⟨sl, hsl⟩ : ∃ sl, slotOf false k = sl := ⟨_, rfl⟩
     rw [hsl] at cSlot
     have HCX : Hid (∀ w', Mods [] wr w' → w'.cell? ⟨b, 2, none⟩ = some (.pointer (some ⟨x 0, 0, none⟩))) := Lib.hid (fun w' hm => by
      obtain ⟨_, _, d0, _⟩ := (HI2.out.pair.keep0 hm).at1 0 (by decide)
      exact d0)
     have cRead := Lib.hid (fun w' (hm : Mods [] wr w') => dRead_any ((HI2.out.pair.keep0 hm).dev 0 (by decide)) (HC.out 0 (by decide)) (sl : Nat))
     have hlook : look P 1 0 k = (let r := (P.dev 0).read (sl : Nat); if r.2 ≠ 0 then none else parseP B P.n 1 r.1) := by
      unfold look
      rw [show decide (0 = 1) = false by decide, hsl, (HP1.out.same 1 (by decide)).1, (HP1.out.same 1 (by decide)).2, HBB.out]
     generalize (P.dev 0).read (sl : Nat) = r at cRead hlook
     obtain ⟨img, er⟩ := r
     simp only at cRead hlook
     have q1 := HCX.out wr (Mods.refl _ _)
     have HL := Lib.hid hlook
     clear hlook hsl
     go_wp2_with fail
     go_region_held3 (fun w' => w'.cell? ⟨b, 2, none⟩ = some (.pointer (some ⟨x 0, 0, none⟩)))
      (first | go_keep | exact (HQ2.out) | fail)
      (first | (go_at_call 107; refine (cSlot.out _).mono ?_; rintro e w' ⟨rfl, rfl⟩) | (go_at_call 135; refine (cRead.out _ ((Mods.refl _ _).drew)).mono ?_; rintro e w2 ⟨rfl, hd2, hm2⟩; have HM2 : Hid (Mods [x 0] wr w2) := Lib.hid ((((Mods.refl [] wr).drew).mono (by simp)).trans hm2 (fun z hz => .inl hz)); have HP2 : Hid (IsPair w2 b gp x fx P) := Lib.hid (HI2.out.pair.stay (by decide) hd2 HM2.out); have HQ2 : Hid (w2.cell? ⟨b, 2, none⟩ = some (.pointer (some ⟨x 0, 0, none⟩))) := Lib.hid (by obtain ⟨_, _, d0, _⟩ := HP2.out.at1 0 (by decide); exact d0)))
     have HXF : Hid (∀ g ∈ [x 0], g ∈ fx 0 ++ fx 1) := Lib.hid (fun g hg => by
      rw [List.mem_singleton.1 hg]
      have := (HI2.out.pair.dev 0 (by decide)).head
      first | exact List.mem_append_left _ this | exact List.mem_append_right _ this)
     have HIx : Hid (FindInv w1 w2 (W.heap.size + 1) b gp x fx P acc2 mv2_) := Lib.hid (HI2.out.step HM2.out HXF.out (fun g hg => by have := HLT.out g hg; omega) (by have := HS1.out; omega) HP2.out)
     have HMBx : Hid (Mods ((W.heap.size + 1) :: (fx 0 ++ fx 1)) wM w2) := Lib.hid (HMB2.out.trans HM2.out (fun g hg => .inl (List.mem_cons_of_mem _ (HXF.out g hg))))
     clear hd2 hm2
     by_cases her : er = 0
     ·subst her
      have cParse := Lib.hid (rParse_any HP2.out 1 (by decide) img)
      rw [HBB.out] at cParse
      have hL2 := HL.out
      rw [if_neg (by simp)] at hL2
      have hok := fun u (hu : parseP B P.n 1 img = some u) => parseP_ok (by rw [← HBB.out]; exact HFB.out.blocks.2.2) HFB.out.2.1 hu
      generalize parseP B P.n 1 img = o at cParse hL2 hok
      have HL3 := Lib.hid hL2
      have HOK := Lib.hid hok
      clear hL2 hok
      unfold tabV at cParse
      cases o with
      | none =>
       go_upto_region 12 with (go_at_call 136; refine cParse.out.mono ?_; rintro e w3 ⟨t, mv3, ok, rfl, rfl, hmv3, hnew3, hm3⟩; obtain ⟨A3, c3, e3, _⟩ := mv_shape hmv3; subst e3)
       go_quiet (fail)
       go_wp2_with fail
       go_roundw
       case rel => exact ⟨k + 1, acc2, mv2_, by omega, by simp, rfl, Lib.hid ((HIx.out.step0 hm3).step0 (((Mods.refl _ _).alloc _).drewN nq)), Lib.hid (by rw [accN, HA2.out, HL3.out]; rfl), Lib.hid ((HMBx.out.trans hm3 (by simp)).trans (((Mods.refl [] w3).alloc _).drewN nq) (by simp))⟩
       case measure => simp [intOf]; omega
      | some u =>
       go_upto_region 12 with (go_at_call 136; refine cParse.out.mono ?_; rintro e w3 ⟨t, mv3, ok, rfl, ⟨rfl, rfl⟩, hmv3, hnew3, hm3⟩; obtain ⟨A3, c3, e3, _⟩ := mv_shape hmv3; subst e3; have HMV3 := Lib.hid hmv3; have HNEW3 := Lib.hid hnew3; have HM3 := Lib.hid hm3; clear hmv3 hnew3 hm3)
       obtain ⟨w4, hw4⟩ : ∃ w4, w3.alloc (.cells #[.int .i64 (t.blocks : Nat), .int .i64 (t.spares : Nat), .slice A3 t.moved.length c3] 71) = w4 := ⟨_, rfl⟩
       have hb4 : Blk w4 w3.heap.size 71 [.int .i64 (t.blocks : Nat), .int .i64 (t.spares : Nat), .slice A3 t.moved.length c3] := by rw [← hw4]; exact Blk.new w3 71 [.int .i64 (t.blocks : Nat), .int .i64 (t.spares : Nat), .slice A3 t.moved.length c3]
       have HM4 : Hid (Mods [] w2 w4) := Lib.hid (by rw [← hw4]; exact HM3.out.alloc _)
       have HI4 : Hid (FindInv w1 w4 (W.heap.size + 1) b gp x fx P acc2 mv2_) := Lib.hid (HIx.out.step0 HM4.out)
       have HMVU : Hid (∀ w', Mods [] w4 w' → IsMv w' (.slice A3 t.moved.length c3) t.moved) := Lib.hid (fun w' hm => IsMv.keep HMV3.out ((by rw [← hw4] at hm; exact ((Mods.refl [] w3).alloc _).tr hm) : Mods [] w3 w') (by simp))
       have HMB4 : Hid (Mods ((W.heap.size + 1) :: (fx 0 ++ fx 1)) wM w4) := Lib.hid (HMBx.out.trans HM4.out (by simp))
       have HNU : Hid (∀ g, (Value.slice A3 t.moved.length c3).ownBlock = some g → w1.heap.size ≤ g) := Lib.hid (fun g hg => Nat.le_trans HIx.out.mods.size (HNEW3.out g hg))
       have htOK := HOK.out t rfl
       have HTOK := Lib.hid htOK
       have hT3 : ¬ W.heap.size + 1 = w3.heap.size := by have h1 := HIx.out.mods.size; have h2 := HM3.out.size; have h3 := HS1.out; omega
       have HB4 : Hid (∀ w', Mods [] w4 w' → Blk w' w3.heap.size 71 [.int .i64 (t.blocks : Nat), .int .i64 (t.spares : Nat), .slice A3 t.moved.length c3]) := Lib.hid (fun w' hm => hb4.keep0 hm)
       rw [hw4]
       clear htOK hw4 hb4
       have htbW : W.heap.size + 1 ∉ gp := fun hz => by have := HGP.out _ hz; omega
       have hfxW : ∀ g ∈ fx 0 ++ fx 1, g < W.heap.size + 1 := fun g hg => by have := HLT.out g hg; omega
       have HTG := Lib.hid (And.intro htbW hfxW)
       have htb1 : W.heap.size + 1 < w1.heap.size := by have := HS1.out; omega
       clear htbW hfxW
       cases acc2 with
       | none =>
        go_quiet (fail)
        have hb5 := HB4.out (w4.drewN nq) ((Mods.refl _ _).drewN nq)
        have z0 := hb5.cell (i := 0) rfl
        have z1 := hb5.cell (i := 1) rfl
        have z2 := hb5.cell (i := 2) rfl
        have hi5 := HI4.out.step0 ((Mods.refl [] w4).drewN nq)
        have s0 := hi5.blk.cell (i := 0) rfl
        have s1 := hi5.blk.cell (i := 1) rfl
        have s2 := hi5.blk.cell (i := 2) rfl
        have f0 := hi5.blk.free 0
        have f1 := hi5.blk.free 1
        have f2 := hi5.blk.free 2
        have HI5 := Lib.hid hi5
        clear hi5 hb5
        go_wp2_with fail
        go_roundw
        case rel => exact ⟨k + 1, some t, .slice A3 t.moved.length c3, by omega, by simp, rfl, Lib.hid (HI5.out.store (HMVU.out _ ((Mods.refl _ _).drewN nq)) HTOK.out HNU.out htb1 HTG.out.1 HTG.out.2), Lib.hid (by rw [accN, HA2.out, HL3.out]; rfl), Lib.hid ((HMB4.out.drewN nq).trans (three_sets HI5.out.blk _ _ _).2 (fun g hg => .inl (by rw [List.mem_singleton.1 hg]; exact List.mem_cons_self ..)))⟩
        case measure => simp [intOf]; omega
       | some v =>
        obtain ⟨A8, c8, e8, _⟩ := mv_shape HI4.out.mvs
        subst e8
        have cGenU := Lib.hid (fun W hm => tGen_any (W := W) t (mv := .slice A3 t.moved.length c3) hm HTOK.out)
        have cGenV := Lib.hid (fun W hm => tGen_any (W := W) v (mv := .slice A8 v.moved.length c8) hm HI4.out.tok)
        unfold tabV at cGenU cGenV
        have HMVV : Hid (∀ w', Mods [] w4 w' → IsMv w' (.slice A8 v.moved.length c8) v.moved) := Lib.hid (fun w' hm => (HI4.out.step0 hm).mvs)
        have HSX : Hid (∀ w', Mods [] w4 w' → w'.cell? ⟨w3.heap.size, 0, none⟩ = some (.int .i64 (t.blocks : Nat)) ∧ w'.cell? ⟨w3.heap.size, 1, none⟩ = some (.int .i64 (t.spares : Nat)) ∧ w'.cell? ⟨w3.heap.size, 2, none⟩ = some (.slice A3 t.moved.length c3) ∧ w'.cell? ⟨W.heap.size + 1, 0, none⟩ = some (.int .i64 (v.blocks : Nat)) ∧ w'.cell? ⟨W.heap.size + 1, 1, none⟩ = some (.int .i64 (v.spares : Nat)) ∧ w'.cell? ⟨W.heap.size + 1, 2, none⟩ = some (.slice A8 v.moved.length c8)) := Lib.hid (fun w' hm => by
         have h1 := HB4.out w' hm
         have h2 := (HI4.out.step0 hm).blk
         exact ⟨h1.cell (i := 0) rfl, h1.cell (i := 1) rfl, h1.cell (i := 2) rfl, h2.cell (i := 0) rfl, h2.cell (i := 1) rfl, h2.cell (i := 2) rfl⟩)
        obtain ⟨z0, z1, z2, s0, s1, s2⟩ := HSX.out w4 (Mods.refl _ _)
        by_cases hgt : v.moved.length < t.moved.length
        ·go_region_held3 (fun w' => w'.cell? ⟨w3.heap.size, 0, none⟩ = some (.int .i64 (t.blocks : Nat)) ∧ w'.cell? ⟨w3.heap.size, 1, none⟩ = some (.int .i64 (t.spares : Nat)) ∧ w'.cell? ⟨w3.heap.size, 2, none⟩ = some (.slice A3 t.moved.length c3) ∧ w'.cell? ⟨W.heap.size + 1, 0, none⟩ = some (.int .i64 (v.blocks : Nat)) ∧ w'.cell? ⟨W.heap.size + 1, 1, none⟩ = some (.int .i64 (v.spares : Nat)) ∧ w'.cell? ⟨W.heap.size + 1, 2, none⟩ = some (.slice A8 v.moved.length c8))
          (first | go_keep | exact HSX.out _ HM6.out | exact HSX.out _ HM5.out | fail)
          (first | (go_at_call 104; refine (cGenV.out _ (HMVV.out _ HM5.out)).mono ?_; rintro e w6 ⟨rfl, hm6⟩; have HM6 : Hid (Mods [] w4 w6) := Lib.hid (HM5.out.tr hm6)) | (go_at_call 104; refine (cGenU.out _ (HMVU.out _ HM5.out)).mono ?_; rintro e w6 ⟨rfl, hm6⟩; have HM6 : Hid (Mods [] w4 w6) := Lib.hid (HM5.out.tr hm6)) | (go_at_call 104; refine (cGenU.out _ (HMVU.out _ ((Mods.refl _ _).drew))).mono ?_; rintro e w5 ⟨rfl, hm5⟩; have HM5 : Hid (Mods [] w4 w5) := Lib.hid (((Mods.refl _ _).drew).tr hm5)) | (go_at_call 104; refine (cGenV.out _ (HMVV.out _ ((Mods.refl _ _).drew))).mono ?_; rintro e w5 ⟨rfl, hm5⟩; have HM5 : Hid (Mods [] w4 w5) := Lib.hid (((Mods.refl _ _).drew).tr hm5)))
         all_goals
          have hi6 := HI4.out.step0 HM6.out
          obtain ⟨z0, z1, z2, s0, s1, s2⟩ := HSX.out w6 HM6.out
          have f0 := hi6.blk.free 0
          have f1 := hi6.blk.free 1
          have f2 := hi6.blk.free 2
          have HI6 := Lib.hid hi6
          clear hi6
          go_wp2_with fail
          go_roundw
         case rel => exact ⟨k + 1, some t, .slice A3 t.moved.length c3, by omega, by simp, rfl, Lib.hid (HI6.out.store (HMVU.out _ HM6.out) HTOK.out HNU.out htb1 HTG.out.1 HTG.out.2), Lib.hid (by rw [accN, HA2.out, HL3.out]; show (if v.moved.length < t.moved.length then some t else some v) = some t; rw [if_pos hgt]), Lib.hid ((HMB4.out.trans HM6.out (by simp)).trans (three_sets HI6.out.blk _ _ _).2 (fun g hg => .inl (by rw [List.mem_singleton.1 hg]; exact List.mem_cons_self ..)))⟩
         case measure => simp [intOf]; omega
        ·go_region_held3 (fun w' => w'.cell? ⟨w3.heap.size, 0, none⟩ = some (.int .i64 (t.blocks : Nat)) ∧ w'.cell? ⟨w3.heap.size, 1, none⟩ = some (.int .i64 (t.spares : Nat)) ∧ w'.cell? ⟨w3.heap.size, 2, none⟩ = some (.slice A3 t.moved.length c3) ∧ w'.cell? ⟨W.heap.size + 1, 0, none⟩ = some (.int .i64 (v.blocks : Nat)) ∧ w'.cell? ⟨W.heap.size + 1, 1, none⟩ = some (.int .i64 (v.spares : Nat)) ∧ w'.cell? ⟨W.heap.size + 1, 2, none⟩ = some (.slice A8 v.moved.length c8))
          (first | go_keep | exact HSX.out _ HM6.out | exact HSX.out _ HM5.out | fail)
          (first | (go_at_call 104; refine (cGenV.out _ (HMVV.out _ HM5.out)).mono ?_; rintro e w6 ⟨rfl, hm6⟩; have HM6 : Hid (Mods [] w4 w6) := Lib.hid (HM5.out.tr hm6)) | (go_at_call 104; refine (cGenU.out _ (HMVU.out _ HM5.out)).mono ?_; rintro e w6 ⟨rfl, hm6⟩; have HM6 : Hid (Mods [] w4 w6) := Lib.hid (HM5.out.tr hm6)) | (go_at_call 104; refine (cGenU.out _ (HMVU.out _ ((Mods.refl _ _).drew))).mono ?_; rintro e w5 ⟨rfl, hm5⟩; have HM5 : Hid (Mods [] w4 w5) := Lib.hid (((Mods.refl _ _).drew).tr hm5)) | (go_at_call 104; refine (cGenV.out _ (HMVV.out _ ((Mods.refl _ _).drew))).mono ?_; rintro e w5 ⟨rfl, hm5⟩; have HM5 : Hid (Mods [] w4 w5) := Lib.hid (((Mods.refl _ _).drew).tr hm5)))
         all_goals
          go_wp2_with fail
          go_roundw
         case rel => exact ⟨k + 1, some v, .slice A8 v.moved.length c8, by omega, by simp, rfl, Lib.hid (HI4.out.step0 HM6.out), Lib.hid (by rw [accN, HA2.out, HL3.out]; show (if v.moved.length < t.moved.length then some t else some v) = some v; rw [if_neg hgt]), Lib.hid (HMB4.out.trans HM6.out (by simp))⟩
         case measure => simp [intOf]; omega
     ·have hne : ¬ (er : Int) = 0 := by omega
      have hb : ((er : Int) == 0) = false := beq_eq_false_iff_ne.2 hne
      go_wp2_with fail
      go_roundw
      case rel => exact ⟨k + 1, acc2, mv2_, by omega, by simp, rfl, HIx, Lib.hid (by rw [accN, HA2.out, HL.out, if_pos her]; rfl), HMBx⟩
      case measure => simp [intOf]; omega
    ·obtain rfl : k = 2 := by omega
     have hz := HI2.out
     have hlt2 := HLT.out
     have hs1 := HS1.out
     have hrb : Blk wr W.heap.size 71 [.int .i64 0, .int .i64 0, .slice none 0 0] := HR1.out.keep hz.mods (fun hg => by
      rcases List.mem_cons.1 hg with hg | hg
      ·omega
      ·have := hlt2 _ hg; omega)
     obtain ⟨A9, c9, e9, _⟩ := mv_shape hz.mvs
     subst e9
     have z0 := hz.blk.cell (i := 0) rfl
     have z1 := hz.blk.cell (i := 1) rfl
     have z2 := hz.blk.cell (i := 2) rfl
     have s0 := hrb.cell (i := 0) rfl
     have s1 := hrb.cell (i := 1) rfl
     have s2 := hrb.cell (i := 2) rfl
     have f0 := hrb.free 0
     have f1 := hrb.free 1
     have f2 := hrb.free 2
     have HZ := Lib.hid hz
     have HRB := Lib.hid hrb
     clear hz hrb hlt2 hs1
     have hfin : findP P 1 = acc2 := by
      rw [← HA2.out, ← HA1.out]; rfl
     have HFIN := Lib.hid hfin
     clear hfin
     go_wp2_with fail
     rw [rounds_succ]
     go_wp2_with fail
     obtain ⟨k1, k2⟩ := three_sets HRB.out (.int .i64 ((acc2.getD Tab.zero).blocks : Nat)) (.int .i64 ((acc2.getD Tab.zero).spares : Nat)) (.slice A9 (acc2.getD Tab.zero).moved.length c9)
     refine bodyPost_ret (results_ct rfl rfl (load_tab k1)) rfl ?_
     rw [HFIN.out]
     have hs1 := HS1.out
     have hnew := HZ.out.new
     refine ⟨.slice A9 (acc2.getD Tab.zero).moved.length c9, rfl, Lib.hid (IsMv.keep HZ.out.mvs k2 (fun g hg => by have := hnew g hg; simp; omega)), Lib.hid HZ.out.tok, Lib.hid (fun g hg => by have := hnew g hg; omega), Lib.hid (HZ.out.pair.keep k2 (fun g hg hz => by have h1 := HGP.out g hg; have h2 := List.mem_singleton.1 hz; omega) (fun s hs g hg hz => by
      have h2 := List.mem_singleton.1 hz
      have h1 := HLT.out g (by
       rcases (show s = 0 ∨ s = 1 by omega) with rfl | rfl
       ·exact List.mem_append_left _ hg
       ·exact List.mem_append_right _ hg)
      omega)), Lib.hid (((HM1.out.mono (by simp)).trans HZ.out.mods (fun g hg => ?_)).trans k2 (fun g hg => .inr (by rw [List.mem_singleton.1 hg]; exact Nat.le_refl _)))⟩
     rcases List.mem_cons.1 hg with rfl | hg
     ·exact .inr (by omega)
     ·exact .inl hg
end Go.Proofs.YtkjpdfomppjiiaaGreatDoor
