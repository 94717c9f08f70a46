/- The image that a superblock's block has to have; none of others. -/
import Derived.Test.YtkjpdfomppjiiaaGreatDoorKSw
import Derived.Test.YtkjpdfomppjiiaaGreatDoorKWalo
/- Replay of no records; a store's log set; a pair opened anew. -/
namespace Go.Proofs.YtkjpdfomppjiiaaGreatDoor
open Go.RowKit

section
variable {W w w' : World} {F : List Nat} {x : Nat → Nat} {a : StA} {M : Mi} {B z n c b p sb cap : Nat}
theorem stReplay_none {A : Option Addr} : Calls Tryz.prog 43 #[.pointer (some ⟨sb, 0, none⟩), .slice A 0 cap] w fun e w' => e = .returned (.int .i64 0) ∧ w = w' := by
 go_enter Tryz.func43, Tryz.ntmps43
 go_wp2_with fail
 refine wp_loop_rounds 1 ?_
 rw [rounds_succ]
 go_wp2_with fail
 go_ret
 exact ⟨rfl, rfl⟩
theorem StIn.logged (h : StIn W w F x a M) (v : Value) : StIn W (w.setCell ⟨a.sb, 11, none⟩ v) F x { a with lg := v } M ∧ Mods [a.sb] w (w.setCell ⟨a.sb, 11, none⟩ v) := by
 have hm : Mods [a.sb] w (w.setCell ⟨a.sb, 11, none⟩ v) := (Mods.refl _ _).setCell (.inl (by simp)) _
 have e1 : a.sb ∈ a.five := by simp [StA.five]
 have hnd := h.nd
 unfold StA.five at hnd
 simp only [List.nodup_cons, List.mem_cons, List.not_mem_nil, or_false, not_or, not_false_eq_true, List.nodup_nil, and_true] at hnd
 obtain ⟨⟨n1, n2, n3, n4⟩, _⟩ := hnd
 have hs : ∀ {g : Nat}, g ∈ a.cfp ++ a.sfp → g ∉ [a.sb] := fun hg hx => h.off _ hg (by rw [List.mem_singleton.1 hx]; exact e1)
 refine ⟨⟨h.own.aside hm (fun k hk => by rw [List.mem_singleton.1 hk]; exact h.mem _ (StA.in5 e1)), ?_, h.sum.keep hm (by simp; omega), h.cache.keep hm (fun k hk => hs (List.mem_append_left _ hk)), h.space.keep hm (fun k hk => hs (List.mem_append_right _ hk)), h.imgs.keep hm (by simp; omega), h.tree.keep hm (by simp; omega), h.leaf.keep hm (by simp; omega), h.mem, h.nd, h.off, h.apart⟩, hm⟩
 exact h.st.set 11 v
theorem rOpen_own (h : OwnM W F w b p x M) (hg : Gm B z n c M) (hc : c ≤ 900000) :
  Calls Tryz.prog 37 #[.pointer (some ⟨x 0, 0, none⟩), .pointer (some ⟨x 1, 0, none⟩), .int .i64 (n : Nat)] w fun e w' => ∃ p2 gp2 fx, e = .returned (.tuple #[.pointer (some ⟨p2, 0, none⟩), .int .i64 0]) ∧ Hid (PrIn W w' F p2 gp2 x fx (openP M.P)) ∧ Hid (Minds F w w') := by
 obtain ⟨o1, o2, o3, o4, o5, o6⟩ := open_inv hg.pi
 obtain ⟨tb, mb, gp, fx, hI, hf⟩ := h.foot_lt
 have hn := hg.nn
 have he : openP M.P = ((newP n M.P.dev).setTab 0 (M.P.tab 0)).setTab 1 (M.P.tab 1) := by unfold openP; rw [hn]
 have cO := rOpen_any hI.pair.devs M.P.n o5 (fun k hk => by have := hg.few k hk; omega) (fun k hk => (hg.pi.inv.dev k hk).q.off) (o6 0 (by decide)) (o6 1 (by decide))
 rw [hn, ← he] at cO
 have hdl : ∀ k, k < 2 → ∀ g ∈ fx k, W.heap.size ≤ g ∧ g ∉ F := fun k hk g hg => by
  have := hf g (by
   rcases two_cases hk with rfl | rfl
   ·exact .inr (.inr (.inr (.inr (.inl hg))))
   ·exact .inr (.inr (.inr (.inr (.inr hg)))))
  exact ⟨this.1, this.2.1⟩
 have hW := h.mods.size
 refine cO.mono fun e w' ⟨p2, gp2, h1, h2, h3, h4⟩ => ⟨p2, gp2, fx, h1, Lib.hid ⟨h2.out, h.mods.trans h3.out (fun k hk => .inr ?_), hdl, fun g hg => ⟨?_, fun hx => ?_⟩, fun g hg => Nat.lt_of_lt_of_le (h.lt g hg) h3.out.size⟩, Lib.hid ⟨_, h3.out, fun k hk => ?_⟩⟩
 ·rcases List.mem_append.1 hk with h | h
  ·exact (hdl 0 (by decide) k h).1
  ·exact (hdl 1 (by decide) k h).1
 ·have := h4.out g hg; omega
 ·have h5 := h4.out g hg; have h6 := h.lt g hx; omega
 ·rcases List.mem_append.1 hk with h | h
  ·exact (hdl 0 (by decide) k h).2
  ·exact (hdl 1 (by decide) k h).2
end
end Go.Proofs.YtkjpdfomppjiiaaGreatDoor
/- Recover: the store as it was formatted. -/
namespace Go.Proofs.YtkjpdfomppjiiaaGreatDoor
open Go.RowKit

def RcPost (B z n : Nat) (W w w' : World) (F : List Nat) (x : Nat → Nat) (cf : CfE) (rd : Nat → ByteArray) (b : SupE) (sb : Nat) : Prop :=
 ∃ F' a M lb ltk, StIn W w' F' x a M ∧ (∀ g ∈ F, g ∈ F') ∧ Minds F w w' ∧ (M.reps = 0 ∧ M.bl = []) ∧
  WS B z n 0 M (updR rd ((b.gen + 1) % 2) (bA (supImg z ⟨b.gen + 1, b.root, 1, b.seq + cf.log, b.chain⟩))) ∧
  (a.sb = sb ∧ a.cf = cf ∧ a.kn = true ∧ a.ld = false ∧ a.q = b.root ∧ a.sup = ⟨b.gen + 1, b.root, 1, b.seq + cf.log, b.chain⟩ ∧ a.S = ((Sp.new B (2 + cf.log) b.gen cf.last).useS b.root.addr).step.settleS ∧ a.R = [] ∧ a.c0 = 0 ∧ a.c1 = 0 ∧ a.t = 0) ∧
  (a.lg = .pointer (some ⟨lb, 0, none⟩) ∧ Blk w' lb 178 (lgC a.mb ltk ⟨2, cf.log, b.seq + cf.log, b.chain, 0⟩) ∧ lb ∈ F' ∧ w.heap.size ≤ lb) ∧ ∀ g ∈ a.all, w.heap.size ≤ g
section
variable {W w : World} {F : List Nat} {x : Nat → Nat} {M : Mi} {B z n c mb0 p0 : Nat} {rd : Nat → ByteArray} {cf : CfE} {b : SupE}
set_option maxRecDepth 100000 in
set_option maxHeartbeats 6400000 in
theorem stRecover_any (h : OwnM W F w mb0 p0 x M) (hw : WS B z cf.spares c M rd) (hc : c ≤ 600000) (hT : DbTab W) (hz0 : 128 ≤ z) (hz : z ≤ 1024) (hcf : cf.Ok B z)
  (h0 : openL (rd 0).toList = none) (hok : b.Ok) (hg1 : b.gen % 2 = 1) (hh : b.height = 1) (hrd : rd 1 = bA (supImg z b)) (hgl : b.gen < cf.last) (hU : (Sp.new B (2 + cf.log) b.gen cf.last).useE b.root.addr = 0)
  (hbl : BelowG 2 cf.log rd b.seq) (hsq : b.seq + cf.log < 18446744073709551616) :
  Calls Tryz.prog 16 #[.pointer (some ⟨x 0, 0, none⟩), .pointer (some ⟨x 1, 0, none⟩), cfV cf] w fun e w' => ∃ sb, e = .returned (.tuple #[.pointer (some ⟨sb, 0, none⟩), .int .i64 0]) ∧ Hid (RcPost B z cf.spares W w w' F x cf rd b sb) := by
 obtain ⟨bg, ⟨ba, bgn, bsm⟩, bh, bsq, bch⟩ := b
 simp only at *
 subst hh
 have hroom := hcf.room
 have HIN := Lib.hid (And.intro hw (And.intro hc (And.intro hcf (And.intro h0 (And.intro hok (And.intro hg1 (And.intro hrd (And.intro hgl (And.intro hU (And.intro hbl (And.intro hsq (And.intro hz0 (And.intro hz hT)))))))))))))
 have hgm := hw.openM.gm
 obtain ⟨o1, o2, o3, o4, _, _⟩ := open_inv hw.gm.pi
 have hsz : ((openP M.P).dev 0).size = z := by rw [o2]; exact hw.gm.size
 have hbk : ((openP M.P).tab 0).blocks = B := by rw [o4 0 (by decide)]; exact hw.gm.blocks 0 (by decide)
 have cM := Lib.hid (fun (w' : World) (gp : List Nat) (fx' : Nat → List Nat) (p : Nat) (hI : IsPair w' p gp x fx' (openP M.P)) => stMade_ok hI hsz hbk hcf)
 have cFi := Lib.hid (fun W => cfRing_any (W := W) cf)
 have hgmm := hw.gm
 obtain ⟨csp, clg, cca, ⟨pf, pb', pl'⟩, cla⟩ := cf
 unfold cfV at *
 simp only at *
 obtain ⟨w1, hw1⟩ : ∃ w1, w.alloc (.cells #[.int .i64 (csp : Nat), .int .i64 (clg : Nat), .int .i64 (cca : Nat), .int .i64 pf, .int .i64 pb', .int .i64 pl', .int .u64 (cla : Nat)] 44) = w1 := ⟨_, rfl⟩
 obtain ⟨g, hg⟩ : ∃ g, w.heap.size = g := ⟨_, rfl⟩
 have hb1 : Blk w1 g 44 [.int .i64 (csp : Nat), .int .i64 (clg : Nat), .int .i64 (cca : Nat), .int .i64 pf, .int .i64 pb', .int .i64 pl', .int .u64 (cla : Nat)] := by rw [← hw1, ← hg]; exact Blk.new w 44 _
 have hm1 : Mods [] w w1 := by rw [← hw1]; exact (Mods.refl _ _).alloc _
 have hs1 : w1.heap.size = g + 1 := by rw [← hw1, ← hg]; simp
 have HO1 : Hid (OwnM W (g :: F) w1 mb0 p0 x M) := Lib.hid (h.protect hm1 (fun k hk => by
  rcases List.mem_cons.1 hk with rfl | hk
  ·exact .inr ⟨by omega, by omega⟩
  ·exact .inl hk))
 have cO := Lib.hid (rOpen_own HO1.out hgmm (by omega))
 have HH := Lib.hid h
 have HM1 := Lib.hid hm1
 have HB1 := Lib.hid hb1
 have HG := Lib.hid (And.intro hg hs1)
 have q0 := hb1.cell (i := 0) rfl
 have q1 := hb1.cell (i := 1) rfl
 have q2 := hb1.cell (i := 2) rfl
 have q3 := hb1.cell (i := 3) rfl
 have q4 := hb1.cell (i := 4) rfl
 have q5 := hb1.cell (i := 5) rfl
 have q6 := hb1.cell (i := 6) rfl
 clear hb1 hm1 h hs1 hw hc hT hz0 hz hcf h0 hok hg1 hrd hgl hU hbl hsq hgm o1 o2 o3 o4 hsz hbk hgmm hroom
 go_enter Tryz.func16, Tryz.ntmps16
 go_upto_region 1 with fail
 try rw [hw1, hg]
 clear hw1 hg
 go_upto_region 4 with (go_at_call 37; refine cO.out.mono ?_; rintro e w2 ⟨p, gp, fx', rfl, HPI, HN2⟩)
 have hb2 := HN2.out.blk HB1.out (by simp)
 clear q0 q1 q2 q3 q4 q5 q6 cO
 have q0 := hb2.cell (i := 0) rfl
 have q1 := hb2.cell (i := 1) rfl
 have q2 := hb2.cell (i := 2) rfl
 have q3 := hb2.cell (i := 3) rfl
 have q4 := hb2.cell (i := 4) rfl
 have q5 := hb2.cell (i := 5) rfl
 have q6 := hb2.cell (i := 6) rfl
 have HB2 := Lib.hid hb2
 clear hb2
 go_upto_region 7 with (go_at_call 29; refine (cM.out _ gp fx' p HPI.out.is).mono ?_; rintro e w3 ⟨sb, mb, tb, mmb, tk, cb, ib, cfp, rfl, HMD⟩)
 have HO3 := Lib.hid (HMD.out.own HPI.out)
 clear q0 q1 q2 q3 q4 q5 q6 cM
 have cN := Lib.hid (by
  obtain ⟨i1, i2, i3, i4, i5, i6, i7, i8, i9, i10, i11, i12, i13, i14⟩ := HIN.out
  exact stNewest_01 (tr := .pointer none) (lg := .pointer none) (b0 := supZero) (b := ⟨bg, ⟨ba, bgn, bsm⟩, 1, bsq, bch⟩) HO3.out i1.openM i2 i12 i13 (by have := i3.room; omega) HMD.out.st HMD.out.tks ⟨by simp, by simp⟩ i4 i5 i6 i7)
 unfold supV at cN
 simp only at cN
 go_upto_region 8 with (go_at_call 38; refine cN.out.mono ?_; rintro e w4 ⟨rfl, HO4, HN4⟩; have hst := HN4.out.blk HMD.out.st (by simp); have f13 := hst.free 13; have f14 := hst.free 14; have f15 := hst.free 15; have f16 := hst.free 16; have f17 := hst.free 17; have f18 := hst.free 18; have f19 := hst.free 19; have j13 := hst.cell (i := 13) rfl; have j14 := hst.cell (i := 14) rfl; have j15 := hst.cell (i := 15) rfl; have j16 := hst.cell (i := 16) rfl; have j17 := hst.cell (i := 17) rfl; have j18 := hst.cell (i := 18) rfl; have j19 := hst.cell (i := 19) rfl; have HST4 := Lib.hid hst)
 obtain ⟨w5, hw5⟩ : ∃ w5, ((((((w4.setCell ⟨sb, 13, none⟩ (.int .u64 (bg : Nat))).setCell ⟨sb, 14, none⟩ (.int .i64 ba)).setCell ⟨sb, 15, none⟩ (.int .u64 (bgn : Nat))).setCell ⟨sb, 16, none⟩ (.int .u32 (bsm : Nat))).setCell ⟨sb, 17, none⟩ (.int .i64 1)).setCell ⟨sb, 18, none⟩ (.int .u64 (bsq : Nat))).setCell ⟨sb, 19, none⟩ (.int .u32 (bch : Nat)) = w5 := ⟨_, rfl⟩
 have hb5 := ((((((HST4.out.set 13 (.int .u64 (bg : Nat))).set 14 (.int .i64 ba)).set 15 (.int .u64 (bgn : Nat))).set 16 (.int .u32 (bsm : Nat))).set 17 (.int .i64 1)).set 18 (.int .u64 (bsq : Nat))).set 19 (.int .u32 (bch : Nat))
 rw [hw5] at hb5
 have HST5 : Hid (Blk w5 sb 85 (stC ⟨csp, clg, cca, ⟨pf, pb', pl'⟩, cla⟩ mb tk (.pointer (some ⟨cb, 0, none⟩)) (.pointer none) (.pointer none) (.pointer none) ⟨bg, ⟨ba, bgn, bsm⟩, 1, bsq, bch⟩ nilS 0 ib)) := Lib.hid hb5
 have hm5 : Mods [sb] w4 w5 := by rw [← hw5]; exact (((((((Mods.refl _ _).setCell (.inl (by simp)) _).setCell (.inl (by simp)) _).setCell (.inl (by simp)) _).setCell (.inl (by simp)) _).setCell (.inl (by simp)) _).setCell (.inl (by simp)) _).setCell (.inl (by simp)) _
 have HM5 := Lib.hid hm5
 rw [hw5]
 have HSB : Hid (W.heap.size ≤ sb ∧ w2.heap.size ≤ sb ∧ sb ≠ g) := Lib.hid (by
  have h1 := (HMD.out.new sb (by simp)).1
  have h2 := HPI.out.mods.size
  have h3 := HB2.out.lt
  exact ⟨by omega, by omega, by omega⟩)
 have HO5 := Lib.hid (HO4.out.aside hm5 (fun k hk => by rw [List.mem_singleton.1 hk]; exact ⟨by simp, HSB.out.1⟩))
 have HB5 := Lib.hid ((HN4.out.blk (HB2.out.keep HMD.out.mods (by simp)) (by simp)).keep hm5 (by simp; exact fun e => HSB.out.2.2 e.symm))
 clear hw5 hb5 hm5 f13 f14 f15 f16 f17 f18 f19 j13 j14 j15 j16 j17 j18 j19 hst cN
 have cT := Lib.hid (fun w' => trOpen_any (W := w') ⟨pf, pb', pl'⟩ sb ⟨ba, bgn, bsm⟩ 1 (by decide) (by decide))
 unfold planV ptrV at cT
 simp only at cT
 have HC5 : Hid (∀ w', Mods [] w5 w' → Blk w' g 44 [.int .i64 (csp : Nat), .int .i64 (clg : Nat), .int .i64 (cca : Nat), .int .i64 pf, .int .i64 pb', .int .i64 pl', .int .u64 (cla : Nat)] ∧ Blk w' sb 85 (stC ⟨csp, clg, cca, ⟨pf, pb', pl'⟩, cla⟩ mb tk (.pointer (some ⟨cb, 0, none⟩)) (.pointer none) (.pointer none) (.pointer none) ⟨bg, ⟨ba, bgn, bsm⟩, 1, bsq, bch⟩ nilS 0 ib)) := Lib.hid (fun w' hm => ⟨HB5.out.keep hm (by simp), HST5.out.keep hm (by simp)⟩)
 have HX5 : Hid (∀ (w' : World) (v : Value), Mods [] w5 w' → Blk (w'.setCell ⟨sb, 12, none⟩ v) g 44 [.int .i64 (csp : Nat), .int .i64 (clg : Nat), .int .i64 (cca : Nat), .int .i64 pf, .int .i64 pb', .int .i64 pl', .int .u64 (cla : Nat)] ∧ Blk (w'.setCell ⟨sb, 12, none⟩ v) sb 85 (stC ⟨csp, clg, cca, ⟨pf, pb', pl'⟩, cla⟩ mb tk (.pointer (some ⟨cb, 0, none⟩)) (.pointer none) (.pointer none) v ⟨bg, ⟨ba, bgn, bsm⟩, 1, bsq, bch⟩ nilS 0 ib)) := Lib.hid (fun w' v hm => ⟨(HC5.out w' hm).1.keep ((Mods.refl [sb] _).setCell (.inl (by simp)) _) (by simp; exact fun e => HSB.out.2.2 e.symm), (HC5.out w' hm).2.set 12 v⟩)
 obtain ⟨q3, q4, q5, s14, s15, s16, s17⟩ : w5.cell? ⟨g, 3, none⟩ = some (.int .i64 pf) ∧ w5.cell? ⟨g, 4, none⟩ = some (.int .i64 pb') ∧ w5.cell? ⟨g, 5, none⟩ = some (.int .i64 pl') ∧ w5.cell? ⟨sb, 14, none⟩ = some (.int .i64 ba) ∧ w5.cell? ⟨sb, 15, none⟩ = some (.int .u64 (bgn : Nat)) ∧ w5.cell? ⟨sb, 16, none⟩ = some (.int .u32 (bsm : Nat)) ∧ w5.cell? ⟨sb, 17, none⟩ = some (.int .i64 1) := by
  obtain ⟨h1, h2⟩ := HC5.out w5 (Mods.refl _ _)
  exact ⟨h1.cell (i := 3) rfl, h1.cell (i := 4) rfl, h1.cell (i := 5) rfl, h2.cell (i := 14) rfl, h2.cell (i := 15) rfl, h2.cell (i := 16) rfl, h2.cell (i := 17) rfl⟩
 go_upto_region 10 with fail
 go_cut [9] from 47 to 67 (fun ev wx => ∃ (tb2 v : Nat), ev = .int .i64 0 ∧ Hid (Blk wx sb 85 (stC ⟨csp, clg, cca, ⟨pf, pb', pl'⟩, cla⟩ mb tk (.pointer (some ⟨cb, 0, none⟩)) (.pointer none) (.pointer none) (.pointer (some ⟨tb2, 0, none⟩)) ⟨bg, ⟨ba, bgn, bsm⟩, 1, bsq, bch⟩ nilS 0 ib)) ∧ Hid (Blk wx tb2 153 (treeC ⟨pf, pb', pl'⟩ sb v 1 nilS 0 0)) ∧ Hid (Blk wx v 151 (vC true ⟨ba, bgn, bsm⟩ false nilS nilS nilS nilS)) ∧ Hid (Mods [sb] w5 wx) ∧ Hid (w5.heap.size ≤ v ∧ v < tb2))
 case first =>
  go_region_held3 (fun w' => w'.cell? ⟨g, 3, none⟩ = some (.int .i64 pf) ∧ w'.cell? ⟨g, 4, none⟩ = some (.int .i64 pb') ∧ w'.cell? ⟨g, 5, none⟩ = some (.int .i64 pl') ∧ w'.cell? ⟨sb, 14, none⟩ = some (.int .i64 ba) ∧ w'.cell? ⟨sb, 15, none⟩ = some (.int .u64 (bgn : Nat)) ∧ w'.cell? ⟨sb, 16, none⟩ = some (.int .u32 (bsm : Nat)) ∧ w'.cell? ⟨sb, 17, none⟩ = some (.int .i64 1))
   (first | exact ⟨(HC5.out _ hmc.out).1.cell (i := 3) rfl, (HC5.out _ hmc.out).1.cell (i := 4) rfl, (HC5.out _ hmc.out).1.cell (i := 5) rfl, (HC5.out _ hmc.out).2.cell (i := 14) rfl, (HC5.out _ hmc.out).2.cell (i := 15) rfl, (HC5.out _ hmc.out).2.cell (i := 16) rfl, (HC5.out _ hmc.out).2.cell (i := 17) rfl⟩ | exact ⟨(HX5.out _ _ hmc.out).1.cell (i := 3) rfl, (HX5.out _ _ hmc.out).1.cell (i := 4) rfl, (HX5.out _ _ hmc.out).1.cell (i := 5) rfl, (HX5.out _ _ hmc.out).2.cell (i := 14) rfl, (HX5.out _ _ hmc.out).2.cell (i := 15) rfl, (HX5.out _ _ hmc.out).2.cell (i := 16) rfl, (HX5.out _ _ hmc.out).2.cell (i := 17) rfl⟩ | go_keep | fail)
   (first | (go_at_call 39; refine (cT.out _).mono ?_; rintro e w6 ⟨tb2, v, rfl, HT6, HV6, HM6, HL6⟩; have hmc : Hid (Mods [] w5 w6) := (by first | exact Lib.hid (((Mods.refl _ _).drew).tr HM6.out) | exact Lib.hid ((Mods.refl _ _).tr HM6.out)); have hst := (HC5.out _ hmc.out).2; have e12 := hst.cell (i := 12) rfl; have f12 := hst.free 12) | fail)
  all_goals go_wp2_with fail
  all_goals go_meet
  all_goals
   have hsl := HST5.out.lt
   have hl6 := HL6.out
   simp only [World.size_drew] at hl6
   exact ⟨tb2, v, rfl, Lib.hid (HX5.out _ _ hmc.out).2, Lib.hid (HT6.out.keep ((Mods.refl [sb] _).setCell (.inl (by simp)) _) (by simp; omega)), Lib.hid (HV6.out.keep ((Mods.refl [sb] _).setCell (.inl (by simp)) _) (by simp; omega)), Lib.hid ((hmc.out.mono (by simp) : Mods [sb] w5 w6).setCell (.inl (by simp)) _), Lib.hid hl6⟩
 case rest =>
  obtain ⟨tb2, v, rfl, HST6, HT6, HV6, HM6, HL6⟩ := hcut
  clear q3 q4 q5 s14 s15 s16 s17 cT
  have HO6 := Lib.hid (HO5.out.aside HM6.out (fun k hk => by rw [List.mem_singleton.1 hk]; exact ⟨by simp, HSB.out.1⟩))
  have cOc := Lib.hid (by
   obtain ⟨i1, i2, i3, i4, i5, i6, i7, i8, i9, i10, i11, i12, i13, i14⟩ := HIN.out
   have hsl := HST5.out.lt
   have hl := HL6.out
   exact stOccupy_any (cf := ⟨csp, clg, cca, ⟨pf, pb', pl'⟩, cla⟩) (b := ⟨bg, ⟨ba, bgn, bsm⟩, 1, bsq, bch⟩) HO6.out i1.openM.fine i3 HST6.out HT6.out HV6.out (by show bg ≤ cla; omega) ⟨by omega, by omega⟩ i9)
  go_upto_region 16 with (go_at_call 40; refine cOc.out.mono ?_; rintro e w7 ⟨rfl, HOC⟩)
  obtain ⟨pb, sfp, HST7, HSP7, HNW7, HM7⟩ := HOC.out
  simp only at HSP7
  obtain ⟨S7, hS7⟩ : ∃ S7, (Sp.new B (2 + clg) bg cla).useS ba = S7 := ⟨_, rfl⟩
  rw [hS7] at HSP7
  have HS7 := Lib.hid hS7
  obtain ⟨F8, hF8⟩ : ∃ F8, [tb2, v] ++ sfp ++ ([sb, tk, ib] ++ cfp ++ (g :: F)) = F8 := ⟨_, rfl⟩
  have HI7 : Hid (StIn W w7 F8 x { cf := ⟨csp, clg, cca, ⟨pf, pb', pl'⟩, cla⟩, sb := sb, mb := mb, p := p, tk := tk, cb := cb, ib := ib, pb := pb, tb := tb2, v := v, cfp := cfp, sfp := sfp, lg := .pointer none, sup := ⟨bg, ⟨ba, bgn, bsm⟩, 1, bsq, bch⟩, S := S7, R := [], c0 := 0, c1 := 0, t := 0, kn := true, ld := false, q := ⟨ba, bgn, bsm⟩ } (openM M)) := Lib.hid (by
   rw [← hF8]
   have hm57 : Mods [sb] w5 w7 := HM6.out.trans HM7.out (fun k hk => .inl hk)
   have hm47 : Mods [sb] w4 w7 := HM5.out.trans hm57 (fun k hk => .inl hk)
   have hW3 := HPI.out.mods.size
   have h6 := HMD.out.nd.1
   have hcn := HMD.out.nd.2
   simp only [List.nodup_cons, List.mem_cons, List.not_mem_nil, or_false, not_or, not_false_eq_true, List.nodup_nil, and_true] at h6
   have s34 := HN4.out.size
   have s45 := HM5.out.size
   have s56 := HM6.out.size
   have s67 := HM7.out.size
   have hsb3 := HMD.out.new sb (by simp)
   have htk3 := HMD.out.new tk (by simp)
   have hib3 := HMD.out.new ib (by simp)
   have htl := HT6.out.lt
   have hl6 := HL6.out
   have hcc : ∀ g ∈ cfp, (w2.heap.size ≤ g ∧ g < w3.heap.size) ∧ g ≠ sb ∧ g ≠ tk ∧ g ≠ ib := fun g hg => by
    have h1 := HMD.out.new g (by simp [hg])
    have h2 := hcn g hg
    simp only [List.mem_cons, List.not_mem_nil, or_false, not_or] at h2
    exact ⟨h1, h2.2.2.2.1, h2.2.2.2.2.1, h2.2.2.2.2.2⟩
   have hspl : ∀ g ∈ sfp, wc.heap.size ≤ g ∧ g < w7.heap.size := fun g hg => ⟨HNW7.out g hg, HSP7.out.lt g hg⟩
   refine ⟨HO5.out.mix hm57 (fun k hk => ⟨by rw [List.mem_singleton.1 hk]; simp, by rw [List.mem_singleton.1 hk]; exact HSB.out.1⟩) (fun g hg => ?_), HST7.out, (HN4.out.blk HMD.out.tks (by simp)).keep hm47 (by simp; omega), ((Turn.minds (K := []) HN4.out).cache HMD.out.cache (fun g hg => by simp [hg]) (by simp)).keep hm47 (fun k hk hx => (hcc k hk).2.1 (List.mem_singleton.1 hx)), HSP7.out, (HN4.out.map HMD.out.imgs (by simp)).keep hm47 (by simp; omega), HT6.out.keep HM7.out (by simp; omega), HV6.out.keep HM7.out (by simp; omega), fun g hg => ?_, ?_, fun g hg => ?_, fun g hg hx => ?_⟩
   ·rcases List.mem_append.1 hg with hg | hg
    ·refine .inr ?_
     rcases List.mem_append.1 hg with hg | hg
     ·simp only [List.mem_cons, List.not_mem_nil, or_false] at hg
      rcases hg with rfl | rfl <;> omega
     ·have := hspl g hg; omega
    ·exact .inl hg
   ·simp only [StA.all, StA.five, List.mem_append, List.mem_cons, List.not_mem_nil, or_false] at hg
    rcases hg with (rfl | rfl | rfl | rfl | rfl) | hg | hg
    ·exact ⟨by simp, by omega⟩
    ·exact ⟨by simp, by omega⟩
    ·exact ⟨by simp, by omega⟩
    ·exact ⟨by simp, by omega⟩
    ·exact ⟨by simp, by omega⟩
    ·exact ⟨by simp [hg], by have := hcc g hg; omega⟩
    ·exact ⟨by simp [hg], by have := hspl g hg; omega⟩
   ·show [sb, tk, ib, tb2, v].Nodup
    simp only [List.nodup_cons, List.mem_cons, List.not_mem_nil, or_false, not_or, not_false_eq_true, List.nodup_nil, and_true]
    omega
   ·show g ∉ [sb, tk, ib, tb2, v]
    simp only [List.mem_cons, List.not_mem_nil, or_false, not_or]
    rcases List.mem_append.1 hg with hg | hg
    ·have := hcc g hg; omega
    ·have := hspl g hg; omega
   ·have h1 := hcc g hg; have h2 := hspl g hx; omega)
  have hbg := ((HB5.out.keep HM6.out (by simp; exact fun e => HSB.out.2.2 e.symm)).keep HM7.out (by simp; exact fun e => HSB.out.2.2 e.symm))
  have HC7 : Hid (∀ w', Mods [] w7 w' → Blk w' g 44 [.int .i64 (csp : Nat), .int .i64 (clg : Nat), .int .i64 (cca : Nat), .int .i64 pf, .int .i64 pb', .int .i64 pl', .int .u64 (cla : Nat)] ∧ Blk w' sb 85 (stC ⟨csp, clg, cca, ⟨pf, pb', pl'⟩, cla⟩ mb tk (.pointer (some ⟨cb, 0, none⟩)) (.pointer (some ⟨pb, 0, none⟩)) (.pointer none) (.pointer (some ⟨tb2, 0, none⟩)) ⟨bg, ⟨ba, bgn, bsm⟩, 1, bsq, bch⟩ nilS 0 ib)) := Lib.hid (fun w' hm => ⟨hbg.keep hm (by simp), HI7.out.st.keep hm (by simp)⟩)
  have HHF : Hid ((∀ k ∈ F, k ∈ F8) ∧ (∀ k ∈ [sb, tk, ib] ++ cfp ++ (g :: F), k ∈ F8) ∧ ∀ k ∈ sfp, w5.heap.size ≤ k) := Lib.hid ⟨fun k hk => by rw [← hF8]; simp [hk], fun k hk => by rw [← hF8]; exact List.mem_append_right _ hk, fun k hk => Nat.le_trans HM6.out.size (HNW7.out k hk)⟩
  clear hF8 hS7 hbg cOc
  have cL : Hid (∀ w', Mods [] w7 w' → Calls Tryz.prog 41 #[.pointer (some ⟨mb, 0, none⟩), .agg #[.int .i64 2, .int .i64 (clg : Nat)], .int .u64 (bsq : Nat), .int .u32 (bch : Nat)] w' fun e w'' => ∃ lb tk A cap, e = .returned (.tuple #[.pointer (some ⟨lb, 0, none⟩), .slice A 0 cap, .int .i64 0]) ∧
    Hid (∃ F' K rb base, OpIn W w'' F' K x mb p tk lb rb base (openM M) ⟨2, clg, bsq, bch, 0⟩ ⟨2, clg, bsq, bch, 0⟩ [] (.slice A 0 cap) ∧ ∀ g ∈ F8, g ∈ F') ∧ Hid (Minds F8 w' w'') ∧ Hid (w'.heap.size ≤ lb)) := Lib.hid (fun (w' : World) (hm : Mods [] w7 w') => by
   obtain ⟨i1, i2, i3, i4, i5, i6, i7, i8, i9, i10, i11, i12, i13, i14⟩ := HIN.out
   have hr := i3.room
   have hl := i3.log
   have hbb := i3.blocks
   simp only at hr hl hbb
   have hls : LS B 2 clg rd ⟨2, clg, bsq, bch, 0⟩ ⟨2, clg, bsq, bch, 0⟩ [] := LS.zero (by decide) hl.1 hl.2 (by omega) (by omega) i5.chain i10
   exact lgOpen_any (L0 := ⟨2, clg, bsq, bch, 0⟩) ((HI7.out.calm hm).own) i1.openM.fine (by omega) hls.ok0 rfl (by unfold ringE; rw [if_neg]; show ¬ ((clg : Int) < 2 ∨ 256 < (clg : Int) ∨ (2 : Int) < 0 ∨ (B : Int) < 2 ∨ (B : Int) - 2 < (clg : Int)); omega) (hls.opens i1.openM i2 (by show (0 : Nat) < 900000000; decide)))
  obtain ⟨q0, q1, q2, q3, q4, q5, q6, s7, s18, s19⟩ : w7.cell? ⟨g, 0, none⟩ = some (.int .i64 (csp : Nat)) ∧ w7.cell? ⟨g, 1, none⟩ = some (.int .i64 (clg : Nat)) ∧ w7.cell? ⟨g, 2, none⟩ = some (.int .i64 (cca : Nat)) ∧ w7.cell? ⟨g, 3, none⟩ = some (.int .i64 pf) ∧ w7.cell? ⟨g, 4, none⟩ = some (.int .i64 pb') ∧ w7.cell? ⟨g, 5, none⟩ = some (.int .i64 pl') ∧ w7.cell? ⟨g, 6, none⟩ = some (.int .u64 (cla : Nat)) ∧ w7.cell? ⟨sb, 7, none⟩ = some (.pointer (some ⟨mb, 0, none⟩)) ∧ w7.cell? ⟨sb, 18, none⟩ = some (.int .u64 (bsq : Nat)) ∧ w7.cell? ⟨sb, 19, none⟩ = some (.int .u32 (bch : Nat)) := by
   obtain ⟨h1, h2⟩ := HC7.out w7 (Mods.refl _ _)
   exact ⟨h1.cell (i := 0) rfl, h1.cell (i := 1) rfl, h1.cell (i := 2) rfl, h1.cell (i := 3) rfl, h1.cell (i := 4) rfl, h1.cell (i := 5) rfl, h1.cell (i := 6) rfl, h2.cell (i := 7) rfl, h2.cell (i := 18) rfl, h2.cell (i := 19) rfl⟩
  go_cut [9, 12, 13] from 75 to 95 (fun ev lv rv wx => ∃ lb ltk A cap, ev = .int .i64 0 ∧ lv = .pointer (some ⟨lb, 0, none⟩) ∧ rv = .slice A 0 cap ∧ Hid (∃ F' K rb base, OpIn W wx F' K x mb p ltk lb rb base (openM M) ⟨2, clg, bsq, bch, 0⟩ ⟨2, clg, bsq, bch, 0⟩ [] (.slice A 0 cap) ∧ ∀ g ∈ F8, g ∈ F') ∧ Hid (Minds F8 w7 wx) ∧ Hid (w7.heap.size ≤ lb))
  case first =>
   go_region_held3 (fun w' => w'.cell? ⟨g, 0, none⟩ = some (.int .i64 (csp : Nat)) ∧ w'.cell? ⟨g, 1, none⟩ = some (.int .i64 (clg : Nat)) ∧ w'.cell? ⟨g, 2, none⟩ = some (.int .i64 (cca : Nat)) ∧ w'.cell? ⟨g, 3, none⟩ = some (.int .i64 pf) ∧ w'.cell? ⟨g, 4, none⟩ = some (.int .i64 pb') ∧ w'.cell? ⟨g, 5, none⟩ = some (.int .i64 pl') ∧ w'.cell? ⟨g, 6, none⟩ = some (.int .u64 (cla : Nat)) ∧ w'.cell? ⟨sb, 7, none⟩ = some (.pointer (some ⟨mb, 0, none⟩)) ∧ w'.cell? ⟨sb, 18, none⟩ = some (.int .u64 (bsq : Nat)) ∧ w'.cell? ⟨sb, 19, none⟩ = some (.int .u32 (bch : Nat)))
    (first | exact ⟨(HC7.out _ hmc.out).1.cell (i := 0) rfl, (HC7.out _ hmc.out).1.cell (i := 1) rfl, (HC7.out _ hmc.out).1.cell (i := 2) rfl, (HC7.out _ hmc.out).1.cell (i := 3) rfl, (HC7.out _ hmc.out).1.cell (i := 4) rfl, (HC7.out _ hmc.out).1.cell (i := 5) rfl, (HC7.out _ hmc.out).1.cell (i := 6) rfl, (HC7.out _ hmc.out).2.cell (i := 7) rfl, (HC7.out _ hmc.out).2.cell (i := 18) rfl, (HC7.out _ hmc.out).2.cell (i := 19) rfl⟩ | exact hcc9 | go_keep | fail)
    (first | (go_at_call 42; refine (cFi.out _).mono ?_; rintro e w8 ⟨rfl, HM8⟩; have hmc : Hid (Mods [] w7 w8) := (by first | exact Lib.hid (((Mods.refl _ _).drew).tr HM8.out) | exact Lib.hid ((Mods.refl _ _).tr HM8.out))) | (go_at_call 41; refine (cL.out _ hmc.out).mono ?_; rintro e w9 ⟨lb, ltk, A, cap, rfl, HOP9, HN9, HL9⟩; have hcc9 : _ ∧ _ := (by
       have hb := (HN9.out.blk (HC7.out _ hmc.out).1 (HHF.out.2.1 g (by simp)))
       have hs := (HN9.out.blk (HC7.out _ hmc.out).2 (HHF.out.2.1 sb (by simp)))
       exact And.intro (hb.cell (i := 0) rfl) (And.intro (hb.cell (i := 1) rfl) (And.intro (hb.cell (i := 2) rfl) (And.intro (hb.cell (i := 3) rfl) (And.intro (hb.cell (i := 4) rfl) (And.intro (hb.cell (i := 5) rfl) (And.intro (hb.cell (i := 6) rfl) (And.intro (hs.cell (i := 7) rfl) (And.intro (hs.cell (i := 18) rfl) (hs.cell (i := 19) rfl)))))))))); have HN79 : Hid (Minds F8 w7 w9) := Lib.hid ((Minds.of hmc.out).trans HN9.out); have HL79 : Hid (w7.heap.size ≤ lb) := Lib.hid (Nat.le_trans hmc.out.size HL9.out)) | fail)
   all_goals go_wp2_with fail
   all_goals go_meet
   all_goals exact ⟨lb, ltk, A, cap, rfl, rfl, rfl, HOP9, HN79, HL79⟩
  case rest =>
   obtain ⟨lb, ltk, A, cap, rfl, rfl, rfl, HOP, HN79, HL79⟩ := hcut
   obtain ⟨F', K, rb, base, hop, hFF⟩ := HOP.out
   have HI9 := Lib.hid (HI7.out.go hop.lg.own HN79.out hFF)
   have HLG := Lib.hid (And.intro hop.lg.lg (And.intro hop.lg.mem (And.intro hop.lg.old (And.intro hop.lg.sum hop.lg.ne))))
   have HFF' := Lib.hid hFF
   have j11 := HI9.out.st.cell (i := 11) (v := .pointer none) rfl
   have f11 := HI9.out.st.free 11
   simp only at j11 f11
   clear q0 q1 q2 q3 q4 q5 q6 s7 s18 s19 cL cFi HOP hop hFF
   have hlog := HI9.out.logged (.pointer (some ⟨lb, 0, none⟩))
   simp only at hlog
   go_upto_region 20 with fail
   obtain ⟨w10, hw10⟩ : ∃ w10, wc.setCell ⟨sb, 11, none⟩ (.pointer (some ⟨lb, 0, none⟩)) = w10 := ⟨_, rfl⟩
   rw [hw10] at hlog
   have HI10 := Lib.hid hlog.1
   have HM10 := Lib.hid hlog.2
   rw [hw10]
   have hlball : ∀ k ∈ [sb, tk, ib, tb2, v] ++ (cfp ++ sfp), k ≠ lb := fun k hk e => by
    have h1 := HI7.out.all_lt (g := k) hk
    have h2 := HL79.out
    omega
   have hlb10 := HLG.out.1.keep HM10.out (by simp; exact fun e => hlball sb (by simp) e.symm)
   clear hw10 j11 f11 hlog
   have HLB := Lib.hid hlball
   clear hlball
   have cK := Lib.hid (by
    obtain ⟨i1, i2, i3, i4, i5, i6, i7, i8, i9, i10, i11, i12, i13, i14⟩ := HIN.out
    have hr := i3.room
    have hl := i3.log
    have hla := i3.last
    simp only at hr hl hla
    have hf0 := i1.openM.flush.2.1
    have hk0 := i5.h
    simp only at hk0
    have hS1 : S7.gen = bg ∧ S7.last = cla := by
     rw [← HS7.out]
     unfold Sp.useS
     split <;> exact ⟨rfl, rfl⟩
    exact stCheck_any (gen := bg + 1) (L := ⟨2, clg, bsq, bch, 0⟩) (ltk := ltk) (lb := lb) HI10.out i14 (by show ¬ S7.last ≤ S7.gen; rw [hS1.1, hS1.2]; omega) (by show S7.gen + 1 = bg + 1; rw [hS1.1]) rfl hlb10
     ⟨by show (2 : Nat) ≤ 5000; decide, hl.1, hl.2, by show bsq < _; omega, i5.chain, Nat.zero_le _⟩ i11 ⟨HLG.out.2.1.2, HLG.out.2.2.1, fun hx => HLB.out _ hx rfl⟩
     (fun G w1 h1 => stCommit_known h1 i1.openM i2 rfl) hf0 (by decide) i12 i13 (by omega)
     ⟨i5.root, by show bg + 1 < _; omega, by unfold SupE.right; simp; omega, i11, i5.chain⟩)
   go_upto_region 26 with (first | (go_at_call 43; refine stReplay_none.mono ?_; rintro e w11 ⟨rfl, hw11⟩; subst w11) | (go_at_call 44; refine cK.out.mono ?_; rintro e w12 ⟨rfl, HCK⟩))
   go_wp2_with fail
   go_ret2
   obtain ⟨M3, F'', fp1, tb3, v3, ib3, g1, g2, g3, g4, g5, g6, g7, g8⟩ := HCK.out
   have hfl := HIN.out.1.openM.flush
   have hsz27 : w.heap.size ≤ w2.heap.size ∧ w.heap.size ≤ w5.heap.size ∧ w.heap.size ≤ w7.heap.size ∧ w.heap.size ≤ w10.heap.size := by
    have s1 := HM1.out.size
    have s2 := HN2.out.size
    have s3 := HMD.out.mods.size
    have s4 := HN4.out.size
    have s5 := HM5.out.size
    have s6 := HM6.out.size
    have s7 := HM7.out.size
    have s8 := HN79.out.size
    have s9 := HM10.out.size
    exact ⟨by omega, by omega, by omega, by omega⟩
   have hmin : Minds F w w12 := by
    have hF2 : ∀ k ∈ F, k < w2.heap.size := fun k hk => HPI.out.lt k (List.mem_cons_of_mem _ hk)
    have s3 := HMD.out.mods.size
    have s4 := HN4.out.size
    have s5 := HM5.out.size
    have s7 := HN79.out.size
    have hsbF : sb ∉ F := fun hx => by have := hF2 sb hx; have := HSB.out.2.1; omega
    have hm57 := HM6.out.trans HM7.out (fun k hk => .inl hk)
    have s57 := hm57.size
    have hm47 := HM5.out.trans hm57 (fun k hk => .inl hk)
    have t1 : Minds F w w4 := ((Minds.of HM1.out).trans (HN2.out.mono (fun k hk => List.mem_cons_of_mem _ hk))).trans ((Minds.of HMD.out.mods).trans (HN4.out.mono (fun k hk => by simp [hk])))
    refine ((t1.trans ⟨[sb], hm47, fun k hk => by rw [List.mem_singleton.1 hk]; exact hsbF⟩).trans (HN79.out.mono HHF.out.1)).trans (Minds.trans ⟨[sb], HM10.out, fun k hk => by rw [List.mem_singleton.1 hk]; exact hsbF⟩ ?_)
    obtain ⟨L, m1, m2⟩ := g4
    refine ⟨L, m1, fun k hk hx => ?_⟩
    rcases m2 k hk with h | h
    ·have h1 := hF2 k hx
     rcases List.mem_cons.1 h with h | h
     ·have := HL79.out; omega
     ·rcases List.mem_cons.1 h with h | h
      ·simp only at h; rw [h] at hx; exact hsbF hx
      ·have := HHF.out.2.2 k h; omega
    ·exact h (HFF'.out k (HHF.out.1 k hx))
   refine ⟨sb, rfl, Lib.hid ⟨F'', _, M3, lb, ltk, g1, fun k hk => g5 k (HFF'.out k (HHF.out.1 k hk)), hmin, ⟨g3.1.trans hfl.2.2.1, g3.2 hfl.2.2.2⟩, g2, ⟨rfl, rfl, rfl, rfl, rfl, rfl, ?_, rfl, rfl, rfl, rfl⟩, ⟨rfl, g8, g5 lb HLG.out.2.1.2, ?_⟩, fun k hk => ?_⟩⟩
   ·show S7.step.settleS = _
    rw [← HS7.out]
   ·have h1 := HL79.out; have h2 := hsz27; omega
   ·simp only [StA.all, StA.five, StA.after, List.mem_append, List.mem_cons, List.not_mem_nil, or_false] at hk
    obtain ⟨t1, t2, t3⟩ := g7
    have hn : ∀ {t : Nat}, t ∈ [mb, tb, mmb, sb, tk, ib] ++ cfp → w.heap.size ≤ t := fun ht => by have := (HMD.out.new _ ht).1; omega
    rcases hk with (rfl | rfl | rfl | rfl | rfl) | hk | hk
    ·exact hn (by simp)
    ·exact hn (by simp)
    ·omega
    ·omega
    ·omega
    ·exact hn (by simp [hk])
    ·rcases g6 k hk with h | h
     ·have := HHF.out.2.2 k h; omega
     ·omega
end
end Go.Proofs.YtkjpdfomppjiiaaGreatDoor
/- What is known of a one-leaf tree's block; the image of a superblock's. -/
namespace Go.Proofs.YtkjpdfomppjiiaaGreatDoor
open Go.RowKit

def knO (q : PtrE) (a : Nat) : Nat → Option Value := fun i => if i = a then some (ptrV q) else none
theorem run_makeMapIPt (W : World) : (Instr.makeMap 109 none).run Tryz.prog W = .ok (.map (some W.heap.size)) (W.alloc (.map #[] 0)) := by kernel_rfl
section
variable {w : World} {c d km n k : Nat} {q : PtrE}
theorem stKnown1_any (hc : Blk w c 109 [.map (some km)]) (hm : MapK kvN w km (fun _ => none) 0) (hq : q.addr = (k : Int)) :
  Calls Tryz.prog 99 #[ptrV q, .int .i64 (d : Nat), .pointer (some ⟨c, 0, none⟩)] w fun e w' => e = .returned (.int .i64 0) ∧ Hid (MapK kvN w' km (knO q k) 1) ∧ Hid (Mods [km] w w') := by
 obtain ⟨w1, hw1⟩ : ∃ w1, w.alloc (.cells #[.int .i64 q.addr, .int .u64 (q.gen : Nat), .int .u32 (q.sum : Nat)] 79) = w1 := ⟨_, rfl⟩
 obtain ⟨g, hg⟩ : ∃ g, w.heap.size = g := ⟨_, rfl⟩
 have hb1 : Blk w1 g 79 [.int .i64 q.addr, .int .u64 (q.gen : Nat), .int .u32 (q.sum : Nat)] := by rw [← hw1, ← hg]; exact Blk.new w 79 _
 have hm1 : Mods [] w w1 := by rw [← hw1]; exact (Mods.refl _ _).alloc _
 obtain ⟨w2, hup, hM2, hm2, _⟩ := (hm.keep hm1 (by simp)).update (P := Tryz.prog) (T := 109) (K := 3) (E := 79) (d := .int .i64) kvN_key kvN_inj Tryz.underlying109 Tryz.underlying3 k (ptrV q)
 simp only [Option.isSome_none, Bool.false_eq_true, if_false] at hM2
 have c0 : w1.cell? ⟨c, 0, none⟩ = some (.map (some km)) := (hc.keep hm1 (by simp)).cell (i := 0) rfl
 have p0 := hb1.cell (i := 0) rfl
 have p1 := hb1.cell (i := 1) rfl
 have p2 := hb1.cell (i := 2) rfl
 have HM1 := Lib.hid hm1
 have HM2 := Lib.hid hm2
 have HK := Lib.hid (show MapK kvN w2 km (knO q k) 1 from hM2)
 unfold kvN at hup
 obtain ⟨qa, qg, qs⟩ := q
 unfold ptrV at *
 simp only at *
 subst hq
 clear hc hm hb1 hm1 hm2 hM2
 go_enter Tryz.func99, Tryz.ntmps99
 go_upto_region 1 with fail
 try rw [hw1, hg]
 clear hw1 hg
 go_wp2_with fail
 go_ret
 exact ⟨rfl, HK, Lib.hid ((HM1.out.mono (by simp) : Mods [km] w w1).trans HM2.out (fun k hk => .inl hk))⟩
end
section
variable {W w : World} {F : List Nat} {x : Nat → Nat} {mb sb tk ib n k : Nat} {cf : CfE} {ca sp lg tr wt : Value} {b : SupE}
set_option maxRecDepth 100000 in
set_option maxHeartbeats 3200000 in
theorem stKnown_any (hb : Blk w sb 85 (stC cf mb tk ca sp lg tr b wt n ib)) (hh : b.height = 1) (hq : b.root.addr = (k : Int)) :
  Calls Tryz.prog 48 #[.pointer (some ⟨sb, 0, none⟩)] w fun e w' => ∃ km, e = .returned (.tuple #[.map (some km), .int .i64 0]) ∧ Hid (MapK kvN w' km (knO b.root k) 1) ∧ Hid (Mods [] w w') ∧ Hid (w.heap.size ≤ km) := by
 obtain ⟨bg, ⟨ba, bgn, bsm⟩, bh, bsq, bch⟩ := b
 obtain ⟨csp, clg, cca, ⟨pf, pb', pl'⟩, cla⟩ := cf
 simp only at *
 subst hh
 subst hq
 have hmm := run_makeMapIPt
 obtain ⟨w2, hw2⟩ : ∃ w2, (w.alloc (.map #[] 0)).alloc (.cells #[.map (some w.heap.size)] 109) = w2 := ⟨_, rfl⟩
 obtain ⟨km, hkm⟩ : ∃ km, w.heap.size = km := ⟨_, rfl⟩
 have hmap : MapK kvN w2 km (fun _ => none) 0 := by rw [← hw2, ← hkm]; exact (MapK.made w).keep ((Mods.refl [] _).alloc _) (by simp)
 have hcb : Blk w2 (km + 1) 109 [.map (some km)] := by rw [← hw2, ← hkm]; exact Blk.newS 109 _ (by simp)
 have hm2 : Mods [] w w2 := by rw [← hw2]; exact ((Mods.refl _ _).alloc _).alloc _
 have hs2 : w2.heap.size = km + 2 := by rw [← hw2, ← hkm]; simp
 have HST := Lib.hid (hb.keep hm2 (by simp))
 have HMAP := Lib.hid hmap
 have HCB := Lib.hid hcb
 have HM2 := Lib.hid hm2
 have HS2 := Lib.hid hs2
 have HKM := Lib.hid hkm
 have cT := Lib.hid (fun w' => trOpen_any (W := w') ⟨pf, pb', pl'⟩ sb ⟨(k : Int), bgn, bsm⟩ 1 (by decide) (by decide))
 unfold planV ptrV at cT
 simp only at cT
 have HC5 : Hid (∀ w', Mods [] w2 w' → w'.cell? ⟨sb, 3, none⟩ = some (.int .i64 pf) ∧ w'.cell? ⟨sb, 4, none⟩ = some (.int .i64 pb') ∧ w'.cell? ⟨sb, 5, none⟩ = some (.int .i64 pl') ∧ w'.cell? ⟨sb, 14, none⟩ = some (.int .i64 (k : Nat)) ∧ w'.cell? ⟨sb, 15, none⟩ = some (.int .u64 (bgn : Nat)) ∧ w'.cell? ⟨sb, 16, none⟩ = some (.int .u32 (bsm : Nat)) ∧ w'.cell? ⟨sb, 17, none⟩ = some (.int .i64 1)) := Lib.hid (fun w' hm => by
  have h2 := HST.out.keep hm (by simp)
  exact ⟨h2.cell (i := 3) rfl, h2.cell (i := 4) rfl, h2.cell (i := 5) rfl, h2.cell (i := 14) rfl, h2.cell (i := 15) rfl, h2.cell (i := 16) rfl, h2.cell (i := 17) rfl⟩)
 obtain ⟨q3, q4, q5, s14, s15, s16, s17⟩ := HC5.out w2 (Mods.refl _ _)
 clear hb hmap hcb hm2 hs2
 rw [hkm] at hw2
 go_enter Tryz.func48, Tryz.ntmps48
 go_upto_region 4 with fail
 try rw [hw2]
 try rw [hkm]
 clear hw2 hkm hmm
 go_cut [5, 6] from 10 to 30 (fun tv ev wx => ∃ (tb2 v : Nat), tv = .pointer (some ⟨tb2, 0, none⟩) ∧ ev = .int .i64 0 ∧ Hid (Blk wx tb2 153 (treeC ⟨pf, pb', pl'⟩ sb v 1 nilS 0 0)) ∧ Hid (Blk wx v 151 (vC true ⟨(k : Int), bgn, bsm⟩ false nilS nilS nilS nilS)) ∧ Hid (Mods [] w2 wx) ∧ Hid (w2.heap.size ≤ v ∧ v < tb2))
 case first =>
  go_region_held3 (fun w' => w'.cell? ⟨sb, 3, none⟩ = some (.int .i64 pf) ∧ w'.cell? ⟨sb, 4, none⟩ = some (.int .i64 pb') ∧ w'.cell? ⟨sb, 5, none⟩ = some (.int .i64 pl') ∧ w'.cell? ⟨sb, 14, none⟩ = some (.int .i64 (k : Nat)) ∧ w'.cell? ⟨sb, 15, none⟩ = some (.int .u64 (bgn : Nat)) ∧ w'.cell? ⟨sb, 16, none⟩ = some (.int .u32 (bsm : Nat)) ∧ w'.cell? ⟨sb, 17, none⟩ = some (.int .i64 1))
   (first | exact HC5.out _ hmc.out | go_keep | fail)
   (first | (go_at_call 39; refine (cT.out _).mono ?_; rintro e w6 ⟨tb2, v, rfl, HT6, HV6, HM6, HL6⟩; have hmc : Hid (Mods [] w2 w6) := (by first | exact Lib.hid (((Mods.refl _ _).drew).tr HM6.out) | exact Lib.hid ((Mods.refl _ _).tr HM6.out))) | fail)
  all_goals go_wp2_with fail
  all_goals go_meet
  all_goals
   have hl6 := HL6.out
   simp only [World.size_drew] at hl6
   exact ⟨tb2, v, rfl, rfl, HT6, HV6, hmc, Lib.hid hl6⟩
 case rest =>
  obtain ⟨tb2, v, rfl, rfl, HT6, HV6, HM6, HL6⟩ := hcut
  clear q3 q4 q5 s14 s15 s16 s17 cT
  have HCB6 := Lib.hid (HCB.out.keep HM6.out (by simp))
  have HMP6 := Lib.hid (HMAP.out.keep HM6.out (by simp))
  have cW := Lib.hid (trWalk_k (c := km + 1) (P := fun w' => MapK kvN w' km (knO ⟨(k : Int), bgn, bsm⟩ k) 1 ∧ Mods [km] wc w') HT6.out HV6.out (fun w1 hm1 => (stKnown1_any (d := 0) (HCB6.out.keep hm1 (by simp)) (HMP6.out.keep hm1 (by simp)) rfl).mono (fun e w' ⟨h1, h2, h3⟩ => ⟨h1, h2.out, (hm1.mono (by simp) : Mods [km] wc w1).trans h3.out (fun k hk => .inl hk)⟩)) (fun w' hp => HT6.out.keep hp.2 (by have h1 := HL6.out; have h2 := HS2.out; simp; omega)))
  go_upto_region 9 with (go_at_call 82; refine cW.out.mono ?_; rintro e w8 ⟨rfl, hp8, hm8⟩; have HP8 := Lib.hid hp8; have HM8 := Lib.hid hm8; clear hp8 hm8)
  have c0 : w8.cell? ⟨km + 1, 0, none⟩ = some (.map (some km)) := (HCB6.out.keep HM8.out (by simp)).cell (i := 0) rfl
  go_wp2_with fail
  go_ret2
  refine ⟨km, rfl, HP8, Lib.hid ((HM2.out.trans HM6.out (by simp)).trans HM8.out (fun j hj => .inr (by rw [List.mem_singleton.1 hj]; exact Nat.le_of_eq HKM.out))), Lib.hid (Nat.le_of_eq HKM.out)⟩
end
end Go.Proofs.YtkjpdfomppjiiaaGreatDoor
namespace Go.Proofs.YtkjpdfomppjiiaaGreatDoor
open Go.RowKit

section
variable {W w : World} {F : List Nat} {x : Nat → Nat} {a : StA} {M : Mi} {B z c k : Nat}
theorem zero_strI (w : World) : (zeroValue 9).run Tryz.prog w = .ok (.string ⟨#[]⟩) w := by kernel_rfl
set_option maxRecDepth 100000 in
set_option maxHeartbeats 1600000 in
theorem stImage_no (h : StIn W w F x a M) (hk : k ≠ a.sup.gen % 2) :
  Calls Tryz.prog 154 #[.pointer (some ⟨a.sb, 0, none⟩), .int .i64 (k : Nat)] w fun e w' => e = .returned (.tuple #[.string ⟨#[]⟩, .bool false]) ∧ w = w' := by
 have hlk := h.imgs.lookup (P := Tryz.prog) (T := 83) (K := 3) (E := 9) (d := .int .i64) (z := .string ⟨#[]⟩) kvN_key Tryz.underlying83 Tryz.underlying3 (zero_strI w) k true
 simp only [Option.getD_none, Option.isSome_none, if_true] at hlk
 unfold kvN at hlk
 have cS := Lib.hid (fun W => suSlot_any (W := W) a.sup.gen)
 obtain ⟨sl, hsl⟩ : ∃ sl, a.sup.gen % 2 = sl := ⟨_, rfl⟩
 rw [hsl] at cS hk
 have c13 : w.cell? ⟨a.sb, 13, none⟩ = some (.int .u64 (a.sup.gen : Nat)) := h.st.cell (i := 13) rfl
 have c22 : w.cell? ⟨a.sb, 22, none⟩ = some (.map (some a.ib)) := h.st.cell (i := 22) rfl
 have hd : decide ((k : Int) = (sl : Int)) = false := decide_eq_false (by omega)
 obtain ⟨gn, hgn⟩ : ∃ gn, a.sup.gen = gn := ⟨_, rfl⟩
 rw [hgn] at cS c13
 clear h hsl hgn
 have hk2 : ¬ k = sl := hk
 go_enter Tryz.func154, Tryz.ntmps154
 go_wp2_with (go_at_call 80; refine (cS.out _).mono ?_; rintro e w1 ⟨rfl, hw1⟩; subst hw1)
 go_ret2
 exact ⟨rfl, rfl⟩
set_option maxRecDepth 100000 in
set_option maxHeartbeats 3200000 in
theorem stImage_yes (h : StIn W w F x a M) (hF : Fine B z c M.P) (hz0 : 128 ≤ z) (hz : z ≤ 1024) (hok : a.sup.Ok) (hk : k = a.sup.gen % 2) :
  Calls Tryz.prog 154 #[.pointer (some ⟨a.sb, 0, none⟩), .int .i64 (k : Nat)] w fun e w' => e = .returned (.tuple #[.string (bA (supImg z a.sup)), .bool true]) ∧ Hid (Mods [] w w') := by
 have cS := Lib.hid (fun W => suSlot_any (W := W) a.sup.gen)
 rw [← hk] at cS
 have cI := Lib.hid (fun (w' : World) (hm : Mods [] w w') => suImage_any (h.sum.keep hm (by simp)) hok z hz0 hz)
 have cZ := Lib.hid (fun (w' : World) (hm : Mods [] w w') => stSize_any (h.own.still hm) hF (h.st.keep hm (by simp)))
 have hst := h.st
 unfold StA.cells stC at hst
 obtain ⟨img, himg⟩ : ∃ img, bA (supImg z a.sup) = img := ⟨_, rfl⟩
 rw [himg] at cI ⊢
 obtain ⟨⟨gn, ⟨ra, rg, rs⟩, ht, sq, ch⟩, hsup⟩ : ∃ s, a.sup = s := ⟨_, rfl⟩
 rw [hsup] at cS cI hst
 unfold supV at cI
 simp only at cS cI hst
 have HC : Hid (∀ w', Mods [] w w' → w'.cell? ⟨a.sb, 13, none⟩ = some (.int .u64 (gn : Nat)) ∧ w'.cell? ⟨a.sb, 14, none⟩ = some (.int .i64 ra) ∧ w'.cell? ⟨a.sb, 15, none⟩ = some (.int .u64 (rg : Nat)) ∧ w'.cell? ⟨a.sb, 16, none⟩ = some (.int .u32 (rs : Nat)) ∧ w'.cell? ⟨a.sb, 17, none⟩ = some (.int .i64 (ht : Nat)) ∧ w'.cell? ⟨a.sb, 18, none⟩ = some (.int .u64 (sq : Nat)) ∧ w'.cell? ⟨a.sb, 19, none⟩ = some (.int .u32 (ch : Nat)) ∧ w'.cell? ⟨a.sb, 8, none⟩ = some (.pointer (some ⟨a.tk, 0, none⟩))) := Lib.hid (fun w' hm => by
  have y := hst.keep hm (by simp)
  exact ⟨y.cell (i := 13) rfl, y.cell (i := 14) rfl, y.cell (i := 15) rfl, y.cell (i := 16) rfl, y.cell (i := 17) rfl, y.cell (i := 18) rfl, y.cell (i := 19) rfl, y.cell (i := 8) rfl⟩)
 obtain ⟨q0, q1, q2, q3, q4, q5, q6, q8⟩ := HC.out w (Mods.refl _ _)
 clear h hF hok hk himg hsup hst
 go_enter Tryz.func154, Tryz.ntmps154
 go_upto_region 4 with (go_at_call 80; refine (cS.out _).mono ?_; rintro e w1 ⟨rfl, hw1⟩; subst hw1)
 go_region_held3 (fun w' => w'.cell? ⟨a.sb, 13, none⟩ = some (.int .u64 (gn : Nat)) ∧ w'.cell? ⟨a.sb, 14, none⟩ = some (.int .i64 ra) ∧ w'.cell? ⟨a.sb, 15, none⟩ = some (.int .u64 (rg : Nat)) ∧ w'.cell? ⟨a.sb, 16, none⟩ = some (.int .u32 (rs : Nat)) ∧ w'.cell? ⟨a.sb, 17, none⟩ = some (.int .i64 (ht : Nat)) ∧ w'.cell? ⟨a.sb, 18, none⟩ = some (.int .u64 (sq : Nat)) ∧ w'.cell? ⟨a.sb, 19, none⟩ = some (.int .u32 (ch : Nat)) ∧ w'.cell? ⟨a.sb, 8, none⟩ = some (.pointer (some ⟨a.tk, 0, none⟩)))
  (first | exact HC.out _ HM3.out | exact HC.out _ HM2.out | go_keep | fail)
  (first | (go_at_call 129; refine (cI.out _ HM2.out).mono ?_; rintro e w3 ⟨rfl, hm3⟩; have HM3 : Hid (Mods [] w w3) := Lib.hid (HM2.out.tr hm3.out)) | (go_at_call 130; refine (cZ.out _ (by first | exact (Mods.refl _ _).drew | exact Mods.refl _ _)).mono ?_; rintro e w2 ⟨rfl, hm2⟩; have HM2 : Hid (Mods [] w w2) := Lib.hid (((Mods.refl _ _).drew).tr hm2.out)) | fail)
 go_wp2_with fail
 go_ret2
 exact ⟨rfl, HM3⟩
end
end Go.Proofs.YtkjpdfomppjiiaaGreatDoor
