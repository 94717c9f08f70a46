/- A tree of one known block: gone over. -/
import Derived.Test.YtkjpdfomppjiiaaGreatDoorKSu
import Derived.Test.YtkjpdfomppjiiaaGreatDoorKBit
import Derived.Test.YtkjpdfomppjiiaaGreatDoorKCac
import Derived.Test.YtkjpdfomppjiiaaGreatDoorKG
/- A store as it lies in memory; its config; made. -/
namespace Go.Proofs.YtkjpdfomppjiiaaGreatDoor
open Go.RowKit

structure CfE where
 spares : Nat
 log : Nat
 cache : Nat
 plan : PlanE
 last : Nat
def cfV (c : CfE) : Value := .agg #[.int .i64 (c.spares : Nat), .int .i64 (c.log : Nat), .int .i64 (c.cache : Nat), .int .i64 c.plan.fan, .int .i64 c.plan.buf, .int .i64 c.plan.leaf, .int .u64 (c.last : Nat)]
structure CfE.Ok (c : CfE) (B z : Nat) : Prop where
 cache : 1 ≤ c.cache ∧ c.cache ≤ 4096
 plan : c.plan.chk (z : Int) = 0
 last : 1 ≤ c.last ∧ c.last < 18446744073709551616
 log : 2 ≤ c.log ∧ c.log ≤ 256
 room : 2 + c.log + 2 ≤ B
 blocks : B ≤ 4096
theorem cfFirst_any {W : World} (c : CfE) (hl : c.log ≤ 256) : Calls Tryz.prog 33 #[cfV c] W fun e w' => e = .returned (.int .i64 ((2 + c.log : Nat) : Nat)) ∧ Hid (Mods [] W w') := by
 obtain ⟨sp, lg, ca, ⟨fan, buf, leaf⟩, la⟩ := c
 unfold cfV
 simp only at hl ⊢
 obtain ⟨m, hm⟩ : ∃ m : Nat, 2 + lg = m := ⟨_, rfl⟩
 have e1 : (2 : Int) + (lg : Int) = (m : Int) := by omega
 rw [hm]
 have e2 : IntKind.i64.wrap (m : Int) = (m : Int) := by rw [IntKind.wrap_i64]; omega
 have e3 : wrap64 (m : Int) = (m : Int) := by unfold wrap64; omega
 clear hm hl
 go_enter Tryz.func33, Tryz.ntmps33
 go_wp2_with fail
 go_ret
 exact ⟨rfl, Lib.hid ((Mods.refl _ _).alloc _)⟩
theorem cfRing_any {W : World} (c : CfE) : Calls Tryz.prog 42 #[cfV c] W fun e w' => e = .returned (.agg #[.int .i64 2, .int .i64 (c.log : Nat)]) ∧ Hid (Mods [] W w') := by
 obtain ⟨sp, lg, ca, ⟨fan, buf, leaf⟩, la⟩ := c
 unfold cfV
 simp only
 obtain ⟨w1, hw1⟩ : ∃ w1, W.alloc (.cells #[.int .i64 (sp : Nat), .int .i64 (lg : Nat), .int .i64 (ca : Nat), .int .i64 fan, .int .i64 buf, .int .i64 leaf, .int .u64 (la : Nat)] 44) = w1 := ⟨_, rfl⟩
 obtain ⟨g, hg⟩ : ∃ g, W.heap.size = g := ⟨_, rfl⟩
 have hb1 : Blk w1 g 44 [.int .i64 (sp : Nat), .int .i64 (lg : Nat), .int .i64 (ca : Nat), .int .i64 fan, .int .i64 buf, .int .i64 leaf, .int .u64 (la : Nat)] := by rw [← hw1, ← hg]; exact Blk.new W 44 _
 have HM1 : Hid (Mods [] W w1) := Lib.hid (by rw [← hw1]; exact (Mods.refl _ _).alloc _)
 obtain ⟨w2, hw2⟩ : ∃ w2, w1.alloc (.cells #[.int .i64 0, .int .i64 0] 98) = w2 := ⟨_, rfl⟩
 obtain ⟨r, hr⟩ : ∃ r, w1.heap.size = r := ⟨_, rfl⟩
 have hb2 : Blk w2 g 44 [.int .i64 (sp : Nat), .int .i64 (lg : Nat), .int .i64 (ca : Nat), .int .i64 fan, .int .i64 buf, .int .i64 leaf, .int .u64 (la : Nat)] := by rw [← hw2]; exact hb1.alloc _
 have hb3 : Blk w2 r 98 [.int .i64 0, .int .i64 0] := by rw [← hw2, ← hr]; exact Blk.new w1 98 _
 have HM2 : Hid (Mods [] W w2) := Lib.hid (by rw [← hw2]; exact HM1.out.alloc _)
 have HR : Hid (W.heap.size ≤ r) := Lib.hid (by rw [← hr]; exact HM1.out.size)
 have HB3 := Lib.hid hb3
 have c1 := hb2.cell (i := 1) rfl
 have z0 := hb3.cell (i := 0) rfl
 have z1 := hb3.cell (i := 1) rfl
 have f0 := hb3.free 0
 have f1 := hb3.free 1
 clear hb1 hb2 hb3
 go_enter Tryz.func42, Tryz.ntmps42
 go_upto_region 1 with fail
 try rw [hw1, hw2, hr, hg]
 try rw [hw2, hr]
 clear hw1 hg hw2 hr
 go_wp2_with fail
 refine bodyPost_ret (results_c rfl rfl (load_ring ((HB3.out.set 0 (.int .i64 2)).set 1 (.int .i64 (lg : Nat))))) rfl ?_
 exact ⟨rfl, Lib.hid (HM2.out.trans (((Mods.refl _ _).setCell (.inl (by simp)) _).setCell (.inl (by simp)) _ : Mods [r] w2 _) (fun k hk => .inr (by rw [List.mem_singleton.1 hk]; exact HR.out)))⟩
section
variable {W : World} {p : Nat} {gp : List Nat} {x : Nat → Nat} {fx : Nat → List Nat} {P : Pr} {B z : Nat}
set_option maxRecDepth 100000 in
set_option maxHeartbeats 6400000 in
theorem cfCheck_ok (h : IsPair W p gp x fx P) (hz : (P.dev 0).size = z) (hB : (P.tab 0).blocks = B) {c : CfE} (hc : c.Ok B z) :
  Calls Tryz.prog 59 #[cfV c, .pointer (some ⟨p, 0, none⟩)] W fun e w' => e = .returned (.int .i64 0) ∧ Hid (Mods [] W w') := by
 have cN := Lib.hid (fun W => cNew_any W c.cache hc.cache.1 hc.cache.2)
 have cP := Lib.hid (fun W => show Calls Tryz.prog 112 #[planV c.plan, .int .i64 (z : Nat)] W fun e w' => e = .returned (.int .i64 0) ∧ Mods [] W w' from by
  have h := plCheck_any (W := W) c.plan (z : Int)
  rw [hc.plan] at h
  exact h)
 have hl2 : (2 + c.log + 2 : Nat) ≤ B := hc.room
 have cF := Lib.hid (fun W => cfFirst_any (W := W) c hc.log.2)
 have hB4 := hc.blocks
 obtain ⟨T, hT⟩ : ∃ T, P.tab 0 = T := ⟨_, rfl⟩
 obtain ⟨D, hD⟩ : ∃ D, P.dev 0 = D := ⟨_, rfl⟩
 have cDv := Lib.hid (fun (w : World) (h : IsPair w p gp x fx P) => rDevice_0 h)
 have cSh := Lib.hid (fun (w : World) (h : IsPair w p gp x fx P) => dShape_any (h.dev 0 (by decide)))
 have cTb := Lib.hid (fun (w : World) (h : IsPair w p gp x fx P) => rTable_s h (s := 0) (by decide))
 rw [hT] at cTb hB
 rw [hD] at cSh hz
 rw [hz] at cSh
 have hfd := fun w => shape_size D.sectors z w
 have cBl := Lib.hid (fun (w : World) (A : Option Addr) (k : Nat) => show Calls Tryz.prog 32 #[.agg #[.int .i64 (T.blocks : Nat), .int .i64 (T.spares : Nat), .slice A T.moved.length k]] w fun e w' => e = .returned (.int .i64 (B : Nat)) ∧ Mods [] w w' from by
  have h1 := tBlocks_any (W := w) T (.slice A T.moved.length k)
  rw [hB] at h1 ⊢; unfold tabV at h1; rw [hB] at h1; exact h1)
 have hla := hc.last
 have hlg := hc.log
 obtain ⟨sp, lg, ca, ⟨fan, buf, leaf⟩, la⟩ := c
 unfold cfV planV at *
 simp only at *
 have d1 : decide ((la : Int) < 1) = false := decide_eq_false (by omega)
 have d2 : decide ((lg : Int) < 2) = false := decide_eq_false (by omega)
 have d3 : decide ((256 : Int) < (lg : Int)) = false := decide_eq_false (by omega)
 obtain ⟨f, hf⟩ : ∃ f, 2 + lg = f := ⟨_, rfl⟩
 rw [hf] at cF hl2
 obtain ⟨rm, hrm⟩ : ∃ rm : Nat, (B : Int) - (f : Int) = (rm : Int) := ⟨B - f, by omega⟩
 have e2 : IntKind.i64.wrap (rm : Int) = (rm : Int) := by rw [IntKind.wrap_i64]; omega
 have e3 : wrap64 (rm : Int) = (rm : Int) := by unfold wrap64; omega
 have d4 : decide ((rm : Int) < 2) = false := decide_eq_false (by omega)
 generalize (D.sectors : Int) = sc at *
 obtain ⟨w1, hw1⟩ : ∃ w1, W.alloc (.cells #[.int .i64 (sp : Nat), .int .i64 (lg : Nat), .int .i64 (ca : Nat), .int .i64 fan, .int .i64 buf, .int .i64 leaf, .int .u64 (la : Nat)] 44) = w1 := ⟨_, rfl⟩
 obtain ⟨g, hg⟩ : ∃ g, W.heap.size = g := ⟨_, rfl⟩
 have hb1 : Blk w1 g 44 [.int .i64 (sp : Nat), .int .i64 (lg : Nat), .int .i64 (ca : Nat), .int .i64 fan, .int .i64 buf, .int .i64 leaf, .int .u64 (la : Nat)] := by rw [← hw1, ← hg]; exact Blk.new W 44 _
 have hm1 : Mods [] W w1 := by rw [← hw1]; exact (Mods.refl _ _).alloc _
 have HM1 := Lib.hid hm1
 have HI : Hid (∀ w', Mods [] w1 w' → IsPair w' p gp x fx P) := Lib.hid (fun w' hm => (h.keep0 hm1).keep0 hm)
 have HB1 := Lib.hid hb1
 have q0 := hb1.cell (i := 0) rfl
 have q1 := hb1.cell (i := 1) rfl
 have q2 := hb1.cell (i := 2) rfl
 have q3 := hb1.cell (i := 3) rfl
 have q4 := hb1.cell (i := 4) rfl
 have q5 := hb1.cell (i := 5) rfl
 have q6 := hb1.cell (i := 6) rfl
 clear h hz hB hc hT hD hla hlg hb1 hm1 hl2 hB4 hf
 go_enter Tryz.func59, Tryz.ntmps59
 go_upto_region 1 with fail
 try rw [hw1, hg]
 clear hw1 hg
 go_upto_region 3 with (first | (go_at_call 62; refine (cN.out _).mono ?_; rintro e w2 ⟨cb, cfp, rfl, hm2, _, _⟩; have HM2 := Lib.hid hm2; clear hm2) | (go_at_call 108; refine (cDv.out _ (HI.out _ HM2.out)).mono ?_; rintro e w3 ⟨rfl, rfl⟩) | (go_at_call 53; refine (cSh.out _ (HI.out _ HM2.out)).mono ?_; rintro e w3 ⟨rfl, hm3⟩; have HM3 := Lib.hid (HM2.out.tr hm3); clear hm3))
 clear q0 q1 q2 q3 q4 q5 q6 cN cDv cSh HM2
 have HC : Hid (∀ w', Mods [] w3 w' → Blk w' g 44 [.int .i64 (sp : Nat), .int .i64 (lg : Nat), .int .i64 (ca : Nat), .int .i64 fan, .int .i64 buf, .int .i64 leaf, .int .u64 (la : Nat)]) := Lib.hid (fun w' hm => (HB1.out.keep HM3.out (by simp)).keep hm (by simp))
 have HI3 : Hid (∀ w', Mods [] w3 w' → IsPair w' p gp x fx P) := Lib.hid (fun w' hm => HI.out _ (HM3.out.tr hm))
 obtain ⟨q0, q1, q2, q3, q4, q5, q6⟩ : w3.cell? ⟨g, 0, none⟩ = some (.int .i64 (sp : Nat)) ∧ w3.cell? ⟨g, 1, none⟩ = some (.int .i64 (lg : Nat)) ∧ w3.cell? ⟨g, 2, none⟩ = some (.int .i64 (ca : Nat)) ∧ w3.cell? ⟨g, 3, none⟩ = some (.int .i64 fan) ∧ w3.cell? ⟨g, 4, none⟩ = some (.int .i64 buf) ∧ w3.cell? ⟨g, 5, none⟩ = some (.int .i64 leaf) ∧ w3.cell? ⟨g, 6, none⟩ = some (.int .u64 (la : Nat)) := by
  have hb := HC.out w3 (Mods.refl _ _)
  exact ⟨hb.cell (i := 0) rfl, hb.cell (i := 1) rfl, hb.cell (i := 2) rfl, hb.cell (i := 3) rfl, hb.cell (i := 4) rfl, hb.cell (i := 5) rfl, hb.cell (i := 6) rfl⟩
 go_region_held3 (fun w' => w'.cell? ⟨g, 0, none⟩ = some (.int .i64 (sp : Nat)) ∧ w'.cell? ⟨g, 1, none⟩ = some (.int .i64 (lg : Nat)) ∧ w'.cell? ⟨g, 2, none⟩ = some (.int .i64 (ca : Nat)) ∧ w'.cell? ⟨g, 3, none⟩ = some (.int .i64 fan) ∧ w'.cell? ⟨g, 4, none⟩ = some (.int .i64 buf) ∧ w'.cell? ⟨g, 5, none⟩ = some (.int .i64 leaf) ∧ w'.cell? ⟨g, 6, none⟩ = some (.int .u64 (la : Nat)))
  (first | exact ⟨(HC.out _ hmc).cell (i := 0) rfl, (HC.out _ hmc).cell (i := 1) rfl, (HC.out _ hmc).cell (i := 2) rfl, (HC.out _ hmc).cell (i := 3) rfl, (HC.out _ hmc).cell (i := 4) rfl, (HC.out _ hmc).cell (i := 5) rfl, (HC.out _ hmc).cell (i := 6) rfl⟩ | go_keep | fail)
  (first | (go_at_call 33; refine (cF.out _).mono ?_; rintro e w7 ⟨rfl, hm7⟩; replace hmc := hmc.tr hm7.out) | (go_at_call 32; refine (cBl.out _ _ _).mono ?_; rintro e w6 ⟨rfl, hm6⟩; replace hmc := hmc.tr hm6) | (go_at_call 31; refine (cTb.out _ (HI3.out _ hmc)).mono ?_; rintro e w5 ⟨A, ck, rfl, _, _, hm5⟩; replace hmc := hmc.tr hm5.out) | (go_at_call 112; refine (cP.out _).mono ?_; rintro e w4 ⟨rfl, hm4⟩; have hmc : Mods [] w3 w4 := ((Mods.refl _ _).drew).tr hm4) | fail)
 go_wp2_with fail
 go_ret
 exact ⟨rfl, Lib.hid ((HM1.out.tr HM3.out).tr hmc)⟩
end
def stC (c : CfE) (mb tk : Nat) (ca sp lg tr : Value) (b : SupE) (wt : Value) (n : Nat) (ib : Nat) : List Value :=
 [.int .i64 (c.spares : Nat), .int .i64 (c.log : Nat), .int .i64 (c.cache : Nat), .int .i64 c.plan.fan, .int .i64 c.plan.buf, .int .i64 c.plan.leaf, .int .u64 (c.last : Nat),
  .pointer (some ⟨mb, 0, none⟩), .pointer (some ⟨tk, 0, none⟩), ca, sp, lg, tr,
  .int .u64 (b.gen : Nat), .int .i64 b.root.addr, .int .u64 (b.root.gen : Nat), .int .u32 (b.root.sum : Nat), .int .i64 (b.height : Nat), .int .u64 (b.seq : Nat), .int .u32 (b.chain : Nat), wt, .int .i64 (n : Nat), .map (some ib)]
section
variable {W w : World} {F : List Nat} {x : Nat → Nat} {mb p sb tk ib n : Nat} {M : Mi} {B z c : Nat} {cf : CfE} {ca sp lg tr wt : Value} {b : SupE}
theorem stSize_any (h : OwnM W F w mb p x M) (hF : Fine B z c M.P) (hb : Blk w sb 85 (stC cf mb tk ca sp lg tr b wt n ib)) : Calls Tryz.prog 130 #[.pointer (some ⟨sb, 0, none⟩)] w fun e w' => e = .returned (.int .i64 (z : Nat)) ∧ Hid (Mods [] w w') := by
 obtain ⟨tb, mmb, gp, fx, hI, _⟩ := h.ex
 have cP := Lib.hid (oPair h)
 have cDv := Lib.hid (rDevice_0 hI.pair)
 have cSh := Lib.hid (dShape_any (hI.pair.dev 0 (by decide)))
 rw [(hF.on 0 (by decide)).size] at cSh
 have hfd := fun w => shape_size (M.P.dev 0).sectors z w
 have c7 := hb.cell (i := 7) rfl
 generalize ((M.P.dev 0).sectors : Int) = sc at *
 clear h hF hI hb
 go_enter Tryz.func130, Tryz.ntmps130
 go_wp2_with (first | (go_at_call 21; refine cP.out.mono ?_; rintro e w1 ⟨rfl, rfl⟩) | (go_at_call 108; refine cDv.out.mono ?_; rintro e w2 ⟨rfl, rfl⟩) | (go_at_call 53; refine cSh.out.mono ?_; rintro e w3 ⟨rfl, hm3⟩; have HM3 := Lib.hid hm3; clear hm3))
 go_ret
 exact ⟨rfl, HM3⟩
end
section
variable {W : World} {p : Nat} {gp : List Nat} {x : Nat → Nat} {fx : Nat → List Nat} {P : Pr} {B z : Nat}
theorem run_makeMapStr (W : World) : (Instr.makeMap 83 none).run Tryz.prog W = .ok (.map (some W.heap.size)) (W.alloc (.map #[] 0)) := by kernel_rfl
def kvN (a : Nat) : Value := .int .i64 (a : Nat)
theorem kvN_key (a : Nat) : MapKept.IsKey (.int .i64) (kvN a) := rfl
theorem kvN_inj (a c : Nat) (h : kvN a = kvN c) : a = c := by
 unfold kvN at h
 injection h with _ h
 omega
structure MadeIn (W w : World) (c : CfE) (p sb mb tb mmb tk cb ib : Nat) (cfp : List Nat) : Prop where
 mir : IsMir w mb p tb mmb 0
 sum : Blk w tb 218 sumRow
 map : MapK kvPl w mmb (fun _ => none) 0
 st : Blk w sb 85 (stC c mb tk (.pointer (some ⟨cb, 0, none⟩)) (.pointer none) (.pointer none) (.pointer none) supZero nilS 0 ib)
 tks : Blk w tk 218 sumRow
 cache : IsC w cb cfp c.cache [] 0 0 0
 imgs : MapK kvN w ib (fun _ => none) 0
 mods : Mods [] W w
 new : ∀ g, g ∈ [mb, tb, mmb, sb, tk, ib] ++ cfp → W.heap.size ≤ g ∧ g < w.heap.size
 nd : [mb, tb, mmb, sb, tk, ib].Nodup ∧ ∀ g ∈ cfp, g ∉ [mb, tb, mmb, sb, tk, ib]
set_option maxRecDepth 100000 in
set_option maxHeartbeats 6400000 in
theorem stMade_ok (h : IsPair W p gp x fx P) (hz : (P.dev 0).size = z) (hB : (P.tab 0).blocks = B) {c : CfE} (hc : c.Ok B z) :
  Calls Tryz.prog 29 #[.pointer (some ⟨p, 0, none⟩), cfV c] W fun e w' => ∃ sb mb tb mmb tk cb ib cfp, e = .returned (.tuple #[.pointer (some ⟨sb, 0, none⟩), .int .i64 0]) ∧ Hid (MadeIn W w' c p sb mb tb mmb tk cb ib cfp) := by
 have cC := Lib.hid (fun (w : World) (hm : Mods [] W w) => cfCheck_ok (h.keep0 hm) hz hB hc)
 have cN := Lib.hid (fun W => cNew_any W c.cache hc.cache.1 hc.cache.2)
 have hmm := run_makeMapStr
 clear h hz hB hc
 obtain ⟨sp, lg, ca, ⟨fan, buf, leaf⟩, la⟩ := c
 unfold cfV at *
 simp only at *
 obtain ⟨w1, hw1⟩ : ∃ w1, W.alloc (.cells #[.int .i64 (sp : Nat), .int .i64 (lg : Nat), .int .i64 (ca : Nat), .int .i64 fan, .int .i64 buf, .int .i64 leaf, .int .u64 (la : Nat)] 44) = w1 := ⟨_, rfl⟩
 obtain ⟨g, hg⟩ : ∃ g, W.heap.size = g := ⟨_, rfl⟩
 have hb1 : Blk w1 g 44 [.int .i64 (sp : Nat), .int .i64 (lg : Nat), .int .i64 (ca : Nat), .int .i64 fan, .int .i64 buf, .int .i64 leaf, .int .u64 (la : Nat)] := by rw [← hw1, ← hg]; exact Blk.new W 44 _
 have hm1 : Mods [] W w1 := by rw [← hw1]; exact (Mods.refl _ _).alloc _
 have HM1 := Lib.hid hm1
 have HB1 := Lib.hid hb1
 have q0 := hb1.cell (i := 0) rfl
 have q1 := hb1.cell (i := 1) rfl
 have q2 := hb1.cell (i := 2) rfl
 have q3 := hb1.cell (i := 3) rfl
 have q4 := hb1.cell (i := 4) rfl
 have q5 := hb1.cell (i := 5) rfl
 have q6 := hb1.cell (i := 6) rfl
 clear hb1 hm1
 go_enter Tryz.func29, Tryz.ntmps29
 go_upto_region 1 with fail
 try rw [hw1, hg]
 clear hw1 hg
 go_upto_region 7 with (first | (go_at_call 59; refine (cC.out _ HM1.out).mono ?_; rintro e w2 ⟨rfl, HM2⟩) | (go_at_call 60; refine (mNew_any _).mono ?_; rintro e w3 ⟨mb, tb, mmb, rfl, HMi, HTb, HMap, HM3, HL3⟩))
 clear q0 q1 q2 q3 q4 q5 q6 cC
 have HM3' : Hid (Mods [] w1 w3) := Lib.hid (HM2.out.tr HM3.out)
 have HC : Hid (∀ w', Mods [] w3 w' → Blk w' g 44 [.int .i64 (sp : Nat), .int .i64 (lg : Nat), .int .i64 (ca : Nat), .int .i64 fan, .int .i64 buf, .int .i64 leaf, .int .u64 (la : Nat)]) := Lib.hid (fun w' hm => (HB1.out.keep HM3'.out (by simp)).keep hm (by simp))
 obtain ⟨q0, q1, q2, q3, q4, q5, q6⟩ : w3.cell? ⟨g, 0, none⟩ = some (.int .i64 (sp : Nat)) ∧ w3.cell? ⟨g, 1, none⟩ = some (.int .i64 (lg : Nat)) ∧ w3.cell? ⟨g, 2, none⟩ = some (.int .i64 (ca : Nat)) ∧ w3.cell? ⟨g, 3, none⟩ = some (.int .i64 fan) ∧ w3.cell? ⟨g, 4, none⟩ = some (.int .i64 buf) ∧ w3.cell? ⟨g, 5, none⟩ = some (.int .i64 leaf) ∧ w3.cell? ⟨g, 6, none⟩ = some (.int .u64 (la : Nat)) := by
  have hb := HC.out w3 (Mods.refl _ _)
  exact ⟨hb.cell (i := 0) rfl, hb.cell (i := 1) rfl, hb.cell (i := 2) rfl, hb.cell (i := 3) rfl, hb.cell (i := 4) rfl, hb.cell (i := 5) rfl, hb.cell (i := 6) rfl⟩
 go_cut [9] from 24 to 29 (fun pv wx => ∃ sb tk ib : Nat, pv = .pointer (some ⟨sb, 0, none⟩) ∧ Hid (Blk wx sb 85 (stC ⟨sp, lg, ca, ⟨fan, buf, leaf⟩, la⟩ mb tk (.pointer none) (.pointer none) (.pointer none) (.pointer none) supZero nilS 0 ib)) ∧ Hid (Blk wx tk 218 sumRow) ∧ Hid (MapK kvN wx ib (fun _ => none) 0) ∧ Hid (Mods [] w3 wx) ∧ Hid (w3.heap.size ≤ tk ∧ w3.heap.size ≤ ib ∧ w3.heap.size ≤ sb ∧ tk ≠ ib ∧ tk ≠ sb ∧ ib ≠ sb))
 case first =>
  go_region_held3 (fun w' => w'.cell? ⟨g, 0, none⟩ = some (.int .i64 (sp : Nat)) ∧ w'.cell? ⟨g, 1, none⟩ = some (.int .i64 (lg : Nat)) ∧ w'.cell? ⟨g, 2, none⟩ = some (.int .i64 (ca : Nat)) ∧ w'.cell? ⟨g, 3, none⟩ = some (.int .i64 fan) ∧ w'.cell? ⟨g, 4, none⟩ = some (.int .i64 buf) ∧ w'.cell? ⟨g, 5, none⟩ = some (.int .i64 leaf) ∧ w'.cell? ⟨g, 6, none⟩ = some (.int .u64 (la : Nat)))
   (first | exact ⟨(HC.out _ HM5.out).cell (i := 0) rfl, (HC.out _ HM5.out).cell (i := 1) rfl, (HC.out _ HM5.out).cell (i := 2) rfl, (HC.out _ HM5.out).cell (i := 3) rfl, (HC.out _ HM5.out).cell (i := 4) rfl, (HC.out _ HM5.out).cell (i := 5) rfl, (HC.out _ HM5.out).cell (i := 6) rfl⟩ | go_keep | fail)
   (first | (go_at_call 61; refine (sumMake_any _).mono ?_; rintro e w5 ⟨tk, rfl, hsum, hm5, htk⟩; have HM5 : Hid (Mods [] w3 w5) := (by first | exact Lib.hid (((Mods.refl _ _).drew).tr hm5) | exact Lib.hid ((((Mods.refl _ _).alloc _).drew).tr hm5) | exact Lib.hid ((((Mods.refl _ _).drew).alloc _).tr hm5)); (first | (have HI : Hid (MapK kvN w5 w3.heap.size (fun _ => none) 0 ∧ w3.heap.size < tk) := Lib.hid ⟨((MapK.made (kv := kvN) w3).keep (((Mods.refl [] _).drew).tr hm5) (by simp)), (by simp at htk; omega)⟩) | skip)) | fail)
  all_goals go_wp2_with fail
  all_goals go_meet
  all_goals
   first
    | (refine ⟨w5.heap.size + 1, tk, w5.heap.size, rfl, Lib.hid (Blk.newS 85 _ (by simp)), Lib.hid ((hsum.alloc _).alloc _), Lib.hid ((MapK.made _).keep ((Mods.refl [] _).alloc _) (by simp)), Lib.hid ((HM5.out.alloc _).alloc _), Lib.hid ?_⟩
       have h1 := HM5.out.size
       have h2 := hsum.lt
       simp at htk
       exact ⟨by omega, by omega, by omega, by omega, by omega, by omega⟩)
    | (refine ⟨w5.heap.size, tk, w3.heap.size, rfl, Lib.hid (Blk.newS 85 _ rfl), Lib.hid (hsum.alloc _), Lib.hid (HI.out.1.keep ((Mods.refl [] _).alloc _) (by simp)), Lib.hid (HM5.out.alloc _), Lib.hid ?_⟩
       have h1 := HM5.out.size
       have h2 := hsum.lt
       have h3 := HI.out.2
       exact ⟨by omega, by omega, by omega, by omega, by omega, by omega⟩)
 case rest =>
  obtain ⟨sb, tk, ib, rfl, HST, HTK, HIB, HM6, HL6⟩ := hcut
  have q2 := (HC.out _ HM6.out).cell (i := 2) rfl
  clear q0 q1 q3 q4 q5 q6
  go_wp2_with (go_at_call 62; refine (cN.out _).mono ?_; rintro e w7 ⟨cb, cfp, rfl, hm7, hca, hfp⟩; have hs := (HST.out.keep hm7 (by simp)); have e9 := hs.cell (i := 9) rfl; have f9 := hs.free 9; have HM7 := Lib.hid hm7; have HCA := Lib.hid hca; have HFP := Lib.hid hfp; have HS7 := Lib.hid hs; clear hm7 hca hfp hs)
  go_ret2
  have hm8 : Mods [sb] w7 (w7.setCell ⟨sb, 9, none⟩ (.pointer (some ⟨cb, 0, none⟩))) := (Mods.refl _ _).setCell (.inl (by simp)) _
  obtain ⟨l1, l2, l3, l4, l5, l6⟩ := HL6.out
  obtain ⟨k1, k2, k3⟩ := HL3.out
  have hmbl := Blk.lt HMi.out
  have s2 := HM2.out.size
  have s1 := HM1.out.size
  have s3 := HM3.out.size
  have s6 := HM6.out.size
  have s7 := HM7.out.size
  have s8 := hm8.size
  have hib := HIB.out.lt
  have htk := HTK.out.lt
  have hsb := HST.out.lt
  have m67 := HM6.out.trans HM7.out (by simp)
  have hn1 : mb ∉ [sb] := by simp; omega
  have hn2 : tb ∉ [sb] := by simp; omega
  have hn3 : mmb ∉ [sb] := by simp; omega
  have hn4 : tk ∉ [sb] := by simp; omega
  have hn5 : ib ∉ [sb] := by simp; omega
  have hcl := HCA.out.lt
  have hcn : ∀ k ∈ cfp, k ∉ [sb] := fun k hk => by have := HFP.out k hk; simp; omega
  refine ⟨sb, mb, tb, mmb, tk, cb, ib, cfp, rfl, Lib.hid ⟨?_, ?_, ?_, HS7.out.set 9 _, ?_, HCA.out.keep hm8 hcn, ?_, ?_, fun g' hg' => ?_, ⟨?_, fun g' hg' => ?_⟩⟩⟩
  ·exact Blk.keep (Blk.keep HMi.out m67 (by simp)) hm8 hn1
  ·exact (HTb.out.keep m67 (by simp)).keep hm8 hn2
  ·exact (HMap.out.keep m67 (by simp)).keep hm8 hn3
  ·exact (HTK.out.keep HM7.out (by simp)).keep hm8 hn4
  ·exact (HIB.out.keep HM7.out (by simp)).keep hm8 hn5
  ·exact (((HM1.out.trans HM2.out (by simp)).trans HM3.out (by simp)).trans m67 (by simp)).trans hm8 (fun k hk => .inr (by have := List.mem_singleton.1 hk; omega))
  ·simp only [List.mem_append, List.mem_cons, List.not_mem_nil, or_false] at hg'
   rcases hg' with (rfl | rfl | rfl | rfl | rfl | rfl) | hg'
   ·omega
   ·omega
   ·omega
   ·omega
   ·omega
   ·omega
   ·have := HFP.out g' hg'; have := hcl g' hg'; omega
  ·simp only [List.nodup_cons, List.mem_cons, List.not_mem_nil, or_false, not_or, not_false_eq_true, List.nodup_nil, and_true]
   omega
  ·have := HFP.out g' hg'
   simp only [List.mem_cons, List.not_mem_nil, or_false, not_or]
   omega
end
end Go.Proofs.YtkjpdfomppjiiaaGreatDoor
/- Frames that let some blocks turn; a block of the tree is saved. -/
namespace Go.Proofs.YtkjpdfomppjiiaaGreatDoor
open Go.RowKit

def Turn (F K : List Nat) (w w' : World) : Prop := ∃ L, Mods L w w' ∧ ∀ k ∈ L, k ∈ K ∨ k ∉ F
section
variable {F G K K' : List Nat} {w w' w1 w2 : World}
theorem Turn.of (h : Mods [] w w') : Turn F K w w' := ⟨[], h, by simp⟩
theorem Turn.ofK (h : Mods K w w') : Turn F K w w' := ⟨K, h, fun _ hk => .inl hk⟩
theorem Turn.minds (h : Minds F w w') : Turn F K w w' := by
 obtain ⟨L, h1, h2⟩ := h
 exact ⟨L, h1, fun k hk => .inr (h2 k hk)⟩
theorem Turn.trans (h : Turn F K w w1) (g : Turn F K w1 w2) : Turn F K w w2 := by
 obtain ⟨L, h1, h2⟩ := h
 obtain ⟨L', g1, g2⟩ := g
 refine ⟨L ++ L', (h1.mono (fun k hk => List.mem_append_left _ hk)).trans g1 (fun k hk => .inl (List.mem_append_right _ hk)), fun k hk => ?_⟩
 rcases List.mem_append.1 hk with hk | hk
 ·exact h2 k hk
 ·exact g2 k hk
theorem Turn.mono (h : Turn F K w w') (hF : ∀ k ∈ G, k ∈ F) (hK : ∀ k ∈ K, k ∈ K') : Turn G K' w w' := by
 obtain ⟨L, h1, h2⟩ := h
 refine ⟨L, h1, fun k hk => ?_⟩
 rcases h2 k hk with h | h
 ·exact .inl (hK k h)
 ·exact .inr fun hx => h (hF k hx)
theorem Turn.blk (h : Turn F K w w') {g : Nat} {t : TypeId} {l : List Value} (hb : Blk w g t l) (hg : g ∈ F) (hk : g ∉ K) : Blk w' g t l := by
 obtain ⟨L, h1, h2⟩ := h
 refine hb.keep h1 fun hx => ?_
 rcases h2 g hx with h | h
 ·exact hk h
 ·exact h hg
theorem Turn.off (h : Turn F K w w') : ∃ L, Mods L w w' ∧ ∀ g, g ∈ F → g ∉ K → g ∉ L := by
 obtain ⟨L, h1, h2⟩ := h
 refine ⟨L, h1, fun g hg hk hx => ?_⟩
 rcases h2 g hx with h | h
 ·exact hk h
 ·exact h hg
theorem Turn.size (h : Turn F K w w') : w.heap.size ≤ w'.heap.size := h.elim fun _ h => h.1.size
theorem Turn.space (h : Turn F K w w') {b : Nat} {fp : List Nat} {S : Sp} (hs : IsSpace w b fp S) (hF : ∀ g ∈ fp, g ∈ F) (hK : ∀ g ∈ fp, g ∉ K) : IsSpace w' b fp S := by
 obtain ⟨L, h1, h2⟩ := h.off
 exact hs.keep h1 fun k hk => h2 k (hF k hk) (hK k hk)
theorem Turn.cache (h : Turn F K w w') {b n c0 c1 t : Nat} {fp : List Nat} {R : List Kept} (hs : IsC w b fp n R c0 c1 t) (hF : ∀ g ∈ fp, g ∈ F) (hK : ∀ g ∈ fp, g ∉ K) : IsC w' b fp n R c0 c1 t := by
 obtain ⟨L, h1, h2⟩ := h.off
 exact hs.keep h1 fun k hk => h2 k (hF k hk) (hK k hk)
theorem Turn.map (h : Turn F K w w') {κ : Type} {kv : κ → Value} {g n : Nat} {f : κ → Option Value} (hb : MapK kv w g f n) (hg : g ∈ F) (hk : g ∉ K) : MapK kv w' g f n := by
 obtain ⟨L, h1, h2⟩ := h.off
 exact hb.keep h1 (h2 g hg hk)
end
theorem OwnM.tab {W w : World} {F : List Nat} {b p : Nat} {x : Nat → Nat} {M : Mi} (h : OwnM W F w b p x M) (hT : DbTab W) : DbTab w := hT.keep h.mods (by simp)
section
variable {W w : World} {F : List Nat} {x : Nat → Nat} {mb p sb tk ib n pb c1 c2 k kind gen : Nat} {sfp : List Nat} {M : Mi} {B z c : Nat} {cf : CfE} {ca lg tr wt : Value} {b : SupE} {S : Sp}
set_option maxRecDepth 100000 in
set_option maxHeartbeats 6400000 in
theorem stSave1_any (h : OwnM W F w mb p x M) (hw : Fine B z c M.P) (hc : c ≤ 600000) (hz0 : 128 ≤ z) (hz : z ≤ 1024) (hT : DbTab W)
  (hb : Blk w sb 85 (stC cf mb tk ca (.pointer (some ⟨pb, 0, none⟩)) lg tr b wt n ib)) (htk : Blk w tk 218 sumRow) (hs : IsSpace w pb sfp S) (h1 : Blk w c1 24 [.pointer (some ⟨sb, 0, none⟩)]) (h2 : Blk w c2 42 [.int .u64 (gen : Nat)])
  (hF : ∀ g ∈ [sb, tk, c1, c2], g ∈ F ∧ g ∉ sfp) (hsf : ∀ g ∈ sfp, g ∈ F ∧ W.heap.size ≤ g) (hk : S.tk = some k) (hkB : k < B) (hB : B ≤ 4096) (hkind : 1 ≤ kind ∧ kind ≤ 5) (hgen : gen < 18446744073709551616) {pay : ByteArray} (hp : pay.size + 24 ≤ z)
  (hwr : (M.write k (bA (sealL z ⟨kind, (k : Nat), gen⟩ pay.toList))).1 = 0) :
  Calls Tryz.prog 180 #[.int .u8 (kind : Nat), .string pay, .pointer (some ⟨c1, 0, none⟩), .pointer (some ⟨c2, 0, none⟩)] w fun e w' =>
   e = .returned (.tuple #[ptrV ⟨(k : Nat), gen, crcOn 0 (bareL z ⟨kind, (k : Nat), gen⟩ pay.toList)⟩, .int .i64 0]) ∧ Hid (OwnM W F w' mb p x (M.write k (bA (sealL z ⟨kind, (k : Nat), gen⟩ pay.toList))).2) ∧ Hid (IsSpace w' pb sfp S.takeS) ∧ Hid (Turn F sfp w w') := by
 have hr : EHead.right ⟨kind, (k : Nat), gen⟩ = true := by unfold EHead.right placedE; simp; omega
 have cE := Lib.hid (fun (w' : World) (h' : Blk w' tk 218 sumRow) => eSeal_ptr h' z ⟨kind, (k : Nat), gen⟩ pay hz0 hz hr hgen hp)
 rw [headV_nat ⟨kind, (k : Nat), gen⟩ (a := k) rfl] at cE
 obtain ⟨img, himg⟩ : ∃ img, bA (sealL z ⟨kind, (k : Nat), gen⟩ pay.toList) = img := ⟨_, rfl⟩
 have hil : img.size = z := by rw [← himg, bA_size, sealL_len _ (by rw [toL_len]; exact hp)]
 obtain ⟨sm, hsm⟩ : ∃ sm, crcOn 0 (bareL z ⟨kind, (k : Nat), gen⟩ pay.toList) = sm := ⟨_, rfl⟩
 rw [himg, hsm] at cE
 rw [himg] at hwr
 rw [himg, hsm]
 simp only at cE
 have hnx : nxK S.tk = k := by rw [hk]; rfl
 have hte : S.takeE = 0 := by unfold Sp.takeE; rw [hk]; rfl
 -- the result's cell
 obtain ⟨w1, hw1⟩ : ∃ w1, w.alloc (.cells #[.int .i64 0, .int .u64 0, .int .u32 0] 79) = w1 := ⟨_, rfl⟩
 obtain ⟨r, hr1⟩ : ∃ r, w.heap.size = r := ⟨_, rfl⟩
 have hm1 : Mods [] w w1 := by rw [← hw1]; exact (Mods.refl _ _).alloc _
 have hs1 : w1.heap.size = r + 1 := by rw [← hw1, ← hr1]; simp
 have hbr : Blk w1 r 79 [.int .i64 0, .int .u64 0, .int .u32 0] := by rw [← hw1, ← hr1]; exact Blk.new w 79 _
 have hown1 : OwnM W (r :: F) w1 mb p x M := h.protect hm1 (fun g hg => by
  rcases List.mem_cons.1 hg with rfl | hg
  ·exact .inr ⟨by omega, by omega⟩
  ·exact .inl hg)
 have hWr : W.heap.size ≤ r := by rw [← hr1]; exact h.mods.size
 have hFl : ∀ g ∈ F, g < r := fun g hg => by rw [← hr1]; exact h.lt g hg
 have hT1 := hown1.tab hT
 have cT := spTake_any (hs.keep hm1 (by simp)) hT1
 rw [hnx, hte] at cT
 replace cT := Lib.hid cT
 have HMS := Lib.hid hm1
 have HB := Lib.hid (hb.keep hm1 (by simp))
 have HTK := Lib.hid (htk.keep hm1 (by simp))
 have H1 := Lib.hid (h1.keep hm1 (by simp))
 have H2 := Lib.hid (h2.keep hm1 (by simp))
 have HBR := Lib.hid hbr
 have HO1 := Lib.hid hown1
 have HSF := Lib.hid hsf
 have HF := Lib.hid hF
 have HFL := Lib.hid hFl
 have HWR := Lib.hid hWr
 have HS1 := Lib.hid hs1
 have HR1 := Lib.hid hr1
 have HIL := Lib.hid hil
 have q1 := H1.out.cell (i := 0) rfl
 have q10 := HB.out.cell (i := 10) rfl
 have HFN := Lib.hid hw
 clear h hw hb htk hs h1 h2 hF hsf hm1 hs1 hbr hown1 hWr hFl hT1 himg hil hsm hnx hte hk hr hT
 go_enter Tryz.func180, Tryz.ntmps180
 go_upto_region 1 with fail
 try rw [hw1, hr1]
 clear hw1 hr1
 go_upto_region 4 with (go_at_call 181; refine cT.out.mono ?_; rintro e w2 ⟨rfl, hm2, hsp2⟩; have HM2 := Lib.hid hm2; have HSP2 := Lib.hid hsp2; clear hm2 hsp2)
 have hrs : r ∉ sfp := fun hx => by have h1 := HFL.out r (HSF.out r hx).1; omega
 have HO2 : Hid (OwnM W (r :: F) w2 mb p x M) := Lib.hid (HO1.out.aside HM2.out (fun g hg => ⟨List.mem_cons_of_mem _ (HSF.out g hg).1, (HSF.out g hg).2⟩))
 have HB2 := Lib.hid (HB.out.keep HM2.out (HF.out sb (by simp)).2)
 have HTK2 := Lib.hid (HTK.out.keep HM2.out (HF.out tk (by simp)).2)
 have H12 := Lib.hid (H1.out.keep HM2.out (HF.out c1 (by simp)).2)
 have H22 := Lib.hid (H2.out.keep HM2.out (HF.out c2 (by simp)).2)
 have HBR2 := Lib.hid (HBR.out.keep HM2.out hrs)
 have cZ := Lib.hid (fun (w' : World) (hm : Mods [] w2 w') => stSize_any (HO2.out.still hm) HFN.out (HB2.out.keep hm (by simp)))
 have HC : Hid (∀ w', Mods [] w2 w' → w'.cell? ⟨c1, 0, none⟩ = some (.pointer (some ⟨sb, 0, none⟩)) ∧ w'.cell? ⟨c2, 0, none⟩ = some (.int .u64 (gen : Nat)) ∧ w'.cell? ⟨sb, 8, none⟩ = some (.pointer (some ⟨tk, 0, none⟩))) := Lib.hid (fun w' hm => ⟨(H12.out.keep hm (by simp)).cell (i := 0) rfl, (H22.out.keep hm (by simp)).cell (i := 0) rfl, (HB2.out.keep hm (by simp)).cell (i := 8) rfl⟩)
 obtain ⟨j1, j2, j8⟩ := HC.out w2 (Mods.refl _ _)
 clear q1 q10 cT HO1 HB HTK H1 H2 HBR
 go_cut [9, 10, 11] from 24 to 39 (fun ev iv pv wx => ∃ r11 : Nat, ev = .int .i64 0 ∧ iv = .string img ∧ pv = .pointer (some ⟨r11, 0, none⟩) ∧ Hid (Blk wx r11 79 [.int .i64 (k : Nat), .int .u64 (gen : Nat), .int .u32 (sm : Nat)]) ∧ Hid (Mods [] w2 wx) ∧ Hid (w2.heap.size ≤ r11))
 case first =>
  go_region_held3 (fun w' => w'.cell? ⟨c1, 0, none⟩ = some (.pointer (some ⟨sb, 0, none⟩)) ∧ w'.cell? ⟨c2, 0, none⟩ = some (.int .u64 (gen : Nat)) ∧ w'.cell? ⟨sb, 8, none⟩ = some (.pointer (some ⟨tk, 0, none⟩)))
   (first | go_keep | exact HC.out _ HM5.out | exact HC.out _ HM3.out | exact HC.out _ (HM5.out.alloc _) | exact HC.out _ (HM5.out.set3 HM5.out.size _ _ _) | exact HC.out _ (HM5.out.set3 HM3.out.size _ _ _) | exact HC.out _ (HM5.out.set3 (Nat.le_refl _) _ _ _) | fail)
   (first | (go_at_call 130; refine (cZ.out _ (by first | exact (Mods.refl _ _).drew | exact ((Mods.refl _ _).alloc _).drew | exact ((Mods.refl _ _).drew).alloc _)).mono ?_; rintro e w3 ⟨rfl, hm3⟩; have HM3 : Hid (Mods [] w2 w3) := (by first | exact Lib.hid (((Mods.refl _ _).drew).tr hm3.out) | exact Lib.hid ((((Mods.refl _ _).alloc _).drew).tr hm3.out) | exact Lib.hid ((((Mods.refl _ _).drew).alloc _).tr hm3.out)); (first | (have hz : Blk w3 w2.heap.size 79 [.int .i64 0, .int .u64 0, .int .u32 0] := Blk.newD hm3.out) | skip)) | (go_at_call 103; refine (cE.out _ (HTK2.out.keep (by first | exact HM3.out | exact HM3.out.alloc _) (by simp))).mono ?_; rintro e w5 ⟨rfl, hm5⟩; have HM5 : Hid (Mods [] w2 w5) := (by first | exact Lib.hid (HM3.out.tr hm5) | exact Lib.hid ((HM3.out.alloc _).tr hm5)); (first | (have hz := hz.keep0 hm5) | (have hz : Blk w5 w3.heap.size 79 [.int .i64 0, .int .u64 0, .int .u32 0] := Blk.newK hm5) | skip); (first | (have z0 := hz.cell (i := 0) rfl; have z1 := hz.cell (i := 1) rfl; have z2 := hz.cell (i := 2) rfl; have f0 := hz.free 0; have f1 := hz.free 1; have f2 := hz.free 2) | skip)) | fail)
  all_goals go_wp2_with fail
  all_goals go_meet
  all_goals
   first
    | exact ⟨w5.heap.size, rfl, rfl, rfl, Lib.hid (Blk.new w5 79 _), Lib.hid (HM5.out.alloc _), Lib.hid HM5.out.size⟩
    | exact ⟨w3.heap.size, rfl, rfl, rfl, Lib.hid (three_sets hz _ _ _).1, Lib.hid (HM5.out.set3 HM3.out.size _ _ _), Lib.hid HM3.out.size⟩
    | exact ⟨w2.heap.size, rfl, rfl, rfl, Lib.hid (three_sets hz _ _ _).1, Lib.hid (HM5.out.set3 (Nat.le_refl _) _ _ _), Lib.hid (Nat.le_refl _)⟩
 case rest =>
  obtain ⟨r11, rfl, rfl, rfl, HPX, HMX, HLX⟩ := hcut
  have HOX : Hid (OwnM W (r11 :: r :: F) wc mb p x M) := Lib.hid (HO2.out.protect HMX.out (fun g hg => by
   rcases List.mem_cons.1 hg with rfl | hg
   ·exact .inr ⟨HLX.out, HPX.out.lt⟩
   ·exact .inl hg))
  have cW := Lib.hid (fun (w' : World) (hm : Mods [] wc w') => oWrite (HOX.out.still hm) HFN.out (by omega) hkB HIL.out)
  rw [hwr] at cW
  have hF' : ∀ g ∈ [sb, tk, c1, c2], g ∈ r11 :: r :: F := fun g hg => List.mem_cons_of_mem _ (List.mem_cons_of_mem _ (HF.out g hg).1)
  have HCX : Hid (∀ w', Minds (r11 :: r :: F) wc w' → w'.cell? ⟨c1, 0, none⟩ = some (.pointer (some ⟨sb, 0, none⟩)) ∧ w'.cell? ⟨sb, 7, none⟩ = some (.pointer (some ⟨mb, 0, none⟩)) ∧ w'.cell? ⟨r11, 0, none⟩ = some (.int .i64 (k : Nat)) ∧ w'.cell? ⟨r11, 1, none⟩ = some (.int .u64 (gen : Nat)) ∧ w'.cell? ⟨r11, 2, none⟩ = some (.int .u32 (sm : Nat))) := Lib.hid (fun w' hm => by
   have y1 := hm.blk (H12.out.keep HMX.out (by simp)) (hF' c1 (by simp))
   have y2 := hm.blk (HB2.out.keep HMX.out (by simp)) (hF' sb (by simp))
   have y3 := hm.blk HPX.out (by simp)
   exact ⟨y1.cell (i := 0) rfl, y2.cell (i := 7) rfl, y3.cell (i := 0) rfl, y3.cell (i := 1) rfl, y3.cell (i := 2) rfl⟩)
  obtain ⟨k1, k7, p0, p1, p2⟩ := HCX.out wc (Minds.refl _ _)
  have HBRX : Hid (∀ w', Minds (r11 :: r :: F) wc w' → Blk w' r 79 [.int .i64 0, .int .u64 0, .int .u32 0]) := Lib.hid (fun w' hm => hm.blk (HBR2.out.keep HMX.out (by simp)) (by simp))
  have hne : r ≠ r11 := by have h1 := HBR2.out.lt; have h2 := HLX.out; omega
  have hne2 : r11 ≠ r := fun e => hne e.symm
  have hne3 : r ≠ c1 := by have := HFL.out c1 (HF.out c1 (by simp)).1; omega
  have hne4 : r ≠ sb := by have := HFL.out sb (HF.out sb (by simp)).1; omega
  clear j1 j2 j8 cE cZ
  go_upto_region 7 with fail
  go_region_held3 (fun w' => w'.cell? ⟨c1, 0, none⟩ = some (.pointer (some ⟨sb, 0, none⟩)) ∧ w'.cell? ⟨sb, 7, none⟩ = some (.pointer (some ⟨mb, 0, none⟩)) ∧ w'.cell? ⟨r11, 0, none⟩ = some (.int .i64 (k : Nat)) ∧ w'.cell? ⟨r11, 1, none⟩ = some (.int .u64 (gen : Nat)) ∧ w'.cell? ⟨r11, 2, none⟩ = some (.int .u32 (sm : Nat)))
   (first | exact HCX.out _ HW9.out | go_keep | fail)
   (first | (go_at_call 131; refine (cW.out _ (by first | exact (Mods.refl _ _).drew | exact Mods.refl _ _)).mono ?_; rintro e w9 ⟨rfl, HO9, HN9⟩; have HW9 : Hid (Minds (r11 :: r :: F) wc w9) := Lib.hid ((Minds.of ((Mods.refl _ _).drew)).trans HN9.out); have hz := HBRX.out _ HW9.out; have z0 := hz.cell (i := 0) rfl; have z1 := hz.cell (i := 1) rfl; have z2 := hz.cell (i := 2) rfl; have f0 := hz.free 0; have f1 := hz.free 1; have f2 := hz.free 2) | fail)
  obtain ⟨y1, y2⟩ := three_sets hz (.int .i64 (k : Nat)) (.int .u64 (gen : Nat)) (.int .u32 (sm : Nat))
  have HY1 := Lib.hid y1
  have HY2 := Lib.hid y2
  clear y1 y2 z0 z1 z2 f0 f1 f2
  go_wp2_with fail
  refine bodyPost_ret (results_ct rfl rfl (load_ptr HY1.out)) rfl ?_
  have hrF : r ∉ F := fun hx => Nat.lt_irrefl _ (HFL.out r hx)
  have hsp : ∀ g ∈ sfp, g ∈ r11 :: r :: F := fun g hg => List.mem_cons_of_mem _ (List.mem_cons_of_mem _ (HSF.out g hg).1)
  refine ⟨rfl, Lib.hid ((HO9.out.aside HY2.out (fun g hg => ⟨by rw [List.mem_singleton.1 hg]; simp, by rw [List.mem_singleton.1 hg]; exact HWR.out⟩)).fewer (fun g hg => List.mem_cons_of_mem _ (List.mem_cons_of_mem _ hg))), Lib.hid ?_, Lib.hid ?_⟩
  ·obtain ⟨L, m1, m2⟩ := HW9.out
   exact ((HSP2.out.keep HMX.out (by simp)).keep m1 (fun g hg hx => m2 g hx (hsp g hg))).keep HY2.out (fun g hg hx => hrs (by rw [← List.mem_singleton.1 hx]; exact hg))
  ·exact ((((Turn.of HMS.out).trans (Turn.ofK HM2.out)).trans (Turn.of HMX.out)).trans (Turn.minds (HW9.out.mono (fun g hg => List.mem_cons_of_mem _ (List.mem_cons_of_mem _ hg))))).trans ⟨[r], HY2.out, fun g hg => .inr (by rw [List.mem_singleton.1 hg]; exact hrF)⟩
end
end Go.Proofs.YtkjpdfomppjiiaaGreatDoor
/- A tree of one leaf: saved. -/
namespace Go.Proofs.YtkjpdfomppjiiaaGreatDoor
open Go.RowKit

theorem run_makeMapVP (W : World) : (Instr.makeMap 292 none).run Tryz.prog W = .ok (.map (some W.heap.size)) (W.alloc (.map #[] 0)) := by kernel_rfl
theorem run_done {w : World} {mb v : Nat} (u : Value) (h : w.heap[mb]? = some (.map #[] 0)) : ∃ w1, (Instr.mapUpdate 292 (.map (some mb)) (.pointer (some ⟨v, 0, none⟩)) u).run Tryz.prog w = .ok () w1 ∧ Mods [mb] w w1 := by
 have e : (Instr.checkKey false 10000 140 (.pointer (some ⟨v, 0, none⟩))).run Tryz.prog w = .ok () w := by kernel_rfl
 have e2 : (Instr.findKey 140 (.pointer (some ⟨v, 0, none⟩)) []).run Tryz.prog w = .ok none w := by kernel_rfl
 refine ⟨{ w with heap := w.heap.setIfInBounds mb (.map #[{ key := .pointer (some ⟨v, 0, none⟩), val := u, born := 0 }] 1) }, ?_, rfl, rfl, rfl, by simp, fun k _ hn => (MapKept.heap_set h).2 k (by simpa using hn)⟩
 simp [Instr.mapUpdate, run_underlying Tryz.underlying292, Result.andThen, MapKept.run_getObj_map h, e, e2, MapKept.run_setObj_map _ h]
section
variable {W : World} {v sv mb : Nat} {q : PtrE} {ld : Bool} {le : Value}
set_option maxHeartbeats 1600000 in
theorem svVertex_known {sv : Nat} (hb : Blk W v 151 (vC true q ld le nilS nilS nilS)) :
  Calls Tryz.prog 177 #[.pointer (some ⟨sv, 0, none⟩), .pointer (some ⟨v, 0, none⟩)] W fun e w' => e = .returned (.tuple #[ptrV q, .int .i64 0]) ∧ Hid (Mods [] W w') := by
 obtain ⟨qa, qg, qs⟩ := q
 unfold vC nilS ptrV at *
 obtain ⟨w1, hw1⟩ : ∃ w1, W.alloc (.cells #[.int .i64 0, .int .u64 0, .int .u32 0] 79) = w1 := ⟨_, rfl⟩
 obtain ⟨g, hg⟩ : ∃ g, W.heap.size = g := ⟨_, rfl⟩
 have hm1 : Mods [] W w1 := by rw [← hw1]; exact (Mods.refl _ _).alloc _
 have hb1 := hb.keep hm1 (by simp)
 have hr1 : Blk w1 g 79 [.int .i64 0, .int .u64 0, .int .u32 0] := by rw [← hw1, ← hg]; exact Blk.new W 79 _
 have c0 := hb1.cell (i := 0) rfl
 have c1 := hb1.cell (i := 1) rfl
 have c2 := hb1.cell (i := 2) rfl
 have c3 := hb1.cell (i := 3) rfl
 have z0 := hr1.cell (i := 0) rfl
 have z1 := hr1.cell (i := 1) rfl
 have z2 := hr1.cell (i := 2) rfl
 have f0 := hr1.free 0
 have f1 := hr1.free 1
 have f2 := hr1.free 2
 have HR1 := Lib.hid hr1
 have HM1 := Lib.hid hm1
 have HG := Lib.hid hg
 clear hb hb1 hr1 hm1
 go_enter Tryz.func177, Tryz.ntmps177
 go_upto_region 1 with fail
 try rw [hw1, hg]
 clear hw1 hg
 go_wp2_with fail
 obtain ⟨k1, k2⟩ := three_sets HR1.out (.int .i64 qa) (.int .u64 (qg : Nat)) (.int .u32 (qs : Nat))
 refine bodyPost_ret (results_ct rfl rfl (load_ptr k1)) rfl ?_
 exact ⟨rfl, Lib.hid (HM1.out.trans k2 (fun k hk => .inr (by rw [List.mem_singleton.1 hk, HG.out]; exact Nat.le_refl _)))⟩
end
def Saves (w0 : World) (n0 : Nat) (Q : List Nat → World → Prop) (c1 c2 : Nat) (k : Nat) (z : ByteArray) (q : PtrE) : Prop :=
 ∀ (w1 : World) (G : List Nat), Mods [] w0 w1 → (∀ g ∈ G, n0 ≤ g ∧ g < w1.heap.size) →
  Calls Tryz.prog 180 #[.int .u8 (k : Nat), .string z, .pointer (some ⟨c1, 0, none⟩), .pointer (some ⟨c2, 0, none⟩)] w1 fun e w2 => e = .returned (.tuple #[ptrV q, .int .i64 0]) ∧ Hid (Q G w2) ∧ Hid (∃ L, Mods L w1 w2 ∧ ∀ g ∈ G, g ∉ L)
structure Bears (n0 : Nat) (Q : List Nat → World → Prop) : Prop where
 turn : ∀ (G N : List Nat) (w2 w3 : World), Mods N w2 w3 → (∀ k ∈ N, k ∈ G) → (∀ k ∈ G, n0 ≤ k) → Q G w2 → Q G w3
 more : ∀ (G K : List Nat) (w2 w3 : World), Mods [] w2 w3 → (∀ k ∈ K, w2.heap.size ≤ k ∧ k < w3.heap.size) → Q G w2 → Q (K ++ G) w3
section
variable {w0 W : World} {n0 : Nat} {Q : List Nat → World → Prop} {c1 c2 : Nat} {G : List Nat} {v sv mb : Nat} {q q0 : PtrE} {p : Part} {E : Ents}
set_option maxRecDepth 100000 in
set_option maxHeartbeats 6400000 in
theorem svVertex_leaf (hS : Saves w0 n0 Q c1 c2 4 (bA (leafL E)) q) (hQ : Bears n0 Q) (h0 : Mods [] w0 W) (hG : ∀ g ∈ G, n0 ≤ g ∧ g < W.heap.size) (hv : v ∈ G) (hsv : sv ∈ G) (hmb : mb ∈ G) (hne : mb ≠ v ∧ mb ≠ sv)
  (hbv : Blk W v 151 (vC false q0 true p.v nilS nilS nilS)) (hbs : Blk W sv 294 [.func (.func 180) #[] #[.pointer (some ⟨c1, 0, none⟩), .pointer (some ⟨c2, 0, none⟩)], .map (some mb)]) (hmm : W.heap[mb]? = some (.map #[] 0))
  (he : EntP W p E) (hok : OkE E) (hl : E.length ≤ 10000) :
  Calls Tryz.prog 177 #[.pointer (some ⟨sv, 0, none⟩), .pointer (some ⟨v, 0, none⟩)] W fun e w' => e = .returned (.tuple #[ptrV q, .int .i64 0]) ∧ Hid (∃ G', Q G' w' ∧ (∀ g ∈ G, g ∈ G') ∧ ∀ g ∈ G', n0 ≤ g) ∧ Hid (∃ L, Mods L W w' ∧ ∀ g ∈ G, g = mb ∨ g ∉ L) := by
 obtain ⟨qa, qg, qs⟩ := q
 obtain ⟨A, n, cap, xs⟩ := p
 obtain ⟨za, zg, zs⟩ := q0
 unfold vC nilS ptrV Part.v at *
 simp only at *
 obtain ⟨w1, hw1⟩ : ∃ w1, W.alloc (.cells #[.int .i64 0, .int .u64 0, .int .u32 0] 79) = w1 := ⟨_, rfl⟩
 obtain ⟨g, hg⟩ : ∃ g, W.heap.size = g := ⟨_, rfl⟩
 have hm1 : Mods [] W w1 := by rw [← hw1]; exact (Mods.refl _ _).alloc _
 have hs1 : w1.heap.size = g + 1 := by rw [← hw1, ← hg]; simp
 have hr1 : Blk w1 g 79 [.int .i64 0, .int .u64 0, .int .u32 0] := by rw [← hw1, ← hg]; exact Blk.new W 79 _
 have cT := Lib.hid (leText_any (he.keep hm1) hok hl)
 unfold leafV Part.v at cT
 simp only at cT
 have HBV := Lib.hid (hbv.keep hm1 (by simp))
 have HBS := Lib.hid (hbs.keep hm1 (by simp))
 have HMM : Hid (∀ w', Mods [] w1 w' → w'.heap[mb]? = some (.map #[] 0)) := Lib.hid (fun w' hm => hm.keep (hm1.keep hmm (by simp)) (by simp))
 have c0 := HBV.out.cell (i := 0) rfl
 have c5 := HBV.out.cell (i := 5) rfl
 have c8 := HBV.out.cell (i := 8) rfl
 have HR1 := Lib.hid hr1
 have HM1 := Lib.hid hm1
 have HS1 := Lib.hid hs1
 have HG1 := Lib.hid hg
 have H0 := Lib.hid (h0.trans hm1 (by simp))
 have HGG := Lib.hid hG
 have HV := Lib.hid hv
 have HSV := Lib.hid hsv
 have HMB := Lib.hid hmb
 have HNE := Lib.hid hne
 have HQ := Lib.hid hQ
 have HSS := Lib.hid hS
 clear hbv hbs hmm he hok hl hr1 hm1 hs1 h0 hG hv hsv hmb hne hQ hS
 go_enter Tryz.func177, Tryz.ntmps177
 go_upto_region 1 with fail
 try rw [hw1, hg]
 clear hw1 hg
 go_upto_region 10 with (go_at_call 220; refine cT.out.mono ?_; rintro e w2 ⟨t, rfl, HT, HM2⟩)
 have HS2 : Saves w0 n0 Q c1 c2 4 t ⟨qa, qg, qs⟩ := by rw [HT.out]; exact HSS.out
 have hbs2 := HBS.out.keep HM2.out (by simp)
 have s0 := hbs2.cell (i := 0) rfl
 have h02 := H0.out.trans HM2.out (by simp)
 have hsz2 := HM2.out.size
 have hG1 : ∀ g' ∈ g :: G, n0 ≤ g' ∧ g' < w2.heap.size := fun g' hg' => by
  have h1 := HS1.out
  have h2 := HG1.out
  have h3 : n0 ≤ W.heap.size := by
   have := HGG.out _ HV.out
   omega
  rcases List.mem_cons.1 hg' with rfl | hg'
  ·omega
  ·have := HGG.out _ hg'; omega
 have cS := Lib.hid (HS2 w2 (g :: G) h02 hG1)
 unfold ptrV at cS
 simp only at cS
 have HG2 := Lib.hid hG1
 have HMM2 := Lib.hid (HMM.out w2 HM2.out)
 have HR2 := Lib.hid (HR1.out.keep HM2.out (by simp))
 clear HS2 hbs2 h02 hsz2 hG1 c0 c5 c8
 go_upto_region 11 with (go_at_call 180; refine cS.out.mono ?_; rintro e w3 ⟨rfl, HQ3, HK3⟩)
 obtain ⟨w4, hw4⟩ : ∃ w4, w3.alloc (.cells #[.int .i64 qa, .int .u64 (qg : Nat), .int .u32 (qs : Nat)] 79) = w4 := ⟨_, rfl⟩
 obtain ⟨r, hr⟩ : ∃ r, w3.heap.size = r := ⟨_, rfl⟩
 obtain ⟨L3, hL3, hK3⟩ := HK3.out
 have hm4 : Mods [] w3 w4 := by rw [← hw4]; exact (Mods.refl _ _).alloc _
 have hb4 : Blk w4 r 79 [.int .i64 qa, .int .u64 (qg : Nat), .int .u32 (qs : Nat)] := by rw [← hw4, ← hr]; exact Blk.new w3 79 _
 have hmb4 : w4.drew.heap[mb]? = some (.map #[] 0) := hm4.keep (hL3.keep HMM2.out (hK3 mb (List.mem_cons_of_mem _ HMB.out))) (by simp)
 obtain ⟨w5, hup, hm5⟩ := run_done (v := v) (.agg #[.int .i64 qa, .int .u64 (qg : Nat), .int .u32 (qs : Nat)]) hmb4
 replace hm5 : Mods [mb] w4 w5 := ((Mods.refl [mb] w4).drew).trans hm5 (fun k hk => .inl hk)
 have hlt3 : ∀ g' ∈ g :: G, g' < w3.heap.size := fun g' hg' => Nat.lt_of_lt_of_le (HG2.out g' hg').2 hL3.size
 have hbs4 := ((HBS.out.keep HM2.out (by simp)).keep hL3 (hK3 sv (List.mem_cons_of_mem _ HSV.out))).keep hm4 (by simp)
 have s1 := hbs4.cell (i := 1) rfl
 have k0 := hb4.cell (i := 0) rfl
 have k1 := hb4.cell (i := 1) rfl
 have k2 := hb4.cell (i := 2) rfl
 rw [hw4, hr]
 have hne5 : r ≠ mb := by have := hlt3 mb (List.mem_cons_of_mem _ HMB.out); omega
 have hgmb : g ≠ mb := by have h1 := HGG.out _ HMB.out; have h2 := HG1.out; omega
 have hb5 := hb4.keep hm5 (by simpa using hne5)
 have hg5 := ((HR2.out.keep hL3 (hK3 g (by simp))).keep hm4 (by simp)).keep hm5 (by simpa using hgmb)
 have j0 := hb5.cell (i := 0) rfl
 have j1 := hb5.cell (i := 1) rfl
 have j2 := hb5.cell (i := 2) rfl
 have z0 := hg5.cell (i := 0) rfl
 have z1 := hg5.cell (i := 1) rfl
 have z2 := hg5.cell (i := 2) rfl
 have f0 := hg5.free 0
 have f1 := hg5.free 1
 have f2 := hg5.free 2
 obtain ⟨y1, y2⟩ := three_sets hg5 (.int .i64 qa) (.int .u64 (qg : Nat)) (.int .u32 (qs : Nat))
 have HY := Lib.hid y1
 have HY2 : Hid (Mods (L3 ++ [mb, g]) w2 (((w5.setCell ⟨g, 0, none⟩ (.int .i64 qa)).setCell ⟨g, 1, none⟩ (.int .u64 (qg : Nat))).setCell ⟨g, 2, none⟩ (.int .u32 (qs : Nat)))) := Lib.hid ((((hL3.mono (fun k hk => List.mem_append_left _ hk)).trans hm4 (by simp)).trans hm5 (fun k hk => .inl (by simp at hk; simp [hk]))).trans y2 (fun k hk => .inl (by simp at hk; simp [hk])))
 have HY3 : Hid (Mods [mb, g] w3 (((w5.setCell ⟨g, 0, none⟩ (.int .i64 qa)).setCell ⟨g, 1, none⟩ (.int .u64 (qg : Nat))).setCell ⟨g, 2, none⟩ (.int .u32 (qs : Nat)))) := Lib.hid ((((hm4.mono (by simp))).trans hm5 (fun k hk => .inl (by simp at hk; simp [hk]))).trans y2 (fun k hk => .inl (by simp at hk; simp [hk])))
 have HK3' := Lib.hid hK3
 clear hw4 hr s0 hbs4 hmb4 hb5 hg5 y1 y2 hm4 hm5 hL3 hK3 hlt3 hb4 hne5 hgmb
 go_region
 go_wp2_with fail
 refine bodyPost_ret (results_ct rfl rfl (load_ptr HY.out)) rfl ?_
 have hGl : ∀ k ∈ g :: G, n0 ≤ k := fun k hk => (HG2.out k hk).1
 refine ⟨rfl, Lib.hid ⟨g :: G, HQ.out.turn (g :: G) [mb, g] _ _ HY3.out (fun k hk => ?_) hGl HQ3.out, fun k hk => List.mem_cons_of_mem _ hk, hGl⟩, Lib.hid ⟨L3 ++ [mb, g], (HM1.out.trans HM2.out (by simp) |>.mono (by simp)).trans HY2.out (fun k hk => .inl hk), fun k hk => ?_⟩⟩
 ·rcases List.mem_cons.1 hk with rfl | hk
  ·exact List.mem_cons_of_mem _ HMB.out
  ·rw [List.mem_singleton.1 hk]; simp
 ·by_cases e : k = mb
  ·exact .inl e
  ·refine .inr fun hx => ?_
   rcases List.mem_append.1 hx with hx | hx
   ·exact HK3'.out k (List.mem_cons_of_mem _ hk) hx
   ·have h1 := HGG.out k hk
    have h2 := HG1.out
    simp at hx
    omega
end
end Go.Proofs.YtkjpdfomppjiiaaGreatDoor
/- A tree of one leaf: committed. -/
namespace Go.Proofs.YtkjpdfomppjiiaaGreatDoor
open Go.RowKit

section
variable {w0 W : World} {n0 : Nat} {Q : List Nat → World → Prop} {c1 c2 : Nat} {tb v h fl le sb : Nat} {q q0 : PtrE} {pl : PlanE} {p : Part} {E : Ents}
set_option maxRecDepth 100000 in
set_option maxHeartbeats 6400000 in
theorem trCommit_leaf {G0 : List Nat} (hG0 : ∀ g ∈ G0, n0 ≤ g ∧ g < W.heap.size ∧ g ≠ tb) (hS : Saves w0 n0 Q c1 c2 4 (bA (leafL E)) q) (hQ : Bears n0 Q) (h0 : Mods [] w0 W) (hG : n0 ≤ tb ∧ n0 ≤ v) (hne : tb ≠ v)
  (ht : Blk W tb 153 (treeC pl sb v h nilS fl le)) (hv : Blk W v 151 (vC false q0 true p.v nilS nilS nilS)) (he : EntP W p E) (hok : OkE E) (hl : E.length ≤ 10000) :
  Calls Tryz.prog 126 #[.pointer (some ⟨tb, 0, none⟩), .func (.func 180) #[] #[.pointer (some ⟨c1, 0, none⟩), .pointer (some ⟨c2, 0, none⟩)]] W fun e w' => ∃ v', e = .returned (.tuple #[ptrV q, .slice none 0 0, .int .i64 0]) ∧ Hid (Blk w' tb 153 (treeC pl sb v' h nilS fl le)) ∧ Hid (Blk w' v' 151 (vC true q false nilS nilS nilS nilS)) ∧ Hid (W.heap.size ≤ v') ∧ Hid (∃ G', Q G' w' ∧ tb ∈ G' ∧ v' ∈ G' ∧ (∀ g ∈ G0, g ∈ G') ∧ ∀ g ∈ G', n0 ≤ g) ∧ Hid (∃ L, Mods L W w' ∧ ∀ g ∈ G0, g ∉ L) := by
 obtain ⟨qa, qg, qs⟩ := q
 unfold ptrV
 simp only
 have hmm := run_makeMapVP
 have hfn : ∀ w, (binOp .eql 247 (.func (.func 180) #[] #[.pointer (some ⟨c1, 0, none⟩), .pointer (some ⟨c2, 0, none⟩)]) .nilFunc).run Tryz.prog w = .ok (.bool false) w := fun w => by kernel_rfl
 -- the result's cell, the saver and its map
 obtain ⟨w1, hw1⟩ : ∃ w1, W.alloc (.cells #[.int .i64 0, .int .u64 0, .int .u32 0] 79) = w1 := ⟨_, rfl⟩
 obtain ⟨r, hr⟩ : ∃ r, W.heap.size = r := ⟨_, rfl⟩
 have hm1 : Mods [] W w1 := by rw [← hw1]; exact (Mods.refl _ _).alloc _
 have hs1 : w1.heap.size = r + 1 := by rw [← hw1, ← hr]; simp
 have hr1 : Blk w1 r 79 [.int .i64 0, .int .u64 0, .int .u32 0] := by rw [← hw1, ← hr]; exact Blk.new W 79 _
 have HT1 := Lib.hid (ht.keep hm1 (by simp))
 have HV1 := Lib.hid (hv.keep hm1 (by simp))
 have HE1 := Lib.hid (he.keep hm1)
 have HR1 := Lib.hid hr1
 have HM1 := Lib.hid hm1
 have H01 := Lib.hid (h0.trans hm1 (by simp))
 have H0 := Lib.hid h0
 have HS1 := Lib.hid hs1
 have HRW := Lib.hid hr
 have HTL := Lib.hid ht.lt
 have HVL := Lib.hid hv.lt
 have HG := Lib.hid hG
 have HNE := Lib.hid hne
 have HQ := Lib.hid hQ
 have HG0 := Lib.hid hG0
 have HSV := Lib.hid hS
 have HOK := Lib.hid hok
 have HLL := Lib.hid hl
 clear hG0 hS hQ h0 hG hne ht hv he hm1 hs1 hr1 hok hl
 go_enter Tryz.func126, Tryz.ntmps126
 go_upto_region 1 with fail
 try rw [hw1, hr]
 clear hw1 hr
 go_upto_region 4 with fail
 obtain ⟨w2, hw2⟩ : ∃ w2, (w1.alloc (.map #[] 0)).alloc (.cells #[.func (.func 180) #[] #[.pointer (some ⟨c1, 0, none⟩), .pointer (some ⟨c2, 0, none⟩)], .map (some w1.heap.size)] 294) = w2 := ⟨_, rfl⟩
 obtain ⟨mb, hmb⟩ : ∃ mb, w1.heap.size = mb := ⟨_, rfl⟩
 have hsv : w1.heap.size + 1 = mb + 1 := by rw [hmb]
 rw [hw2, hsv]
 have hm2 : Mods [] w1 w2 := by rw [← hw2]; exact ((Mods.refl _ _).alloc _).alloc _
 have hs2 : w2.heap.size = mb + 2 := by rw [← hw2, ← hmb]; simp
 have hbs : Blk w2 (mb + 1) 294 [.func (.func 180) #[] #[.pointer (some ⟨c1, 0, none⟩), .pointer (some ⟨c2, 0, none⟩)], .map (some mb)] := by
  rw [← hw2, ← hmb]
  exact Blk.newS 294 _ (by simp)
 have hmm2 : w2.heap[mb]? = some (.map #[] 0) := by
  rw [← hw2, ← hmb]
  exact (Below.heap_alloc _ _ _ (by simp)).trans (World.alloc_heap_new w1 _)
 have hGG : ∀ g ∈ ([r, mb + 1, mb, tb, v] ++ G0), n0 ≤ g ∧ g < w2.heap.size := fun g hg => by
  have k1 := HS1.out
  have k2 := HRW.out
  have k3 := H0.out.size
  have k4 := HTL.out
  have k5 := HVL.out
  have k6 := HG.out
  simp only [List.mem_append, List.mem_cons, List.not_mem_nil, or_false] at hg
  rcases hg with (rfl | rfl | rfl | rfl | rfl) | hg
  ·omega
  ·omega
  ·omega
  ·omega
  ·omega
  ·have := HG0.out g hg; omega
 have hnv : mb ≠ v ∧ mb ≠ mb + 1 := by have := HVL.out; have := HS1.out; have := HRW.out; omega
 have cV := Lib.hid (svVertex_leaf (G := ([r, mb + 1, mb, tb, v] ++ G0)) HSV.out HQ.out (H01.out.trans hm2 (by simp)) hGG (by simp) (by simp) (by simp) hnv (HV1.out.keep hm2 (by simp)) hbs hmm2 (HE1.out.keep hm2) HOK.out HLL.out)
 have HT2 := Lib.hid (HT1.out.keep hm2 (by simp))
 have HR2 := Lib.hid (HR1.out.keep hm2 (by simp))
 have HM2 := Lib.hid (HM1.out.trans hm2 (by simp))
 have d4 := HT2.out.cell (i := 4) rfl
 have HGG := Lib.hid hGG
 unfold ptrV at cV
 simp only at cV
 clear hw2 hsv hbs hmm2 hm2 hs2 hGG hnv hmm
 go_upto_region 5 with (go_at_call 177; refine cV.out.mono ?_; rintro e w3 ⟨rfl, HQ3, HK3⟩)
 obtain ⟨w4, hw4⟩ : ∃ w4, w3.alloc (.cells #[.int .i64 qa, .int .u64 (qg : Nat), .int .u32 (qs : Nat)] 79) = w4 := ⟨_, rfl⟩
 obtain ⟨r8, hr8⟩ : ∃ r8, w3.heap.size = r8 := ⟨_, rfl⟩
 rw [hw4, hr8]
 obtain ⟨L3, hL3, hK3⟩ := HK3.out
 have hm4 : Mods [] w3 w4 := by rw [← hw4]; exact (Mods.refl _ _).alloc _
 have hb4 : Blk w4 r8 79 [.int .i64 qa, .int .u64 (qg : Nat), .int .u32 (qs : Nat)] := by rw [← hw4, ← hr8]; exact Blk.new w3 79 _
 have hoff : ∀ g ∈ ([r, mb + 1, mb, tb, v] ++ G0), g ≠ mb → g ∉ L3 := fun g hg e => (hK3 g hg).resolve_left e
 have htm : tb ≠ mb := by have := HTL.out; have := HS1.out; have := HRW.out; omega
 have hrm : r ≠ mb := by have := HS1.out; omega
 have ht4 := (HT2.out.keep hL3 (hoff tb (by simp) htm)).keep hm4 (by simp)
 have hr4 := (HR2.out.keep hL3 (hoff r (by simp) hrm)).keep hm4 (by simp)
 have d6 := ht4.cell (i := 6) rfl
 have f6 := ht4.free 6
 have HT4 := Lib.hid ht4
 have HR4 := Lib.hid hr4
 have HB4 := Lib.hid hb4
 have HM4 := Lib.hid hm4
 have cVal := Lib.hid (fun w => valsI_any none 0 0 w)
 have hr8l : ∀ g ∈ ([r, mb + 1, mb, tb, v] ++ G0), g < r8 := fun g hg => by have h1 := (HGG.out g hg).2; have h2 := hL3.size; omega
 have HL8 := Lib.hid hr8l
 have HL3 := Lib.hid hL3
 have HK3L : Hid (∀ g ∈ G0, g ∉ L3) := Lib.hid (fun g hg => hoff g (List.mem_append_right _ hg) (by have h1 := HG0.out g hg; have h2 := HS1.out; have h3 := HRW.out; omega))
 clear hw4 hr8 d4 cV hm4 hb4 ht4 hr4 hoff htm hrm hL3 hK3 hr8l
 go_upto_region 8 with (first | (go_at_call 179; refine (cVal.out _).mono ?_; rintro e w5 ⟨rfl, h5⟩; subst h5) | (go_at_call 178; refine (sortedI_0 ((Blk.new w4 69 [.slice none 0 0]).cell (i := 0) rfl)).mono ?_; rintro e w6 ⟨rfl, hm6⟩; have HM6 : Hid (Mods [] w4 w6) := Lib.hid (((Mods.refl _ _).alloc _).trans hm6 (by simp)); clear hm6))
 have ht6 := HT4.out.keep HM6.out (by simp)
 have g6 := ht6.cell (i := 6) rfl
 have gf6 := ht6.free 6
 clear d6 f6 cVal
 go_upto_region 9 with fail
 obtain ⟨w7, hw7⟩ : ∃ w7, w6.setCell ⟨tb, 6, none⟩ (.slice none 0 0) = w7 := ⟨_, rfl⟩
 have ht7 : Blk w7 tb 153 (treeC pl sb v h nilS fl le) := by rw [← hw7]; exact ht6.set 6 _
 have hm7 : Mods [tb] w6 w7 := by rw [← hw7]; exact (Mods.refl _ _).setCell (.inl (by simp)) _
 have hne8 : r8 ∉ [tb] := by have := HL8.out tb (by simp); simp; omega
 have hner : r ∉ [tb] := by have h1 := HTL.out; have h2 := HRW.out; simp; omega
 have hb7 := (HB4.out.keep HM6.out (by simp)).keep hm7 hne8
 have hr7 := (HR4.out.keep HM6.out (by simp)).keep hm7 hner
 have k0 := hb7.cell (i := 0) rfl
 have k1 := hb7.cell (i := 1) rfl
 have k2 := hb7.cell (i := 2) rfl
 have dA : ∀ o, (w7.alloc o).cell? ⟨tb, 4, none⟩ = some (.pointer (some ⟨v, 0, none⟩)) := fun o => (ht7.alloc o).cell (i := 4) rfl
 have fA : ∀ o, (w7.alloc o).frozen? ⟨tb, 4, none⟩ = false := fun o => (ht7.alloc o).free 4
 obtain ⟨v', hv'⟩ : ∃ v', w7.heap.size = v' := ⟨_, rfl⟩
 rw [hw7]
 clear hw7 g6 gf6 ht6
 go_upto_region 10 with fail
 obtain ⟨w8, hw8⟩ : ∃ w8, (w7.alloc (.cells #[.bool true, .int .i64 qa, .int .u64 (qg : Nat), .int .u32 (qs : Nat), .bool false, .slice none 0 0, .slice none 0 0, .slice none 0 0, .slice none 0 0] 151)).setCell ⟨tb, 4, none⟩ (.pointer (some ⟨v', 0, none⟩)) = w8 := ⟨_, rfl⟩
 have htl := ht7.lt
 have hv8 : Blk w8 v' 151 (vC true ⟨qa, qg, qs⟩ false nilS nilS nilS nilS) := by
  rw [← hw8, ← hv']
  exact (Blk.new w7 151 [.bool true, .int .i64 qa, .int .u64 (qg : Nat), .int .u32 (qs : Nat), .bool false, .slice none 0 0, .slice none 0 0, .slice none 0 0, .slice none 0 0]).keep (L := [tb]) ((Mods.refl _ _).setCell (.inl (by simp)) _) (by simp; omega)
 have ht8 : Blk w8 tb 153 (treeC pl sb v' h nilS fl le) := by rw [← hw8]; exact (ht7.alloc _).set 4 _
 have hm8 : Mods [tb] w7 w8 := by rw [← hw8]; exact ((Mods.refl _ _).alloc _).setCell (.inl (by simp)) _
 have hb8 := hb7.keep hm8 hne8
 have hr8 := hr7.keep hm8 hner
 have j0 := hb8.cell (i := 0) rfl
 have j1 := hb8.cell (i := 1) rfl
 have j2 := hb8.cell (i := 2) rfl
 have z0 := hr8.cell (i := 0) rfl
 have z1 := hr8.cell (i := 1) rfl
 have z2 := hr8.cell (i := 2) rfl
 have f0 := hr8.free 0
 have f1 := hr8.free 1
 have f2 := hr8.free 2
 obtain ⟨y1, y2⟩ := three_sets hr8 (.int .i64 qa) (.int .u64 (qg : Nat)) (.int .u32 (qs : Nat))
 have HY1 := Lib.hid y1
 have HY2 := Lib.hid y2
 have HT8 := Lib.hid ht8
 have HV8 := Lib.hid hv8
 have HM7 := Lib.hid hm7
 have HM8 := Lib.hid hm8
 have HVS := Lib.hid hv'
 have HW8 := Lib.hid hw8
 try rw [hv']
 rw [hw8]
 clear hw8 k0 k1 k2 dA fA ht7 hb7 hr7 hb8 hr8 y1 y2 ht8 hv8 hm7 hm8 hv' hne8 hner htl
 go_wp2_with fail
 refine bodyPost_ret (results_ctt rfl rfl (load_ptr HY1.out)) rfl ?_
 have h1 := HTL.out
 have h2 := HRW.out
 have h3 := HVS.out
 have h4 := HL8.out
 have h5 := HM4.out.size
 have h6 := HM6.out.size
 have h7 := HM7.out.size
 have h8 := HL3.out.size
 have h9 := HM8.out.size
 have ha := HV8.out.lt
 have hb := HGG.out
 have hrl := hb r (by simp)
 have hng := HG.out
 have hrt : tb ∉ [r] := by simp; omega
 have hrv : v' ∉ [r] := by simp; omega
 obtain ⟨G', hQ3, hGs, hGl⟩ := HQ3.out
 have hm46 : Mods [] w3 w6 := HM4.out.trans HM6.out (by simp)
 have hm67 : Mods [tb] w3 w7 := (hm46.mono (by simp)).trans HM7.out (fun k hk => .inl hk)
 have hQ7 : Q G' w7 := HQ.out.turn G' [tb] w3 w7 hm67 (fun k hk => by rw [List.mem_singleton.1 hk]; exact hGs tb (by simp)) hGl hQ3
 have hmA : Mods [] w7 (w7.alloc (.cells #[.bool true, .int .i64 qa, .int .u64 (qg : Nat), .int .u32 (qs : Nat), .bool false, .slice none 0 0, .slice none 0 0, .slice none 0 0, .slice none 0 0] 151)) := (Mods.refl _ _).alloc _
 have hQA := HQ.out.more G' [v'] w7 _ hmA (fun k hk => by rw [List.mem_singleton.1 hk]; simp; omega) hQ7
 have hm8' : Mods [tb] (w7.alloc (.cells #[.bool true, .int .i64 qa, .int .u64 (qg : Nat), .int .u32 (qs : Nat), .bool false, .slice none 0 0, .slice none 0 0, .slice none 0 0, .slice none 0 0] 151)) w8 := by rw [← HW8.out]; exact (Mods.refl _ _).setCell (.inl (by simp)) _
 have hGl2 : ∀ k ∈ [v'] ++ G', n0 ≤ k := fun k hk => by
  rcases List.mem_append.1 hk with hk | hk
  ·rw [List.mem_singleton.1 hk]; omega
  ·exact hGl k hk
 have hQ8 := HQ.out.turn ([v'] ++ G') [tb] _ w8 hm8' (fun k hk => by rw [List.mem_singleton.1 hk]; exact List.mem_append_right _ (hGs tb (by simp))) hGl2 hQA
 have hQ9 := HQ.out.turn ([v'] ++ G') [r] _ _ HY2.out (fun k hk => by rw [List.mem_singleton.1 hk]; exact List.mem_append_right _ (hGs r (by simp))) hGl2 hQ8
 refine ⟨v', rfl, Lib.hid (HT8.out.keep HY2.out hrt), Lib.hid (HV8.out.keep HY2.out hrv), Lib.hid (by omega), Lib.hid ⟨[v'] ++ G', hQ9, List.mem_append_right _ (hGs tb (by simp)), by simp, fun g hg => List.mem_append_right _ (hGs g (List.mem_append_right _ hg)), hGl2⟩, Lib.hid ⟨L3 ++ [tb, r], (((((HM2.out.mono (by simp) : Mods (L3 ++ [tb, r]) W w2).trans HL3.out (fun k hk => .inl (by simp [hk]))).trans hm67 (fun k hk => .inl (by simp at hk; simp [hk]))).trans HM8.out (fun k hk => .inl (by simp at hk; simp [hk]))).trans HY2.out (fun k hk => .inl (by simp at hk; simp [hk]))), fun g hg hx => ?_⟩⟩
 rcases List.mem_append.1 hx with hx | hx
 ·exact HK3L.out g hg hx
 ·have hy := HG0.out g hg
  simp only [List.mem_cons, List.not_mem_nil, or_false] at hx
  rcases hx with hx | hx
  ·exact hy.2.2 hx
  ·omega
set_option maxRecDepth 100000 in
set_option maxHeartbeats 6400000 in
theorem trCommit_known {ld : Bool} {A : Option Addr} {n c : Nat} (hne : tb ≠ v) (ht : Blk W tb 153 (treeC pl sb v h nilS fl le)) (hv : Blk W v 151 (vC true q ld (.slice A n c) nilS nilS nilS)) :
  Calls Tryz.prog 126 #[.pointer (some ⟨tb, 0, none⟩), .func (.func 180) #[] #[.pointer (some ⟨c1, 0, none⟩), .pointer (some ⟨c2, 0, none⟩)]] W fun e w' => ∃ v', e = .returned (.tuple #[ptrV q, .slice none 0 0, .int .i64 0]) ∧ Hid (Blk w' tb 153 (treeC pl sb v' h nilS fl le)) ∧ Hid (Blk w' v' 151 (vC true q false nilS nilS nilS nilS)) ∧ Hid (W.heap.size ≤ v' ∧ v' < w'.heap.size) ∧ Hid (Mods [tb] W w') := by
 obtain ⟨qa, qg, qs⟩ := q
 unfold ptrV
 simp only
 have hmm := run_makeMapVP
 have hfn : ∀ w, (binOp .eql 247 (.func (.func 180) #[] #[.pointer (some ⟨c1, 0, none⟩), .pointer (some ⟨c2, 0, none⟩)]) .nilFunc).run Tryz.prog w = .ok (.bool false) w := fun w => by kernel_rfl
 obtain ⟨w1, hw1⟩ : ∃ w1, W.alloc (.cells #[.int .i64 0, .int .u64 0, .int .u32 0] 79) = w1 := ⟨_, rfl⟩
 obtain ⟨r, hr⟩ : ∃ r, W.heap.size = r := ⟨_, rfl⟩
 have hm1 : Mods [] W w1 := by rw [← hw1]; exact (Mods.refl _ _).alloc _
 have hs1 : w1.heap.size = r + 1 := by rw [← hw1, ← hr]; simp
 have hr1 : Blk w1 r 79 [.int .i64 0, .int .u64 0, .int .u32 0] := by rw [← hw1, ← hr]; exact Blk.new W 79 _
 have HT1 := Lib.hid (ht.keep hm1 (by simp))
 have HV1 := Lib.hid (hv.keep hm1 (by simp))
 have HR1 := Lib.hid hr1
 have HM1 := Lib.hid hm1
 have HS1 := Lib.hid hs1
 have HRW := Lib.hid hr
 have HTL := Lib.hid ht.lt
 have HVL := Lib.hid hv.lt
 have HNE := Lib.hid hne
 clear hne ht hv hm1 hs1 hr1
 go_enter Tryz.func126, Tryz.ntmps126
 go_upto_region 1 with fail
 try rw [hw1, hr]
 clear hw1 hr
 go_upto_region 4 with fail
 obtain ⟨w2, hw2⟩ : ∃ w2, (w1.alloc (.map #[] 0)).alloc (.cells #[.func (.func 180) #[] #[.pointer (some ⟨c1, 0, none⟩), .pointer (some ⟨c2, 0, none⟩)], .map (some w1.heap.size)] 294) = w2 := ⟨_, rfl⟩
 obtain ⟨mb, hmb⟩ : ∃ mb, w1.heap.size = mb := ⟨_, rfl⟩
 have hsv : w1.heap.size + 1 = mb + 1 := by rw [hmb]
 rw [hw2, hsv]
 have hm2 : Mods [] w1 w2 := by rw [← hw2]; exact ((Mods.refl _ _).alloc _).alloc _
 have cV := Lib.hid (svVertex_known (sv := mb + 1) (HV1.out.keep hm2 (by simp)))
 have HT2 := Lib.hid (HT1.out.keep hm2 (by simp))
 have HR2 := Lib.hid (HR1.out.keep hm2 (by simp))
 have HM2 := Lib.hid (HM1.out.trans hm2 (by simp))
 have d4 := HT2.out.cell (i := 4) rfl
 unfold ptrV at cV
 simp only at cV
 clear hw2 hsv hm2 hmm
 go_upto_region 5 with (go_at_call 177; refine cV.out.mono ?_; rintro e w3 ⟨rfl, HM3⟩)
 obtain ⟨w4, hw4⟩ : ∃ w4, w3.alloc (.cells #[.int .i64 qa, .int .u64 (qg : Nat), .int .u32 (qs : Nat)] 79) = w4 := ⟨_, rfl⟩
 obtain ⟨r8, hr8⟩ : ∃ r8, w3.heap.size = r8 := ⟨_, rfl⟩
 rw [hw4, hr8]
 have hm4 : Mods [] w3 w4 := by rw [← hw4]; exact (Mods.refl _ _).alloc _
 have hb4 : Blk w4 r8 79 [.int .i64 qa, .int .u64 (qg : Nat), .int .u32 (qs : Nat)] := by rw [← hw4, ← hr8]; exact Blk.new w3 79 _
 have ht4 := (HT2.out.keep HM3.out (by simp)).keep hm4 (by simp)
 have hr4 := (HR2.out.keep HM3.out (by simp)).keep hm4 (by simp)
 have d6 := ht4.cell (i := 6) rfl
 have f6 := ht4.free 6
 have HT4 := Lib.hid ht4
 have HR4 := Lib.hid hr4
 have HB4 := Lib.hid hb4
 have HM4 := Lib.hid ((HM2.out.trans HM3.out (by simp)).trans hm4 (by simp))
 have cVal := Lib.hid (fun w => valsI_any none 0 0 w)
 have HL8 : Hid (tb < r8) := Lib.hid (by have h1 := HT2.out.lt; have h2 := HM3.out.size; omega)
 clear hw4 hr8 d4 cV hm4 hb4 ht4 hr4
 go_upto_region 8 with (first | (go_at_call 179; refine (cVal.out _).mono ?_; rintro e w5 ⟨rfl, h5⟩; subst h5) | (go_at_call 178; refine (sortedI_0 ((Blk.new w4 69 [.slice none 0 0]).cell (i := 0) rfl)).mono ?_; rintro e w6 ⟨rfl, hm6⟩; have HM6 : Hid (Mods [] w4 w6) := Lib.hid (((Mods.refl _ _).alloc _).trans hm6 (by simp)); clear hm6))
 have ht6 := HT4.out.keep HM6.out (by simp)
 have g6 := ht6.cell (i := 6) rfl
 have gf6 := ht6.free 6
 clear d6 f6 cVal
 go_upto_region 9 with fail
 obtain ⟨w7, hw7⟩ : ∃ w7, w6.setCell ⟨tb, 6, none⟩ (.slice none 0 0) = w7 := ⟨_, rfl⟩
 have ht7 : Blk w7 tb 153 (treeC pl sb v h nilS fl le) := by rw [← hw7]; exact ht6.set 6 _
 have hm7 : Mods [tb] w6 w7 := by rw [← hw7]; exact (Mods.refl _ _).setCell (.inl (by simp)) _
 have hne8 : r8 ∉ [tb] := by have := HL8.out; simp; omega
 have hner : r ∉ [tb] := by have h1 := HTL.out; have h2 := HRW.out; simp; omega
 have hb7 := (HB4.out.keep HM6.out (by simp)).keep hm7 hne8
 have hr7 := (HR4.out.keep HM6.out (by simp)).keep hm7 hner
 have k0 := hb7.cell (i := 0) rfl
 have k1 := hb7.cell (i := 1) rfl
 have k2 := hb7.cell (i := 2) rfl
 have dA : ∀ o, (w7.alloc o).cell? ⟨tb, 4, none⟩ = some (.pointer (some ⟨v, 0, none⟩)) := fun o => (ht7.alloc o).cell (i := 4) rfl
 have fA : ∀ o, (w7.alloc o).frozen? ⟨tb, 4, none⟩ = false := fun o => (ht7.alloc o).free 4
 obtain ⟨v', hv'⟩ : ∃ v', w7.heap.size = v' := ⟨_, rfl⟩
 rw [hw7]
 clear hw7 g6 gf6 ht6
 go_upto_region 10 with fail
 obtain ⟨w8, hw8⟩ : ∃ w8, (w7.alloc (.cells #[.bool true, .int .i64 qa, .int .u64 (qg : Nat), .int .u32 (qs : Nat), .bool false, .slice none 0 0, .slice none 0 0, .slice none 0 0, .slice none 0 0] 151)).setCell ⟨tb, 4, none⟩ (.pointer (some ⟨v', 0, none⟩)) = w8 := ⟨_, rfl⟩
 have htl := ht7.lt
 have hv8 : Blk w8 v' 151 (vC true ⟨qa, qg, qs⟩ false nilS nilS nilS nilS) := by
  rw [← hw8, ← hv']
  exact (Blk.new w7 151 [.bool true, .int .i64 qa, .int .u64 (qg : Nat), .int .u32 (qs : Nat), .bool false, .slice none 0 0, .slice none 0 0, .slice none 0 0, .slice none 0 0]).keep (L := [tb]) ((Mods.refl _ _).setCell (.inl (by simp)) _) (by simp; omega)
 have ht8 : Blk w8 tb 153 (treeC pl sb v' h nilS fl le) := by rw [← hw8]; exact (ht7.alloc _).set 4 _
 have hm8 : Mods [tb] w7 w8 := by rw [← hw8]; exact ((Mods.refl _ _).alloc _).setCell (.inl (by simp)) _
 have hb8 := hb7.keep hm8 hne8
 have hr8 := hr7.keep hm8 hner
 have j0 := hb8.cell (i := 0) rfl
 have j1 := hb8.cell (i := 1) rfl
 have j2 := hb8.cell (i := 2) rfl
 have z0 := hr8.cell (i := 0) rfl
 have z1 := hr8.cell (i := 1) rfl
 have z2 := hr8.cell (i := 2) rfl
 have f0 := hr8.free 0
 have f1 := hr8.free 1
 have f2 := hr8.free 2
 obtain ⟨y1, y2⟩ := three_sets hr8 (.int .i64 qa) (.int .u64 (qg : Nat)) (.int .u32 (qs : Nat))
 have HY1 := Lib.hid y1
 have HY2 := Lib.hid y2
 have HT8 := Lib.hid ht8
 have HV8 := Lib.hid hv8
 have HM7 := Lib.hid hm7
 have HM8 := Lib.hid hm8
 have HVS := Lib.hid hv'
 try rw [hv']
 rw [hw8]
 clear hw8 k0 k1 k2 dA fA ht7 hb7 hr7 hb8 hr8 y1 y2 ht8 hv8 hm7 hm8 hv' hne8 hner htl
 go_wp2_with fail
 refine bodyPost_ret (results_ctt rfl rfl (load_ptr HY1.out)) rfl ?_
 have h1 := HTL.out
 have h2 := HRW.out
 have h3 := HVS.out
 have h4 := HL8.out
 have h5 := HM4.out.size
 have h6 := HM6.out.size
 have h7 := HM7.out.size
 have h9 := HM8.out.size
 have ha := HV8.out.lt
 have hs1 := HS1.out
 have hrt : tb ∉ [r] := by simp; omega
 have hl4 := HR4.out.lt
 have hrv : v' ∉ [r] := by simp; omega
 refine ⟨v', rfl, Lib.hid (HT8.out.keep HY2.out hrt), Lib.hid (HV8.out.keep HY2.out hrv), Lib.hid ⟨by omega, Nat.lt_of_lt_of_le ha HY2.out.size⟩, Lib.hid ?_⟩
 refine (((((HM4.out.trans HM6.out (by simp)).mono (by simp)).trans HM7.out (fun k hk => .inl hk)).trans HM8.out (fun k hk => .inl hk)) : Mods [tb] W w8).trans HY2.out (fun k hk => .inr (by rw [List.mem_singleton.1 hk]; omega))
end
end Go.Proofs.YtkjpdfomppjiiaaGreatDoor
namespace Go.Proofs.YtkjpdfomppjiiaaGreatDoor
open Go.RowKit

section
variable {W : World} {tb v fl le sb c d : Nat} {q : PtrE} {pl : PlanE} {ld : Bool} {lev gv : Value} {P : World → Prop}
theorem trWalk1_o (hv : Blk W v 151 (vC true q ld lev nilS nilS nilS))
  (cV : Calls Tryz.prog 83 #[ptrV q, .int .i64 (d : Nat), .pointer (some ⟨c, 0, none⟩)] W fun e w' => e = .returned (.int .i64 0) ∧ P w') :
  Calls Tryz.prog 140 #[.pointer (some ⟨tb, 0, none⟩), .pointer (some ⟨v, 0, none⟩), .int .i64 1, .int .i64 (d : Nat), .func (.func 83) #[] #[.pointer (some ⟨c, 0, none⟩)]] W fun e w' => e = .returned (.int .i64 0) ∧ P w' := by
 obtain ⟨qa, qg, qs⟩ := q
 unfold vC ptrV at *
 have c0 := hv.cell (i := 0) rfl
 have c1 := hv.cell (i := 1) rfl
 have c2 := hv.cell (i := 2) rfl
 have c3 := hv.cell (i := 3) rfl
 have CV := Lib.hid cV
 clear hv cV
 go_enter Tryz.func140, Tryz.ntmps140
 go_wp2_with (go_at_call 83; refine CV.out.mono ?_; rintro e w1 ⟨rfl, hp⟩; have HP := Lib.hid hp; clear hp)
 go_ret
 exact ⟨rfl, HP.out⟩
set_option maxHeartbeats 1600000 in
theorem trWalk_o (ht : Blk W tb 153 (treeC pl sb v 1 gv fl le)) (hv : Blk W v 151 (vC true q ld lev nilS nilS nilS))
  (cV : ∀ w1, Mods [] W w1 → Calls Tryz.prog 83 #[ptrV q, .int .i64 0, .pointer (some ⟨c, 0, none⟩)] w1 fun e w' => e = .returned (.int .i64 0) ∧ P w') (hP : ∀ w', P w' → Blk w' tb 153 (treeC pl sb v 1 gv fl le)) :
  Calls Tryz.prog 82 #[.pointer (some ⟨tb, 0, none⟩), .func (.func 83) #[] #[.pointer (some ⟨c, 0, none⟩)]] W fun e w' => e = .returned (.int .i64 0) ∧ P w' := by
 have hfn : ∀ w, (binOp .eql 175 (.func (.func 83) #[] #[.pointer (some ⟨c, 0, none⟩)]) .nilFunc).run Tryz.prog w = .ok (.bool false) w := fun w => by kernel_rfl
 have cW := Lib.hid (fun (w1 : World) (hm : Mods [] W w1) => trWalk1_o (tb := tb) (d := 0) (hv.keep hm (by simp)) (cV w1 hm))
 have c4 : W.cell? ⟨tb, 4, none⟩ = some (.pointer (some ⟨v, 0, none⟩)) := ht.cell (i := 4) rfl
 have c5 := ht.cell (i := 5) rfl
 have HPP : Hid (∀ w', P w' → w'.cell? ⟨tb, 4, none⟩ = some (.pointer (some ⟨v, 0, none⟩)) ∧ w'.cell? ⟨tb, 5, none⟩ = some (.int .i64 1)) := Lib.hid (fun w' h => ⟨(hP w' h).cell (i := 4) rfl, (hP w' h).cell (i := 5) rfl⟩)
 clear ht hv cV hP
 go_enter Tryz.func82, Tryz.ntmps82
 go_upto_region 3 with fail
 go_region_held3 (fun w' => w'.cell? ⟨tb, 4, none⟩ = some (.pointer (some ⟨v, 0, none⟩)) ∧ w'.cell? ⟨tb, 5, none⟩ = some (.int .i64 1))
  (first | exact HPP.out _ HP2.out | go_keep | fail)
  (first | (go_at_call 140; refine (cW.out _ (by first | exact (Mods.refl _ _).drew | exact Mods.refl _ _)).mono ?_; rintro e w2 ⟨rfl, hp⟩; have HP2 := Lib.hid hp; clear hp) | fail)
 go_wp2_with fail
 go_ret
 exact ⟨rfl, HP2.out⟩
theorem trWalk1_k (hv : Blk W v 151 (vC true q ld lev nilS nilS nilS))
  (cV : Calls Tryz.prog 99 #[ptrV q, .int .i64 (d : Nat), .pointer (some ⟨c, 0, none⟩)] W fun e w' => e = .returned (.int .i64 0) ∧ P w') :
  Calls Tryz.prog 140 #[.pointer (some ⟨tb, 0, none⟩), .pointer (some ⟨v, 0, none⟩), .int .i64 1, .int .i64 (d : Nat), .func (.func 99) #[] #[.pointer (some ⟨c, 0, none⟩)]] W fun e w' => e = .returned (.int .i64 0) ∧ P w' := by
 obtain ⟨qa, qg, qs⟩ := q
 unfold vC ptrV at *
 have c0 := hv.cell (i := 0) rfl
 have c1 := hv.cell (i := 1) rfl
 have c2 := hv.cell (i := 2) rfl
 have c3 := hv.cell (i := 3) rfl
 have CV := Lib.hid cV
 clear hv cV
 go_enter Tryz.func140, Tryz.ntmps140
 go_wp2_with (go_at_call 99; refine CV.out.mono ?_; rintro e w1 ⟨rfl, hp⟩; have HP := Lib.hid hp; clear hp)
 go_ret
 exact ⟨rfl, HP.out⟩
set_option maxHeartbeats 1600000 in
theorem trWalk_k (ht : Blk W tb 153 (treeC pl sb v 1 gv fl le)) (hv : Blk W v 151 (vC true q ld lev nilS nilS nilS))
  (cV : ∀ w1, Mods [] W w1 → Calls Tryz.prog 99 #[ptrV q, .int .i64 0, .pointer (some ⟨c, 0, none⟩)] w1 fun e w' => e = .returned (.int .i64 0) ∧ P w') (hP : ∀ w', P w' → Blk w' tb 153 (treeC pl sb v 1 gv fl le)) :
  Calls Tryz.prog 82 #[.pointer (some ⟨tb, 0, none⟩), .func (.func 99) #[] #[.pointer (some ⟨c, 0, none⟩)]] W fun e w' => e = .returned (.int .i64 0) ∧ P w' := by
 have hfn : ∀ w, (binOp .eql 175 (.func (.func 99) #[] #[.pointer (some ⟨c, 0, none⟩)]) .nilFunc).run Tryz.prog w = .ok (.bool false) w := fun w => by kernel_rfl
 have cW := Lib.hid (fun (w1 : World) (hm : Mods [] W w1) => trWalk1_k (tb := tb) (d := 0) (hv.keep hm (by simp)) (cV w1 hm))
 have c4 : W.cell? ⟨tb, 4, none⟩ = some (.pointer (some ⟨v, 0, none⟩)) := ht.cell (i := 4) rfl
 have c5 := ht.cell (i := 5) rfl
 have HPP : Hid (∀ w', P w' → w'.cell? ⟨tb, 4, none⟩ = some (.pointer (some ⟨v, 0, none⟩)) ∧ w'.cell? ⟨tb, 5, none⟩ = some (.int .i64 1)) := Lib.hid (fun w' h => ⟨(hP w' h).cell (i := 4) rfl, (hP w' h).cell (i := 5) rfl⟩)
 clear ht hv cV hP
 go_enter Tryz.func82, Tryz.ntmps82
 go_upto_region 3 with fail
 go_region_held3 (fun w' => w'.cell? ⟨tb, 4, none⟩ = some (.pointer (some ⟨v, 0, none⟩)) ∧ w'.cell? ⟨tb, 5, none⟩ = some (.int .i64 1))
  (first | exact HPP.out _ HP2.out | go_keep | fail)
  (first | (go_at_call 140; refine (cW.out _ (by first | exact (Mods.refl _ _).drew | exact Mods.refl _ _)).mono ?_; rintro e w2 ⟨rfl, hp⟩; have HP2 := Lib.hid hp; clear hp) | fail)
 go_wp2_with fail
 go_ret
 exact ⟨rfl, HP2.out⟩
end
end Go.Proofs.YtkjpdfomppjiiaaGreatDoor
