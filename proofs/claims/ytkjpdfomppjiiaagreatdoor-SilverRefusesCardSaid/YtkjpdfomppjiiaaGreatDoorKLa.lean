/- law25: fresh. -/
import Derived.Test.YtkjpdfomppjiiaaGreatDoorKRp
import Derived.Test.YtkjpdfomppjiiaaGreatDoorKG
import Derived.Test.YtkjpdfomppjiiaaGreatDoorKI
/- law25: config, spare, devices. -/
namespace Go.Proofs.YtkjpdfomppjiiaaGreatDoor
open Go.RowKit

def cf25 : CfE := ⟨4, 4, 5, ⟨3, 3, 5⟩, 1099511627776⟩
theorem load_cfg {w : World} {b : Nat} {a0 a1 a2 a3 a4 a5 a6 : Value} (h : Blk w b 44 [a0, a1, a2, a3, a4, a5, a6]) : (loadVar 44 ⟨b, 0, none⟩).run Tryz.prog w = .ok (.agg #[a0, a1, a2, a3, a4, a5, a6]) w := by
 have c0 := h.cell (i := 0) (v := a0) rfl
 have c1 := h.cell (i := 1) (v := a1) rfl
 have c2 := h.cell (i := 2) (v := a2) rfl
 have c3 := h.cell (i := 3) (v := a3) rfl
 have c4 := h.cell (i := 4) (v := a4) rfl
 have c5 := h.cell (i := 5) (v := a5) rfl
 have c6 := h.cell (i := 6) (v := a6) rfl
 go_simp
section
variable {w : World}
theorem c25_any : Calls Tryz.prog 15 #[] w fun e w' => e = .returned (cfV cf25) ∧ Hid (Mods [] w w') := by
 obtain ⟨w1, hw1⟩ : ∃ w1, w.alloc (.cells #[.int .i64 0, .int .i64 0, .int .i64 0, .int .i64 0, .int .i64 0, .int .i64 0, .int .u64 0] 44) = w1 := ⟨_, rfl⟩
 obtain ⟨r, hr⟩ : ∃ r, w.heap.size = r := ⟨_, rfl⟩
 have hb : Blk w1 r 44 [.int .i64 0, .int .i64 0, .int .i64 0, .int .i64 0, .int .i64 0, .int .i64 0, .int .u64 0] := by rw [← hw1, ← hr]; exact Blk.new w 44 _
 have hm : Mods [] w w1 := by rw [← hw1]; exact (Mods.refl _ _).alloc _
 have HR := Lib.hid hr
 have HB := Lib.hid hb
 have HM := Lib.hid hm
 have z0 := hb.cell (i := 0) rfl
 have z1 := hb.cell (i := 1) rfl
 have z2 := hb.cell (i := 2) rfl
 have z3 := hb.cell (i := 3) rfl
 have z4 := hb.cell (i := 4) rfl
 have z5 := hb.cell (i := 5) rfl
 have z6 := hb.cell (i := 6) rfl
 have f0 := hb.free 0
 have f1 := hb.free 1
 have f2 := hb.free 2
 have f3 := hb.free 3
 have f4 := hb.free 4
 have f5 := hb.free 5
 have f6 := hb.free 6
 clear hb hm
 go_enter Tryz.func15, Tryz.ntmps15
 go_upto_region 1 with fail
 try rw [hw1, hr]
 clear hw1 hr
 go_wp2_with fail
 obtain ⟨y1, y2⟩ := seven_sets HB.out (.int .i64 4) (.int .i64 4) (.int .i64 5) (.int .i64 3) (.int .i64 3) (.int .i64 5) (.int .u64 1099511627776)
 refine bodyPost_ret (results_c rfl rfl (load_cfg y1)) rfl ?_
 exact ⟨rfl, Lib.hid (HM.out.trans y2 (fun k hk => .inr (by rw [List.mem_singleton.1 hk, HR.out]; exact Nat.le_refl _)))⟩
theorem s25_any (n : Nat) (hr : Dev.right (n : Int) (320 : Nat) = true) :
  Calls Tryz.prog 7 #[.int .i64 (n : Nat)] w fun e w' => ∃ d fd, e = .returned (.pointer (some ⟨d, 0, none⟩)) ∧ Hid (IsDev w' d fd (Dev.new n 320)) ∧ Hid (Mods [] w w') ∧ Hid (∀ g ∈ fd, w.heap.size ≤ g) := by
 have cN := Lib.hid (fun W => dNew_any (W := W) n 320 hr)
 go_enter Tryz.func7, Tryz.ntmps7
 go_wp2_with (go_at_call 18; refine (cN.out _).mono ?_; rintro e w1 ⟨d, fd, rfl, HD, HM, HL⟩)
 go_ret
 exact ⟨d, fd, rfl, HD, HM, HL⟩
set_option maxRecDepth 100000 in
set_option maxHeartbeats 3200000 in
theorem d25_any (n : Nat) (hr : Dev.right (n : Int) (320 : Nat) = true) :
  Calls Tryz.prog 13 #[.int .i64 (n : Nat)] w fun e w' => ∃ x fx, e = .returned (.agg #[.pointer (some ⟨x 0, 0, none⟩), .pointer (some ⟨x 1, 0, none⟩)]) ∧ Hid (Devs w' x fx (fun _ => Dev.new n 320)) ∧ Hid (Mods [] w w') ∧ Hid (∀ k, k < 2 → ∀ g ∈ fx k, w.heap.size ≤ g) := by
 have cN := Lib.hid (fun W => dNew_any (W := W) n 320 hr)
 obtain ⟨w1, hw1⟩ : ∃ w1, (w.alloc (.cells #[.pointer none, .pointer none] 23)).alloc (.cells #[.pointer none, .pointer none] 23) = w1 := ⟨_, rfl⟩
 obtain ⟨r, hr1⟩ : ∃ r, w.heap.size = r := ⟨_, rfl⟩
 have hb : Blk w1 r 23 [.pointer none, .pointer none] := by rw [← hw1, ← hr1]; exact (Blk.new w 23 _).alloc _
 have hb2 : Blk w1 (r + 1) 23 [.pointer none, .pointer none] := by rw [← hw1]; exact Blk.newS 23 _ (by simp [hr1])
 have hm : Mods [] w w1 := by rw [← hw1]; exact ((Mods.refl _ _).alloc _).alloc _
 have hs1 : w1.heap.size = r + 2 := by rw [← hw1, ← hr1]; simp
 have HR := Lib.hid (And.intro hr1 hs1)
 have HB := Lib.hid hb
 have HB2 := Lib.hid hb2
 have HM := Lib.hid hm
 have HW1 := Lib.hid hw1
 clear hb hb2 hm hr hw1 hs1
 go_enter Tryz.func13, Tryz.ntmps13
 go_upto_region 2 with fail
 rw [HW1.out]
 clear HW1
 clear hr1
 go_wp2_with fail
 refine wp_loop_rounds 3 ?_
 rw [rounds_succ]
 go_wp2_with (go_at_call 18; refine (cN.out _).mono ?_; rintro e w2 ⟨b0, f0, rfl, H0, HM0, HF0⟩; have hbb := HB2.out.keep HM0.out (by simp); have z0 := hbb.cell (i := 0) rfl; have z1 := hbb.cell (i := 1) rfl; have y0 := hbb.free 0; have y1 := hbb.free 1; have HBB := Lib.hid hbb; clear hbb)
 obtain ⟨w3, hw3⟩ : ∃ w3, w2.setCell ⟨r + 1, 0, none⟩ (.pointer (some ⟨b0, 0, none⟩)) = w3 := ⟨_, rfl⟩
 have hb3 := HBB.out.set 0 (.pointer (some ⟨b0, 0, none⟩))
 have hm3 : Mods [r + 1] w2 w3 := by rw [← hw3]; exact (Mods.refl _ _).setCell (.inl (by simp)) _
 rw [hw3] at hb3
 have HB3 : Hid (Blk w3 (r + 1) 23 [.pointer (some ⟨b0, 0, none⟩), .pointer none]) := Lib.hid hb3
 have HM3 := Lib.hid hm3
 rw [hw3]
 clear hw3 hb3 hm3 z0 z1 y0 y1
 rw [rounds_succ]
 go_wp2_with (go_at_call 18; refine (cN.out _).mono ?_; rintro e w4 ⟨b1, f1, rfl, H1, HM4, HF1⟩; have hbb := HB3.out.keep HM4.out (by simp); have z0 := hbb.cell (i := 0) rfl; have z1 := hbb.cell (i := 1) rfl; have y0 := hbb.free 0; have y1 := hbb.free 1; have HBB4 := Lib.hid hbb; clear hbb)
 obtain ⟨w5, hw5⟩ : ∃ w5, w4.setCell ⟨r + 1, 1, none⟩ (.pointer (some ⟨b1, 0, none⟩)) = w5 := ⟨_, rfl⟩
 have hb5 := HBB4.out.set 1 (.pointer (some ⟨b1, 0, none⟩))
 have hm5 : Mods [r + 1] w4 w5 := by rw [← hw5]; exact (Mods.refl _ _).setCell (.inl (by simp)) _
 rw [hw5] at hb5
 have HB5 : Hid (Blk w5 (r + 1) 23 [.pointer (some ⟨b0, 0, none⟩), .pointer (some ⟨b1, 0, none⟩)]) := Lib.hid hb5
 have HM5 := Lib.hid hm5
 rw [hw5]
 clear hw5 hb5 hm5 z0 z1 y0 y1
 have hbr := ((((HB.out.keep HM0.out (by simp)).keep HM3.out (by simp)).keep HM4.out (by simp)).keep HM5.out (by simp))
 have q0 := HB5.out.cell (i := 0) rfl
 have q1 := HB5.out.cell (i := 1) rfl
 have x0 := hbr.cell (i := 0) rfl
 have x1 := hbr.cell (i := 1) rfl
 have y0 := hbr.free 0
 have y1 := hbr.free 1
 have HBR := Lib.hid hbr
 clear hbr
 rw [rounds_succ]
 go_wp2_with fail
 refine bodyPost_ret (results_c rfl rfl (load_devs8 ((HBR.out.set 0 (.pointer (some ⟨b0, 0, none⟩))).set 1 (.pointer (some ⟨b1, 0, none⟩))))) rfl ?_
 obtain ⟨w6, hw6⟩ : ∃ w6, (w5.setCell ⟨r, 0, none⟩ (.pointer (some ⟨b0, 0, none⟩))).setCell ⟨r, 1, none⟩ (.pointer (some ⟨b1, 0, none⟩)) = w6 := ⟨_, rfl⟩
 have hm6 : Mods [r] w5 w6 := by rw [← hw6]; exact ((Mods.refl _ _).setCell (.inl (by simp)) _).setCell (.inl (by simp)) _
 rw [hw6]
 obtain ⟨r1, r2⟩ := HR.out
 have s0 := HM0.out.size
 have s3 := HM3.out.size
 have s4 := HM4.out.size
 have s5 := HM5.out.size
 have l0 : ∀ g ∈ f0, r + 2 ≤ g ∧ g < w2.heap.size := fun g hg => by have h1 := HF0.out g hg; exact ⟨by omega, H0.out.lt g hg⟩
 have l1 : ∀ g ∈ f1, w3.heap.size ≤ g := fun g hg => HF1.out g hg
 have hd0 : IsDev w6 b0 f0 (Dev.new n 320) := (((H0.out.keep HM3.out (fun k hk hx => by have h1 := l0 k hk; have h2 := List.mem_singleton.1 hx; omega)).keep HM4.out (by simp)).keep HM5.out (fun k hk hx => by have h1 := l0 k hk; have h2 := List.mem_singleton.1 hx; omega)).keep hm6 (fun k hk hx => by have h1 := l0 k hk; have h2 := List.mem_singleton.1 hx; omega)
 have hd1 : IsDev w6 b1 f1 (Dev.new n 320) := (H1.out.keep HM5.out (fun k hk hx => by have h1 := l1 k hk; have h2 := List.mem_singleton.1 hx; omega)).keep hm6 (fun k hk hx => by have h1 := l1 k hk; have h2 := List.mem_singleton.1 hx; omega)
 have hmm : Mods [] w w6 := ((((HM.out.trans HM0.out (by simp)).trans HM3.out (fun k hk => .inr (by rw [List.mem_singleton.1 hk]; omega))).trans HM4.out (by simp)).trans HM5.out (fun k hk => .inr (by rw [List.mem_singleton.1 hk]; omega))).trans hm6 (fun k hk => .inr (by rw [List.mem_singleton.1 hk]; omega))
 refine ⟨two b0 b1, two f0 f1, rfl, Lib.hid (devs_two (w1 := w3) hd0 hd1 (fun g hg => by have := l0 g hg; omega) l1), Lib.hid hmm, Lib.hid (fun k hk g hg => ?_)⟩
 rcases two_cases hk with rfl | rfl
 ·have := l0 g hg; omega
 ·have := l1 g hg; omega
end
end Go.Proofs.YtkjpdfomppjiiaaGreatDoor
/- law25: a new store, plainly. -/
namespace Go.Proofs.YtkjpdfomppjiiaaGreatDoor
open Go.RowKit

def root25 : PtrE := lfPtr 320 6 1 []
def sup25 : SupE := ⟨1, root25, 1, 1, 0⟩
def sup25' : SupE := ⟨2, root25, 1, 5, 0⟩
def rd25 : Nat → ByteArray := updR (updR (fun _ => bA (zerosL 320)) 6 (lfImg 320 6 1 [])) 1 (bA (supImg 320 sup25))
def rd25' : Nat → ByteArray := updR rd25 0 (bA (supImg 320 sup25'))
theorem cf25_ok : cf25.Ok 56 320 := ⟨by decide, by decide, by decide, by decide, by decide, by decide⟩
theorem root25_ok : root25.Ok := ⟨by show (0 : Int) ≤ 6; decide, by show (6 : Int) ≤ 2147483647; decide, by show 1 < 18446744073709551616; decide, crcOn_lt' _ _⟩
theorem sup25_ok : sup25.Ok := ⟨root25_ok, by show 1 < 18446744073709551616; decide, rfl, by show 1 < 18446744073709551616; decide, by show 0 < 4294967296; decide⟩
theorem sup25_ok' : sup25'.Ok := ⟨root25_ok, by show 2 < 18446744073709551616; decide, rfl, by show 5 < 18446744073709551616; decide, by show 0 < 4294967296; decide⟩
theorem rd25_0 : openL (rd25 0).toList = none := by
 have h : rd25 0 = bA (zerosL 320) := rfl
 rw [h, bA_list]
 exact open_zeros 320
theorem rd25_1 : rd25 1 = bA (supImg 320 sup25) := rfl
theorem rd25_below : BelowG 2 4 rd25 1 := by
 unfold rd25
 exact ((BelowG.zero 1).out (by omega)).out (by omega)
theorem tk25 : (Sp.new 56 6 0 1099511627776).step.tk = some 6 := by decide
theorem use25 : (Sp.new 56 6 1 1099511627776).useE 6 = 0 := by decide
theorem right25 : Dev.right ((64 : Nat) : Int) ((320 : Nat) : Int) = true := by decide
end Go.Proofs.YtkjpdfomppjiiaaGreatDoor
namespace Go.Proofs.YtkjpdfomppjiiaaGreatDoor
open Go.RowKit

def FrPost (w w' : World) (x : Nat → Nat) (sb : Nat) : Prop :=
 ∃ F a M, StIn w w' F x a M ∧ (M.reps = 0 ∧ M.bl = []) ∧ WS 56 320 4 0 M rd25' ∧ (a.sb = sb ∧ a.sup = sup25')
section
variable {w : World}
set_option maxRecDepth 100000 in
set_option maxHeartbeats 6400000 in
theorem f25_any (hT : DbTab w) : Calls Tryz.prog 4 #[.int .i64 64] w fun e w' => ∃ x sb, e = .returned (.tuple #[.agg #[.pointer (some ⟨x 0, 0, none⟩), .pointer (some ⟨x 1, 0, none⟩)], .pointer (some ⟨sb, 0, none⟩), .bool true]) ∧ Hid (FrPost w w' x sb) := by
 obtain ⟨w1, hw1⟩ : ∃ w1, w.alloc (.cells #[.pointer none, .pointer none] 23) = w1 := ⟨_, rfl⟩
 obtain ⟨r, hr1⟩ : ∃ r, w.heap.size = r := ⟨_, rfl⟩
 have hb : Blk w1 r 23 [.pointer none, .pointer none] := by rw [← hw1, ← hr1]; exact Blk.new w 23 _
 have hm : Mods [] w w1 := by rw [← hw1]; exact (Mods.refl _ _).alloc _
 have hs1 : w1.heap.size = r + 1 := by rw [← hw1, ← hr1]; simp
 have HR := Lib.hid (And.intro hr1 hs1)
 have HB := Lib.hid hb
 have HM := Lib.hid hm
 have HW1 := Lib.hid hw1
 have HTT := Lib.hid hT
 have cD := Lib.hid (fun w => d25_any (w := w) 64 right25)
 have cC := Lib.hid (fun w => c25_any (w := w))
 clear hb hm hw1 hs1 hr1 hT
 go_enter Tryz.func4, Tryz.ntmps4
 go_upto_region 1 with fail
 rw [HW1.out, HR.out.1]
 clear HW1
 go_upto_region 2 with (go_at_call 13; refine (cD.out _).mono ?_; rintro e w2 ⟨x, fx, rfl, HD2, HM2, HL2⟩)
 obtain ⟨y0, hy0⟩ : ∃ y, x 0 = y := ⟨_, rfl⟩
 obtain ⟨y1, hy1⟩ : ∃ y, x 1 = y := ⟨_, rfl⟩
 rw [hy0, hy1]
 obtain ⟨w3, hw3⟩ : ∃ w3, w2.alloc (.cells #[.pointer (some ⟨y0, 0, none⟩), .pointer (some ⟨y1, 0, none⟩)] 23) = w3 := ⟨_, rfl⟩
 obtain ⟨r3, hr3⟩ : ∃ r, w2.heap.size = r := ⟨_, rfl⟩
 have hb3 : Blk w3 r3 23 [.pointer (some ⟨y0, 0, none⟩), .pointer (some ⟨y1, 0, none⟩)] := by rw [← hw3, ← hr3]; exact Blk.new w2 23 _
 have hm3 : Mods [] w2 w3 := by rw [← hw3]; exact (Mods.refl _ _).alloc _
 have hs3 : w3.heap.size = r3 + 1 := by rw [← hw3, ← hr3]; simp
 rw [hw3, hr3]
 have HM13 : Hid (Mods [] w1 w3) := Lib.hid (HM2.out.tr hm3)
 have HM03 : Hid (Mods [] w w3) := Lib.hid ((HM.out.tr HM2.out).tr hm3)
 have HB3 := Lib.hid hb3
 have HR3 := Lib.hid (And.intro hr3 hs3)
 have HD3 := Lib.hid (HD2.out.keep0 hm3)
 have HX := Lib.hid (And.intro hy0 hy1)
 have cF : Hid (∀ w', Mods [] w3 w' → Calls Tryz.prog 14 #[.pointer (some ⟨y0, 0, none⟩), .pointer (some ⟨y1, 0, none⟩), cfV cf25] w' fun e w'' => e = .returned (.int .i64 0) ∧ Hid (FmPost 56 320 w w' w'' [r, r3] x cf25 6)) := Lib.hid (fun w' hm => by
  have hsz := hm.size
  have h2s := HM2.out.size
  obtain ⟨q1, q2⟩ := HR.out
  obtain ⟨q3, q4⟩ := HR3.out
  have hl : ∀ k, k < 2 → ∀ g ∈ fx k, w2.heap.size > g := fun k hk g hg => (HD2.out.devs k hk).lt g hg
  have key := stFormat_any (c := cf25) (B := 56) (z := 320) (F := [r, r3]) (W := w) (k := 6) (HD3.out.keep0 hm) (HM03.out.tr hm) (fun k hk g hg => ⟨by have := HL2.out k hk g hg; omega, fun hx => by
   have h1 := HL2.out k hk g hg
   have h2 := hl k hk g hg
   simp only [List.mem_cons, List.not_mem_nil, or_false] at hx
   omega⟩) (fun g hg => by simp only [List.mem_cons, List.not_mem_nil, or_false] at hg; omega) HTT.out right25 (by decide) (by decide) cf25_ok tk25 (by decide)
  rw [HX.out.1, HX.out.2] at key
  exact key)
 have c0 := hb3.cell (i := 0) rfl
 have c1 := hb3.cell (i := 1) rfl
 clear hw3 hr3 hb3 hm3 hs3 hy0 hy1
 have HC3 : Hid (∀ w', Mods [] w3 w' → w'.cell? ⟨r3, 0, none⟩ = some (.pointer (some ⟨y0, 0, none⟩)) ∧ w'.cell? ⟨r3, 1, none⟩ = some (.pointer (some ⟨y1, 0, none⟩))) := Lib.hid (fun w' hm => ⟨(HB3.out.keep hm (by simp)).cell (i := 0) rfl, (HB3.out.keep hm (by simp)).cell (i := 1) rfl⟩)
 go_cut [16] from 10 to 15 (fun bv wx => bv = .bool false ∧ Hid (∃ w4, Mods [] w3 w4 ∧ FmPost 56 320 w w4 wx [r, r3] x cf25 6))
 case first =>
  go_region_held3 (fun w' => w'.cell? ⟨r3, 0, none⟩ = some (.pointer (some ⟨y0, 0, none⟩)) ∧ w'.cell? ⟨r3, 1, none⟩ = some (.pointer (some ⟨y1, 0, none⟩)))
   (first | exact hcc5 | exact HC3.out _ hmc.out | go_keep | fail)
   (first | (go_at_call 15; refine (cC.out _).mono ?_; rintro e w4 ⟨rfl, hm4⟩; have hmc : Hid (Mods [] w3 w4) := (by first | exact Lib.hid (((Mods.refl _ _).drew).tr hm4.out) | exact Lib.hid ((Mods.refl _ _).tr hm4.out))) | (go_at_call 14; refine (cF.out _ hmc.out).mono ?_; rintro e w5 ⟨rfl, HF5⟩; have hcc5 : _ ∧ _ := (by
     obtain ⟨_, _, _, _, _, hmi, _⟩ := HF5.out
     have hb := hmi.blk (HB3.out.keep hmc.out (by simp)) (by simp)
     exact And.intro (hb.cell (i := 0) rfl) (hb.cell (i := 1) rfl))) | fail)
  all_goals go_wp2_with fail
  all_goals go_meet
  all_goals exact ⟨rfl, Lib.hid ⟨_, hmc.out, HF5.out⟩⟩
 case rest =>
  obtain ⟨rfl, HF⟩ := hcut
  obtain ⟨w4, hm4, F4, a4, M4, hst4, hF4, hmi4, hre4, hbl4, hws4⟩ := HF.out
  have HF4 := Lib.hid (And.intro hF4 (And.intro hmi4 hm4))
  have HST4 := Lib.hid hst4
  have cR : Hid (∀ w', Mods [] wc w' → Calls Tryz.prog 16 #[.pointer (some ⟨y0, 0, none⟩), .pointer (some ⟨y1, 0, none⟩), cfV cf25] w' fun e w'' => ∃ sb, e = .returned (.tuple #[.pointer (some ⟨sb, 0, none⟩), .int .i64 0]) ∧ Hid (RcPost 56 320 4 w w' w'' F4 x cf25 rd25 sup25 sb)) := Lib.hid (fun w' hm => by
   have key := stRecover_any (cf := cf25) (b := sup25) (rd := rd25) (hst4.own.still hm) hws4 (by decide) HTT.out (by decide) (by decide) cf25_ok rd25_0 sup25_ok rfl rfl rd25_1 (by decide) use25 rd25_below (by decide)
   rw [HX.out.1, HX.out.2] at key
   exact key)
  have HB4 : Hid (Blk wc r3 23 [.pointer (some ⟨y0, 0, none⟩), .pointer (some ⟨y1, 0, none⟩)] ∧ Blk wc r 23 [.pointer none, .pointer none]) := Lib.hid ⟨hmi4.blk (HB3.out.keep hm4 (by simp)) (by simp), hmi4.blk ((HB.out.keep HM13.out (by simp)).keep hm4 (by simp)) (by simp)⟩
  clear HF hm4 hst4 hF4 hmi4 hre4 hbl4 hws4 c0 c1 cF HC3
  have HC4 : Hid (∀ w', Mods [] wc w' → w'.cell? ⟨r3, 0, none⟩ = some (.pointer (some ⟨y0, 0, none⟩)) ∧ w'.cell? ⟨r3, 1, none⟩ = some (.pointer (some ⟨y1, 0, none⟩))) := Lib.hid (fun w' hm => ⟨(HB4.out.1.keep hm (by simp)).cell (i := 0) rfl, (HB4.out.1.keep hm (by simp)).cell (i := 1) rfl⟩)
  obtain ⟨c0, c1⟩ := HC4.out wc (Mods.refl _ _)
  go_upto_region 4 with fail
  go_cut [6, 7] from 18 to 26 (fun sv ev wx => ∃ sb, sv = .pointer (some ⟨sb, 0, none⟩) ∧ ev = .int .i64 0 ∧ Hid (∃ w6, Mods [] wc w6 ∧ RcPost 56 320 4 w w6 wx F4 x cf25 rd25 sup25 sb))
  case first =>
   go_region_held3 (fun w' => w'.cell? ⟨r3, 0, none⟩ = some (.pointer (some ⟨y0, 0, none⟩)) ∧ w'.cell? ⟨r3, 1, none⟩ = some (.pointer (some ⟨y1, 0, none⟩)))
    (first | exact hcc5 | exact HC4.out _ hmc.out | go_keep | fail)
    (first | (go_at_call 15; refine (cC.out _).mono ?_; rintro e w4 ⟨rfl, hm4⟩; have hmc : Hid (Mods [] wc w4) := (by first | exact Lib.hid (((Mods.refl _ _).drew).tr hm4.out) | exact Lib.hid ((Mods.refl _ _).tr hm4.out))) | (go_at_call 16; refine (cR.out _ hmc.out).mono ?_; rintro e w5 ⟨sb, rfl, HR5⟩; have hcc5 : _ ∧ _ := (by
      obtain ⟨_, _, _, _, _, _, _, hmi, _⟩ := HR5.out
      have hb := hmi.blk (HB4.out.1.keep hmc.out (by simp)) (HF4.out.1 _ (by simp))
      exact And.intro (hb.cell (i := 0) rfl) (hb.cell (i := 1) rfl))) | fail)
   all_goals go_wp2_with fail
   all_goals go_meet
   all_goals exact ⟨sb, rfl, rfl, Lib.hid ⟨_, hmc.out, HR5.out⟩⟩
  case rest =>
   obtain ⟨sb, rfl, rfl, HRC⟩ := hcut
   obtain ⟨w6, hm6, F6, a, M, lb, ltk, hst, hF6, hmi, hre, hws, hfa, hlg, hnew⟩ := HRC.out
   have hb3 := hmi.blk (HB4.out.1.keep hm6 (by simp)) (HF4.out.1 r3 (by simp))
   have hbr := hmi.blk (HB4.out.2.keep hm6 (by simp)) (HF4.out.1 r (by simp))
   have e0 := hb3.cell (i := 0) rfl
   have e1 := hb3.cell (i := 1) rfl
   have z0 := hbr.cell (i := 0) rfl
   have z1 := hbr.cell (i := 1) rfl
   have f0 := hbr.free 0
   have f1 := hbr.free 1
   have HBR := Lib.hid hbr
   have HST := Lib.hid hst
   have HE := Lib.hid (And.intro hF6 (And.intro hre (And.intro hws (And.intro hfa (And.intro hnew hm6)))))
   clear hm6 hst hF6 hmi hre hws hfa hlg hnew hb3 hbr c0 c1 cR HC4
   go_wp2_with fail
   have hbx := (HBR.out.set 0 (.pointer (some ⟨y0, 0, none⟩))).set 1 (.pointer (some ⟨y1, 0, none⟩))
   refine bodyPost_ret (results_ctt8 rfl rfl (load_devs8 hbx)) rfl ?_
   obtain ⟨k1, k2, k3, k4, k5, k6⟩ := HE.out
   obtain ⟨w9, hw9⟩ : ∃ w9, (wc.setCell ⟨r, 0, none⟩ (.pointer (some ⟨y0, 0, none⟩))).setCell ⟨r, 1, none⟩ (.pointer (some ⟨y1, 0, none⟩)) = w9 := ⟨_, rfl⟩
   have hm9 : Mods [r] wc w9 := by rw [← hw9]; exact ((Mods.refl _ _).setCell (.inl (by simp)) _).setCell (.inl (by simp)) _
   rw [hw9]
   obtain ⟨q1, q2⟩ := HR.out
   have s6 : w1.heap.size ≤ w6.heap.size := by
    have t1 := HM13.out.size
    have t2 := HF4.out.2.2.size
    have t3 := HF4.out.2.1.size
    have t4 := k6.size
    omega
   refine ⟨x, sb, by rw [HX.out.1, HX.out.2]; rfl, Lib.hid ⟨F6, a, M, HST.out.aside hm9 (fun k hk => ?_), k2, k3, k4.1, k4.2.2.2.2.2.1⟩⟩
   rw [List.mem_singleton.1 hk]
   exact ⟨k1 r (HF4.out.1 r (by simp)), by omega, fun hx => by have := k5 r hx; omega⟩
end
end Go.Proofs.YtkjpdfomppjiiaaGreatDoor
