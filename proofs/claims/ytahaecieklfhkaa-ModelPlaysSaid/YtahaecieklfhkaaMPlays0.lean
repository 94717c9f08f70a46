/- The law's update as it is, cut off. -/
import Derived.Test.YtahaecieklfhkaaModelEq1
namespace Go.Proofs.Ytahaecieklfhkaa
open Go.RowKit

set_option maxRecDepth 100000 in
set_option maxHeartbeats 6400000 in
theorem raw28_any {W : World} (u : Upd) (hu : upR u) : Calls Try.prog 28 #[.agg (ucells u).toArray] W fun e w' => ∃ v : Upd, e = .returned (.tuple #[.agg (ucells v).toArray, .agg (ucells v).toArray]) ∧ Mods [] W w' := by
  obtain ⟨k, key, val, d⟩ := u
  obtain ⟨h1, h2, h3, h4⟩ := hu
  simp only at h1 h2 h3 h4
  simp only [ucells]
  go_enter Try.func28, Try.ntmps28
  go_wp2_with fail
  obtain ⟨w1, hw1⟩ : ∃ w1, W.alloc (.cells #[.int .u8 k, .string key, .string val, .int .u64 d] 27) = w1 := ⟨_, rfl⟩
  have hB1 : Blk w1 W.heap.size 27 [.int .u8 k, .string key, .string val, .int .u64 d] := by rw [← hw1]; exact Blk.new W 27 _
  have hs1 : w1.heap.size = W.heap.size + 1 := by rw [← hw1]; simp
  have hm1 : Mods [] W w1 := by rw [← hw1]; exact (Mods.refl _ _).alloc _
  rw [hw1]
  obtain ⟨w2, hw2⟩ : ∃ w2, w1.alloc (.cells #[.int .u8 0, .string ⟨#[]⟩, .string ⟨#[]⟩, .int .u64 0] 30) = w2 := ⟨_, rfl⟩
  have hB2 : Blk w2 (W.heap.size + 1) 30 [.int .u8 0, .string ⟨#[]⟩, .string ⟨#[]⟩, .int .u64 0] := by rw [← hw2, ← hs1]; exact Blk.new w1 30 _
  have hs2 : w2.heap.size = W.heap.size + 2 := by rw [← hw2]; simp [hs1]
  have hm2 : Mods [] w1 w2 := by rw [← hw2]; exact (Mods.refl _ _).alloc _
  rw [hw2]
  obtain ⟨w3, hw3⟩ : ∃ w3, w2.alloc (.cells #[.int .u8 0, .string ⟨#[]⟩, .string ⟨#[]⟩, .int .u64 0] 31) = w3 := ⟨_, rfl⟩
  have hB3 : Blk w3 (W.heap.size + 2) 31 [.int .u8 0, .string ⟨#[]⟩, .string ⟨#[]⟩, .int .u64 0] := by rw [← hw3, ← hs2]; exact Blk.new w2 31 _
  have hm3 : Mods [] w2 w3 := by rw [← hw3]; exact (Mods.refl _ _).alloc _
  rw [hw3]
  have HM3 : Hid (Mods [] W w3) := (hm1.trans hm2 (by simp)).trans hm3 (by simp)
  have HB1 := Lib.hid ((hB1.keep hm2 (by simp)).keep hm3 (by simp))
  have HB2 := Lib.hid (hB2.keep hm3 (by simp))
  have HB3 := Lib.hid hB3
  clear hw1 hw2 hw3 hm1 hm2 hm3 hB1 hB2 hB3 hs1 hs2
  have c1 := HB1.out.cell (i := 1) rfl
  have c2 := HB1.out.cell (i := 2) rfl
  have f1 := HB1.out.free 1
  have f2 := HB1.out.free 2
  go_region
  obtain ⟨ky, hky⟩ : ∃ ky, key.extract 0 (min (key.size : Int) 20).toNat = ky := ⟨_, rfl⟩
  rw [hky]
  obtain ⟨vl, hvl⟩ : ∃ vl, val.extract 0 (min (val.size : Int) 36).toNat = vl := ⟨_, rfl⟩
  rw [hvl]
  obtain ⟨w4, hw4⟩ : ∃ w4, ((w3.setCell ⟨W.heap.size, 1, none⟩ (.string ky)).setCell ⟨W.heap.size, 2, none⟩ (.string vl)).drew = w4 := ⟨_, rfl⟩
  have hB4 : Blk w4 W.heap.size 27 [.int .u8 k, .string ky, .string vl, .int .u64 d] := by rw [← hw4]; exact ((HB1.out.set 1 (.string ky)).set 2 (.string vl)).drewN 1
  have hm4 : Mods [W.heap.size] w3 w4 := by rw [← hw4]; exact (((Mods.refl _ _).setCell (.inl (by simp)) _).setCell (.inl (by simp)) _).drewN 1
  rw [hw4]
  have HM4 : Hid (Mods [] W w4) := HM3.out.trans hm4 (fun q hq => .inr (by rw [List.mem_singleton.1 hq]; exact Nat.le_refl _))
  have HB4 := Lib.hid hB4
  have HB24 := Lib.hid (HB2.out.keep hm4 (by simp))
  have HB34 := Lib.hid (HB3.out.keep hm4 (by simp))
  clear hw4 hm4 hB4 c1 c2 f1 f2 HB1 HB2 HB3 HM3 hky hvl
  have e0 := HB4.out.cell (i := 0) rfl
  have e1 := HB4.out.cell (i := 1) rfl
  have e2 := HB4.out.cell (i := 2) rfl
  have e3 := HB4.out.cell (i := 3) rfl
  have f0 := HB24.out.cell (i := 0) rfl
  have f1 := HB24.out.cell (i := 1) rfl
  have f2 := HB24.out.cell (i := 2) rfl
  have f3 := HB24.out.cell (i := 3) rfl
  have r0 := HB24.out.free 0
  have r1 := HB24.out.free 1
  have r2 := HB24.out.free 2
  have r3 := HB24.out.free 3
  have p0 := HB34.out.cell (i := 0) rfl
  have p1 := HB34.out.cell (i := 1) rfl
  have p2 := HB34.out.cell (i := 2) rfl
  have p3 := HB34.out.cell (i := 3) rfl
  have t0 := HB34.out.free 0
  have t1 := HB34.out.free 1
  have t2 := HB34.out.free 2
  have t3 := HB34.out.free 3
  go_wp2_with fail
  go_region
  obtain ⟨k1, k2, k3⟩ := set44 HB24.out HB34.out (by omega) HM4.out (.int .u8 k) (.string ky) (.string vl) (.int .u64 d) (by omega) (by omega)
  have HL1 := Lib.hid (load_rup k1)
  have HL2 := Lib.hid (load_up12 k2)
  have HMM := Lib.hid k3
  clear k1 k2 k3 e0 e1 e2 e3 f0 f1 f2 f3 r0 r1 r2 r3 p0 p1 p2 p3 t0 t1 t2 t3
  go_wp2_with fail
  refine bodyPost_ret (results_cc rfl rfl rfl HL1.out HL2.out) rfl ?_
  exact ⟨⟨k, ky, vl, d⟩, rfl, HMM.out⟩
end Go.Proofs.Ytahaecieklfhkaa
