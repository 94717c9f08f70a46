/- The law's update of few keys (written by modeleq1.py). -/
import Derived.Test.YtahaecieklfhkaaArgsM
namespace Go.Proofs.Ytahaecieklfhkaa
open Go.RowKit

theorem results_cc {fn : Func} {p q : Tmp} {ty ty2 : TypeId} (h : fn.results = #[.cell p ty, .cell q ty2]) {tmps : Array Value} {P : Program} {w : World} {ad ad2 : Addr} {v v2 : Value} (hp : tmps.getD p undef = .pointer (some ad)) (hq : tmps.getD q undef = .pointer (some ad2)) (hl : (loadVar ty ad).run P w = .ok v w) (hl2 : (loadVar ty2 ad2).run P w = .ok v2 w) :
    (results fn tmps).run P w = .ok (.tuple #[v, v2]) w := by
  have e : (results fn tmps).run P w = ((asAddr (tmps.getD p undef)).run P w).andThen fun ad w1 => ((loadVar ty ad).run P w1).andThen fun v w2 => ((asAddr (tmps.getD q undef)).run P w2).andThen fun ad2 w3 => ((loadVar ty2 ad2).run P w3).andThen fun v2 w4 => .ok (.tuple #[v, v2]) w4 := by
    simp only [results, h]
    simp [Sem.run_bind, Result.andThen]
  rw [e, hp, hq]
  simp only [asAddr, Sem.run_pure, Result.andThen_ok, hl, hl2]
theorem set44 {W w : World} {b c : Nat} {t u : TypeId} {x0 x1 x2 x3 y0 y1 y2 y3 : Value} (h2 : Blk w b t [x0, x1, x2, x3]) (h3 : Blk w c u [y0, y1, y2, y3]) (hne : b ≠ c) (hm : Mods [] W w) (a0 a1 a2 a3 : Value) (hb : W.heap.size ≤ b) (hc : W.heap.size ≤ c) :
    Blk ((((((((w.setCell ⟨b, 0, none⟩ a0).setCell ⟨b, 1, none⟩ a1).setCell ⟨b, 2, none⟩ a2).setCell ⟨b, 3, none⟩ a3).setCell ⟨c, 0, none⟩ a0).setCell ⟨c, 1, none⟩ a1).setCell ⟨c, 2, none⟩ a2).setCell ⟨c, 3, none⟩ a3).drew b t [a0, a1, a2, a3] ∧
    Blk ((((((((w.setCell ⟨b, 0, none⟩ a0).setCell ⟨b, 1, none⟩ a1).setCell ⟨b, 2, none⟩ a2).setCell ⟨b, 3, none⟩ a3).setCell ⟨c, 0, none⟩ a0).setCell ⟨c, 1, none⟩ a1).setCell ⟨c, 2, none⟩ a2).setCell ⟨c, 3, none⟩ a3).drew c u [a0, a1, a2, a3] ∧
    Mods [] W ((((((((w.setCell ⟨b, 0, none⟩ a0).setCell ⟨b, 1, none⟩ a1).setCell ⟨b, 2, none⟩ a2).setCell ⟨b, 3, none⟩ a3).setCell ⟨c, 0, none⟩ a0).setCell ⟨c, 1, none⟩ a1).setCell ⟨c, 2, none⟩ a2).setCell ⟨c, 3, none⟩ a3).drew := by
  refine ⟨?_, ?_, ?_⟩
  · have k1 := (((h2.set 0 a0).set 1 a1).set 2 a2).set 3 a3
    exact ((((k1.setOther (p := ⟨c, 0, none⟩) hne a0).setOther (p := ⟨c, 1, none⟩) hne a1).setOther (p := ⟨c, 2, none⟩) hne a2).setOther (p := ⟨c, 3, none⟩) hne a3).drewN 1
  · have k1 := (((h3.setOther (p := ⟨b, 0, none⟩) hne.symm a0).setOther (p := ⟨b, 1, none⟩) hne.symm a1).setOther (p := ⟨b, 2, none⟩) hne.symm a2).setOther (p := ⟨b, 3, none⟩) hne.symm a3
    exact ((((k1.set 0 a0).set 1 a1).set 2 a2).set 3 a3).drewN 1
  · exact ((((((((hm.setCell (p := ⟨b, 0, none⟩) (.inr hb) a0).setCell (p := ⟨b, 1, none⟩) (.inr hb) a1).setCell (p := ⟨b, 2, none⟩) (.inr hb) a2).setCell (p := ⟨b, 3, none⟩) (.inr hb) a3).setCell (p := ⟨c, 0, none⟩) (.inr hc) a0).setCell (p := ⟨c, 1, none⟩) (.inr hc) a1).setCell (p := ⟨c, 2, none⟩) (.inr hc) a2).setCell (p := ⟨c, 3, none⟩) (.inr hc) a3).drewN 1
theorem load_rup {w : World} {b : Nat} {a0 a1 a2 a3 : Value} (h : Blk w b 30 [a0, a1, a2, a3]) : (loadVar 30 ⟨b, 0, none⟩).run Try.prog w = .ok (.agg #[a0, a1, a2, a3]) w := by
  have c0 := h.cell (i := 0) (v := a0) rfl
  have c1 := h.cell (i := 1) (v := a1) rfl
  have c2 := h.cell (i := 2) (v := a2) rfl
  have c3 := h.cell (i := 3) (v := a3) rfl
  go_simp
theorem load_up12 {w : World} {b : Nat} {a0 a1 a2 a3 : Value} (h : Blk w b 31 [a0, a1, a2, a3]) : (loadVar 31 ⟨b, 0, none⟩).run Try.prog w = .ok (.agg #[a0, a1, a2, a3]) w := by
  have c0 := h.cell (i := 0) (v := a0) rfl
  have c1 := h.cell (i := 1) (v := a1) rfl
  have c2 := h.cell (i := 2) (v := a2) rfl
  have c3 := h.cell (i := 3) (v := a3) rfl
  go_simp
set_option maxRecDepth 100000 in
set_option maxHeartbeats 6400000 in
theorem of28_put {W : World} {k d : Nat} {key val : ByteArray} (h1 : k < 256) (_ : d < 18446744073709551616) (h3 : key.size ≤ 140737488351232) (h4 : val.size ≤ 140737488351232) (hq : (k : Int) % 3 = ((0 : Nat) : Int)) : Calls Try.prog 11 #[.agg (ucells ⟨k, key, val, d⟩).toArray] W fun e w' => ∃ u1 u2 : Upd, e = .returned (.tuple #[.agg (ucells u1).toArray, .agg (ucells u2).toArray]) ∧ Mods [] W w' := by
  have hks : ((key.size : Nat) : Int) + 1 ≤ 140737488351233 := by omega
  simp only [ucells]
  have HK := Lib.hid hks
  go_enter Try.func11, Try.ntmps11
  go_wp2_with fail
  obtain ⟨w1, hw1⟩ : ∃ w1, W.alloc (.cells #[.int .u8 k, .string key, .string val, .int .u64 d] 27) = w1 := ⟨_, rfl⟩
  have hB1 : Blk w1 W.heap.size 27 [.int .u8 k, .string key, .string val, .int .u64 d] := by rw [← hw1]; exact Blk.new W 27 _
  have hs1 : w1.heap.size = W.heap.size + 1 := by rw [← hw1]; simp
  have hm1 : Mods [] W w1 := by rw [← hw1]; exact (Mods.refl _ _).alloc _
  rw [hw1]
  obtain ⟨w2, hw2⟩ : ∃ w2, w1.alloc (.cells #[.int .u8 0, .string ⟨#[]⟩, .string ⟨#[]⟩, .int .u64 0] 30) = w2 := ⟨_, rfl⟩
  have hB2 : Blk w2 (W.heap.size + 1) 30 [.int .u8 0, .string ⟨#[]⟩, .string ⟨#[]⟩, .int .u64 0] := by rw [← hw2, ← hs1]; exact Blk.new w1 30 _
  have hs2 : w2.heap.size = W.heap.size + 2 := by rw [← hw2]; simp [hs1]
  have hm2 : Mods [] w1 w2 := by rw [← hw2]; exact (Mods.refl _ _).alloc _
  rw [hw2]
  obtain ⟨w3, hw3⟩ : ∃ w3, w2.alloc (.cells #[.int .u8 0, .string ⟨#[]⟩, .string ⟨#[]⟩, .int .u64 0] 31) = w3 := ⟨_, rfl⟩
  have hB3 : Blk w3 (W.heap.size + 2) 31 [.int .u8 0, .string ⟨#[]⟩, .string ⟨#[]⟩, .int .u64 0] := by rw [← hw3, ← hs2]; exact Blk.new w2 31 _
  have hs3 : w3.heap.size = W.heap.size + 3 := by rw [← hw3]; simp [hs2]
  have hm3 : Mods [] w2 w3 := by rw [← hw3]; exact (Mods.refl _ _).alloc _
  rw [hw3]
  have HM3 : Hid (Mods [] W w3) := (hm1.trans hm2 (by simp)).trans hm3 (by simp)
  have HB1 := Lib.hid ((hB1.keep hm2 (by simp)).keep hm3 (by simp))
  have HB2 := Lib.hid (hB2.keep hm3 (by simp))
  have HB3 := Lib.hid hB3
  clear hw1 hw2 hw3 hm1 hm2 hm3 hB1 hB2 hB3 hs1 hs2
  have c0 := HB1.out.cell (i := 0) rfl
  have c1 := HB1.out.cell (i := 1) rfl
  go_region
  obtain ⟨ky, hky⟩ : ∃ ky, (key ++ ⟨#[107]⟩).extract 0 (min ((key.size : Int) + 1) 2).toNat = ky := ⟨_, rfl⟩
  rw [hky]
  obtain ⟨w4, hw4⟩ : ∃ w4, (w3.alloc (.cells #[.int .u8 1, .string ky, .string ⟨#[]⟩, .int .u64 0] 31)).drew = w4 := ⟨_, rfl⟩
  have hB4 : Blk w4 (W.heap.size + 3) 31 [.int .u8 1, .string ky, .string ⟨#[]⟩, .int .u64 0] := by rw [← hw4, ← hs3]; exact Blk.new w3 31 _
  have hm4 : Mods [] w3 w4 := by rw [← hw4]; exact ((Mods.refl _ _).alloc _).drewN 1
  rw [hw4]
  have HM4 : Hid (Mods [] W w4) := HM3.out.trans hm4 (by simp)
  have HB14 := Lib.hid (HB1.out.keep hm4 (by simp))
  have HB24 := Lib.hid (HB2.out.keep hm4 (by simp))
  have HB34 := Lib.hid (HB3.out.keep hm4 (by simp))
  have HB4 := Lib.hid hB4
  clear hw4 hm4 hB4 c0 c1 HB1 HB2 HB3 HM3 hs3 hky
  have c2 := HB14.out.cell (i := 2) rfl
  have c3 := HB14.out.cell (i := 3) rfl
  have d0 := HB4.out.cell (i := 0) rfl
  have d2 := HB4.out.cell (i := 2) rfl
  have d3 := HB4.out.cell (i := 3) rfl
  have g2 := HB4.out.free 2
  have g3 := HB4.out.free 3
  go_wp2_with fail
  obtain ⟨vl, hvl⟩ : ∃ vl, val.extract 0 (min (val.size : Int) 32).toNat = vl := ⟨_, rfl⟩
  rw [hvl]
  obtain ⟨w5, hw5⟩ : ∃ w5, w4.setCell ⟨W.heap.size + 3, 2, none⟩ (.string vl) = w5 := ⟨_, rfl⟩
  rw [hw5]
  have hm5 : Mods [W.heap.size + 3] w4 w5 := by rw [← hw5]; exact (Mods.refl _ _).setCell (.inl (by simp)) _
  have hB5 : Blk w5 (W.heap.size + 3) 31 [.int .u8 1, .string ky, .string vl, .int .u64 0] := by rw [← hw5]; exact HB4.out.set 2 _
  have HB25 := Lib.hid (HB24.out.keep hm5 (by simp))
  have HB35 := Lib.hid (HB34.out.keep hm5 (by simp))
  have HM5 : Hid (Mods [] W w5) := HM4.out.trans hm5 (fun q hq => .inr (by rw [List.mem_singleton.1 hq]; omega))
  clear hm5 hw5 c2 c3 d0 d2 d3 g2 g3
  have e0 := hB5.cell (i := 0) rfl
  have e1 := hB5.cell (i := 1) rfl
  have e2 := hB5.cell (i := 2) rfl
  have e3 := hB5.cell (i := 3) rfl
  have f0 := HB25.out.cell (i := 0) rfl
  have f1 := HB25.out.cell (i := 1) rfl
  have f2 := HB25.out.cell (i := 2) rfl
  have f3 := HB25.out.cell (i := 3) rfl
  have r0 := HB25.out.free 0
  have r1 := HB25.out.free 1
  have r2 := HB25.out.free 2
  have r3 := HB25.out.free 3
  have p0 := HB35.out.cell (i := 0) rfl
  have p1 := HB35.out.cell (i := 1) rfl
  have p2 := HB35.out.cell (i := 2) rfl
  have p3 := HB35.out.cell (i := 3) rfl
  have t0 := HB35.out.free 0
  have t1 := HB35.out.free 1
  have t2 := HB35.out.free 2
  have t3 := HB35.out.free 3
  go_region
  obtain ⟨k1, k2, k3⟩ := set44 HB25.out HB35.out (by omega) HM5.out (.int .u8 1) (.string ky) (.string vl) (.int .u64 0) (by omega) (by omega)
  have HL1 := Lib.hid (load_rup k1)
  have HL2 := Lib.hid (load_up12 k2)
  have HMM := Lib.hid k3
  clear k1 k2 k3 e0 e1 e2 e3 f0 f1 f2 f3 r0 r1 r2 r3 p0 p1 p2 p3 t0 t1 t2 t3
  go_wp2_with fail
  refine bodyPost_ret (results_cc rfl rfl rfl HL1.out HL2.out) rfl ?_
  exact ⟨⟨1, ky, vl, 0⟩, ⟨1, ky, vl, 0⟩, rfl, HMM.out⟩
end Go.Proofs.Ytahaecieklfhkaa
