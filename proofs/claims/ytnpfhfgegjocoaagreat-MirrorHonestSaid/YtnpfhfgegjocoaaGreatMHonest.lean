/- MirrorHonest: whatever both copies are overwritten by, and whichever bytes are garbled, the law answers true. No condition but the form's own. -/
import Derived.Test.YtnpfhfgegjocoaaGreatMK
import Derived.Test.YtnpfhfgegjocoaaGreatMI
import Derived.Deep.RegionHeld3
import Derived.Deep.CutRange
import Derived.Outline
namespace Go.Proofs.YtnpfhfgegjocoaaGreat
open Go.ChangeShapes Go.WideShapes Go.ChangeAt Go.RowKit

theorem h8Full {W : World} (s : ByteArray) (hs : s.size ≤ 140737488351232) :
    Calls Tryz.prog 32 #[.string s] W fun e w' => ∃ z, e = .returned (.string z) ∧ z.size = 128 ∧ Hid (Mods [] W w') := by
  go_enter Tryz.func32, Tryz.ntmps32
  go_wp2_with (go_at_call 44; refine repeat42.mono ?_; rintro e w1 ⟨z, rfl, HZ, hz, hm1⟩; have HM1 := Lib.hid hm1; clear hm1)
  have hx := full_eq s z HZ.out
  rw [hx]
  go_ret
  exact ⟨fullB s, rfl, fullB_size s, HM1⟩
theorem index2_0 (a b : ByteArray) (w : World) : (Instr.index 63 (.agg #[.string a, .string b]) (.int .i64 0)).run Tryz.prog w = .ok (.string a) w := by kernel_rfl
theorem index2_1 (a b : ByteArray) (w : World) : (Instr.index 63 (.agg #[.string a, .string b]) (.int .i64 1)).run Tryz.prog w = .ok (.string b) w := by kernel_rfl
theorem load_arr4u {w : World} {b : Nat} {a0 a1 a2 a3 : Value} (h : Blk w b 47 [a0, a1, a2, a3]) : (loadVar 47 ⟨b, 0, none⟩).run Tryz.prog w = .ok (.agg #[a0, a1, a2, a3]) w := by
  have c0 := h.cell (i := 0) (v := a0) rfl
  have c1 := h.cell (i := 1) (v := a1) rfl
  have c2 := h.cell (i := 2) (v := a2) rfl
  have c3 := h.cell (i := 3) (v := a3) rfl
  go_simp
/-- The law's state: what both sides read. -/
structure HoIn (W w : World) (x : Nat → Nat) (b p db tk pb cb gb : Nat) (M : Mi) (C : Case8) (q : PtrE) (j : Nat) : Prop where
  own : OwnM W [db, tk, pb, cb, gb] w b p x M
  gm : Gm 14 128 6 j M
  sound : Sound M.P
  still : Still 14 6 M.P
  reps : M.reps = 0
  sum : Blk w tk 172 sumRow
  dv : Blk w db 50 [.pointer (some ⟨x 0, 0, none⟩), .pointer (some ⟨x 1, 0, none⟩)]
  ptr : Blk w pb 58 [.int .i64 q.addr, .int .u64 (q.gen : Nat), .int .u32 (q.sum : Nat)]
  box : Blk w cb 49 (ccells8 C)
  gar : Blk w gb 47 [.int .u16 (C.g0 : Nat), .int .u16 (C.g1 : Nat), .int .u16 (C.g2 : Nat), .int .u16 (C.g3 : Nat)]
section
variable {W w w' : World} {x : Nat → Nat} {b p db tk pb cb gb : Nat} {M M' : Mi} {C : Case8} {q : PtrE} {j j' : Nat}
theorem HoIn.to (h : HoIn W w x b p db tk pb cb gb M C q j) (ho : OwnM W [db, tk, pb, cb, gb] w' b p x M') (hm : Minds [db, tk, pb, cb, gb] w w') (hg : Gm 14 128 6 j' M') (hs : Sound M'.P) (ht : Still 14 6 M'.P) (hr : M'.reps = 0) :
    HoIn W w' x b p db tk pb cb gb M' C q j' :=
  ⟨ho, hg, hs, ht, hr, hm.blk h.sum (by simp), hm.blk h.dv (by simp), hm.blk h.ptr (by simp), hm.blk h.box (by simp), hm.blk h.gar (by simp)⟩
theorem HoIn.keep (h : HoIn W w x b p db tk pb cb gb M C q j) (hm : Mods [] w w') : HoIn W w' x b p db tk pb cb gb M C q j :=
  h.to (h.own.still hm) (Minds.of hm) h.gm h.sound h.still h.reps
/-- The image is written to both sides. -/
theorem hoStart {X t : ByteArray} {g : Nat} (h : HoIn W w x b p db tk pb cb gb M C q j) (hj : j ≤ 1000) (hI : ImgOf X q 128 5 g t) :
    Calls Tryz.prog 29 #[.pointer (some ⟨b, 0, none⟩), .int .i64 5, .string X] w fun e w' => ∃ M', e = .returned (.int .i64 0) ∧ Hid (HoIn W w' x b p db tk pb cb gb M' C q (j + 2)) ∧ Hid (∀ d, d < 2 → ∃ Y, M'.P.read d ((5 : Nat) : Int) = (Y, 0)) := by
  obtain ⟨M1, e1, g1, n1, r1, t1, x1, _, _⟩ := h.gm.write_ok h.sound (i := 5) (by decide) hI.size
  refine (show Calls Tryz.prog 29 #[.pointer (some ⟨b, 0, none⟩), .int .i64 5, .string X] w _ from oWrite h.own h.gm.fine (by omega) (i := 5) (by decide) hI.size).mono fun e w' ⟨h1, h2, h3⟩ => ?_
  rw [e1] at h1 h2
  exact ⟨M1, h1, Lib.hid (h.to h2.out h3.out g1 n1 (fun s hs => by rw [t1]; exact h.still s hs) (r1.trans h.reps)), Lib.hid (fun d hd => ⟨X, x1 d hd⟩)⟩
theorem hoFlush (h : HoIn W w x b p db tk pb cb gb M C q j) (hj : j ≤ 1000) (hR : ∀ d, d < 2 → ∃ Y, M.P.read d ((5 : Nat) : Int) = (Y, 0)) :
    Calls Tryz.prog 30 #[.pointer (some ⟨b, 0, none⟩)] w fun e w' => ∃ M', e = .returned (.int .i64 0) ∧ Hid (HoIn W w' x b p db tk pb cb gb M' C q j) ∧ Hid (∀ d, d < 2 → ∃ Y, M'.P.read d ((5 : Nat) : Int) = (Y, 0)) := by
  obtain ⟨M2, e2, g2, a2, r2, _, t2, o2, _⟩ := h.gm.flush
  refine (oFlush h.own h.gm.fine (by omega)).mono fun e w' ⟨h1, h2, h3⟩ => ?_
  rw [e2] at h1 h2
  refine ⟨M2, h1, Lib.hid (h.to h2.out h3.out g2 (h.sound.alike a2) (fun s hs => by rw [t2]; exact h.still s hs) (r2.trans h.reps)), Lib.hid (fun d hd => ?_)⟩
  obtain ⟨Y, hY⟩ := hR d hd
  exact ⟨Y, (o2 d 5 hd (by decide)).trans hY⟩
/-- A side is overwritten. -/
theorem hoWrite (h : HoIn W w x b p db tk pb cb gb M C q j) (hj : j ≤ 1000) {s : Nat} (hs : s < 2) {y : ByteArray} (hy : y.size = 128) (hR : ∀ d, d < 2 → ∃ Y, M.P.read d ((5 : Nat) : Int) = (Y, 0)) :
    Calls Tryz.prog 31 #[.pointer (some ⟨x s, 0, none⟩), .int .i64 9, .string y] w fun e w' => ∃ M', e = .returned (.int .i64 0) ∧ Hid (HoIn W w' x b p db tk pb cb gb M' C q (j + 1)) ∧ Hid (∀ d, d < 2 → ∃ Y, M'.P.read d ((5 : Nat) : Int) = (Y, 0)) := by
  obtain ⟨D', e1, g1, t1, n1, o1, r1⟩ := h.gm.dwrite h.still (i := 5) (h.sound s hs 9 (by decide)) hs (by decide) hy
  refine (show Calls Tryz.prog 31 #[.pointer (some ⟨x s, 0, none⟩), .int .i64 9, .string y] w _ from oDWrite h.own h.gm.fine (by omega) hs ((5 + 4 : Nat) : Int) y).mono fun e w' ⟨h1, h2, h3⟩ => ?_
  rw [e1] at h1 h2
  refine ⟨_, h1, Lib.hid (h.to h2.out h3.out g1 (n1 h.sound) t1 h.reps), Lib.hid (fun d hd => ?_)⟩
  by_cases e : d = s
  · subst e; exact ⟨y, r1⟩
  · obtain ⟨Y, hY⟩ := hR d hd
    exact ⟨Y, (o1 d 5 hd (by decide) (.inl e)).trans hY⟩
/-- A side is garbled. -/
theorem hoGarble (h : HoIn W w x b p db tk pb cb gb M C q j) (hj : j ≤ 1000) {s : Nat} (hs : s < 2) (a : Nat) (y : UInt8) (hR : ∀ d, d < 2 → ∃ Y, M.P.read d ((5 : Nat) : Int) = (Y, 0)) :
    Calls Tryz.prog 33 #[.pointer (some ⟨x s, 0, none⟩), .int .i64 9, .int .i64 (a : Nat), .int .u8 (y.toNat : Nat)] w fun e w' => ∃ M', e = .returned (.tuple #[]) ∧ Hid (HoIn W w' x b p db tk pb cb gb M' C q j) ∧ Hid (∀ d, d < 2 → ∃ Y, M'.P.read d ((5 : Nat) : Int) = (Y, 0)) := by
  obtain ⟨g1, t1, n1, o1, r1⟩ := h.gm.garble h.still hs (i := 5) (by decide) (a % 128) y
  refine (show Calls Tryz.prog 33 #[.pointer (some ⟨x s, 0, none⟩), .int .i64 9, .int .i64 (a : Nat), .int .u8 (y.toNat : Nat)] w _ from oGarble h.own h.gm.fine (by omega) hs (k := 5 + 4) (h.gm.sec h.still hs (by decide)) a y).mono fun e w' ⟨h1, h2, h3⟩ => ?_
  refine ⟨_, h1, Lib.hid (h.to h2.out h3.out g1 (n1 h.sound) t1 h.reps), Lib.hid (fun d hd => ?_)⟩
  by_cases e : d = s
  · subst e
    obtain ⟨Y, hY⟩ := hR d hd
    exact ⟨_, r1 Y hY⟩
  · obtain ⟨Y, hY⟩ := hR d hd
    exact ⟨Y, (o1 d 5 hd (by decide) (.inl e)).trans hY⟩
end
set_option maxRecDepth 100000 in
set_option maxHeartbeats 12800000 in
theorem mirrorHonest_walk (C : Case8) (hC : C.Ok) (W : World) : Calls Tryz.prog 4 #[.agg (ccells8 C).toArray] W fun e w' => e = .returned (.bool true) ∧ Mods [] W w' := by
  obtain ⟨w0, hw0⟩ : ∃ w0, W.alloc (.cells (ccells8 C).toArray 49) = w0 := ⟨_, rfl⟩
  obtain ⟨cb, hcb⟩ : ∃ cb, W.heap.size = cb := ⟨_, rfl⟩
  have hb0 : Blk w0 cb 49 (ccells8 C) := by rw [← hw0, ← hcb]; exact Blk.new W 49 _
  have hm0 : Mods [] W w0 := by rw [← hw0]; exact (Mods.refl _ _).alloc _
  have HB0 := Lib.hid (And.intro hb0 (And.intro hm0 hC))
  have a0 := hb0.cell (i := 0) rfl
  have a3 := hb0.cell (i := 3) rfl
  have a4 := hb0.cell (i := 4) rfl
  have a5 := hb0.cell (i := 5) rfl
  have a6 := hb0.cell (i := 6) rfl
  have hbz := ((hb0.alloc (.cells #[.int .u16 0, .int .u16 0, .int .u16 0, .int .u16 0] 47))).drewN 1
  have b0 : (w0.alloc (.cells #[.int .u16 0, .int .u16 0, .int .u16 0, .int .u16 0] 47)).drew.cell? ⟨cb, 0, none⟩ = some (.string C.s) := hbz.cell (i := 0) rfl
  have b3 : (w0.alloc (.cells #[.int .u16 0, .int .u16 0, .int .u16 0, .int .u16 0] 47)).drew.cell? ⟨cb, 3, none⟩ = some (.int .u16 (C.g0 : Nat)) := hbz.cell (i := 3) rfl
  have b4 : (w0.alloc (.cells #[.int .u16 0, .int .u16 0, .int .u16 0, .int .u16 0] 47)).drew.cell? ⟨cb, 4, none⟩ = some (.int .u16 (C.g1 : Nat)) := hbz.cell (i := 4) rfl
  have b5 : (w0.alloc (.cells #[.int .u16 0, .int .u16 0, .int .u16 0, .int .u16 0] 47)).drew.cell? ⟨cb, 5, none⟩ = some (.int .u16 (C.g2 : Nat)) := hbz.cell (i := 5) rfl
  have b6 : (w0.alloc (.cells #[.int .u16 0, .int .u16 0, .int .u16 0, .int .u16 0] 47)).drew.cell? ⟨cb, 6, none⟩ = some (.int .u16 (C.g3 : Nat)) := hbz.cell (i := 6) rfl
  have hne : ¬ cb = w0.heap.size := by have := hb0.lt; omega
  have hne2 : ¬ w0.heap.size = cb := by have := hb0.lt; omega
  clear hb0 hm0 hC hbz
  unfold ccells8 at hw0 ⊢
  go_enter Tryz.func4, Tryz.ntmps4
  go_wp2_with fail
  go_region
  obtain ⟨U, hU⟩ : ∃ U, (w0.alloc (.cells #[.int .u16 (C.g0 : Nat), .int .u16 (C.g1 : Nat), .int .u16 (C.g2 : Nat), .int .u16 (C.g3 : Nat)] 47)).drew = U := ⟨_, rfl⟩
  obtain ⟨gb, hgb⟩ : ∃ gb, w0.heap.size = gb := ⟨_, rfl⟩
  have hb1 : Blk U gb 47 [.int .u16 (C.g0 : Nat), .int .u16 (C.g1 : Nat), .int .u16 (C.g2 : Nat), .int .u16 (C.g3 : Nat)] := by rw [← hU, ← hgb]; exact (Blk.new w0 47 _).drewN 1
  have hm1 : Mods [] w0 U := by rw [← hU]; exact ((Mods.refl _ _).alloc _).drew
  have HU := Lib.hid (And.intro hb1 (And.intro (HB0.out.1.keep hm1 (by simp)) (HB0.out.2.1.trans hm1 (by simp))))
  rw [hU, hgb]
  have HC := Lib.hid HB0.out.2.2
  clear hU hgb hb1 hm1 HB0 a0 a3 a4 a5 a6 b0 b3 b4 b5 b6 hne hne2 hw0 hcb
  obtain ⟨m, hm⟩ : ∃ m : Nat, min (C.s.size : Int) 100 = (m : Int) := ⟨min C.s.size 100, by omega⟩
  have hm100 : m ≤ 100 := by omega
  have hms : m ≤ C.s.size := by omega
  go_wp2_with fail
  refine q8Fresh.mono ?_
  rintro e w1 ⟨x, p, b, M, rfl, HO, HG⟩
  go_wp2_with fail
  obtain ⟨w2, hw2⟩ : ∃ w2, w1.alloc (.cells #[.pointer (some ⟨x 0, 0, none⟩), .pointer (some ⟨x 1, 0, none⟩)] 50) = w2 := ⟨_, rfl⟩
  obtain ⟨db, hdb⟩ : ∃ db, w1.heap.size = db := ⟨_, rfl⟩
  have hb2 : Blk w2 db 50 [.pointer (some ⟨x 0, 0, none⟩), .pointer (some ⟨x 1, 0, none⟩)] := by rw [← hw2, ← hdb]; exact Blk.new w1 50 _
  have hm2 : Mods [] w1 w2 := by rw [← hw2]; exact (Mods.refl _ _).alloc _
  have HO2 : Hid (OwnM U [db] w2 b p x M ∧ Blk w2 db 50 [.pointer (some ⟨x 0, 0, none⟩), .pointer (some ⟨x 1, 0, none⟩)]) := Lib.hid ⟨HO.out.protect hm2 (fun g hg => .inr (by have := hb2.lt; have := List.mem_singleton.1 hg; omega)), hb2⟩
  rw [hw2, hdb]
  clear hw2 hdb hb2 hm2 HO
  refine q8Wakes.mono ?_
  rintro e w3 ⟨rfl, HM3⟩
  go_wp2_with fail
  refine (sumMake_any _).mono ?_
  rintro e w4 ⟨tk, rfl, hT, hm4, htk⟩
  have HT := Lib.hid (And.intro hT (And.intro hm4 htk))
  clear hT hm4 htk
  go_wp2_with fail
  refine (q8SealedI HT.out.1 5 7 (by decide) (by decide) (C.s.extract 0 m) (by rw [ByteArray.size_extract]; omega)).mono ?_
  rintro e w5 ⟨X, qa, qg, qs, rfl, HI, HM5⟩
  go_wp2_with fail
  obtain ⟨w6, hw6⟩ : ∃ w6, w5.alloc (.cells #[.int .i64 qa, .int .u64 (qg : Nat), .int .u32 (qs : Nat)] 58) = w6 := ⟨_, rfl⟩
  obtain ⟨pb, hpb⟩ : ∃ pb, w5.heap.size = pb := ⟨_, rfl⟩
  have hb6 : Blk w6 pb 58 [.int .i64 qa, .int .u64 (qg : Nat), .int .u32 (qs : Nat)] := by rw [← hw6, ← hpb]; exact Blk.new w5 58 _
  have hm6 : Mods [] w5 w6 := by rw [← hw6]; exact (Mods.refl _ _).alloc _
  have HH6 : Hid (HoIn U w6 x b p db tk pb cb gb M C ⟨qa, qg, qs⟩ 0) := by
    have hm36 := (((HM3.out.trans HT.out.2.1 (by simp)).trans HM5.out (by simp)).trans hm6 (by simp))
    have hmU := HO2.out.1.mods
    have t6 := (HT.out.1.keep HM5.out (by simp)).keep hm6 (by simp)
    have c1 := HU.out.1.lt
    have c2 := HU.out.2.1.lt
    have c3 := HM3.out.size
    have c4 := HT.out.2.2
    have c5 := HM5.out.size
    have c6 := HT.out.2.1.size
    refine Lib.hid ⟨((HO2.out.1.protect (G := [db, tk, pb]) hm36 (fun g hg => ?_)).older (fun g hg => ?_)), HG.out.gm, HG.out.sound, HG.out.tab, HG.out.reps, t6, HO2.out.2.keep hm36 (by simp), hb6, (HU.out.2.1.keep hmU (by simp)).keep hm36 (by simp), (HU.out.1.keep hmU (by simp)).keep hm36 (by simp)⟩
    · rcases List.mem_cons.1 hg with rfl | hg
      · exact .inl (by simp)
      · rcases List.mem_cons.1 hg with rfl | hg
        · exact .inr ⟨by omega, t6.lt⟩
        · rw [List.mem_singleton.1 hg]; exact .inr ⟨by omega, hb6.lt⟩
    · simp only [List.mem_cons, List.not_mem_nil, or_false] at hg
      rcases hg with rfl | rfl | rfl | rfl | rfl
      · exact .inl (by simp)
      · exact .inl (by simp)
      · exact .inl (by simp)
      · exact .inr c2
      · exact .inr c1
  rw [hw6, hpb]
  clear hw6 hpb hb6 hm6 HM3 HT HM5 HO2
  have cW := Lib.hid (hoStart HH6.out (by omega) HI.out)
  have cF := Lib.hid (fun (w : World) (M : Mi) (h : HoIn U w x b p db tk pb cb gb M C ⟨qa, qg, qs⟩ 2) (hR : ∀ d, d < 2 → ∃ Y, M.P.read d ((5 : Nat) : Int) = (Y, 0)) => hoFlush h (by omega) hR)
  refine cW.out.mono ?_
  rintro e w7 ⟨M1, rfl, HH7, HR7⟩
  go_wp2_with (go_at_call 30; refine (cF.out _ _ HH7.out HR7.out).mono ?_; rintro e w8 ⟨M2, rfl, HH8, HR8⟩; have y1 := HH8.out.box.cell (i := 1) rfl; have y2 := HH8.out.box.cell (i := 2) rfl)
  clear cW cF HH6 HH7 HR7 y1 y2 HG
  have hix0 := fun (w : World) => index2_0 C.a C.b w
  have hix1 := fun (w : World) => index2_1 C.a C.b w
  go_loopw [60] (fun iv wr => ∃ (s : Nat) (M : Mi), s ≤ 2 ∧ iv = .int .i64 (s : Nat) ∧ HoIn U wr x b p db tk pb cb gb M C ⟨qa, qg, qs⟩ (2 + s) ∧ ∀ d, d < 2 → ∃ Y, M.P.read d ((5 : Nat) : Int) = (Y, 0)) (fun iv _ => 2 - (intOf iv).toNat)
  case atStart => exact ⟨0, M2, by omega, rfl, HH8.out, HR8.out⟩
  case round =>
    clear HH8 HR8
    obtain ⟨s, M3, hs, rfl, hH, hR⟩ := hrel
    have HH := Lib.hid hH
    have HR := Lib.hid hR
    clear hH hR
    by_cases hlt : s < 2
    · rcases two_cases hlt with rfl | rfl
      · by_cases hx : C.a.toList = []
        · as_aux_lemma =>
          have hx2 : (C.a.toList == []) = true := by rw [hx]; rfl
          go_wp2_with fail
          have z0 := HH.out.dv.cell (i := 0) rfl
          have g0 := HH.out.gar.cell (i := 0) rfl
          have g1 := HH.out.gar.cell (i := 1) rfl
          have cG := Lib.hid (hoGarble (HH.out.keep ((Mods.refl [] wr).drew)) (by omega) (s := 0) (by decide) C.g0 (UInt8.ofNat C.g1) HR.out)
          have hy8 : IntKind.u8.wrap (C.g1 : Int) = ((UInt8.ofNat C.g1).toNat : Int) := by rw [IntKind.wrap_u8]; simp
          have hyi : IntKind.i64.wrap (C.g0 : Int) = (C.g0 : Int) := by have := HC.out.g0; rw [IntKind.wrap_i64]; omega
          have k1 : IntKind.i64.wrap (2 * 0) = 0 := by decide
          have k2 : IntKind.i64.wrap (0 + 1) = 1 := by decide
          have k3 : IntKind.i64.wrap 0 = 0 := by decide
          have k4 : IntKind.i64.wrap 1 = 1 := by decide
          go_region_held3 (fun w' => w'.cell? ⟨db, 0, none⟩ = some (.pointer (some ⟨x 0, 0, none⟩)) ∧ w'.cell? ⟨gb, 0, none⟩ = some (.int .u16 (C.g0 : Nat)) ∧ w'.cell? ⟨gb, 1, none⟩ = some (.int .u16 (C.g1 : Nat)))
            (first | go_keep | exact HD.out | fail)
            ((go_at_call 33; refine cG.out.mono ?_; rintro e w13 ⟨M5, rfl, HH13, HR13⟩; have HD := Lib.hid (And.intro (HH13.out.dv.cell (i := 0) rfl) (And.intro (HH13.out.gar.cell (i := 0) rfl) (HH13.out.gar.cell (i := 1) rfl)))))
          go_wp2_with fail
          go_roundw
          case rel => exact ⟨1, M5, by omega, by go_num, ⟨HH13.out.own, HH13.out.gm.mono (by omega), HH13.out.sound, HH13.out.still, HH13.out.reps, HH13.out.sum, HH13.out.dv, HH13.out.ptr, HH13.out.box, HH13.out.gar⟩, HR13.out⟩
          case measure => simp [intOf]
        · as_aux_lemma =>
          have hx2 : (C.a.toList == []) = false := beq_eq_false_iff_ne.2 hx
          have z0 := HH.out.dv.cell (i := 0) rfl
          have cFu := Lib.hid (fun w => h8Full (W := w) C.a HC.out.a)
          have cDW := Lib.hid (fun (w : World) (y : ByteArray) (hm : Mods [] wr w) (hy : y.size = 128) => hoWrite (HH.out.keep hm) (by omega) (s := 0) (by decide) hy HR.out)
          go_wp2_with fail
          go_region_held3 (fun w' => w'.cell? ⟨db, 0, none⟩ = some (.pointer (some ⟨x 0, 0, none⟩)))
            (first | go_keep | exact HE2.out | exact HE1.out | fail)
            ((first | (go_at_call 31; have zz := HE1; clear zz; refine (cDW.out _ _ HM11.out hy).mono ?_; rintro e w12 ⟨M4, rfl, HH12, HR12⟩; have HE2 := Lib.hid (HH12.out.dv.cell (i := 0) rfl)) | (go_at_call 32; refine (cFu.out _).mono ?_; rintro e w11 ⟨y, rfl, hy, hm11⟩; have HM11 := Lib.hid (((Mods.refl [] wr).drew).trans hm11.out (by simp)); have HE1 := Lib.hid ((HH.out.keep HM11.out).dv.cell (i := 0) rfl)) | fail))
          clear z0
          go_wp2_with fail
          have z0 := HH12.out.dv.cell (i := 0) rfl
          have g0 := HH12.out.gar.cell (i := 0) rfl
          have g1 := HH12.out.gar.cell (i := 1) rfl
          have cG := Lib.hid (hoGarble (HH12.out.keep ((Mods.refl [] w12).drew)) (by omega) (s := 0) (by decide) C.g0 (UInt8.ofNat C.g1) HR12.out)
          have hy8 : IntKind.u8.wrap (C.g1 : Int) = ((UInt8.ofNat C.g1).toNat : Int) := by rw [IntKind.wrap_u8]; simp
          have hyi : IntKind.i64.wrap (C.g0 : Int) = (C.g0 : Int) := by have := HC.out.g0; rw [IntKind.wrap_i64]; omega
          have k1 : IntKind.i64.wrap (2 * 0) = 0 := by decide
          have k2 : IntKind.i64.wrap (0 + 1) = 1 := by decide
          have k3 : IntKind.i64.wrap 0 = 0 := by decide
          have k4 : IntKind.i64.wrap 1 = 1 := by decide
          go_region_held3 (fun w' => w'.cell? ⟨db, 0, none⟩ = some (.pointer (some ⟨x 0, 0, none⟩)) ∧ w'.cell? ⟨gb, 0, none⟩ = some (.int .u16 (C.g0 : Nat)) ∧ w'.cell? ⟨gb, 1, none⟩ = some (.int .u16 (C.g1 : Nat)))
            (first | go_keep | exact HD.out | fail)
            ((go_at_call 33; refine cG.out.mono ?_; rintro e w13 ⟨M5, rfl, HH13, HR13⟩; have HD := Lib.hid (And.intro (HH13.out.dv.cell (i := 0) rfl) (And.intro (HH13.out.gar.cell (i := 0) rfl) (HH13.out.gar.cell (i := 1) rfl)))))
          go_wp2_with fail
          go_roundw
          case rel => exact ⟨1, M5, by omega, by go_num, ⟨HH13.out.own, HH13.out.gm.mono (by omega), HH13.out.sound, HH13.out.still, HH13.out.reps, HH13.out.sum, HH13.out.dv, HH13.out.ptr, HH13.out.box, HH13.out.gar⟩, HR13.out⟩
          case measure => simp [intOf]
      · by_cases hx : C.b.toList = []
        · as_aux_lemma =>
          have hx2 : (C.b.toList == []) = true := by rw [hx]; rfl
          go_wp2_with fail
          have z0 := HH.out.dv.cell (i := 1) rfl
          have g0 := HH.out.gar.cell (i := 2) rfl
          have g1 := HH.out.gar.cell (i := 3) rfl
          have cG := Lib.hid (hoGarble (HH.out.keep ((Mods.refl [] wr).drew)) (by omega) (s := 1) (by decide) C.g2 (UInt8.ofNat C.g3) HR.out)
          have hy8 : IntKind.u8.wrap (C.g3 : Int) = ((UInt8.ofNat C.g3).toNat : Int) := by rw [IntKind.wrap_u8]; simp
          have hyi : IntKind.i64.wrap (C.g2 : Int) = (C.g2 : Int) := by have := HC.out.g2; rw [IntKind.wrap_i64]; omega
          have k1 : IntKind.i64.wrap (2 * 1) = 2 := by decide
          have k2 : IntKind.i64.wrap (2 + 1) = 3 := by decide
          have k3 : IntKind.i64.wrap 2 = 2 := by decide
          have k4 : IntKind.i64.wrap 3 = 3 := by decide
          go_region_held3 (fun w' => w'.cell? ⟨db, 1, none⟩ = some (.pointer (some ⟨x 1, 0, none⟩)) ∧ w'.cell? ⟨gb, 2, none⟩ = some (.int .u16 (C.g2 : Nat)) ∧ w'.cell? ⟨gb, 3, none⟩ = some (.int .u16 (C.g3 : Nat)))
            (first | go_keep | exact HD.out | fail)
            ((go_at_call 33; refine cG.out.mono ?_; rintro e w13 ⟨M5, rfl, HH13, HR13⟩; have HD := Lib.hid (And.intro (HH13.out.dv.cell (i := 1) rfl) (And.intro (HH13.out.gar.cell (i := 2) rfl) (HH13.out.gar.cell (i := 3) rfl)))))
          go_wp2_with fail
          go_roundw
          case rel => exact ⟨2, M5, by omega, by go_num, ⟨HH13.out.own, HH13.out.gm.mono (by omega), HH13.out.sound, HH13.out.still, HH13.out.reps, HH13.out.sum, HH13.out.dv, HH13.out.ptr, HH13.out.box, HH13.out.gar⟩, HR13.out⟩
          case measure => simp [intOf]
        · as_aux_lemma =>
          have hx2 : (C.b.toList == []) = false := beq_eq_false_iff_ne.2 hx
          have z0 := HH.out.dv.cell (i := 1) rfl
          have cFu := Lib.hid (fun w => h8Full (W := w) C.b HC.out.b)
          have cDW := Lib.hid (fun (w : World) (y : ByteArray) (hm : Mods [] wr w) (hy : y.size = 128) => hoWrite (HH.out.keep hm) (by omega) (s := 1) (by decide) hy HR.out)
          go_wp2_with fail
          go_region_held3 (fun w' => w'.cell? ⟨db, 1, none⟩ = some (.pointer (some ⟨x 1, 0, none⟩)))
            (first | go_keep | exact HE2.out | exact HE1.out | fail)
            ((first | (go_at_call 31; have zz := HE1; clear zz; refine (cDW.out _ _ HM11.out hy).mono ?_; rintro e w12 ⟨M4, rfl, HH12, HR12⟩; have HE2 := Lib.hid (HH12.out.dv.cell (i := 1) rfl)) | (go_at_call 32; refine (cFu.out _).mono ?_; rintro e w11 ⟨y, rfl, hy, hm11⟩; have HM11 := Lib.hid (((Mods.refl [] wr).drew).trans hm11.out (by simp)); have HE1 := Lib.hid ((HH.out.keep HM11.out).dv.cell (i := 1) rfl)) | fail))
          clear z0
          go_wp2_with fail
          have z0 := HH12.out.dv.cell (i := 1) rfl
          have g0 := HH12.out.gar.cell (i := 2) rfl
          have g1 := HH12.out.gar.cell (i := 3) rfl
          have cG := Lib.hid (hoGarble (HH12.out.keep ((Mods.refl [] w12).drew)) (by omega) (s := 1) (by decide) C.g2 (UInt8.ofNat C.g3) HR12.out)
          have hy8 : IntKind.u8.wrap (C.g3 : Int) = ((UInt8.ofNat C.g3).toNat : Int) := by rw [IntKind.wrap_u8]; simp
          have hyi : IntKind.i64.wrap (C.g2 : Int) = (C.g2 : Int) := by have := HC.out.g2; rw [IntKind.wrap_i64]; omega
          have k1 : IntKind.i64.wrap (2 * 1) = 2 := by decide
          have k2 : IntKind.i64.wrap (2 + 1) = 3 := by decide
          have k3 : IntKind.i64.wrap 2 = 2 := by decide
          have k4 : IntKind.i64.wrap 3 = 3 := by decide
          go_region_held3 (fun w' => w'.cell? ⟨db, 1, none⟩ = some (.pointer (some ⟨x 1, 0, none⟩)) ∧ w'.cell? ⟨gb, 2, none⟩ = some (.int .u16 (C.g2 : Nat)) ∧ w'.cell? ⟨gb, 3, none⟩ = some (.int .u16 (C.g3 : Nat)))
            (first | go_keep | exact HD.out | fail)
            ((go_at_call 33; refine cG.out.mono ?_; rintro e w13 ⟨M5, rfl, HH13, HR13⟩; have HD := Lib.hid (And.intro (HH13.out.dv.cell (i := 1) rfl) (And.intro (HH13.out.gar.cell (i := 2) rfl) (HH13.out.gar.cell (i := 3) rfl)))))
          go_wp2_with fail
          go_roundw
          case rel => exact ⟨2, M5, by omega, by go_num, ⟨HH13.out.own, HH13.out.gm.mono (by omega), HH13.out.sound, HH13.out.still, HH13.out.reps, HH13.out.sum, HH13.out.dv, HH13.out.ptr, HH13.out.box, HH13.out.gar⟩, HR13.out⟩
          case measure => simp [intOf]
    · obtain rfl : s = 2 := by omega
      obtain ⟨tx, htx⟩ : ∃ tx, C.s.extract 0 m = tx := ⟨_, rfl⟩
      have hhon := HH.out.gm.honest HH.out.sound HI.out (i := 5) (by decide) HR.out
      have z1 := HH.out.ptr.cell (i := 0) rfl
      have z2 := HH.out.ptr.cell (i := 1) rfl
      have z3 := HH.out.ptr.cell (i := 2) rfl
      have cR := Lib.hid (oRead HH.out.own HH.out.gm.fine (by decide) (by rw [HH.out.reps]; decide) ⟨qa, qg, qs⟩ (i := 5) (by decide) HI.out.addr)
      unfold ptrV at cR
      simp only at cR
      rw [htx] at hhon
      rcases hhon with ⟨v1, v2⟩ | ⟨k, pl, Y, Z, v1, g1, v2, hmt, hne⟩
      · rw [v1, v2] at cR
        simp only at cR
        clear v1 v2
        go_wp2_with (go_at_call 34; refine cR.out.mono ?_; rintro e w14 ⟨rfl, HO14, HK14⟩)
        go_ret
        exact ⟨rfl, HU.out.2.2.trans HO14.out.mods (by simp)⟩
      · rw [v1] at cR
        simp only at cR
        have HP := Lib.hid (And.intro hmt hne)
        have cI := Lib.hid (fun (w : World) (h : OwnM U [db, tk, pb, cb, gb] w b p x (M3.readM ⟨qa, qg, qs⟩ 5)) => show Calls Tryz.prog 35 #[.pointer (some ⟨b, 0, none⟩), .int .i64 5] w _ from oImages h g1.fine (by decide) (i := 5) (by decide))
        rw [v2] at cI
        generalize M3.readM ⟨qa, qg, qs⟩ 5 = M4 at *
        have cM := Lib.hid (fun (w : World) (h : Blk w tk 172 sumRow) => eMeets_any h ⟨qa, qg, qs⟩ Y)
        rw [hmt] at cM
        unfold ptrV at cM
        simp only at cM
        clear v1 v2 hmt hne g1
        generalize bA pl = G at *
        by_cases heq : G.toList = tx.toList
        · have heq2 : (G.toList == tx.toList) = true := by rw [heq]; simp
          go_wp2_with (go_at_call 34; refine cR.out.mono ?_; rintro e w14 ⟨rfl, HO14, HK14⟩)
          go_ret
          exact ⟨rfl, HU.out.2.2.trans HO14.out.mods (by simp)⟩
        · have heq2 : (G.toList == tx.toList) = false := beq_eq_false_iff_ne.2 heq
          have hYX : (Y.toList == X.toList) = false := beq_eq_false_iff_ne.2 (fun e => HP.out.2 (fun e2 => heq (by rw [e2])) (by rw [← bA_of Y, e, bA_of]))
          go_wp2_with (first | (go_at_call 35; refine (cI.out _ HO14.out).mono ?_; rintro e w15 ⟨IA, ik, il, rfl, HO15, HK15, HR15, HN15⟩) | (go_at_call 34; refine cR.out.mono ?_; rintro e w14 ⟨rfl, HO14, HK14⟩))
          obtain ⟨A2, cap2, hA2, hrw, _, hlen, _, _⟩ := row_of_owns HR15.out
          injection hA2 with hA2 hl2 hc2
          subst hA2
          have hil : il = 2 := by rw [← hlen]; rfl
          subst hil
          obtain ⟨ib, ioff, rfl, hc0⟩ := hrw.at (i := 0) (u := .string Y) rfl
          rw [Nat.add_zero] at hc0
          have hb15 := (HK14.out.trans HK15.out).blk HH.out.ptr (by simp)
          have ht15 := (HK14.out.trans HK15.out).blk HH.out.sum (by simp)
          have q1 := hb15.cell (i := 0) rfl
          have q2 := hb15.cell (i := 1) rfl
          have q3 := hb15.cell (i := 2) rfl
          refine wp_loop_rounds 1 ?_
          rw [rounds_succ]
          go_wp2_with (go_at_call 36; refine (cM.out _ ht15).mono ?_; rintro e w16 ⟨rfl, hm16⟩)
          go_ret
          exact ⟨rfl, (HU.out.2.2.trans HO15.out.mods (by simp)).trans hm16 (by simp)⟩
theorem readables_mirrorHonest : ∀ t ∈ (#[49] : Array TypeId).toList, Tryz.prog.readableRec t = true ∧ t < Tryz.prog.types.size := by
  intro t ht
  simp only [List.mem_cons, List.not_mem_nil, or_false] at ht
  rcases ht with rfl
  all_goals exact ⟨by kernel_rfl, of_decide_eq_true (by kernel_rfl)⟩

set_option maxRecDepth 100000 in
theorem mirrorHonest_contract (H : Type) (enc : TypeId × Value → H) (W : World) (base : Nat) (args : Array Value) (ds gs : List (DataW H)) (before : List MemPlace)
    (hval : ∀ (j : Nat) t v, Tryz.f4.params[j]? = some t → args[j]? = some v → Value.okWide Tryz.prog W .any base t v)
    (hW : DataW.Whole enc Tryz.prog Tryz.f4.params.toList Rows.mirrorHonestSpec.vars false W args.toList ds gs before)
    (hsz : (DataW.weightsEach Tryz.prog (Tryz.f4.params.toList ++ Rows.mirrorHonestSpec.plain.varTypes Tryz.prog) (ds ++ gs)).all (· ≤ reachBytes) = true) :
    Calls Tryz.prog 4 args W fun e W' => ∃ v, e = .returned v ∧ Rows.mirrorHonestSpec.post enc Tryz.prog Tryz.f4 false true false false W args v W' := by
  have hW' := hW
  obtain ⟨p, q, hA0, hV, he, hfz, hnd⟩ := hW
  have hA : DataW.TrodAll enc Tryz.prog W 0 (fun _ => true) true Tryz.f4.params.toList args.toList ds p := hA0
  rw [Tryz.params4] at hA hval hsz
  obtain ⟨v0, vs0, d0, ds0, p0, q0, hargs, rfl, rfl, h0, r0⟩ := trodAll_cons hA
  obtain ⟨rfl, rfl, rfl⟩ := trodAll_nil r0
  obtain rfl : args = #[v0] := by cases args; simp_all
  have hs_c : ∀ n ∈ d0.weights Tryz.prog 49, n ≤ reachBytes := fun n hn => by simpa using List.all_eq_true.1 hsz n (DataW.weights_mem_each (j := 0) (t := 49) (d := d0) rfl rfl n hn)
  obtain ⟨c, rfl, cOk⟩ := case8_open (hval 0 49 v0 rfl rfl) h0 hs_c
  refine (mirrorHonest_walk c cOk W).mono fun e W' ⟨he', hm⟩ => ?_
  subst he'
  exact ⟨_, rfl, post_law laidOut (by rw [Tryz.params4]; exact readables_mirrorHonest) (by rfl) Tryz.underlying4 rfl rfl hW' hm.below⟩

set_option maxRecDepth 100000 in
theorem mirrorHonest_lifted (os : Os) (started : os.Started) (H : Type) (enc : TypeId × Value → H) :
    ReturnsInHanded {} Tryz.checked os 4 .any (Rows.mirrorHonestSpec.pre6 enc Tryz.prog Tryz.f4 Rows.mirrorHonestRow.domain false) (Rows.mirrorHonestSpec.post enc Tryz.prog Tryz.f4 false true false false) := by
  refine returnsInHanded_of_change_sized (C := Tryz.checked) own started (by kernel_rfl) Tryz.func4
    (ChangeSpec.witness6 (enc := enc) (C := Tryz.checked) false ⟨#[], #[.agg #[.string ⟨#[]⟩, .string ⟨#[]⟩, .string ⟨#[]⟩, .int .u16 0, .int .u16 0, .int .u16 0, .int .u16 0]], []⟩ 8 (by kernel_rfl) (by kernel_rfl) (by kernel_rfl) (by kernel_rfl)) ?_
  intro W base args ds gs before hval hW _ hsz _
  exact mirrorHonest_contract H enc W base args ds gs before hval hW hsz

/-- The law. -/
theorem mirrorHonest_said : Rows.MirrorHonestSaid :=
  OpenClaim.holds_of_wide 4 Tryz.f4 rfl rfl rfl rfl rfl rfl rfl ⟨rfl, rfl, rfl, rfl, rfl⟩ rfl rfl rfl rfl rfl (by kernel_rfl) Tryz.func4 (by kernel_rfl)
    (of_decide_eq_true (by kernel_rfl)) (by unfold Func.isWrapper; first | (rw [if_pos (by decide +kernel)]; kernel_rfl) | (rw [if_neg (by decide +kernel)]; exact ⟨rfl, rfl⟩))
    (fun os started H enc _ => mirrorHonest_lifted os started H enc)
end Go.Proofs.YtnpfhfgegjocoaaGreat
