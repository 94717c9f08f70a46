/- MirrorWhole: the law, of its walk. No condition but the form's own. -/
import Derived.Test.YtnpfhfgegjocoaaGreatMW
import Derived.Test.YtnpfhfgegjocoaaGreatMI
import Derived.Test.YtnpfhfgegjocoaaGreatMK
import Derived.Deep.RegionHeld3
import Derived.Deep.CutRange
import Derived.Outline
import Derived.Test.YtnpfhfgegjocoaaGreatMG
/- MirrorWhole: whatever is written, and whichever copies are garbled, the law answers true. No condition but the form's own. -/
namespace Go.Proofs.YtnpfhfgegjocoaaGreat
open Go.ChangeShapes Go.WideShapes Go.ChangeAt Go.RowKit

/-- The law's state: what both sides read. -/
structure WoIn (W w : World) (x : Nat → Nat) (b p db pb wb : Nat) (M : Mi) (q : PtrE) (u0 u1 : Bool) (j : Nat) : Prop where
  own : OwnM W [db, pb, wb] w b p x M
  gm : Gm 14 128 6 j M
  sound : Sound M.P
  still : Still 14 6 M.P
  reps : M.reps = 0
  dv : Blk w db 50 [.pointer (some ⟨x 0, 0, none⟩), .pointer (some ⟨x 1, 0, none⟩)]
  ptr : Blk w pb 58 [.int .i64 q.addr, .int .u64 (q.gen : Nat), .int .u32 (q.sum : Nat)]
  want : Blk w wb 73 [.bool u0, .bool u1]
  newb : W.heap.size ≤ wb ∧ db ≠ wb ∧ pb ≠ wb
section
variable {W w w' : World} {x : Nat → Nat} {b p db pb wb : Nat} {M M' : Mi} {q : PtrE} {u0 u1 g0 g1 : Bool} {j j' : Nat} {X Y t : ByteArray} {y : UInt8}
theorem woStart (hO : OwnM W [db, pb] w b p x M) (hG : Gfresh 14 128 6 M) (ht : Still 14 6 M.P) (hI : ImgOf X q 128 4 9 t) :
    Calls Tryz.prog 29 #[.pointer (some ⟨b, 0, none⟩), .int .i64 4, .string X] w fun e w' => ∃ M', e = .returned (.int .i64 0) ∧ Hid (OwnM W [db, pb] w' b p x M' ∧ Gm 14 128 6 2 M' ∧ Sound M'.P ∧ Still 14 6 M'.P ∧ M'.reps = 0 ∧ ∀ Y, Two M' X Y 4 false false) ∧ Hid (Minds [db, pb] w w') := by
  obtain ⟨M1, e1, g1, n1, r1, t1, x1, _, _⟩ := hG.gm.write_ok hG.sound (i := 4) (by decide) hI.size
  refine (show Calls Tryz.prog 29 #[.pointer (some ⟨b, 0, none⟩), .int .i64 4, .string X] w _ from oWrite hO hG.gm.fine (by omega) (i := 4) (by decide) hI.size).mono fun e w' ⟨h1, h2, h3⟩ => ?_
  rw [e1] at h1 h2
  exact ⟨M1, h1, Lib.hid ⟨h2.out, g1, n1, fun s hs => by rw [t1]; exact ht s hs, r1.trans hG.reps, fun Y => ⟨x1 0 (by decide), x1 1 (by decide)⟩⟩, h3⟩
theorem woFlush (hO : OwnM W [db, pb] w b p x M) (hg : Gm 14 128 6 2 M) (hn : Sound M.P) (ht : Still 14 6 M.P) (hr : M.reps = 0) (hx : ∀ Y, Two M X Y 4 false false) :
    Calls Tryz.prog 30 #[.pointer (some ⟨b, 0, none⟩)] w fun e w' => ∃ M', e = .returned (.int .i64 0) ∧ Hid (OwnM W [db, pb] w' b p x M' ∧ Gm 14 128 6 2 M' ∧ Sound M'.P ∧ Still 14 6 M'.P ∧ M'.reps = 0 ∧ ∀ Y, Two M' X Y 4 false false) ∧ Hid (Minds [db, pb] w w') := by
  obtain ⟨M2, e2, g2, a2, r2, _, t2, o2, _⟩ := hg.flush
  refine (oFlush hO hg.fine (by omega)).mono fun e w' ⟨h1, h2, h3⟩ => ?_
  rw [e2] at h1 h2
  exact ⟨M2, h1, Lib.hid ⟨h2.out, g2, hn.alike a2, fun s hs => by rw [t2]; exact ht s hs, r2.trans hr, fun Y => ⟨(o2 0 4 (by decide) (by decide)).trans (hx Y).1, (o2 1 4 (by decide) (by decide)).trans (hx Y).2⟩⟩, h3⟩
theorem WoIn.to (h : WoIn W w x b p db pb wb M q u0 u1 j) (ho : OwnM W [db, pb, wb] w' b p x M') (hm : Minds [db, pb, wb] w w') (hg : Gm 14 128 6 j' M') (hs : Sound M'.P) (ht : Still 14 6 M'.P) (hr : M'.reps = 0) :
    WoIn W w' x b p db pb wb M' q u0 u1 j' := ⟨ho, hg, hs, ht, hr, hm.blk h.dv (by simp), hm.blk h.ptr (by simp), hm.blk h.want (by simp), h.newb⟩
theorem woSet (h : WoIn W w x b p db pb wb M q u0 u1 j) (s : Nat) {v0 v1 : Bool} (hv : [Value.bool v0, Value.bool v1] = [Value.bool u0, Value.bool u1].set s (.bool false)) :
    WoIn W (w.setCell ⟨wb, s, none⟩ (.bool false)) x b p db pb wb M q v0 v1 j := by
  refine ⟨h.own.aside (L := [wb]) ((Mods.refl _ _).setCell (by simp) _) (fun k hk => ?_), h.gm, h.sound, h.still, h.reps, h.dv.setOther h.newb.2.1 _, h.ptr.setOther h.newb.2.2 _, ?_, h.newb⟩
  · rw [List.mem_singleton.1 hk]; exact ⟨by simp, h.newb.1⟩
  · rw [hv]; exact h.want.set s _
theorem WoIn.keep (h : WoIn W w x b p db pb wb M q u0 u1 j) (hm : Mods [] w w') : WoIn W w' x b p db pb wb M q u0 u1 j :=
  h.to (h.own.still hm) (Minds.of hm) h.gm h.sound h.still h.reps
/-- A side is garbled. -/
theorem woGarble (h : WoIn W w x b p db pb wb M q u0 u1 2) (hx : Two M X (turnB X 30 y) 4 g0 g1) {s : Nat} (hs : s < 2) (hg : (if s = 0 then g0 else g1) = false) :
    Calls Tryz.prog 33 #[.pointer (some ⟨x s, 0, none⟩), .int .i64 8, .int .i64 30, .int .u8 (y.toNat : Nat)] w fun e w' => ∃ M', e = .returned (.tuple #[]) ∧ Hid (WoIn W w' x b p db pb wb M' q u0 u1 2) ∧ Hid (Two M' X (turnB X 30 y) 4 (if s = 0 then true else g0) (if s = 0 then g1 else true)) := by
  obtain ⟨g1', t1, n1, o1, r1⟩ := h.gm.garble h.still hs (i := 4) (by decide) (30 % 128) y
  refine (show Calls Tryz.prog 33 #[.pointer (some ⟨x s, 0, none⟩), .int .i64 8, .int .i64 30, .int .u8 (y.toNat : Nat)] w _ from oGarble h.own h.gm.fine (by omega) hs (k := 4 + 4) (h.gm.sec h.still hs (by decide)) 30 y).mono fun e w' ⟨h1, h2, h3⟩ => ?_
  refine ⟨_, h1, Lib.hid (h.to h2.out h3.out g1' (n1 h.sound) t1 h.reps), Lib.hid ?_⟩
  rcases two_cases hs with rfl | rfl
  · have hg0 : g0 = false := hg
    subst hg0
    exact ⟨r1 X hx.1, (o1 1 4 (by decide) (by decide) (.inl (by decide))).trans hx.2⟩
  · have hg0 : g1 = false := hg
    subst hg0
    exact ⟨(o1 0 4 (by decide) (by decide) (.inl (by decide))).trans hx.1, r1 X hx.2⟩
end
theorem OwnM.grow {W w : World} {F : List Nat} {b p : Nat} {x : Nat → Nat} {M : Mi} (h : OwnM W F w b p x M) (o : Obj) : OwnM W (w.heap.size :: F) (w.alloc o) b p x M :=
  h.protect ((Mods.refl _ _).alloc _) (fun g hg => by
    have hs : (w.alloc o).heap.size = w.heap.size + 1 := Array.size_push _
    rcases List.mem_cons.1 hg with rfl | hg
    · exact .inr ⟨Nat.le_refl _, by omega⟩
    · exact .inl hg)
theorem eqB2 (a b c d : Bool) (w : World) : (Op.equalIn 10000 73 (.agg #[.bool a, .bool b]) (.agg #[.bool c, .bool d])).run Tryz.prog w = .ok (a == c && b == d) w := by
  cases a <;> cases b <;> cases c <;> cases d <;> kernel_rfl
theorem mod43 (h : Nat) : ((h : Int) % 4 == 3) = (decide (h % 2 = 1) && decide (h / 2 % 2 = 1)) := by
  rw [Bool.eq_iff_iff]
  simp
  omega
theorem bit1_all : (List.range 256).all (fun h => decide (bits BinOp.and IntKind.u8 (h : Int) 1 = ((h % 2 : Nat) : Int))) = true := by kernel_rfl
theorem bit1 {h : Nat} (hh : h < 256) : bits BinOp.and IntKind.u8 (h : Int) 1 = ((h % 2 : Nat) : Int) := of_decide_eq_true (List.all_eq_true.1 bit1_all h (List.mem_range.2 hh))
theorem bit1_t {h : Nat} (hh : h < 256) (hb : h % 2 = 1) : (bits BinOp.and IntKind.u8 (h : Int) 1 == 1) = true := by rw [bit1 hh, hb]; rfl
theorem bit1_f {h : Nat} (hh : h < 256) (hb : ¬ h % 2 = 1) : (bits BinOp.and IntKind.u8 (h : Int) 1 == 1) = false := by rw [bit1 hh, show h % 2 = 0 by omega]; rfl
set_option maxRecDepth 100000 in
set_option maxHeartbeats 3200000 in
theorem mirrorWhole_walk (s : ByteArray) (h y : Nat) (hh : h < 256) (hy : y < 256) (W : World) : Calls Tryz.prog 5 #[.string s, .int .u8 (h : Nat), .int .u8 (y : Nat)] W fun e w' => e = .returned (.bool true) ∧ Mods [] W w' := by
  obtain ⟨m, hm⟩ : ∃ m : Nat, min (s.size : Int) 90 = (m : Int) := ⟨min s.size 90, by omega⟩
  have hm90 : m ≤ 90 := by omega
  have hms : m ≤ s.size := by omega
  go_enter Tryz.func5, Tryz.ntmps5
  go_wp2_with fail
  refine q8Fresh.mono ?_
  rintro e w1 ⟨x, p, b, M, rfl, HO, HG⟩
  go_wp2_with fail
  obtain ⟨w2, hw2⟩ : ∃ w2, w1.alloc (.cells #[.pointer (some ⟨x 0, 0, none⟩), .pointer (some ⟨x 1, 0, none⟩)] 50) = w2 := ⟨_, rfl⟩
  obtain ⟨db, hdb⟩ : ∃ db, w1.heap.size = db := ⟨_, rfl⟩
  have hb2 : Blk w2 db 50 [.pointer (some ⟨x 0, 0, none⟩), .pointer (some ⟨x 1, 0, none⟩)] := by rw [← hw2, ← hdb]; exact Blk.new w1 50 _
  have hm2 : Mods [] w1 w2 := by rw [← hw2]; exact (Mods.refl _ _).alloc _
  have HO2 : Hid (OwnM W [db] w2 b p x M ∧ Blk w2 db 50 [.pointer (some ⟨x 0, 0, none⟩), .pointer (some ⟨x 1, 0, none⟩)]) := Lib.hid ⟨HO.out.protect hm2 (fun g hg => .inr (by have := hb2.lt; have := List.mem_singleton.1 hg; omega)), hb2⟩
  rw [hw2, hdb]
  clear hw2 hdb hb2 hm2 HO
  refine q8Wakes.mono ?_
  rintro e w3 ⟨rfl, HM3⟩
  go_upto_region 4 with fail
  go_cut [10, 11] from 38 to 47 (fun iv pv wx => ∃ (X : ByteArray) (qa : Int) (qg qs pb : Nat), iv = .string X ∧ pv = .pointer (some ⟨pb, 0, none⟩) ∧ Hid (ImgOf X ⟨qa, qg, qs⟩ 128 4 9 (s.extract 0 m)) ∧ Hid (Mods [] w3 wx ∧ Blk wx pb 58 [.int .i64 qa, .int .u64 (qg : Nat), .int .u32 (qs : Nat)] ∧ w3.heap.size ≤ pb))
  case first =>
    have hsl : (s.extract 0 m).size ≤ 104 := by rw [ByteArray.size_extract]; omega
    go_region_held3 (fun _ => True) (first | trivial | fail)
      (first
      | (go_at_call 28; refine (q8SealedI (by first | exact HT.out.1 | exact HT.out.1.drewN _ | exact HT.out.1.alloc _) 4 9 (by decide) (by decide) (s.extract 0 m) hsl).mono ?_; rintro e w5 ⟨X, qa, qg, qs, rfl, HI, hm5⟩; have HM5 : Hid (Mods [] w3 w5) := (by first | exact Lib.hid (HM4.out.tr hm5.out) | exact Lib.hid ((HM4.out.alloc _).tr hm5.out)); (first | (have hz := hz.keep0 hm5.out; have z0 := hz.cell (i := 0) rfl; have z1 := hz.cell (i := 1) rfl; have z2 := hz.cell (i := 2) rfl; have f0 := hz.free 0; have f1 := hz.free 1; have f2 := hz.free 2) | (have hz : Blk w5 w4.heap.size 58 [.int .i64 0, .int .u64 0, .int .u32 0] := Blk.newK hm5.out; have z0 := hz.cell (i := 0) rfl; have z1 := hz.cell (i := 1) rfl; have z2 := hz.cell (i := 2) rfl; have f0 := hz.free 0; have f1 := hz.free 1; have f2 := hz.free 2) | skip))
      | (go_at_call 27; refine (sumMake_any _).mono ?_; rintro e w4 ⟨tk, rfl, hT, hm4, htk⟩; have HM4 : Hid (Mods [] w3 w4) := (by first | exact Lib.hid (((Mods.refl _ _).drew).tr hm4) | exact Lib.hid ((((Mods.refl _ _).alloc _).drew).tr hm4)); (first | (have hz : Blk w4 w3.heap.size 58 [.int .i64 0, .int .u64 0, .int .u32 0] := Blk.newD hm4) | skip); have HT := Lib.hid (And.intro hT hm4); clear hT hm4 htk)
      | fail)
    all_goals go_wp2_with fail
    all_goals go_meet
    all_goals
      first
        | exact ⟨X, qa, qg, qs, _, rfl, rfl, HI, Lib.hid ⟨HM5.out.alloc _, Blk.new w5 58 [.int .i64 qa, .int .u64 (qg : Nat), .int .u32 (qs : Nat)], HM5.out.size⟩⟩
        | exact ⟨X, qa, qg, qs, _, rfl, rfl, HI, Lib.hid ⟨HM5.out.set3 HM4.out.size _ _ _, ((hz.set 0 _).set 1 _).set 2 _, HM4.out.size⟩⟩
        | exact ⟨X, qa, qg, qs, _, rfl, rfl, HI, Lib.hid ⟨HM5.out.set3 (Nat.le_refl _) _ _ _, ((hz.set 0 _).set 1 _).set 2 _, Nat.le_refl _⟩⟩
  case rest =>
    obtain ⟨X, qa, qg, qs, pb, rfl, rfl, HI, HX⟩ := hcut
    have HO5 : Hid (OwnM W [db, pb] wc b p x M ∧ Still 14 6 M.P) := Lib.hid ⟨(HO2.out.1.protect (G := [db, pb]) (HM3.out.trans HX.out.1 (by simp)) (fun g hg => by
      have := HX.out.2.1.lt
      have := HX.out.2.2
      have := HM3.out.size
      rcases List.mem_cons.1 hg with rfl | hg
      · exact .inl (by simp)
      · rw [List.mem_singleton.1 hg]; exact .inr ⟨by omega, by omega⟩)), HG.out.tab⟩
    have HB5 := Lib.hid (And.intro (HO2.out.2.keep (HM3.out.trans HX.out.1 (by simp)) (by simp)) HX.out.2.1)
    clear HO2 HM3 HX
    have cW := Lib.hid (woStart HO5.out.1 HG.out HO5.out.2 HI.out)
    have cF := Lib.hid (fun (w : World) (M : Mi) (ho : OwnM W [db, pb] w b p x M) (hg : Gm 14 128 6 2 M) (hn : Sound M.P) (ht : Still 14 6 M.P) (hr : M.reps = 0) (hx : ∀ Y, Two M X Y 4 false false) => woFlush ho hg hn ht hr hx)
    go_wp2_with (first | (go_at_call 30; refine (cF.out _ _ HW6.out.1 HW6.out.2.1 HW6.out.2.2.1 HW6.out.2.2.2.1 HW6.out.2.2.2.2.1 HW6.out.2.2.2.2.2).mono ?_; rintro e w7 ⟨M2, rfl, HW7, HN7⟩) | (go_at_call 29; refine cW.out.mono ?_; rintro e w6 ⟨M1, rfl, HW6, HN6⟩))
    obtain ⟨w8, hw8⟩ : ∃ w8, w7.alloc (.cells #[.bool true, .bool true] 73) = w8 := ⟨_, rfl⟩
    obtain ⟨wb, hwb⟩ : ∃ wb, w7.heap.size = wb := ⟨_, rfl⟩
    have H8 : Hid (WoIn W w8 x b p db pb wb M2 ⟨qa, qg, qs⟩ true true 2) := by
      have hb8 : Blk w8 wb 73 [.bool true, .bool true] := by rw [← hw8, ← hwb]; exact Blk.new w7 73 _
      have hm8 : Mods [] w7 w8 := by rw [← hw8]; exact (Mods.refl _ _).alloc _
      obtain ⟨o1, g1, n1, t1, r1, _⟩ := HW7.out
      have hmi := HN6.out.trans HN7.out
      refine Lib.hid ⟨o1.protect hm8 (fun g hg => ?_), g1, n1, t1, r1, (hmi.blk HB5.out.1 (by simp)).keep hm8 (by simp), (hmi.blk HB5.out.2 (by simp)).keep hm8 (by simp), hb8, ?_⟩
      rotate_left
      · have a1 := o1.lt db (by simp)
        have a2 := o1.lt pb (by simp)
        have a3 := o1.mods.size
        omega
      have := hb8.lt
      simp only [List.mem_cons, List.not_mem_nil, or_false] at hg
      rcases hg with rfl | rfl | rfl
      · exact .inl (by simp)
      · exact .inl (by simp)
      · exact .inr ⟨by omega, by omega⟩
    have HT8 := Lib.hid HW7.out.2.2.2.2.2
    rw [hw8, hwb]
    clear hw8 hwb HW6 HW7 HN6 HN7 HB5 HO5 cW cF HG
    obtain ⟨v, hv⟩ : ∃ v : UInt8, v = UInt8.ofNat (1 + y % 255) := ⟨_, rfl⟩
    have hvn : v.toNat = 1 + y % 255 := by rw [hv, UInt8.toNat_ofNat']; omega
    have hv0 : v ≠ 0 := fun e => by rw [e] at hvn; simp at hvn; omega
    have HY : Hid (meetsL ⟨qa, qg, qs⟩ (turnB X 30 v).toList = false) := Lib.hid (meets_turned HI.out.meets (by rw [HI.out.size]; decide) hv0)
    have hvi : ((v.toNat : Nat) : Int) = 1 + (y : Int) % 255 := by omega
    clear hv hv0 hvn
    go_loopw [58] (fun iv wr => ∃ (s : Nat) (M : Mi) (g0 g1 : Bool), s ≤ 2 ∧ iv = .int .i64 (s : Nat) ∧ WoIn W wr x b p db pb wb M ⟨qa, qg, qs⟩ (!g0) (!g1) 2 ∧ Two M X (turnB X 30 v) 4 g0 g1 ∧ g0 = (decide (0 < s) && decide (h % 2 = 1)) ∧ g1 = (decide (1 < s) && decide (h / 2 % 2 = 1))) (fun iv _ => 2 - (intOf iv).toNat)
    case atStart => exact ⟨0, M2, false, false, by omega, rfl, H8.out, HT8.out _, rfl, rfl⟩
    case round =>
      clear H8 HT8
      obtain ⟨s, M3, g0, g1, hs, rfl, hW, hT, hg0, hg1⟩ := hrel
      have HW := Lib.hid hW
      have HT := Lib.hid hT
      clear hW hT
      by_cases hlt : s < 2
      · rcases two_cases hlt with rfl | rfl
        · have e0 : g0 = false := hg0
          have e1 : g1 = false := hg1
          clear hg0 hg1
          subst e0 e1
          have k0 : (h : Int) / 2 ^ 0 = (h : Int) := by omega
          have z0 := HW.out.dv.cell (i := 0) rfl
          have y0 := HW.out.want.cell (i := 0) rfl
          have f0 := HW.out.want.free 0
          have cG := Lib.hid (woGarble HW.out HT.out (s := 0) (by decide) rfl)
          rw [hvi] at cG
          by_cases hb : h % 2 = 1
          · have hbc := bit1_t hh hb
            go_wp2_with (go_at_call 33; refine cG.out.mono ?_; rintro e w9 ⟨M4, rfl, HW9, HT9⟩; have y9 := HW9.out.want.cell (i := 0) rfl; have f9 := HW9.out.want.free 0)
            go_roundw
            case rel => exact ⟨1, M4, true, false, by omega, by go_num, woSet HW9.out 0 rfl, HT9.out, by simp [hb], by simp⟩
            case measure => simp [intOf]
          · have hbc := bit1_f hh hb
            go_wp2_with fail
            go_roundw
            case rel => exact ⟨1, M3, false, false, by omega, by go_num, HW.out, HT.out, by simp [hb], by simp⟩
            case measure => simp [intOf]
        · have k0 : (h : Int) / 2 ^ 1 = ((h / 2 : Nat) : Int) := by omega
          have e1 : g1 = false := hg1
          clear hg1
          subst e1
          have z0 := HW.out.dv.cell (i := 1) rfl
          have y0 := HW.out.want.cell (i := 1) rfl
          have f0 := HW.out.want.free 1
          have cG := Lib.hid (woGarble HW.out HT.out (s := 1) (by decide) rfl)
          rw [hvi] at cG
          by_cases hb : h / 2 % 2 = 1
          · have hbc := bit1_t (h := h / 2) (by omega) hb
            rw [show (((h / 2 : Nat)) : Int) = (h : Int) / 2 from by omega] at hbc
            go_wp2_with (go_at_call 33; refine cG.out.mono ?_; rintro e w9 ⟨M4, rfl, HW9, HT9⟩; have y9 := HW9.out.want.cell (i := 1) rfl; have f9 := HW9.out.want.free 1)
            go_roundw
            case rel => exact ⟨2, M4, g0, true, by omega, by go_num, woSet HW9.out 1 rfl, HT9.out, by rw [hg0]; rfl, by simp [hb]⟩
            case measure => simp [intOf]
          · have hbc := bit1_f (h := h / 2) (by omega) hb
            rw [show (((h / 2 : Nat)) : Int) = (h : Int) / 2 from by omega] at hbc
            go_wp2_with fail
            go_roundw
            case rel => exact ⟨2, M3, g0, false, by omega, by go_num, HW.out, HT.out, by rw [hg0]; rfl, by simp [hb]⟩
            case measure => simp [intOf]
      · obtain rfl : s = 2 := by omega
        have e0 : g0 = decide (h % 2 = 1) := hg0
        have e1 : g1 = decide (h / 2 % 2 = 1) := hg1
        have h43 := mod43 h
        rw [← e0, ← e1] at h43
        clear hg0 hg1 e0 e1 hm hm90 hms
        obtain ⟨kc, ec, MC, hck, gC, nC, hec, hc0, hc1⟩ := HW.out.gm.wholeLaw HW.out.sound (i := 4) HI.out.size (by decide) HT.out HI.out.meets HY.out
        obtain ⟨a0, a1⟩ := HT.out.has HI.out.meets HY.out
        have cV := Lib.hid (fun (w : World) (F : List Nat) (ho : OwnM W F w b p x M3) => oWhl ho HW.out.gm.fine (by omega) ⟨qa, qg, qs⟩ (i := 4) (by decide) HI.out.addr (fun s hs => HW.out.gm.good HW.out.sound hs (by decide)))
        have cC := Lib.hid (fun (w : World) (F : List Nat) (ho : OwnM W F w b p x M3) => oChk ho HW.out.gm.fine (by omega) (by rw [HW.out.reps]; decide) ⟨qa, qg, qs⟩ (i := 4) (by decide) HI.out.addr)
        have cP := Lib.hid (fun (w : World) (F : List Nat) (ho : OwnM W F w b p x M3) => oRepairs ho)
        have cU := Lib.hid (fun (w : World) (F : List Nat) (ho : OwnM W F w b p x MC) => oWhl ho gC.fine (by omega) ⟨qa, qg, qs⟩ (i := 4) (by decide) HI.out.addr (fun s hs => gC.good nC hs (by decide)))
        have cN := Lib.hid (fun (w : World) (F : List Nat) (ho : OwnM W F w b p x MC) => oWhlNo ho gC.fine ⟨14, 0, 0⟩ (by decide))
        have cZ := Lib.hid (fun (w : World) => mWhl_nil (W := w) ⟨qa, qg, qs⟩)
        rw [hck] at cC
        rw [a0, a1] at cV
        rw [hc0, hc1] at cU
        rw [HW.out.reps] at cP
        unfold ptrV at cV cC cU cN cZ
        simp only at cV cC cU cN cZ
        have HS := Lib.hid (And.intro HW.out.own (And.intro HW.out.ptr HW.out.want))
        clear hck gC nC hc0 hc1 a0 a1 HW HT HY HI
        subst hec
        cases g0 with
        | false =>
          cases g1 with
          | false =>
            as_aux_lemma =>
              simp only [Bool.not_false, Bool.and_self, Bool.false_eq_true, if_false] at cV cC cU h43 HS
              have p0 := HS.out.2.1.cell (i := 0) rfl
              have p1 := HS.out.2.1.cell (i := 1) rfl
              have p2 := HS.out.2.1.cell (i := 2) rfl
              go_wp2_with fail
              refine (cV.out _ _ HS.out.1).mono ?_
              rintro e w10 ⟨rfl, HO10, HN10⟩
              have HB10 := Lib.hid (And.intro (HN10.out.blk HS.out.2.1 (by simp)) (HN10.out.blk HS.out.2.2 (by simp)))
              have HO11 := Lib.hid (HO10.out.grow (.cells #[.bool true, .bool true] 73))
              have q0 := (HB10.out.1.alloc (.cells #[.bool true, .bool true] 73)).cell (i := 0) rfl
              have q1 := (HB10.out.1.alloc (.cells #[.bool true, .bool true] 73)).cell (i := 1) rfl
              have q2 := (HB10.out.1.alloc (.cells #[.bool true, .bool true] 73)).cell (i := 2) rfl
              clear p0 p1 p2
              go_wp2_with fail
              obtain ⟨w11, hw11⟩ : ∃ w11, w10.alloc (.cells #[.bool true, .bool true] 73) = w11 := ⟨_, rfl⟩
              obtain ⟨ab, hab⟩ : ∃ ab, w10.heap.size = ab := ⟨_, rfl⟩
              have HB11 : Hid (Blk w11 pb 58 [.int .i64 qa, .int .u64 (qg : Nat), .int .u32 (qs : Nat)] ∧ Blk w11 wb 73 [.bool true, .bool true] ∧ Blk w11 ab 73 [.bool true, .bool true]) := Lib.hid ⟨by rw [← hw11]; exact HB10.out.1.alloc _, by rw [← hw11]; exact HB10.out.2.alloc _, by rw [← hw11, ← hab]; exact Blk.new w10 73 _⟩
              rw [hw11] at HO11 q0 q1 q2
              rw [hab] at HO11
              rw [hw11, hab]
              clear hw11 hab HB10 q0 q1 q2 HN10 HO10
              refine (cV.out _ _ HO11.out).mono ?_
              rintro e w12 ⟨rfl, HO12, HN12⟩
              have HB12 := Lib.hid (And.intro (HN12.out.blk HB11.out.1 (by simp)) (And.intro (HN12.out.blk HB11.out.2.1 (by simp)) (HN12.out.blk HB11.out.2.2 (by simp))))
              have HO13 := Lib.hid (HO12.out.grow (.cells #[.bool true, .bool true] 73))
              have q0 := (HB12.out.1.alloc (.cells #[.bool true, .bool true] 73)).cell (i := 0) rfl
              have q1 := (HB12.out.1.alloc (.cells #[.bool true, .bool true] 73)).cell (i := 1) rfl
              have q2 := (HB12.out.1.alloc (.cells #[.bool true, .bool true] 73)).cell (i := 2) rfl
              have c0 := (HB12.out.2.1.alloc (.cells #[.bool true, .bool true] 73)).cell (i := 0) rfl
              have d0 := (HB12.out.2.2.alloc (.cells #[.bool true, .bool true] 73)).cell (i := 0) rfl
              have e0 := (Blk.new w12 73 [.bool true, .bool true]).cell (i := 0) rfl
              have c1 := (HB12.out.2.1.alloc (.cells #[.bool true, .bool true] 73)).cell (i := 1) rfl
              have d1 := (HB12.out.2.2.alloc (.cells #[.bool true, .bool true] 73)).cell (i := 1) rfl
              have e1 := (Blk.new w12 73 [.bool true, .bool true]).cell (i := 1) rfl
              have hq1 : ∀ w, (Op.equalIn 10000 73 (.agg #[.bool true, .bool true]) (.agg #[.bool true, .bool true])).run Tryz.prog w = .ok true w := fun w => eqB2 true true true true w
              go_wp2_with (go_at_call 38; refine (cP.out _ _ HO13.out).mono ?_; rintro e w13 ⟨rfl, rfl⟩)
              obtain ⟨w13, hw13⟩ : ∃ w13, w12.alloc (.cells #[.bool true, .bool true] 73) = w13 := ⟨_, rfl⟩
              have HB13 : Hid (Blk w13 pb 58 [.int .i64 qa, .int .u64 (qg : Nat), .int .u32 (qs : Nat)]) := Lib.hid (by rw [← hw13]; exact HB12.out.1.alloc _)
              rw [hw13] at HO13 ⊢
              clear hw13 q0 q1 q2 c0 c1 d0 d1 e0 e1 HB12 HB11 HO12 HN12
              refine (cC.out _ _ HO13.out).mono ?_
              rintro e w14 ⟨rfl, HO14, HN14⟩
              have HB14 := Lib.hid (HN14.out.blk HB13.out (by simp))
              have q0 := HB14.out.cell (i := 0) rfl
              have q1 := HB14.out.cell (i := 1) rfl
              have q2 := HB14.out.cell (i := 2) rfl
              go_wp2_with fail
              refine (cU.out _ _ HO14.out).mono ?_
              rintro e w15 ⟨rfl, HO15, HN15⟩
              have HB15 := Lib.hid (HN15.out.blk HB14.out (by simp))
              have HO16 := Lib.hid (HO15.out.grow (.cells #[.bool true, .bool true] 73))
              clear q0 q1 q2
              go_wp2_with fail
              obtain ⟨w16, hw16⟩ : ∃ w16, w15.alloc (.cells #[.bool true, .bool true] 73) = w16 := ⟨_, rfl⟩
              obtain ⟨cb, hcb⟩ : ∃ cb, w15.heap.size = cb := ⟨_, rfl⟩
              have HB16 : Hid (Blk w16 pb 58 [.int .i64 qa, .int .u64 (qg : Nat), .int .u32 (qs : Nat)] ∧ Blk w16 cb 73 [.bool true, .bool true]) := Lib.hid ⟨by rw [← hw16]; exact HB15.out.alloc _, by rw [← hw16, ← hcb]; exact Blk.new w15 73 _⟩
              rw [hw16] at HO16
              rw [hw16, hcb]
              clear hw16 hcb HB15 HO15 HN15
              refine (cN.out _ _ HO16.out).mono ?_
              rintro e w17 ⟨rfl, HM17⟩
              have q0 := ((HB16.out.1.keep HM17.out (by simp)).alloc (.cells #[.bool false, .bool false] 73)).cell (i := 0) rfl
              have q1 := ((HB16.out.1.keep HM17.out (by simp)).alloc (.cells #[.bool false, .bool false] 73)).cell (i := 1) rfl
              have q2 := ((HB16.out.1.keep HM17.out (by simp)).alloc (.cells #[.bool false, .bool false] 73)).cell (i := 2) rfl
              go_wp2_with fail
              obtain ⟨w18, hw18⟩ : ∃ w18, w17.alloc (.cells #[.bool false, .bool false] 73) = w18 := ⟨_, rfl⟩
              have HM18 : Hid (Mods [] w16 w18) := Lib.hid (by rw [← hw18]; exact HM17.out.alloc _)
              rw [hw18]
              clear hw18 q0 q1 q2
              refine (cZ.out _).mono ?_
              rintro e w19 ⟨rfl, HM19⟩
              have c0 := ((HB16.out.2.keep (HM18.out.trans HM19.out (by simp)) (by simp)).alloc (.cells #[.bool false, .bool false] 73)).cell (i := 0) rfl
              have c1 := ((HB16.out.2.keep (HM18.out.trans HM19.out (by simp)) (by simp)).alloc (.cells #[.bool false, .bool false] 73)).cell (i := 1) rfl
              have h4p : ¬ (h : Int) % 4 = 3 := by simpa using h43
              have hq2 : ∀ w, (Op.equalIn 10000 73 (.agg #[.bool true, .bool true]) (.agg #[.bool true, .bool true])).run Tryz.prog w = .ok true w := fun w => eqB2 true true true true w
              go_wp2_with fail
              go_ret
              have hbn : ((h : Int) % 4 != 3) = true := by rw [bne, h43]; rfl
              refine ⟨congrArg (fun v => Ending.returned (.bool v)) hbn, ((HO16.out.mods.trans (HM18.out.trans HM19.out (by simp)) (by simp)).alloc _)⟩
          | true =>
            as_aux_lemma =>
              simp only [Bool.and_true, Bool.not_false, Bool.not_true, Bool.false_eq_true, if_false] at cV cC cU h43 HS
              have p0 := HS.out.2.1.cell (i := 0) rfl
              have p1 := HS.out.2.1.cell (i := 1) rfl
              have p2 := HS.out.2.1.cell (i := 2) rfl
              go_wp2_with fail
              refine (cV.out _ _ HS.out.1).mono ?_
              rintro e w10 ⟨rfl, HO10, HN10⟩
              have HB10 := Lib.hid (And.intro (HN10.out.blk HS.out.2.1 (by simp)) (HN10.out.blk HS.out.2.2 (by simp)))
              have HO11 := Lib.hid (HO10.out.grow (.cells #[.bool true, .bool false] 73))
              have q0 := (HB10.out.1.alloc (.cells #[.bool true, .bool false] 73)).cell (i := 0) rfl
              have q1 := (HB10.out.1.alloc (.cells #[.bool true, .bool false] 73)).cell (i := 1) rfl
              have q2 := (HB10.out.1.alloc (.cells #[.bool true, .bool false] 73)).cell (i := 2) rfl
              clear p0 p1 p2
              go_wp2_with fail
              obtain ⟨w11, hw11⟩ : ∃ w11, w10.alloc (.cells #[.bool true, .bool false] 73) = w11 := ⟨_, rfl⟩
              obtain ⟨ab, hab⟩ : ∃ ab, w10.heap.size = ab := ⟨_, rfl⟩
              have HB11 : Hid (Blk w11 pb 58 [.int .i64 qa, .int .u64 (qg : Nat), .int .u32 (qs : Nat)] ∧ Blk w11 wb 73 [.bool true, .bool false] ∧ Blk w11 ab 73 [.bool true, .bool false]) := Lib.hid ⟨by rw [← hw11]; exact HB10.out.1.alloc _, by rw [← hw11]; exact HB10.out.2.alloc _, by rw [← hw11, ← hab]; exact Blk.new w10 73 _⟩
              rw [hw11] at HO11 q0 q1 q2
              rw [hab] at HO11
              rw [hw11, hab]
              clear hw11 hab HB10 q0 q1 q2 HN10 HO10
              refine (cV.out _ _ HO11.out).mono ?_
              rintro e w12 ⟨rfl, HO12, HN12⟩
              have HB12 := Lib.hid (And.intro (HN12.out.blk HB11.out.1 (by simp)) (And.intro (HN12.out.blk HB11.out.2.1 (by simp)) (HN12.out.blk HB11.out.2.2 (by simp))))
              have HO13 := Lib.hid (HO12.out.grow (.cells #[.bool true, .bool false] 73))
              have q0 := (HB12.out.1.alloc (.cells #[.bool true, .bool false] 73)).cell (i := 0) rfl
              have q1 := (HB12.out.1.alloc (.cells #[.bool true, .bool false] 73)).cell (i := 1) rfl
              have q2 := (HB12.out.1.alloc (.cells #[.bool true, .bool false] 73)).cell (i := 2) rfl
              have c0 := (HB12.out.2.1.alloc (.cells #[.bool true, .bool false] 73)).cell (i := 0) rfl
              have d0 := (HB12.out.2.2.alloc (.cells #[.bool true, .bool false] 73)).cell (i := 0) rfl
              have e0 := (Blk.new w12 73 [.bool true, .bool false]).cell (i := 0) rfl
              have c1 := (HB12.out.2.1.alloc (.cells #[.bool true, .bool false] 73)).cell (i := 1) rfl
              have d1 := (HB12.out.2.2.alloc (.cells #[.bool true, .bool false] 73)).cell (i := 1) rfl
              have e1 := (Blk.new w12 73 [.bool true, .bool false]).cell (i := 1) rfl
              have hq1 : ∀ w, (Op.equalIn 10000 73 (.agg #[.bool true, .bool false]) (.agg #[.bool true, .bool false])).run Tryz.prog w = .ok true w := fun w => eqB2 true false true false w
              go_wp2_with (go_at_call 38; refine (cP.out _ _ HO13.out).mono ?_; rintro e w13 ⟨rfl, rfl⟩)
              obtain ⟨w13, hw13⟩ : ∃ w13, w12.alloc (.cells #[.bool true, .bool false] 73) = w13 := ⟨_, rfl⟩
              have HB13 : Hid (Blk w13 pb 58 [.int .i64 qa, .int .u64 (qg : Nat), .int .u32 (qs : Nat)]) := Lib.hid (by rw [← hw13]; exact HB12.out.1.alloc _)
              rw [hw13] at HO13 ⊢
              clear hw13 q0 q1 q2 c0 c1 d0 d1 e0 e1 HB12 HB11 HO12 HN12
              refine (cC.out _ _ HO13.out).mono ?_
              rintro e w14 ⟨rfl, HO14, HN14⟩
              have HB14 := Lib.hid (HN14.out.blk HB13.out (by simp))
              have q0 := HB14.out.cell (i := 0) rfl
              have q1 := HB14.out.cell (i := 1) rfl
              have q2 := HB14.out.cell (i := 2) rfl
              go_wp2_with fail
              refine (cU.out _ _ HO14.out).mono ?_
              rintro e w15 ⟨rfl, HO15, HN15⟩
              have HB15 := Lib.hid (HN15.out.blk HB14.out (by simp))
              have HO16 := Lib.hid (HO15.out.grow (.cells #[.bool true, .bool true] 73))
              clear q0 q1 q2
              go_wp2_with fail
              obtain ⟨w16, hw16⟩ : ∃ w16, w15.alloc (.cells #[.bool true, .bool true] 73) = w16 := ⟨_, rfl⟩
              obtain ⟨cb, hcb⟩ : ∃ cb, w15.heap.size = cb := ⟨_, rfl⟩
              have HB16 : Hid (Blk w16 pb 58 [.int .i64 qa, .int .u64 (qg : Nat), .int .u32 (qs : Nat)] ∧ Blk w16 cb 73 [.bool true, .bool true]) := Lib.hid ⟨by rw [← hw16]; exact HB15.out.alloc _, by rw [← hw16, ← hcb]; exact Blk.new w15 73 _⟩
              rw [hw16] at HO16
              rw [hw16, hcb]
              clear hw16 hcb HB15 HO15 HN15
              refine (cN.out _ _ HO16.out).mono ?_
              rintro e w17 ⟨rfl, HM17⟩
              have q0 := ((HB16.out.1.keep HM17.out (by simp)).alloc (.cells #[.bool false, .bool false] 73)).cell (i := 0) rfl
              have q1 := ((HB16.out.1.keep HM17.out (by simp)).alloc (.cells #[.bool false, .bool false] 73)).cell (i := 1) rfl
              have q2 := ((HB16.out.1.keep HM17.out (by simp)).alloc (.cells #[.bool false, .bool false] 73)).cell (i := 2) rfl
              go_wp2_with fail
              obtain ⟨w18, hw18⟩ : ∃ w18, w17.alloc (.cells #[.bool false, .bool false] 73) = w18 := ⟨_, rfl⟩
              have HM18 : Hid (Mods [] w16 w18) := Lib.hid (by rw [← hw18]; exact HM17.out.alloc _)
              rw [hw18]
              clear hw18 q0 q1 q2
              refine (cZ.out _).mono ?_
              rintro e w19 ⟨rfl, HM19⟩
              have c0 := ((HB16.out.2.keep (HM18.out.trans HM19.out (by simp)) (by simp)).alloc (.cells #[.bool false, .bool false] 73)).cell (i := 0) rfl
              have c1 := ((HB16.out.2.keep (HM18.out.trans HM19.out (by simp)) (by simp)).alloc (.cells #[.bool false, .bool false] 73)).cell (i := 1) rfl
              have h4p : ¬ (h : Int) % 4 = 3 := by simpa using h43
              have hq2 : ∀ w, (Op.equalIn 10000 73 (.agg #[.bool true, .bool true]) (.agg #[.bool true, .bool true])).run Tryz.prog w = .ok true w := fun w => eqB2 true true true true w
              go_wp2_with fail
              go_ret
              have hbn : ((h : Int) % 4 != 3) = true := by rw [bne, h43]; rfl
              refine ⟨congrArg (fun v => Ending.returned (.bool v)) hbn, ((HO16.out.mods.trans (HM18.out.trans HM19.out (by simp)) (by simp)).alloc _)⟩
        | true =>
          cases g1 with
          | false =>
            as_aux_lemma =>
              simp only [Bool.and_false, Bool.not_false, Bool.not_true, Bool.false_eq_true, if_false] at cV cC cU h43 HS
              have p0 := HS.out.2.1.cell (i := 0) rfl
              have p1 := HS.out.2.1.cell (i := 1) rfl
              have p2 := HS.out.2.1.cell (i := 2) rfl
              go_wp2_with fail
              refine (cV.out _ _ HS.out.1).mono ?_
              rintro e w10 ⟨rfl, HO10, HN10⟩
              have HB10 := Lib.hid (And.intro (HN10.out.blk HS.out.2.1 (by simp)) (HN10.out.blk HS.out.2.2 (by simp)))
              have HO11 := Lib.hid (HO10.out.grow (.cells #[.bool false, .bool true] 73))
              have q0 := (HB10.out.1.alloc (.cells #[.bool false, .bool true] 73)).cell (i := 0) rfl
              have q1 := (HB10.out.1.alloc (.cells #[.bool false, .bool true] 73)).cell (i := 1) rfl
              have q2 := (HB10.out.1.alloc (.cells #[.bool false, .bool true] 73)).cell (i := 2) rfl
              clear p0 p1 p2
              go_wp2_with fail
              obtain ⟨w11, hw11⟩ : ∃ w11, w10.alloc (.cells #[.bool false, .bool true] 73) = w11 := ⟨_, rfl⟩
              obtain ⟨ab, hab⟩ : ∃ ab, w10.heap.size = ab := ⟨_, rfl⟩
              have HB11 : Hid (Blk w11 pb 58 [.int .i64 qa, .int .u64 (qg : Nat), .int .u32 (qs : Nat)] ∧ Blk w11 wb 73 [.bool false, .bool true] ∧ Blk w11 ab 73 [.bool false, .bool true]) := Lib.hid ⟨by rw [← hw11]; exact HB10.out.1.alloc _, by rw [← hw11]; exact HB10.out.2.alloc _, by rw [← hw11, ← hab]; exact Blk.new w10 73 _⟩
              rw [hw11] at HO11 q0 q1 q2
              rw [hab] at HO11
              rw [hw11, hab]
              clear hw11 hab HB10 q0 q1 q2 HN10 HO10
              refine (cV.out _ _ HO11.out).mono ?_
              rintro e w12 ⟨rfl, HO12, HN12⟩
              have HB12 := Lib.hid (And.intro (HN12.out.blk HB11.out.1 (by simp)) (And.intro (HN12.out.blk HB11.out.2.1 (by simp)) (HN12.out.blk HB11.out.2.2 (by simp))))
              have HO13 := Lib.hid (HO12.out.grow (.cells #[.bool false, .bool true] 73))
              have q0 := (HB12.out.1.alloc (.cells #[.bool false, .bool true] 73)).cell (i := 0) rfl
              have q1 := (HB12.out.1.alloc (.cells #[.bool false, .bool true] 73)).cell (i := 1) rfl
              have q2 := (HB12.out.1.alloc (.cells #[.bool false, .bool true] 73)).cell (i := 2) rfl
              have c0 := (HB12.out.2.1.alloc (.cells #[.bool false, .bool true] 73)).cell (i := 0) rfl
              have d0 := (HB12.out.2.2.alloc (.cells #[.bool false, .bool true] 73)).cell (i := 0) rfl
              have e0 := (Blk.new w12 73 [.bool false, .bool true]).cell (i := 0) rfl
              have c1 := (HB12.out.2.1.alloc (.cells #[.bool false, .bool true] 73)).cell (i := 1) rfl
              have d1 := (HB12.out.2.2.alloc (.cells #[.bool false, .bool true] 73)).cell (i := 1) rfl
              have e1 := (Blk.new w12 73 [.bool false, .bool true]).cell (i := 1) rfl
              have hq1 : ∀ w, (Op.equalIn 10000 73 (.agg #[.bool false, .bool true]) (.agg #[.bool false, .bool true])).run Tryz.prog w = .ok true w := fun w => eqB2 false true false true w
              go_wp2_with (go_at_call 38; refine (cP.out _ _ HO13.out).mono ?_; rintro e w13 ⟨rfl, rfl⟩)
              obtain ⟨w13, hw13⟩ : ∃ w13, w12.alloc (.cells #[.bool false, .bool true] 73) = w13 := ⟨_, rfl⟩
              have HB13 : Hid (Blk w13 pb 58 [.int .i64 qa, .int .u64 (qg : Nat), .int .u32 (qs : Nat)]) := Lib.hid (by rw [← hw13]; exact HB12.out.1.alloc _)
              rw [hw13] at HO13 ⊢
              clear hw13 q0 q1 q2 c0 c1 d0 d1 e0 e1 HB12 HB11 HO12 HN12
              refine (cC.out _ _ HO13.out).mono ?_
              rintro e w14 ⟨rfl, HO14, HN14⟩
              have HB14 := Lib.hid (HN14.out.blk HB13.out (by simp))
              have q0 := HB14.out.cell (i := 0) rfl
              have q1 := HB14.out.cell (i := 1) rfl
              have q2 := HB14.out.cell (i := 2) rfl
              go_wp2_with fail
              refine (cU.out _ _ HO14.out).mono ?_
              rintro e w15 ⟨rfl, HO15, HN15⟩
              have HB15 := Lib.hid (HN15.out.blk HB14.out (by simp))
              have HO16 := Lib.hid (HO15.out.grow (.cells #[.bool true, .bool true] 73))
              clear q0 q1 q2
              go_wp2_with fail
              obtain ⟨w16, hw16⟩ : ∃ w16, w15.alloc (.cells #[.bool true, .bool true] 73) = w16 := ⟨_, rfl⟩
              obtain ⟨cb, hcb⟩ : ∃ cb, w15.heap.size = cb := ⟨_, rfl⟩
              have HB16 : Hid (Blk w16 pb 58 [.int .i64 qa, .int .u64 (qg : Nat), .int .u32 (qs : Nat)] ∧ Blk w16 cb 73 [.bool true, .bool true]) := Lib.hid ⟨by rw [← hw16]; exact HB15.out.alloc _, by rw [← hw16, ← hcb]; exact Blk.new w15 73 _⟩
              rw [hw16] at HO16
              rw [hw16, hcb]
              clear hw16 hcb HB15 HO15 HN15
              refine (cN.out _ _ HO16.out).mono ?_
              rintro e w17 ⟨rfl, HM17⟩
              have q0 := ((HB16.out.1.keep HM17.out (by simp)).alloc (.cells #[.bool false, .bool false] 73)).cell (i := 0) rfl
              have q1 := ((HB16.out.1.keep HM17.out (by simp)).alloc (.cells #[.bool false, .bool false] 73)).cell (i := 1) rfl
              have q2 := ((HB16.out.1.keep HM17.out (by simp)).alloc (.cells #[.bool false, .bool false] 73)).cell (i := 2) rfl
              go_wp2_with fail
              obtain ⟨w18, hw18⟩ : ∃ w18, w17.alloc (.cells #[.bool false, .bool false] 73) = w18 := ⟨_, rfl⟩
              have HM18 : Hid (Mods [] w16 w18) := Lib.hid (by rw [← hw18]; exact HM17.out.alloc _)
              rw [hw18]
              clear hw18 q0 q1 q2
              refine (cZ.out _).mono ?_
              rintro e w19 ⟨rfl, HM19⟩
              have c0 := ((HB16.out.2.keep (HM18.out.trans HM19.out (by simp)) (by simp)).alloc (.cells #[.bool false, .bool false] 73)).cell (i := 0) rfl
              have c1 := ((HB16.out.2.keep (HM18.out.trans HM19.out (by simp)) (by simp)).alloc (.cells #[.bool false, .bool false] 73)).cell (i := 1) rfl
              have h4p : ¬ (h : Int) % 4 = 3 := by simpa using h43
              have hq2 : ∀ w, (Op.equalIn 10000 73 (.agg #[.bool true, .bool true]) (.agg #[.bool true, .bool true])).run Tryz.prog w = .ok true w := fun w => eqB2 true true true true w
              go_wp2_with fail
              go_ret
              have hbn : ((h : Int) % 4 != 3) = true := by rw [bne, h43]; rfl
              refine ⟨congrArg (fun v => Ending.returned (.bool v)) hbn, ((HO16.out.mods.trans (HM18.out.trans HM19.out (by simp)) (by simp)).alloc _)⟩
          | true =>
            as_aux_lemma =>
              simp only [Bool.not_true, Bool.and_self, if_true] at cV cC cU h43 HS
              have p0 := HS.out.2.1.cell (i := 0) rfl
              have p1 := HS.out.2.1.cell (i := 1) rfl
              have p2 := HS.out.2.1.cell (i := 2) rfl
              go_wp2_with fail
              refine (cV.out _ _ HS.out.1).mono ?_
              rintro e w10 ⟨rfl, HO10, HN10⟩
              have HB10 := Lib.hid (And.intro (HN10.out.blk HS.out.2.1 (by simp)) (HN10.out.blk HS.out.2.2 (by simp)))
              have HO11 := Lib.hid (HO10.out.grow (.cells #[.bool false, .bool false] 73))
              have q0 := (HB10.out.1.alloc (.cells #[.bool false, .bool false] 73)).cell (i := 0) rfl
              have q1 := (HB10.out.1.alloc (.cells #[.bool false, .bool false] 73)).cell (i := 1) rfl
              have q2 := (HB10.out.1.alloc (.cells #[.bool false, .bool false] 73)).cell (i := 2) rfl
              clear p0 p1 p2
              go_wp2_with fail
              obtain ⟨w11, hw11⟩ : ∃ w11, w10.alloc (.cells #[.bool false, .bool false] 73) = w11 := ⟨_, rfl⟩
              obtain ⟨ab, hab⟩ : ∃ ab, w10.heap.size = ab := ⟨_, rfl⟩
              have HB11 : Hid (Blk w11 pb 58 [.int .i64 qa, .int .u64 (qg : Nat), .int .u32 (qs : Nat)] ∧ Blk w11 wb 73 [.bool false, .bool false] ∧ Blk w11 ab 73 [.bool false, .bool false]) := Lib.hid ⟨by rw [← hw11]; exact HB10.out.1.alloc _, by rw [← hw11]; exact HB10.out.2.alloc _, by rw [← hw11, ← hab]; exact Blk.new w10 73 _⟩
              rw [hw11] at HO11 q0 q1 q2
              rw [hab] at HO11
              rw [hw11, hab]
              clear hw11 hab HB10 q0 q1 q2 HN10 HO10
              refine (cV.out _ _ HO11.out).mono ?_
              rintro e w12 ⟨rfl, HO12, HN12⟩
              have HB12 := Lib.hid (And.intro (HN12.out.blk HB11.out.1 (by simp)) (And.intro (HN12.out.blk HB11.out.2.1 (by simp)) (HN12.out.blk HB11.out.2.2 (by simp))))
              have HO13 := Lib.hid (HO12.out.grow (.cells #[.bool false, .bool false] 73))
              have q0 := (HB12.out.1.alloc (.cells #[.bool false, .bool false] 73)).cell (i := 0) rfl
              have q1 := (HB12.out.1.alloc (.cells #[.bool false, .bool false] 73)).cell (i := 1) rfl
              have q2 := (HB12.out.1.alloc (.cells #[.bool false, .bool false] 73)).cell (i := 2) rfl
              have c0 := (HB12.out.2.1.alloc (.cells #[.bool false, .bool false] 73)).cell (i := 0) rfl
              have d0 := (HB12.out.2.2.alloc (.cells #[.bool false, .bool false] 73)).cell (i := 0) rfl
              have e0 := (Blk.new w12 73 [.bool false, .bool false]).cell (i := 0) rfl
              have c1 := (HB12.out.2.1.alloc (.cells #[.bool false, .bool false] 73)).cell (i := 1) rfl
              have d1 := (HB12.out.2.2.alloc (.cells #[.bool false, .bool false] 73)).cell (i := 1) rfl
              have e1 := (Blk.new w12 73 [.bool false, .bool false]).cell (i := 1) rfl
              have hq1 : ∀ w, (Op.equalIn 10000 73 (.agg #[.bool false, .bool false]) (.agg #[.bool false, .bool false])).run Tryz.prog w = .ok true w := fun w => eqB2 false false false false w
              go_wp2_with (go_at_call 38; refine (cP.out _ _ HO13.out).mono ?_; rintro e w13 ⟨rfl, rfl⟩)
              obtain ⟨w13, hw13⟩ : ∃ w13, w12.alloc (.cells #[.bool false, .bool false] 73) = w13 := ⟨_, rfl⟩
              have HB13 : Hid (Blk w13 pb 58 [.int .i64 qa, .int .u64 (qg : Nat), .int .u32 (qs : Nat)]) := Lib.hid (by rw [← hw13]; exact HB12.out.1.alloc _)
              rw [hw13] at HO13 ⊢
              clear hw13 q0 q1 q2 c0 c1 d0 d1 e0 e1 HB12 HB11 HO12 HN12
              refine (cC.out _ _ HO13.out).mono ?_
              rintro e w14 ⟨rfl, HO14, HN14⟩
              have HB14 := Lib.hid (HN14.out.blk HB13.out (by simp))
              have q0 := HB14.out.cell (i := 0) rfl
              have q1 := HB14.out.cell (i := 1) rfl
              have q2 := HB14.out.cell (i := 2) rfl
              go_wp2_with fail
              refine (cU.out _ _ HO14.out).mono ?_
              rintro e w15 ⟨rfl, HO15, HN15⟩
              have HB15 := Lib.hid (HN15.out.blk HB14.out (by simp))
              have HO16 := Lib.hid (HO15.out.grow (.cells #[.bool false, .bool false] 73))
              clear q0 q1 q2
              go_wp2_with fail
              obtain ⟨w16, hw16⟩ : ∃ w16, w15.alloc (.cells #[.bool false, .bool false] 73) = w16 := ⟨_, rfl⟩
              obtain ⟨cb, hcb⟩ : ∃ cb, w15.heap.size = cb := ⟨_, rfl⟩
              have HB16 : Hid (Blk w16 pb 58 [.int .i64 qa, .int .u64 (qg : Nat), .int .u32 (qs : Nat)] ∧ Blk w16 cb 73 [.bool false, .bool false]) := Lib.hid ⟨by rw [← hw16]; exact HB15.out.alloc _, by rw [← hw16, ← hcb]; exact Blk.new w15 73 _⟩
              rw [hw16] at HO16
              rw [hw16, hcb]
              clear hw16 hcb HB15 HO15 HN15
              refine (cN.out _ _ HO16.out).mono ?_
              rintro e w17 ⟨rfl, HM17⟩
              have q0 := ((HB16.out.1.keep HM17.out (by simp)).alloc (.cells #[.bool false, .bool false] 73)).cell (i := 0) rfl
              have q1 := ((HB16.out.1.keep HM17.out (by simp)).alloc (.cells #[.bool false, .bool false] 73)).cell (i := 1) rfl
              have q2 := ((HB16.out.1.keep HM17.out (by simp)).alloc (.cells #[.bool false, .bool false] 73)).cell (i := 2) rfl
              go_wp2_with fail
              obtain ⟨w18, hw18⟩ : ∃ w18, w17.alloc (.cells #[.bool false, .bool false] 73) = w18 := ⟨_, rfl⟩
              have HM18 : Hid (Mods [] w16 w18) := Lib.hid (by rw [← hw18]; exact HM17.out.alloc _)
              rw [hw18]
              clear hw18 q0 q1 q2
              refine (cZ.out _).mono ?_
              rintro e w19 ⟨rfl, HM19⟩
              have c0 := ((HB16.out.2.keep (HM18.out.trans HM19.out (by simp)) (by simp)).alloc (.cells #[.bool false, .bool false] 73)).cell (i := 0) rfl
              have c1 := ((HB16.out.2.keep (HM18.out.trans HM19.out (by simp)) (by simp)).alloc (.cells #[.bool false, .bool false] 73)).cell (i := 1) rfl
              have h4p : (h : Int) % 4 = 3 := by simpa using h43
              have hq2 : ∀ w, (Op.equalIn 10000 73 (.agg #[.bool false, .bool false]) (.agg #[.bool true, .bool true])).run Tryz.prog w = .ok false w := fun w => eqB2 false false true true w
              go_wp2_with fail
              go_ret
              refine ⟨rfl, ((HO16.out.mods.trans (HM18.out.trans HM19.out (by simp)) (by simp)).alloc _)⟩
end Go.Proofs.YtnpfhfgegjocoaaGreat
namespace Go.Proofs.YtnpfhfgegjocoaaGreat
open Go.ChangeShapes Go.WideShapes Go.ChangeAt Go.RowKit

theorem readables_mirrorWhole : ∀ t ∈ (#[9, 5, 5] : Array TypeId).toList, Tryz.prog.readableRec t = true ∧ t < Tryz.prog.types.size := by
  intro t ht
  simp only [List.mem_cons, List.not_mem_nil, or_false] at ht
  rcases ht with rfl | rfl | rfl
  all_goals exact ⟨by kernel_rfl, of_decide_eq_true (by kernel_rfl)⟩

set_option maxRecDepth 100000 in
theorem mirrorWhole_contract (H : Type) (enc : TypeId × Value → H) (W : World) (base : Nat) (args : Array Value) (ds gs : List (DataW H)) (before : List MemPlace)
    (hval : ∀ (j : Nat) t v, Tryz.f5.params[j]? = some t → args[j]? = some v → Value.okWide Tryz.prog W .any base t v)
    (hW : DataW.Whole enc Tryz.prog Tryz.f5.params.toList Rows.mirrorWholeSpec.vars false W args.toList ds gs before) :
    Calls Tryz.prog 5 args W fun e W' => ∃ v, e = .returned v ∧ Rows.mirrorWholeSpec.post enc Tryz.prog Tryz.f5 false true false false W args v W' := by
  have hW' := hW
  obtain ⟨p, q, hA0, hV, he, hfz, hnd⟩ := hW
  have hA : DataW.TrodAll enc Tryz.prog W 0 (fun _ => true) true Tryz.f5.params.toList args.toList ds p := hA0
  rw [Tryz.params5] at hA hval
  obtain ⟨v0, vs0, d0, ds0, p0, q0, hargs, rfl, rfl, h0, r0⟩ := trodAll_cons hA
  obtain ⟨v1, vs1, d1, ds1, p1, q1, rfl, rfl, rfl, h1, r1⟩ := trodAll_cons r0
  obtain ⟨v2, vs2, d2, ds2, p2, q2, rfl, rfl, rfl, h2, r2⟩ := trodAll_cons r1
  obtain ⟨rfl, rfl, rfl⟩ := trodAll_nil r2
  obtain rfl : args = #[v0, v1, v2] := by cases args; simp_all
  obtain ⟨s, rfl, rfl, rfl, ws⟩ := ChangeMaps.open_string Tryz.underlying9 (hval 0 9 v0 rfl rfl) h0
  obtain ⟨hm', rfl, rfl, rfl, whm⟩ := open_int Tryz.underlying5 (hval 1 5 v1 rfl rfl) h1
  have bhm := bounds_u8 whm
  obtain ⟨hm, rfl⟩ := Int.eq_ofNat_of_zero_le bhm.1
  obtain ⟨bt', rfl, rfl, rfl, wbt⟩ := open_int Tryz.underlying5 (hval 2 5 v2 rfl rfl) h2
  have bbt := bounds_u8 wbt
  obtain ⟨bt, rfl⟩ := Int.eq_ofNat_of_zero_le bbt.1
  refine (mirrorWhole_walk s hm bt (by omega) (by omega) W).mono fun e W' ⟨he', hm⟩ => ?_
  subst he'
  exact ⟨_, rfl, post_law laidOut (by rw [Tryz.params5]; exact readables_mirrorWhole) (by rfl) Tryz.underlying4 rfl rfl hW' hm.below⟩

set_option maxRecDepth 100000 in
theorem mirrorWhole_lifted (os : Os) (started : os.Started) (H : Type) (enc : TypeId × Value → H) :
    ReturnsInHanded {} Tryz.checked os 5 .any (Rows.mirrorWholeSpec.pre6 enc Tryz.prog Tryz.f5 Rows.mirrorWholeRow.domain false) (Rows.mirrorWholeSpec.post enc Tryz.prog Tryz.f5 false true false false) := by
  refine returnsInHanded_of_change (C := Tryz.checked) own started (by kernel_rfl) Tryz.func5
    (ChangeSpec.witness6 (enc := enc) (C := Tryz.checked) false ⟨#[], #[.string ⟨#[]⟩, .int .u8 0, .int .u8 0], []⟩ 8 (by kernel_rfl) (by kernel_rfl) (by kernel_rfl) (by kernel_rfl)) ?_
  intro W base args ds gs before hval hW _ _
  exact mirrorWhole_contract H enc W base args ds gs before hval hW

/-- The law. -/
theorem mirrorWhole_said : Rows.MirrorWholeSaid :=
  OpenClaim.holds_of_wide 5 Tryz.f5 rfl rfl rfl rfl rfl rfl rfl ⟨rfl, rfl, rfl, rfl, rfl⟩ rfl rfl rfl rfl rfl (by kernel_rfl) Tryz.func5 (by kernel_rfl)
    (of_decide_eq_true (by kernel_rfl)) (by unfold Func.isWrapper; first | (rw [if_pos (by decide +kernel)]; kernel_rfl) | (rw [if_neg (by decide +kernel)]; exact ⟨rfl, rfl⟩))
    (fun os started H enc _ => mirrorWhole_lifted os started H enc)
end Go.Proofs.YtnpfhfgegjocoaaGreat
