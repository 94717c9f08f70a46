/- SilverRefuses: the walk. -/
import Derived.Test.YtkjpdfomppjiiaaGreatDoorKLa
/- law25: what the document fixes: the parts. -/
namespace Go.Proofs.YtkjpdfomppjiiaaGreatDoor
open Go.RowKit

section
variable {W w w' : World} {F : List Nat} {x : Nat → Nat} {a : StA} {M : Mi} {B z n c sc sv nx ps rp : Nat} {rd : Nat → Nat → ByteArray} {lv ov : Value}
theorem SbIn.aside {K : List Nat} (h : SbIn W w F x a M B z n c rd sc nx ps rp lv ov) (hm : Mods K w w') (hK : ∀ k ∈ K, k ∈ F ∧ W.heap.size ≤ k ∧ k ∉ a.all ∧ k ≠ sc) : SbIn W w' F x a M B z n c rd sc nx ps rp lv ov :=
 ⟨h.st.aside hm (fun k hk => ⟨(hK k hk).1, (hK k hk).2.1, (hK k hk).2.2.1⟩), h.wd, h.blk.keep hm (fun hx => (hK sc hx).2.2.2 rfl), h.mem⟩
theorem WD.here (h : WD B z n c M rd) {d : Nat} (hd : d < 2) : (M.P.dev d).gone = false := (h.gm.pi.inv.dev d hd).q.gone
theorem WS.here {r : Nat → ByteArray} (h : WS B z n c M r) {d : Nat} (hd : d < 2) : (M.P.dev d).gone = false := (h.gm.pi.inv.dev d hd).q.gone
end
def rdS (s : Nat) : Nat → Nat → ByteArray := fun d i => if d = s then bA (zerosL 320) else rd25' i
theorem cp25 {s : Nat} (hs : s < 2) : Cp 56 320 (rdS s) root25 (lfImg 320 6 1 []) 6 := by
 have hil : (lfImg 320 6 1 []).size = 320 := by unfold lfImg; rw [bA_size]; exact sealL_len _ (by simp)
 have h6 : ∀ d, d ≠ s → rdS s d 6 = lfImg 320 6 1 [] := fun d hd => by unfold rdS; rw [if_neg hd]; rfl
 refine ⟨by decide, rfl, hil, ?_, fun d hd => ?_, ⟨1 - s, by omega, h6 _ (by omega)⟩⟩
 ·unfold lfImg
  rw [bA_list]
  exact seal_meets (size := 320) (h := lfHead 6 1) (by decide) (by decide) (by decide) (by simp)
 ·by_cases e : d = s
  ·refine .inr ?_
   unfold rdS
   rw [if_pos e, bA_list]
   exact open_zeros 320
  ·exact .inl (h6 d e)
section
variable {W w0 w : World} {F : List Nat} {x : Nat → Nat} {a : StA} {M : Mi} {d sv : Nat} {fd : List Nat} {cv : Value} {un : Bool}
theorem StIn.goX {W w w' : World} {F G : List Nat} {x x' : Nat → Nat} {a : StA} {M M' : Mi} (h : StIn W w F x a M) (ho : OwnM W G w' a.mb a.p x' M') (hm : Minds F w w') (hG : ∀ g ∈ F, g ∈ G) : StIn W w' G x' a M' := by
 have hx := fun {g : Nat} (hg : g ∈ a.all) => (h.mem g hg).1
 refine ⟨ho, hm.blk h.st (hx (StA.in5 (by simp [StA.five]))), hm.blk h.sum (hx (StA.in5 (by simp [StA.five]))), ?_, ?_, hm.map h.imgs (hx (StA.in5 (by simp [StA.five]))), hm.blk h.tree (hx (StA.in5 (by simp [StA.five]))), hm.blk h.leaf (hx (StA.in5 (by simp [StA.five]))), fun g hg => ⟨hG g (h.mem g hg).1, (h.mem g hg).2⟩, h.nd, h.off, h.apart⟩
 ·exact (Turn.minds (K := []) hm).cache h.cache (fun g hg => hx (StA.inC hg)) (by simp)
 ·exact (Turn.minds (K := []) hm).space h.space (fun g hg => hx (StA.inS hg)) (by simp)
theorem slRep_ok {s : Nat} (hs : s < 2) {E : Dev} (h : StIn W w0 F x a { M with P := M.P.setDev s E }) (hm : Mods [] w0 w) (hsv : Blk w0 sv 50 (slC a.sb cv un)) (hsF : sv ∈ F ∧ W.heap.size ≤ sv ∧ sv ∉ a.all) (hw : WS 56 320 4 0 M rd25') (hd : IsDev w d fd (Dev.new 64 320)) (hn : ∀ g ∈ fd, w0.heap.size ≤ g) :
  Calls Tryz.prog 9 #[.pointer (some ⟨sv, 0, none⟩), .int .i64 (s : Nat), .pointer (some ⟨d, 0, none⟩)] w fun e w' => e = .returned (.int .i64 0) ∧ Hid (∃ sc lm P', SbIn W w' ([sc] ++ F) (upd x s d) a ⟨P', M.bl, M.reps⟩ 56 320 4 0 (rdS s) sc 0 0 0 (.map (some lm)) (.map none) ∧ Blk w' sv 50 (slC a.sb (.pointer (some ⟨sc, 0, none⟩)) true) ∧ sc ≠ sv ∧ Minds (F.filter (· ≠ sv)) w w') := by
 have key := slReplace_any (hsv.keep hm (by simp)) (h.st.keep hm (by simp)) (h.own.still hm) (oReplace (n := 4) (B := 56) (z := 320) hs h.own hm hw (by decide) right25 (by decide) hd hn) (fun w' ⟨P', _, _, hmi⟩ => hmi.blk (hsv.keep hm (by simp)) hsF.1)
 refine key.mono fun e w' ⟨h1, h2⟩ => ⟨h1, ?_⟩
 obtain ⟨w1, w3, sc, lm, ⟨P', o1, o2, o3⟩, m1, l1, b1, m2, b2⟩ := h2.out
 have hI1 := (h.calm hm).goX o1 o3 (fun _ h => h)
 have hI3 := hI1.protect (G := [sc]) m1 (fun k hk => by rw [List.mem_singleton.1 hk]; exact ⟨l1, b1.lt⟩)
 have hl := hI1.own.lt sv hsF.1
 have hne : sc ≠ sv := by omega
 have hW1 := hI1.own.mods.size
 have hK : ∀ k ∈ [sv], k ∈ [sc] ++ F ∧ W.heap.size ≤ k ∧ k ∉ a.all := fun k hk => by
  rw [List.mem_singleton.1 hk]
  exact ⟨List.mem_append_right _ hsF.1, hsF.2⟩
 refine Lib.hid ⟨sc, lm, P', ⟨hI3.aside m2 hK, o2, b1.keep m2 (by simp; exact hne), ⟨by simp, by omega, fun hx => by have := hI1.all_lt hx; omega⟩⟩, b2, hne, ?_⟩
 refine ((o3.tr m1).mono (fun g hg => (List.mem_filter.1 hg).1)).trans ⟨[sv], m2, fun k hk hx => ?_⟩
 have := (List.mem_filter.1 hx).2
 simp at this
 exact this (List.mem_singleton.1 hk)
theorem slStp {c sc lm nx ps rp k : Nat} {rd : Nat → Nat → ByteArray} {ov : Value} (h : SbIn W w F x a M 56 320 4 c rd sc nx ps rp (.map (some lm)) ov) (hsv : Blk w sv 50 (slC a.sb (.pointer (some ⟨sc, 0, none⟩)) true)) (hsF : sv ∈ F ∧ W.heap.size ≤ sv ∧ sv ∉ a.all ∧ sv ≠ sc) (hc : Cp 56 320 rd root25 (lfImg 320 6 1 []) 6) (hsup : a.sup = sup25') (hcl : c ≤ 1000) (hr : M.reps ≤ 100000) (hnx : nx < 56) (hps : ps ≤ 1000) (hrp : rp ≤ 100000) (hk : 1 ≤ k) (hkl : k < 9223372036854775807) :
  Calls Tryz.prog 8 #[.pointer (some ⟨sv, 0, none⟩), .int .i64 (k : Nat)] w fun e w' => e = .returned (.tuple #[.bool (decide (56 ≤ nx + k)), .int .i64 0]) ∧ Hid (∃ rd' M' rp' lm' ov', SbIn W w' F x a M' 56 320 4 0 rd' sc (if decide (56 ≤ nx + k) then 0 else nx + k) (if decide (56 ≤ nx + k) then ps + 1 else ps) rp' (.map (some lm')) ov' ∧ Cp 56 320 rd' root25 (lfImg 320 6 1 []) 6 ∧ M'.reps ≤ M.reps + 112 ∧ rp' ≤ rp + 112 ∧ Blk w' sv 50 (slC a.sb (.pointer (some ⟨sc, 0, none⟩)) (!decide (56 ≤ nx + k)))) := by
 have hS := sbStep_any h hc (by omega) (by omega) hnx (by decide) (by omega) (by omega) (by rw [hsup]; exact sup25_ok') (by rw [hsup]; rfl) (by rw [hsup]; rfl) (by decide) (by decide) hk hkl
 have key := slStep_any (k := (k : Int)) (by omega) hsv hS (fun w' hp => by
  obtain ⟨_, _, _, _, _, _, _, _, _, hmi⟩ := hp
  exact (hmi [sv] (fun g hg => by rw [List.mem_singleton.1 hg]; exact ⟨hsF.1, hsF.2.2.2⟩)).blk hsv (by simp))
 refine key.mono fun e w' ⟨h1, h2⟩ => ⟨h1, ?_⟩
 obtain ⟨w1, ⟨rd', M', rp', lm', ov', g1, g2, g3, g4, _⟩, m1, b1⟩ := h2.out
 exact Lib.hid ⟨rd', M', rp', lm', ov', g1.aside m1 (fun k hk => by rw [List.mem_singleton.1 hk]; exact hsF), g2, g3, g4, b1⟩
end
end Go.Proofs.YtkjpdfomppjiiaaGreatDoor
/- law25: what the document fixes. -/
namespace Go.Proofs.YtkjpdfomppjiiaaGreatDoor
open Go.RowKit

section
variable {w : World}
set_option maxRecDepth 100000 in
set_option maxHeartbeats 6400000 in
theorem w25_any (hT : DbTab w) : Calls Tryz.prog 6 #[] w fun e w' => e = .returned (.bool true) ∧ Hid (Mods [] w w') := by
 have cF := Lib.hid (f25_any hT)
 clear hT
 go_enter Tryz.func6, Tryz.ntmps6
 go_upto_region 2 with (go_at_call 4; refine cF.out.mono ?_; rintro e w1 ⟨x, sb, rfl, HFR⟩)
 obtain ⟨F, a, M, hst, hre, hws, rfl, hsup⟩ := HFR.out
 obtain ⟨w2, hw2⟩ : ∃ w2, w1.alloc (.cells #[.pointer (some ⟨x 0, 0, none⟩), .pointer (some ⟨x 1, 0, none⟩)] 23) = w2 := ⟨_, rfl⟩
 obtain ⟨g, hg⟩ : ∃ g, w1.heap.size = g := ⟨_, rfl⟩
 have hb2 : Blk w2 g 23 [.pointer (some ⟨x 0, 0, none⟩), .pointer (some ⟨x 1, 0, none⟩)] := by rw [← hw2, ← hg]; exact Blk.new w1 23 _
 have hm2 : Mods [] w1 w2 := by rw [← hw2]; exact (Mods.refl _ _).alloc _
 have hs2 : w2.heap.size = g + 1 := by rw [← hw2, ← hg]; simp
 rw [hw2, hg]
 have HST2 := Lib.hid (hst.protect (G := [g]) hm2 (fun k hk => by rw [List.mem_singleton.1 hk]; omega))
 have HB2 := Lib.hid hb2
 have HWS := Lib.hid (And.intro hws (And.intro hre hsup))
 have HG : Hid (g ∉ a.all ∧ w.heap.size ≤ g) := Lib.hid ⟨fun hx => by have := hst.all_lt hx; omega, by have := hst.own.mods.size; omega⟩
 clear hst hre hws hsup hb2 hm2 hs2 hw2 hg cF HFR
 go_upto_region 3 with (go_at_call 5; refine slNew_any.mono ?_; rintro e w3 ⟨sv, rfl, HS3, HM3, HL3⟩)
 have HST3 := Lib.hid (HST2.out.protect (G := [sv]) HM3.out (fun k hk => by rw [List.mem_singleton.1 hk]; exact ⟨HL3.out, HS3.out.lt⟩))
 have HSV : Hid (sv ∉ a.all ∧ w.heap.size ≤ sv ∧ sv ≠ g) := Lib.hid (by
  have h1 := HL3.out
  have h2 := HB2.out.lt
  have h3 := HST2.out.own.mods.size
  exact ⟨fun hx => by have := HST2.out.all_lt hx; omega, by omega, by omega⟩)
 have hb3 := HB2.out.keep HM3.out (by simp)
 have c0 := hb3.cell (i := 0) rfl
 clear hb3
 have cK := Lib.hid (oKill HST3.out.own (s := 0) (by decide))
 obtain ⟨y0, hy0⟩ : ∃ y, x 0 = y := ⟨_, rfl⟩
 rw [hy0] at cK c0
 go_upto_region 4 with (go_at_call 17; refine cK.out.mono ?_; rintro e w4 ⟨rfl, HO4, HN4⟩)
 have HST4 := Lib.hid (HST3.out.go HO4.out HN4.out (fun _ h => h))
 have HS4 := Lib.hid (HN4.out.blk HS3.out (by simp))
 have cG := slDegr_any HS4.out HST4.out.st HST4.out.own
 rw [show (({ M with P := M.P.setDev 0 { M.P.dev 0 with gone := true } } : Mi).P.dev 0).gone = true from rfl, Bool.true_or] at cG
 replace cG := Lib.hid cG
 have cSp := Lib.hid (fun w => s25_any (w := w) 64 right25)
 clear c0 cK
 go_upto_region 5 with (go_at_call 10; refine cG.out.mono ?_; rintro e w5 ⟨rfl, hw5⟩; subst hw5)
 have hsvF : sv ∈ [sv] ++ ([g] ++ F) ∧ w.heap.size ≤ sv ∧ sv ∉ a.all := ⟨by simp, HSV.out.2.1, HSV.out.1⟩
 have HSF := Lib.hid hsvF
 have cR := Lib.hid (fun (w' : World) (hm : Mods [] w4 w') (d : Nat) (fd : List Nat) (hd : IsDev w' d fd (Dev.new 64 320)) (hn : ∀ g ∈ fd, w4.heap.size ≤ g) => slRep_ok (s := 0) (by decide) HST4.out hm HS4.out hsvF HWS.out.1 hd hn)
 clear hsvF cG
 go_upto_region 6 with (first | (go_at_call 7; refine (cSp.out _).mono ?_; rintro e w5 ⟨d, fd, rfl, HD5, HM5, HL5⟩) | (go_at_call 9; refine (cR.out _ HM5.out _ _ HD5.out HL5.out).mono ?_; rintro e w6 ⟨rfl, HU6⟩))
 obtain ⟨sc, lm, P', hsb, hbs, hne, _⟩ := HU6.out
 have cS := Lib.hid (slStp (k := 30) hsb hbs ⟨List.mem_append_right _ HSF.out.1, HSF.out.2.1, HSF.out.2.2, fun e => hne e.symm⟩ (cp25 (by decide)) HWS.out.2.2 (by decide) (by have := HWS.out.2.1.1; show M.reps ≤ 100000; omega) (by decide) (by decide) (by decide) (by decide) (by decide))
 rw [show decide (56 ≤ 0 + 30) = false from rfl] at cS
 have HNE := Lib.hid hne
 have HR0 : Hid (M.reps = 0) := Lib.hid HWS.out.2.1.1
 clear hsb hbs hne cR cSp
 go_upto_region 7 with (go_at_call 8; refine cS.out.mono ?_; rintro e w7 ⟨rfl, HU7⟩)
 obtain ⟨rd7, M7, rp7, lm7, ov7, hsb7, hcp7, hre7, hrp7, hbs7⟩ := HU7.out
 simp only [Bool.false_eq_true, if_false, Bool.not_false] at hsb7 hbs7
 have cG := Lib.hid (slDegr_under hbs7)
 have cS2 := Lib.hid (slStp (k := 30) hsb7 hbs7 ⟨List.mem_append_right _ HSF.out.1, HSF.out.2.1, HSF.out.2.2, fun e => HNE.out e.symm⟩ hcp7 HWS.out.2.2 (by decide) (by have := HR0.out; omega) (by decide) (by decide) (by omega) (by decide) (by decide))
 rw [show decide (56 ≤ 0 + 30 + 30) = true from rfl] at cS2
 clear hsb7 hbs7 hcp7 hre7 hrp7 cS
 go_upto_region 9 with (first | (go_at_call 10; refine cG.out.mono ?_; rintro e w8 ⟨rfl, hw8⟩; subst hw8) | (go_at_call 8; refine cS2.out.mono ?_; rintro e w9 ⟨rfl, HU9⟩))
 obtain ⟨rd9, M9, rp9, lm9, ov9, hsb9, hcp9, hre9, hrp9, hbs9⟩ := HU9.out
 simp only [if_true, Bool.not_true] at hsb9 hbs9
 have cG := slDegr_any hbs9 hsb9.st.st hsb9.st.own
 rw [hsb9.wd.here (d := 0) (by decide), hsb9.wd.here (d := 1) (by decide), Bool.or_self] at cG
 replace cG := Lib.hid cG
 have cD := Lib.hid (slDone_done hbs9 hsb9.st.st hsb9.st.own hsb9.wd.fine)
 have HMW := Lib.hid hsb9.st.own.mods
 clear hsb9 hcp9 hre9 hrp9 hbs9 cS2
 go_wp2_with (first | (go_at_call 10; refine cG.out.mono ?_; rintro e w10 ⟨rfl, hw10⟩; subst hw10) | (go_at_call 11; refine cD.out.mono ?_; rintro e w11 ⟨rfl, HM11⟩))
 go_ret
 exact ⟨rfl, Lib.hid (HMW.out.tr HM11.out)⟩
end
end Go.Proofs.YtkjpdfomppjiiaaGreatDoor
namespace Go.Proofs.YtkjpdfomppjiiaaGreatDoor
open Go.RowKit

theorem right_other {n : Nat} (h1 : 65 ≤ n) (h2 : n ≤ 164) : Dev.right ((n : Nat) : Int) ((320 : Nat) : Int) = true := by
 unfold Dev.right
 simp
 omega
section
variable {w : World}
set_option maxRecDepth 100000 in
set_option maxHeartbeats 6400000 in
theorem SilverRefuses_walk (hT : DbTab w) (side k sectors : Int) : Calls Tryz.prog 3 #[.int .i64 side, .int .i64 k, .int .i64 sectors] w fun e w' => e = .returned (.bool true) ∧ Mods [] w w' := by
 have cF := Lib.hid (f25_any hT)
 have HTT := Lib.hid hT
 obtain ⟨m, hm⟩ : ∃ m : Nat, (if (0 : Int) < sectors then sectors else 0) = (m : Int) := by
  split
  ·exact ⟨sectors.toNat, by omega⟩
  ·exact ⟨0, rfl⟩
 have hmx : ∀ (ts : Array TypeId) (t : TypeId) (w : World), (Builtin.max_ ts t #[.int .i64 0, .int .i64 sectors]).run Tryz.prog w = .ok (.int .i64 (m : Nat)) w := fun ts t w => by
  rw [run_max_int2, hm]
 obtain ⟨r, hr⟩ : ∃ r : Nat, m % 100 = r := ⟨_, rfl⟩
 have hr2 : Int.tmod (m : Int) 100 = (r : Int) := by rw [← hr]; exact (Int.ofNat_tmod m 100).symm
 have hrl : r < 100 := by rw [← hr]; exact Nat.mod_lt _ (by decide)
 obtain ⟨n, hn⟩ : ∃ n : Nat, 65 + r = n := ⟨_, rfl⟩
 have hn2 : (65 : Int) + (r : Int) = (n : Int) := by omega
 have e1 : IntKind.i64.wrap (r : Int) = (r : Int) := by rw [IntKind.wrap_i64]; omega
 have e2 : IntKind.i64.wrap (n : Int) = (n : Int) := by rw [IntKind.wrap_i64]; omega
 have e3 : wrap64 (r : Int) = (r : Int) := by unfold wrap64; omega
 have e4 : wrap64 (n : Int) = (n : Int) := by unfold wrap64; omega
 have cOt := Lib.hid (fun w => s25_any (w := w) n (right_other (by omega) (by omega)))
 have HN : Hid (n ≠ 64) := Lib.hid (by omega)
 clear hT hm hr hrl hn
 go_enter Tryz.func3, Tryz.ntmps3
 go_upto_region 2 with (go_at_call 4; refine cF.out.mono ?_; rintro e w1 ⟨x, sb, rfl, HFR⟩)
 obtain ⟨F, a, M, hst, hre, hws, rfl, hsup⟩ := HFR.out
 obtain ⟨w2, hw2⟩ : ∃ w2, w1.alloc (.cells #[.pointer (some ⟨x 0, 0, none⟩), .pointer (some ⟨x 1, 0, none⟩)] 23) = w2 := ⟨_, rfl⟩
 obtain ⟨g, hg⟩ : ∃ g, w1.heap.size = g := ⟨_, rfl⟩
 have hb2 : Blk w2 g 23 [.pointer (some ⟨x 0, 0, none⟩), .pointer (some ⟨x 1, 0, none⟩)] := by rw [← hw2, ← hg]; exact Blk.new w1 23 _
 have hm2 : Mods [] w1 w2 := by rw [← hw2]; exact (Mods.refl _ _).alloc _
 have hs2 : w2.heap.size = g + 1 := by rw [← hw2, ← hg]; simp
 rw [hw2, hg]
 have HST2 := Lib.hid (hst.protect (G := [g]) hm2 (fun k hk => by rw [List.mem_singleton.1 hk]; omega))
 have HB2 := Lib.hid hb2
 have HWS := Lib.hid (And.intro hws (And.intro hre hsup))
 clear hst hre hws hsup hb2 hm2 hs2 hw2 hg cF HFR
 have cNn := Lib.hid (fun w => slNew_nil (w := w))
 go_upto_region 4 with (first | (go_at_call 5; have H3 := HM3; refine (cNn.out _).mono ?_; rintro e w4 ⟨rfl, hw4⟩; subst hw4) | (go_at_call 5; refine slNew_any.mono ?_; rintro e w3 ⟨sv, rfl, HS3, HM3, HL3⟩))
 have HST3 := Lib.hid (HST2.out.protect (G := [sv]) HM3.out (fun k hk => by rw [List.mem_singleton.1 hk]; exact ⟨HL3.out, HS3.out.lt⟩))
 have HSV : Hid (sv ∈ [sv] ++ ([g] ++ F) ∧ w.heap.size ≤ sv ∧ sv ∉ a.all) := Lib.hid (by
  have h1 := HL3.out
  have h3 := HST2.out.own.mods.size
  exact ⟨by simp, by omega, fun hx => by have := HST2.out.all_lt hx; omega⟩)
 have cW := Lib.hid (w25_any (w := w3) (HTT.out.keep HST3.out.own.mods (by simp)))
 go_upto_region 6 with (go_at_call 6; refine cW.out.mono ?_; rintro e w4 ⟨rfl, HM4⟩)
 go_upto_region 7 with (go_at_call 7; refine (cOt.out _).mono ?_; rintro e w5 ⟨d5, fd5, rfl, HD5, HM5, HL5⟩)
 -- ARMS
 obtain ⟨tb, mmb, gp, fx, hI, _⟩ := HST3.out.own.ex
 have HA : Hid (∀ w', Mods [] w3 w' → Blk w' sv 50 (slC a.sb (.pointer none) false) ∧ Blk w' a.sb 85 a.cells ∧ OwnM w ([sv] ++ ([g] ++ F)) w' a.mb a.p x M ∧ IsPair w' a.p gp x fx M.P ∧ StIn w w' ([sv] ++ ([g] ++ F)) x a M ∧ Blk w' g 23 [.pointer (some ⟨x 0, 0, none⟩), .pointer (some ⟨x 1, 0, none⟩)]) := Lib.hid (fun w' hm => ⟨HS3.out.keep hm (by simp), HST3.out.st.keep hm (by simp), HST3.out.own.still hm, hI.pair.keep0 hm, HST3.out.calm hm, (HB2.out.keep HM3.out (by simp)).keep hm (by simp)⟩)
 have hsec : (M.P.dev 0).sectors = 64 := ((HWS.out.1.replace (s := 0) (by decide) right25 (by decide)).1.2).symm
 have HM35 := Lib.hid (HM4.out.tr HM5.out)
 have cR1 := Lib.hid (by
  obtain ⟨h1, h2, h3, h4, _⟩ := HA.out w5 HM35.out
  exact slReplace_err (k := 2) (by decide) h1 h2 h3 (rReplace_unlike h4 HD5.out (by show n ≠ _; rw [hsec]; exact HN.out)))
 have cR2 := Lib.hid (fun (w' : World) (hm : Mods [] w3 w') => slReplace_err (s := 0) (d := none) (k := 1) (by decide) (HA.out w' hm).1 (HA.out w' hm).2.1 (HA.out w' hm).2.2.1 ((rReplace_nilD a.p 0).mono (fun e w'' ⟨h1, h2⟩ => ⟨h1, by rw [← h2]; exact Lib.hid (Mods.refl _ _)⟩)))
 have cR3 := Lib.hid (fun (w' : World) (hm : Mods [] w3 w') => slReplace_err (k := 2) (by decide) (HA.out w' hm).1 (HA.out w' hm).2.1 (HA.out w' hm).2.2.1 (rReplace_other (HA.out w' hm).2.2.2.1))
 have cG : Hid (∀ w', Mods [] w3 w' → Calls Tryz.prog 10 #[.pointer (some ⟨sv, 0, none⟩)] w' fun e w'' => e = .returned (.bool false) ∧ w' = w'') := Lib.hid (fun w' hm => by
  have h := slDegr_any (HA.out w' hm).1 (HA.out w' hm).2.1 (HA.out w' hm).2.2.1
  rw [HWS.out.1.here (d := 0) (by decide), HWS.out.1.here (d := 1) (by decide), Bool.or_self] at h
  exact h)
 have cDn := Lib.hid (fun (w' : World) (hm : Mods [] w3 w') => slDone_none (HA.out w' hm).1)
 have cCo := Lib.hid (fun (w' : World) (hm : Mods [] w3 w') => slCopied_none (HA.out w' hm).1)
 obtain ⟨y1, hy1⟩ : ∃ y, x 1 = y := ⟨_, rfl⟩
 have HY1 := Lib.hid hy1
 rw [hy1] at cR3
 have HCB : Hid (∀ w', Mods [] w3 w' → w'.cell? ⟨g, 1, none⟩ = some (.pointer (some ⟨y1, 0, none⟩))) := Lib.hid (fun w' hm => by rw [← hy1]; exact (HA.out w' hm).2.2.2.2.2.cell (i := 1) rfl)
 have cSp := Lib.hid (fun w => s25_any (w := w) 64 right25)
 clear hI hsec hy1 cW cNn cOt hmx hr2 hn2 e1 e2 e3 e4
 by_cases hk : k < 1
 ·have cSt := Lib.hid (slStep_arg (w := w5) (sv := sv) hk)
  have hd1 : decide (k < 1) = true := decide_eq_true hk
  have hd2 : decide (k ≥ 1) = false := decide_eq_false (by omega)
  go_upto_region 8 with (go_at_call 8; refine cSt.out.mono ?_; rintro e w6 ⟨rfl, hw6⟩; subst hw6)
  go_upto_region 10 with (first | (go_at_call 9; have zz := HM37; clear zz; refine (cR3.out _ HM37.out).mono ?_; rintro e w8 ⟨rfl, HM8⟩; have HM38 : Hid (Mods [] w3 w8) := Lib.hid (HM37.out.tr HM8.out)) | (go_at_call 9; have zz := HM36; clear zz; refine (cR2.out _ HM36.out).mono ?_; rintro e w7 ⟨rfl, HM7⟩; have HM37 : Hid (Mods [] w3 w7) := Lib.hid (HM36.out.tr HM7.out); have b1 := HCB.out _ HM37.out) | (go_at_call 9; refine cR1.out.mono ?_; rintro e w6 ⟨rfl, HM6⟩; have HM36 : Hid (Mods [] w3 w6) := Lib.hid (HM35.out.tr HM6.out)) | (go_at_call 10; refine (cG.out _ HM38.out).mono ?_; rintro e w9 ⟨rfl, hw9⟩; subst hw9) | (go_at_call 11; refine (cDn.out _ HM38.out).mono ?_; rintro e w9 ⟨rfl, hw9⟩; subst hw9) | (go_at_call 12; refine (cCo.out _ HM38.out).mono ?_; rintro e w9 ⟨rfl, hw9⟩; subst hw9))
  clear cSt cR1 cR2 cR3 cDn cCo hd1 hd2 b1
  by_cases hside : 0 ≤ side ∧ side < 2
  ·obtain ⟨s, hs⟩ : ∃ s : Nat, side = (s : Int) := ⟨side.toNat, by omega⟩
   subst hs
   have hs2 : s < 2 := by omega
   have hE : ({ M with P := M.P.setDev s (M.P.dev s) } : Mi) = M := by rw [setDev_self]
   have cR4 := Lib.hid (fun (w' : World) (hm : Mods [] w8 w') (d : Nat) (fd : List Nat) (hd : IsDev w' d fd (Dev.new 64 320)) (hn : ∀ g ∈ fd, w8.heap.size ≤ g) => slRep_ok (s := s) hs2 (E := M.P.dev s) (by rw [hE]; exact (HA.out w8 HM38.out).2.2.2.2.1) hm (HA.out w8 HM38.out).1 HSV.out HWS.out.1 hd hn)
   have hd3 : decide ((s : Int) ≥ 0) = true := decide_eq_true (by omega)
   have hd4 : decide ((s : Int) ≤ 1) = true := decide_eq_true (by omega)
   clear hE hs2 hside
   go_upto_region 11 with (first | (go_at_call 7; refine (cSp.out _).mono ?_; rintro e w9 ⟨d, fd, rfl, HD9, HM9, HL9⟩) | (go_at_call 9; refine (cR4.out _ HM9.out _ _ HD9.out HL9.out).mono ?_; rintro e w10 ⟨rfl, HU10⟩))
   obtain ⟨sc, lm, P', hsb, hbs, hne, _⟩ := HU10.out
   have cG2 := Lib.hid (slDegr_under hbs)
   have HMW := Lib.hid hsb.st.own.mods
   clear hsb hbs hne cR4 cSp cG
   go_wp2_with (first | (go_at_call 10; have zz := HD1; clear zz; refine slDegr_nil.mono ?_; rintro e w12 ⟨rfl, hw12⟩; subst hw12) | (go_at_call 10; refine cG2.out.mono ?_; rintro e w11 ⟨rfl, hw11⟩; subst hw11; have HD1 : Hid True := Lib.hid trivial) | (go_at_call 8; refine (slStep_nil _).mono ?_; rintro e w12 ⟨rfl, hw12⟩; subst hw12) | (go_at_call 9; refine (slReplace_nil _ _).mono ?_; rintro e w12 ⟨rfl, hw12⟩; subst hw12) | (go_at_call 11; refine slDone_nil.mono ?_; rintro e w12 ⟨rfl, hw12⟩; subst hw12) | (go_at_call 12; refine slCopied_nil.mono ?_; rintro e w12 ⟨rfl, hw12⟩; subst hw12))
   go_ret
   exact ⟨rfl, HMW.out⟩
  ·have cR4 := Lib.hid (fun (w' : World) (hm : Mods [] w3 w') (d : Nat) => slReplace_err (k := 2) (by decide) (HA.out w' hm).1 (HA.out w' hm).2.1 (HA.out w' hm).2.2.1 (rReplace_side a.p d hside))
   go_upto_region 11 with (first | (go_at_call 7; refine (cSp.out _).mono ?_; rintro e w9 ⟨d, fd, rfl, HD9, HM9, HL9⟩; have HM39 : Hid (Mods [] w3 w9) := Lib.hid (HM38.out.tr HM9.out)) | (go_at_call 9; refine (cR4.out _ HM39.out _).mono ?_; rintro e w10 ⟨rfl, HM10⟩; have HM310 : Hid (Mods [] w3 w10) := Lib.hid (HM39.out.tr HM10.out)))
   have cG2 := Lib.hid (cG.out _ HM310.out)
   have HMW := Lib.hid (HA.out _ HM310.out).2.2.1.mods
   clear cR4 cSp cG
   by_cases h0 : 0 ≤ side
   ·have hd3 : decide (side ≥ 0) = true := decide_eq_true (by omega)
    have hd4 : decide (side ≤ 1) = false := decide_eq_false (by omega)
    go_wp2_with (first | (go_at_call 10; have zz := HD1; clear zz; refine slDegr_nil.mono ?_; rintro e w12 ⟨rfl, hw12⟩; subst hw12) | (go_at_call 10; refine cG2.out.mono ?_; rintro e w11 ⟨rfl, hw11⟩; subst hw11; have HD1 : Hid True := Lib.hid trivial) | (go_at_call 8; refine (slStep_nil _).mono ?_; rintro e w12 ⟨rfl, hw12⟩; subst hw12) | (go_at_call 9; refine (slReplace_nil _ _).mono ?_; rintro e w12 ⟨rfl, hw12⟩; subst hw12) | (go_at_call 11; refine slDone_nil.mono ?_; rintro e w12 ⟨rfl, hw12⟩; subst hw12) | (go_at_call 12; refine slCopied_nil.mono ?_; rintro e w12 ⟨rfl, hw12⟩; subst hw12))
    go_ret
    exact ⟨rfl, HMW.out⟩
   ·have hd3 : decide (side ≥ 0) = false := decide_eq_false (by omega)
    go_wp2_with (first | (go_at_call 10; have zz := HD1; clear zz; refine slDegr_nil.mono ?_; rintro e w12 ⟨rfl, hw12⟩; subst hw12) | (go_at_call 10; refine cG2.out.mono ?_; rintro e w11 ⟨rfl, hw11⟩; subst hw11; have HD1 : Hid True := Lib.hid trivial) | (go_at_call 8; refine (slStep_nil _).mono ?_; rintro e w12 ⟨rfl, hw12⟩; subst hw12) | (go_at_call 9; refine (slReplace_nil _ _).mono ?_; rintro e w12 ⟨rfl, hw12⟩; subst hw12) | (go_at_call 11; refine slDone_nil.mono ?_; rintro e w12 ⟨rfl, hw12⟩; subst hw12) | (go_at_call 12; refine slCopied_nil.mono ?_; rintro e w12 ⟨rfl, hw12⟩; subst hw12))
    go_ret
    exact ⟨rfl, HMW.out⟩
 ·have cSt := Lib.hid (slStep_state hk (HA.out w5 HM35.out).1)
  have hd1 : decide (k < 1) = false := decide_eq_false hk
  have hd2 : decide (k ≥ 1) = true := decide_eq_true (by omega)
  go_upto_region 8 with (go_at_call 8; refine cSt.out.mono ?_; rintro e w6 ⟨rfl, hw6⟩; subst hw6)
  go_upto_region 10 with (first | (go_at_call 9; have zz := HM37; clear zz; refine (cR3.out _ HM37.out).mono ?_; rintro e w8 ⟨rfl, HM8⟩; have HM38 : Hid (Mods [] w3 w8) := Lib.hid (HM37.out.tr HM8.out)) | (go_at_call 9; have zz := HM36; clear zz; refine (cR2.out _ HM36.out).mono ?_; rintro e w7 ⟨rfl, HM7⟩; have HM37 : Hid (Mods [] w3 w7) := Lib.hid (HM36.out.tr HM7.out); have b1 := HCB.out _ HM37.out) | (go_at_call 9; refine cR1.out.mono ?_; rintro e w6 ⟨rfl, HM6⟩; have HM36 : Hid (Mods [] w3 w6) := Lib.hid (HM35.out.tr HM6.out)) | (go_at_call 10; refine (cG.out _ HM38.out).mono ?_; rintro e w9 ⟨rfl, hw9⟩; subst hw9) | (go_at_call 11; refine (cDn.out _ HM38.out).mono ?_; rintro e w9 ⟨rfl, hw9⟩; subst hw9) | (go_at_call 12; refine (cCo.out _ HM38.out).mono ?_; rintro e w9 ⟨rfl, hw9⟩; subst hw9))
  clear cSt cR1 cR2 cR3 cDn cCo hd1 hd2 b1
  by_cases hside : 0 ≤ side ∧ side < 2
  ·obtain ⟨s, hs⟩ : ∃ s : Nat, side = (s : Int) := ⟨side.toNat, by omega⟩
   subst hs
   have hs2 : s < 2 := by omega
   have hE : ({ M with P := M.P.setDev s (M.P.dev s) } : Mi) = M := by rw [setDev_self]
   have cR4 := Lib.hid (fun (w' : World) (hm : Mods [] w8 w') (d : Nat) (fd : List Nat) (hd : IsDev w' d fd (Dev.new 64 320)) (hn : ∀ g ∈ fd, w8.heap.size ≤ g) => slRep_ok (s := s) hs2 (E := M.P.dev s) (by rw [hE]; exact (HA.out w8 HM38.out).2.2.2.2.1) hm (HA.out w8 HM38.out).1 HSV.out HWS.out.1 hd hn)
   have hd3 : decide ((s : Int) ≥ 0) = true := decide_eq_true (by omega)
   have hd4 : decide ((s : Int) ≤ 1) = true := decide_eq_true (by omega)
   clear hE hs2 hside
   go_upto_region 11 with (first | (go_at_call 7; refine (cSp.out _).mono ?_; rintro e w9 ⟨d, fd, rfl, HD9, HM9, HL9⟩) | (go_at_call 9; refine (cR4.out _ HM9.out _ _ HD9.out HL9.out).mono ?_; rintro e w10 ⟨rfl, HU10⟩))
   obtain ⟨sc, lm, P', hsb, hbs, hne, _⟩ := HU10.out
   have cG2 := Lib.hid (slDegr_under hbs)
   have HMW := Lib.hid hsb.st.own.mods
   clear hsb hbs hne cR4 cSp cG
   go_wp2_with (first | (go_at_call 10; have zz := HD1; clear zz; refine slDegr_nil.mono ?_; rintro e w12 ⟨rfl, hw12⟩; subst hw12) | (go_at_call 10; refine cG2.out.mono ?_; rintro e w11 ⟨rfl, hw11⟩; subst hw11; have HD1 : Hid True := Lib.hid trivial) | (go_at_call 8; refine (slStep_nil _).mono ?_; rintro e w12 ⟨rfl, hw12⟩; subst hw12) | (go_at_call 9; refine (slReplace_nil _ _).mono ?_; rintro e w12 ⟨rfl, hw12⟩; subst hw12) | (go_at_call 11; refine slDone_nil.mono ?_; rintro e w12 ⟨rfl, hw12⟩; subst hw12) | (go_at_call 12; refine slCopied_nil.mono ?_; rintro e w12 ⟨rfl, hw12⟩; subst hw12))
   go_ret
   exact ⟨rfl, HMW.out⟩
  ·have cR4 := Lib.hid (fun (w' : World) (hm : Mods [] w3 w') (d : Nat) => slReplace_err (k := 2) (by decide) (HA.out w' hm).1 (HA.out w' hm).2.1 (HA.out w' hm).2.2.1 (rReplace_side a.p d hside))
   go_upto_region 11 with (first | (go_at_call 7; refine (cSp.out _).mono ?_; rintro e w9 ⟨d, fd, rfl, HD9, HM9, HL9⟩; have HM39 : Hid (Mods [] w3 w9) := Lib.hid (HM38.out.tr HM9.out)) | (go_at_call 9; refine (cR4.out _ HM39.out _).mono ?_; rintro e w10 ⟨rfl, HM10⟩; have HM310 : Hid (Mods [] w3 w10) := Lib.hid (HM39.out.tr HM10.out)))
   have cG2 := Lib.hid (cG.out _ HM310.out)
   have HMW := Lib.hid (HA.out _ HM310.out).2.2.1.mods
   clear cR4 cSp cG
   by_cases h0 : 0 ≤ side
   ·have hd3 : decide (side ≥ 0) = true := decide_eq_true (by omega)
    have hd4 : decide (side ≤ 1) = false := decide_eq_false (by omega)
    go_wp2_with (first | (go_at_call 10; have zz := HD1; clear zz; refine slDegr_nil.mono ?_; rintro e w12 ⟨rfl, hw12⟩; subst hw12) | (go_at_call 10; refine cG2.out.mono ?_; rintro e w11 ⟨rfl, hw11⟩; subst hw11; have HD1 : Hid True := Lib.hid trivial) | (go_at_call 8; refine (slStep_nil _).mono ?_; rintro e w12 ⟨rfl, hw12⟩; subst hw12) | (go_at_call 9; refine (slReplace_nil _ _).mono ?_; rintro e w12 ⟨rfl, hw12⟩; subst hw12) | (go_at_call 11; refine slDone_nil.mono ?_; rintro e w12 ⟨rfl, hw12⟩; subst hw12) | (go_at_call 12; refine slCopied_nil.mono ?_; rintro e w12 ⟨rfl, hw12⟩; subst hw12))
    go_ret
    exact ⟨rfl, HMW.out⟩
   ·have hd3 : decide (side ≥ 0) = false := decide_eq_false (by omega)
    go_wp2_with (first | (go_at_call 10; have zz := HD1; clear zz; refine slDegr_nil.mono ?_; rintro e w12 ⟨rfl, hw12⟩; subst hw12) | (go_at_call 10; refine cG2.out.mono ?_; rintro e w11 ⟨rfl, hw11⟩; subst hw11; have HD1 : Hid True := Lib.hid trivial) | (go_at_call 8; refine (slStep_nil _).mono ?_; rintro e w12 ⟨rfl, hw12⟩; subst hw12) | (go_at_call 9; refine (slReplace_nil _ _).mono ?_; rintro e w12 ⟨rfl, hw12⟩; subst hw12) | (go_at_call 11; refine slDone_nil.mono ?_; rintro e w12 ⟨rfl, hw12⟩; subst hw12) | (go_at_call 12; refine slCopied_nil.mono ?_; rintro e w12 ⟨rfl, hw12⟩; subst hw12))
    go_ret
    exact ⟨rfl, HMW.out⟩
end
end Go.Proofs.YtkjpdfomppjiiaaGreatDoor
