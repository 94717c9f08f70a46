/- A new device in a side's place, beneath a mirror. -/
import Derived.Test.YtkjpdfomppjiiaaGreatDoorKD
import Derived.Deep.CutRange
import Derived.Deep.RegionHeld3
import Derived.Outline
import Derived.LoopN
import Derived.Test.YtkjpdfomppjiiaaGreatDoorKF
import Derived.LaidEqlPtr
import Derived.Test.YtkjpdfomppjiiaaGreatDoorKG
import Derived.BigQuiet
import Derived.Test.YtkjpdfomppjiiaaGreatDoorKSb
/- Pair.Replace: another device stands in a side's place. (Printed by wip/pair13.py.) -/
namespace Go.Proofs.YtkjpdfomppjiiaaGreatDoor
open Go.RowKit

theorem IsPair.at_b2 {w : World} {b : Nat} {gp : List Nat} {x : Nat → Nat} {fx : Nat → List Nat} {P : Pr} (h : IsPair w b gp x fx P) : b ∈ gp := by
 obtain ⟨_, _, _, hg, _⟩ := h.pb
 rw [hg]; simp [pairFoot]
theorem IsPair.device {w : World} {b : Nat} {gp : List Nat} {x : Nat → Nat} {fx : Nat → List Nat} {P : Pr} (h : IsPair w b gp x fx P) {s : Nat} (hs : s < 2) {d : Nat} {fd : List Nat} {D : Dev} (hd : IsDev w d fd D) (hz : D.size = (P.dev 0).size ∧ D.sectors = (P.dev 0).sectors)
  (hap : ∀ k, k < 2 → ∀ g ∈ fd, g ∉ fx k) (hgp : ∀ g ∈ gp, g ∉ fd) :
  IsPair (w.setCell ⟨b, 2 + s, none⟩ (.pointer (some ⟨d, 0, none⟩))) b gp (upd x s d) (upd fx s fd) (P.setDev s D) ∧ Mods [b] w (w.setCell ⟨b, 2 + s, none⟩ (.pointer (some ⟨d, 0, none⟩))) := by
 have hm : Mods [b] w (w.setCell ⟨b, 2 + s, none⟩ (.pointer (some ⟨d, 0, none⟩))) := (Mods.refl _ _).setCell (.inl (by simp)) _
 have hbg : b ∈ gp := by
  obtain ⟨_, _, _, hg, _⟩ := h.pb
  rw [hg]; simp [pairFoot]
 have hdev : ∀ k, k < 2 → IsDev w (upd x s d k) (upd fx s fd k) ((P.setDev s D).dev k) ∧ (∀ g ∈ upd fx s fd k, g ∉ gp) := by
  intro k hk
  by_cases e : k = s
  ·subst e
   rw [upd_at, upd_at]
   refine ⟨?_, fun g hg hx => hgp g hx hg⟩
   show IsDev w d fd (if k = k then D else P.dev k)
   rw [if_pos rfl]; exact hd
  ·rw [upd_other _ _ e, upd_other _ _ e]
   refine ⟨?_, fun g hg hx => h.free g hx k hk hg⟩
   show IsDev w (x k) (fx k) (if k = s then D else P.dev k)
   rw [if_neg e]; exact h.dev k hk
 have hsh : ∀ k, k < 2 → ((P.setDev s D).dev k).size = (P.dev 0).size ∧ ((P.setDev s D).dev k).sectors = (P.dev 0).sectors := by
  intro k hk
  show (if k = s then D else P.dev k).size = _ ∧ (if k = s then D else P.dev k).sectors = _
  split
  ·exact hz
  ·exact h.same k hk
 refine ⟨⟨?_, fun k hk => (hdev k hk).1.keep hm (fun g hg hx => (hdev k hk).2 g hg (by rw [List.mem_singleton.1 hx]; exact hbg)), fun k hk g hg hx => ?_, fun g hg k hk hx => (hdev k hk).2 g hx hg, fun k hk => ?_, ?_⟩, hm⟩
 ·obtain ⟨sb, m, hin, hg, hne⟩ := h.pb
  refine ⟨sb, m, ⟨?_, hin.sum.keep hm (by simp; exact fun e => hne e.symm), fun k hk => (hin.mv k hk).keep hm (fun g hg' hx => ?_), hin.tok, hin.n⟩, hg, hne⟩
  ·have hb := hin.blk.set (2 + s) (.pointer (some ⟨d, 0, none⟩))
   have e : (pairCells sb P.n x P.tab m).set (2 + s) (.pointer (some ⟨d, 0, none⟩)) = pairCells sb P.n (upd x s d) P.tab m := by
    rcases (show s = 0 ∨ s = 1 by omega) with rfl | rfl <;> rfl
   rw [e] at hb; exact hb
  ·have h1 := mv_ne hin.blk (hin.mv k hk) g hg'
   exact h1 (List.mem_singleton.1 hx)
 ·by_cases e : k = s
  ·subst e
   rw [upd_at] at hg
   rw [upd_other _ _ (by omega)] at hx
   exact hap (1 - k) (by omega) g hg hx
  ·rw [upd_other _ _ e] at hg
   have e2 : 1 - k = s := by omega
   rw [e2, upd_at] at hx
   exact hap k hk g hx hg
 ·rw [(hsh k hk).1, (hsh k hk).2, (hsh 0 (by decide)).1, (hsh 0 (by decide)).2]; exact ⟨rfl, rfl⟩
 ·have := h.fit
  unfold Pr.Fit at this ⊢
  rw [(hsh 0 (by decide)).1, (hsh 0 (by decide)).2]; exact this
structure ReplTo (W w' : World) (b : Nat) (gp gp' : List Nat) (x' : Nat → Nat) (fx fx0 fx' : Nat → List Nat) (fd : List Nat) (P' : Pr) : Prop where
 pair : IsPair w' b gp' x' fx' P'
 mods : Mods (b :: (fx 0 ++ fx 1 ++ fd)) W w'
 newF : ∀ k, k < 2 → ∀ g ∈ fx' k, g ∈ fx0 k ∨ W.heap.size ≤ g
 newG : ∀ g ∈ gp', g ∈ gp ∨ W.heap.size ≤ g
theorem IsPair.tabv {w : World} {b : Nat} {gp : List Nat} {x : Nat → Nat} {fx : Nat → List Nat} {P : Pr} (h : IsPair w b gp x fx P) {s : Nat} (hs : s < 2) {T : Tab} (hT : P.tab s = T) :
  ∃ A c, w.cell? ⟨b, 4 + 3 * s, none⟩ = some (.int .i64 (T.blocks : Nat)) ∧ w.cell? ⟨b, 4 + 3 * s + 1, none⟩ = some (.int .i64 (T.spares : Nat)) ∧ w.cell? ⟨b, 4 + 3 * s + 2, none⟩ = some (.slice A T.moved.length c) ∧ Hid (IsMv w (.slice A T.moved.length c) T.moved) ∧ Hid (∀ g, (Value.slice A T.moved.length c).ownBlock = some g → ∀ k, k < 2 → g ∉ fx k) ∧ Hid (∀ g, (Value.slice A T.moved.length c).ownBlock = some g → g ∈ gp) := by
 obtain ⟨sb, m, hin, hg, _⟩ := h.pb
 have hmv := hin.mv s hs
 rw [hT] at hmv
 obtain ⟨A, c, e, _⟩ := mv_shape hmv
 have hgp : ∀ g, (m s).ownBlock = some g → g ∈ gp := fun g hg' => by
  rw [hg]
  unfold pairFoot
  rcases (show s = 0 ∨ s = 1 by omega) with rfl | rfl <;> simp [hg']
 have hm3 : w.cell? ⟨b, 4 + 3 * s + 2, none⟩ = some (m s) := by
  rcases (show s = 0 ∨ s = 1 by omega) with rfl | rfl
  ·exact hin.blk.cell (i := 6) rfl
  ·exact hin.blk.cell (i := 9) rfl
 rw [e] at hmv hgp hm3
 refine ⟨A, c, ?_, ?_, hm3, hmv, Lib.hid (fun g hg' k hk => h.free g (hgp g hg') k hk), hgp⟩
 ·rw [← hT]
  rcases (show s = 0 ∨ s = 1 by omega) with rfl | rfl
  ·exact hin.blk.cell (i := 4) rfl
  ·exact hin.blk.cell (i := 7) rfl
 ·rw [← hT]
  rcases (show s = 0 ∨ s = 1 by omega) with rfl | rfl
  ·exact hin.blk.cell (i := 5) rfl
  ·exact hin.blk.cell (i := 8) rfl
set_option maxRecDepth 100000 in
set_option maxHeartbeats 3200000 in
theorem rReplace_0 {W : World} {b : Nat} {gp : List Nat} {x : Nat → Nat} {fx : Nat → List Nat} {P : Pr} (h : IsPair W b gp x fx P) {d : Nat} {fd : List Nat} {D : Dev} (hd : IsDev W d fd D) (hz : D.size = (P.dev 0).size ∧ D.sectors = (P.dev 0).sectors)
  (hap : ∀ k, k < 2 → ∀ g ∈ fd, g ∉ fx k) (hgp : ∀ g ∈ gp, g ∉ fd) (hsp : ∀ k, k < 2 → (P.tab k).spares = P.n) (hc : ∀ k, k < 2 → ((P.setDev 0 D).dev k).cache.length + 2 < 1000000)
  (hk1 : ((P.setDev 0 D).keep 0 (P.tab 0)).1 = 0) (hk2 : (((P.setDev 0 D).keep 0 (P.tab 0)).2.keep 1 (P.tab 1)).1 = 0) :
  Calls Tryz.prog 22 #[.pointer (some ⟨b, 0, none⟩), .int .i64 0, .pointer (some ⟨d, 0, none⟩)] W fun e w' => ∃ gp' fx', e = .returned (.int .i64 0) ∧ Hid (ReplTo W w' b gp gp' (upd x 0 d) fx (upd fx 0 fd) fx' fd (((P.setDev 0 D).keep 0 (P.tab 0)).2.keep 1 (P.tab 1)).2) := by
 have hd0 : IsDev W (x 0) (fx 0) (P.dev 0) := h.dev 0 (by decide)
 have hne : ∀ k, k < 2 → d ≠ x k := fun k hk e => hap k hk d hd.head (by rw [e]; exact (h.dev k hk).head)
 obtain ⟨zs, hzs⟩ : ∃ zs, (P.dev 0).size = zs := ⟨_, rfl⟩
 obtain ⟨zn, hzn⟩ : ∃ zn, (P.dev 0).sectors = zn := ⟨_, rfl⟩
 have cSh := Lib.hid (fun (w : World) (p : Nat) (hm : Mods [] W w) (hp : p = d ∨ p = x 0) => show Calls Tryz.prog 53 #[.pointer (some ⟨p, 0, none⟩)] w fun e w' => e = .returned (.agg #[.int .i64 (zn : Nat), .int .i64 (zs : Nat)]) ∧ Mods [] w w' from by
  rcases hp with rfl | rfl
  ·have h1 := dShape_any (hd.keep hm (by simp))
   rw [hz.1, hz.2, hzs, hzn] at h1; exact h1
  ·have h1 := dShape_any (hd0.keep hm (by simp))
   rw [hzs, hzn] at h1; exact h1)
 have HNE := Lib.hid (fun (w : World) (hm : Mods [] W w) => And.intro (dev_ne (hd.keep hm (by simp)) ((h.dev 0 (by decide)).keep hm (by simp)) (hne 0 (by decide))) (dev_ne (hd.keep hm (by simp)) ((h.dev 1 (by decide)).keep hm (by simp)) (hne 1 (by decide))))
 obtain ⟨sb, m, hin, hgpe, hbs⟩ := h.pb
 have HBC : Hid (∀ w, Mods [] W w → w.cell? ⟨b, 2, none⟩ = some (.pointer (some ⟨x 0, 0, none⟩)) ∧ w.cell? ⟨b, 3, none⟩ = some (.pointer (some ⟨x 1, 0, none⟩)) ∧ w.frozen? ⟨b, 2, none⟩ = false ∧ w.frozen? ⟨b, 3, none⟩ = false) := Lib.hid (fun w hm => by
  have hb := hin.blk.keep hm (by simp)
  exact ⟨hb.cell (i := 2) rfl, hb.cell (i := 3) rfl, hb.free 2, hb.free 3⟩)
 have HDV := Lib.hid (fun (w : World) (hm : Mods [] W w) => (h.keep0 hm).device (s := 0) (by decide) (hd.keep hm (by simp)) hz hap hgp)
 obtain ⟨P1, hP1⟩ : ∃ P1, P.setDev 0 D = P1 := ⟨_, rfl⟩
 have hPt : P1.tab = P.tab := by rw [← hP1]; rfl
 have hn1 : P1.n = P.n := by rw [← hP1]; rfl
 rw [hP1] at HDV hk1 hk2 hc ⊢
 obtain ⟨T0, hT0⟩ : ∃ T, P.tab 0 = T := ⟨_, rfl⟩
 obtain ⟨T1, hT1⟩ : ∃ T, P.tab 1 = T := ⟨_, rfl⟩
 have tok : T0.Ok ∧ T1.Ok ∧ T0.moved.length ≤ P.n ∧ T1.moved.length ≤ P.n := by
  have a0 := hin.tok 0 (by decide)
  have a1 := hin.tok 1 (by decide)
  have l0 := a0.len
  have l1 := a1.len
  rw [hsp 0 (by decide)] at l0
  rw [hsp 1 (by decide)] at l1
  rw [hT0] at a0 l0
  rw [hT1] at a1 l1
  exact ⟨a0, a1, l0, l1⟩
 have hca : ∀ k, k < 2 → (P1.dev k).cache.length + 1 < 1000000 := fun k hk => by have := hc k hk; omega
 have cK1 := Lib.hid (fun (w : World) (gp : List Nat) (fx : Nat → List Nat) (mv : Value) (hp : IsPair w b gp (upd x 0 d) fx P1) (hmv : IsMv w mv T0.moved) (hfr : ∀ g, mv.ownBlock = some g → ∀ k, k < 2 → g ∉ fx k) => rKeep_any hp 0 (by decide) (t := T0) hmv hfr tok.1 (by rw [hn1]; exact tok.2.2.1) hca)
 rw [hT0, hT1] at hk2 ⊢
 rw [hT0] at hk1
 rw [hk1] at cK1
 have hk1n := (keep_same P1 0 T0 0).2.1
 have hk1c := fun k => (keep_same P1 0 T0 k).1
 have hk1t := (keep_same P1 0 T0 0).2.2.1 hk1
 generalize hP2 : (P1.keep 0 T0).2 = P2 at *
 have hT2 : P2.tab 1 = T1 := by
  rw [hk1t]
  show P1.tab 1 = _
  rw [hPt]; exact hT1
 have hcb : ∀ k, k < 2 → (P2.dev k).cache.length + 1 < 1000000 := fun k hk => by have h1 := hk1c k; have := hc k hk; omega
 have cK2 := Lib.hid (fun (w : World) (gp : List Nat) (fx : Nat → List Nat) (mv : Value) (hp : IsPair w b gp (upd x 0 d) fx P2) (hmv : IsMv w mv T1.moved) (hfr : ∀ g, mv.ownBlock = some g → ∀ k, k < 2 → g ∉ fx k) => rKeep_any hp 1 (by decide) (t := T1) hmv hfr tok.2.1 (by rw [hk1n, hn1]; exact tok.2.2.2) hcb)
 rw [hk2] at cK2
 have hT1' : P1.tab 0 = T0 := by rw [hPt]; exact hT0
 generalize (P2.keep 1 T1).2 = P3 at *
 unfold tabV at cK1 cK2
 have HTS := Lib.hid (And.intro hT1' hT2)
 have HH := Lib.hid (And.intro h (And.intro hd (And.intro hap hgp)))
 have HLT := Lib.hid (And.intro h.at_b2 hin.blk.lt)
 clear hk1 hk2 hP1 hP2 hPt hT1 hn1 hT0 hT1' hT2 tok hca hcb hk1n hk1c hk1t hc hsp hap hgp hz hd0 hne hin hgpe hbs hd h hzs hzn
 go_enter Tryz.func22, Tryz.ntmps22
 go_upto_region 3 with fail
 have q2 := (HBC.out W (Mods.refl _ _)).1
 have q3 := (HBC.out W (Mods.refl _ _)).2.1
 go_cut [17] from 18 to 49 (fun v wx => v = .bool false ∧ Hid (Mods [] W wx))
 case first =>
  clear HH cK1 cK2 HTS HDV
  obtain ⟨l0, l1⟩ := HNE.out _ ((Mods.refl [] W).drew)
  go_region_held3 (fun w' => w'.cell? ⟨b, 2, none⟩ = some (.pointer (some ⟨x 0, 0, none⟩)) ∧ w'.cell? ⟨b, 3, none⟩ = some (.pointer (some ⟨x 1, 0, none⟩)) ∧ (binOp .eql 22 (.pointer (some ⟨d, 0, none⟩)) (.pointer (some ⟨x 0, 0, none⟩))).run Tryz.prog w' = .ok (.bool false) w' ∧ (binOp .eql 22 (.pointer (some ⟨d, 0, none⟩)) (.pointer (some ⟨x 1, 0, none⟩))).run Tryz.prog w' = .ok (.bool false) w')
   (first | exact ⟨q2, q3, l0, l1⟩ | exact ⟨r2, r3, k0, k1⟩ | exact ⟨s2, s3, n0, n1⟩ | exact ⟨q2, q3, HNE.out _ (Mods.refl _ _)⟩ | fail)
   (first | (go_at_call 52; refine (rIs_any _).mono ?_; rintro e w' ⟨rfl, rfl⟩) | (go_at_call 53; have HMb2 := HMb; refine (cSh.out _ _ HMb.out ?_).mono ?_; (any_goals (first | exact Or.inl rfl | exact Or.inr rfl)); rintro e wc ⟨rfl, hm⟩; have HMc : Hid (Mods [] W wc) := Lib.hid (HMb2.out.trans hm (by simp)); obtain ⟨s2, s3, _, _⟩ := HBC.out wc HMc.out; obtain ⟨n0, n1⟩ := HNE.out wc HMc.out; clear hm) | (go_at_call 53; refine (cSh.out _ _ (Mods.refl _ _).drew ?_).mono ?_; (any_goals (first | exact Or.inl rfl | exact Or.inr rfl)); rintro e wb ⟨rfl, hm⟩; have HMb : Hid (Mods [] W wb) := Lib.hid (((Mods.refl [] W).drew).trans hm (by simp)); obtain ⟨r2, r3, _, _⟩ := HBC.out wb HMb.out; obtain ⟨k0, k1⟩ := HNE.out wb HMb.out; clear hm))
  all_goals go_wp2_with fail
  all_goals go_meet
  all_goals exact ⟨rfl, HMc⟩
 case rest =>
  obtain ⟨rfl, HMW⟩ := hcut
  obtain ⟨p2, p3, f2, f3⟩ := HBC.out wc HMW.out
  obtain ⟨hpD, hmD⟩ := HDV.out wc HMW.out
  obtain ⟨w2, hw2⟩ : ∃ w2, wc.setCell ⟨b, 2, none⟩ (.pointer (some ⟨d, 0, none⟩)) = w2 := ⟨_, rfl⟩
  have HPD : Hid (IsPair w2 b gp (upd x 0 d) (upd fx 0 fd) P1) := Lib.hid (by rw [← hw2]; exact hpD)
  have HMD : Hid (Mods [b] wc w2) := Lib.hid (by rw [← hw2]; exact hmD)
  obtain ⟨w3, hw3⟩ : ∃ w3, w2.alloc (.cells #[.int .i64 0, .int .i64 1] 3) = w3 := ⟨_, rfl⟩
  have hm3 : Mods [] w2 w3 := by rw [← hw3]; exact (Mods.refl _ _).alloc _
  have hb3 : Blk w3 w2.heap.size 3 [.int .i64 0, .int .i64 1] := by rw [← hw3]; exact Blk.new w2 3 _
  have HP3 : Hid (IsPair w3 b gp (upd x 0 d) (upd fx 0 fd) P1) := Lib.hid (HPD.out.keep0 hm3)
  have HB3 := Lib.hid hb3
  have HM3 := Lib.hid hm3
  obtain ⟨Aa, ca, t0, t1, t2, HVA, HFA, HGA⟩ := HP3.out.tabv (s := 0) (by decide) HTS.out.1
  have e0 := hb3.cell (i := 0) rfl
  clear hpD hmD hm3 hb3
  go_wp2_with (go_at_call 54; refine (rOther_any 0 (by decide)).mono ?_; rintro e w' ⟨rfl, rfl⟩)
  refine wp_loop_rounds 3 ?_
  rw [rounds_succ]
  go_wp2_with (go_at_call 55; refine (cK1.out _ _ _ _ HP3.out HVA.out HFA.out).mono ?_; rintro e w4 ⟨gp4, fx4, rfl, HP4, HM4, HN4, HG4⟩)
  rw [rounds_succ]
  obtain ⟨Ac, cc, s0, s1, s2, HVC, HFC, HGC⟩ := HP4.out.tabv (s := 1) (by decide) HTS.out.2
  have e1 := (HB3.out.keep HM4.out (by
   intro hx
   obtain ⟨hh, hhd, _, _⟩ := HH.out
   have h1 := HMW.out.size
   have h2 := HMD.out.size
   rcases List.mem_cons.1 hx with e | hx
   ·have := HLT.out.2; omega
   ·have hl : ∀ k, k < 2 → ∀ g ∈ upd fx 0 fd k, g < W.heap.size := fun k hk g hg => by
     by_cases ek : k = 0
     ·subst ek
      rw [upd_at] at hg
      exact hhd.lt g hg
     ·rw [upd_other _ _ ek] at hg
      exact (hh.dev k hk).lt g hg
    rcases List.mem_append.1 hx with hx | hx
    ·have := hl 0 (by decide) _ hx; omega
    ·have := hl 1 (by decide) _ hx; omega)).cell (i := 1) rfl
  go_wp2_with (go_at_call 55; refine (cK2.out _ _ _ _ HP4.out HVC.out HFC.out).mono ?_; rintro e w5 ⟨gp5, fx5, rfl, HP5, HM5, HN5, HG5⟩)
  rw [rounds_succ]
  go_wp2_with fail
  go_ret
  have z1 := HMW.out.size
  have z2 := HMD.out.size
  have z3 := HM3.out.size
  have z4 := HM4.out.size
  have hF : ∀ k, k < 2 → ∀ g ∈ upd fx 0 fd k, g ∈ b :: (fx 0 ++ fx 1 ++ fd) := fun k hk g hg => by
   by_cases ek : k = 0
   ·subst ek
    rw [upd_at] at hg
    simp [hg]
   ·rw [upd_other _ _ ek] at hg
    rcases (show k = 0 ∨ k = 1 by omega) with rfl | rfl <;> simp [hg]
  refine ⟨gp5, fx5, rfl, Lib.hid ⟨HP5.out, ?_, fun k hk g hg => ?_, fun g hg => ?_⟩⟩
  ·have a1 : Mods (b :: (fx 0 ++ fx 1 ++ fd)) W w3 := ((HMW.out.mono (by simp)).trans HMD.out (fun z hz => .inl (by rw [List.mem_singleton.1 hz]; simp))).trans HM3.out (by simp)
   have a2 := a1.trans HM4.out (fun z hz => .inl (by
    rcases List.mem_cons.1 hz with rfl | hz
    ·simp
    ·rcases List.mem_append.1 hz with hz | hz
     ·exact hF 0 (by decide) z hz
     ·exact hF 1 (by decide) z hz))
   have hn4 : ∀ k, k < 2 → ∀ z ∈ fx4 k, z ∈ b :: (fx 0 ++ fx 1 ++ fd) ∨ W.heap.size ≤ z := fun k hk z hz => by
    rcases HN4.out k hk z hz with h1 | h1
    ·exact .inl (hF k hk z h1)
    ·exact .inr (by omega)
   exact a2.trans HM5.out (fun z hz => by
    rcases List.mem_cons.1 hz with rfl | hz
    ·exact .inl (by simp)
    ·rcases List.mem_append.1 hz with hz | hz
     ·exact hn4 0 (by decide) z hz
     ·exact hn4 1 (by decide) z hz)
  ·rcases HN5.out k hk g hg with h1 | h1
   ·rcases HN4.out k hk g h1 with h2 | h2
    ·exact .inl h2
    ·exact .inr (by omega)
   ·exact .inr (by omega)
  ·have hg4 : ∀ z ∈ gp4, z ∈ gp ∨ W.heap.size ≤ z := fun z hz => by
    rcases HG4.out z hz with h1 | h1 | h1
    ·exact .inl h1
    ·exact .inl (HGA.out z h1)
    ·exact .inr (by omega)
   rcases HG5.out g hg with h1 | h1 | h1
   ·exact hg4 g h1
   ·exact hg4 g (HGC.out g h1)
   ·exact .inr (by omega)
set_option maxRecDepth 100000 in
set_option maxHeartbeats 3200000 in
theorem rReplace_1 {W : World} {b : Nat} {gp : List Nat} {x : Nat → Nat} {fx : Nat → List Nat} {P : Pr} (h : IsPair W b gp x fx P) {d : Nat} {fd : List Nat} {D : Dev} (hd : IsDev W d fd D) (hz : D.size = (P.dev 0).size ∧ D.sectors = (P.dev 0).sectors)
  (hap : ∀ k, k < 2 → ∀ g ∈ fd, g ∉ fx k) (hgp : ∀ g ∈ gp, g ∉ fd) (hsp : ∀ k, k < 2 → (P.tab k).spares = P.n) (hc : ∀ k, k < 2 → ((P.setDev 1 D).dev k).cache.length + 2 < 1000000)
  (hk1 : ((P.setDev 1 D).keep 1 (P.tab 1)).1 = 0) (hk2 : (((P.setDev 1 D).keep 1 (P.tab 1)).2.keep 0 (P.tab 0)).1 = 0) :
  Calls Tryz.prog 22 #[.pointer (some ⟨b, 0, none⟩), .int .i64 1, .pointer (some ⟨d, 0, none⟩)] W fun e w' => ∃ gp' fx', e = .returned (.int .i64 0) ∧ Hid (ReplTo W w' b gp gp' (upd x 1 d) fx (upd fx 1 fd) fx' fd (((P.setDev 1 D).keep 1 (P.tab 1)).2.keep 0 (P.tab 0)).2) := by
 have hd0 : IsDev W (x 0) (fx 0) (P.dev 0) := h.dev 0 (by decide)
 have hne : ∀ k, k < 2 → d ≠ x k := fun k hk e => hap k hk d hd.head (by rw [e]; exact (h.dev k hk).head)
 obtain ⟨zs, hzs⟩ : ∃ zs, (P.dev 0).size = zs := ⟨_, rfl⟩
 obtain ⟨zn, hzn⟩ : ∃ zn, (P.dev 0).sectors = zn := ⟨_, rfl⟩
 have cSh := Lib.hid (fun (w : World) (p : Nat) (hm : Mods [] W w) (hp : p = d ∨ p = x 0) => show Calls Tryz.prog 53 #[.pointer (some ⟨p, 0, none⟩)] w fun e w' => e = .returned (.agg #[.int .i64 (zn : Nat), .int .i64 (zs : Nat)]) ∧ Mods [] w w' from by
  rcases hp with rfl | rfl
  ·have h1 := dShape_any (hd.keep hm (by simp))
   rw [hz.1, hz.2, hzs, hzn] at h1; exact h1
  ·have h1 := dShape_any (hd0.keep hm (by simp))
   rw [hzs, hzn] at h1; exact h1)
 have HNE := Lib.hid (fun (w : World) (hm : Mods [] W w) => And.intro (dev_ne (hd.keep hm (by simp)) ((h.dev 0 (by decide)).keep hm (by simp)) (hne 0 (by decide))) (dev_ne (hd.keep hm (by simp)) ((h.dev 1 (by decide)).keep hm (by simp)) (hne 1 (by decide))))
 obtain ⟨sb, m, hin, hgpe, hbs⟩ := h.pb
 have HBC : Hid (∀ w, Mods [] W w → w.cell? ⟨b, 2, none⟩ = some (.pointer (some ⟨x 0, 0, none⟩)) ∧ w.cell? ⟨b, 3, none⟩ = some (.pointer (some ⟨x 1, 0, none⟩)) ∧ w.frozen? ⟨b, 2, none⟩ = false ∧ w.frozen? ⟨b, 3, none⟩ = false) := Lib.hid (fun w hm => by
  have hb := hin.blk.keep hm (by simp)
  exact ⟨hb.cell (i := 2) rfl, hb.cell (i := 3) rfl, hb.free 2, hb.free 3⟩)
 have HDV := Lib.hid (fun (w : World) (hm : Mods [] W w) => (h.keep0 hm).device (s := 1) (by decide) (hd.keep hm (by simp)) hz hap hgp)
 obtain ⟨P1, hP1⟩ : ∃ P1, P.setDev 1 D = P1 := ⟨_, rfl⟩
 have hPt : P1.tab = P.tab := by rw [← hP1]; rfl
 have hn1 : P1.n = P.n := by rw [← hP1]; rfl
 rw [hP1] at HDV hk1 hk2 hc ⊢
 obtain ⟨T1, hT1⟩ : ∃ T, P.tab 1 = T := ⟨_, rfl⟩
 obtain ⟨T0, hT0⟩ : ∃ T, P.tab 0 = T := ⟨_, rfl⟩
 have tok : T0.Ok ∧ T1.Ok ∧ T0.moved.length ≤ P.n ∧ T1.moved.length ≤ P.n := by
  have a0 := hin.tok 0 (by decide)
  have a1 := hin.tok 1 (by decide)
  have l0 := a0.len
  have l1 := a1.len
  rw [hsp 0 (by decide)] at l0
  rw [hsp 1 (by decide)] at l1
  rw [hT0] at a0 l0
  rw [hT1] at a1 l1
  exact ⟨a0, a1, l0, l1⟩
 have hca : ∀ k, k < 2 → (P1.dev k).cache.length + 1 < 1000000 := fun k hk => by have := hc k hk; omega
 have cK1 := Lib.hid (fun (w : World) (gp : List Nat) (fx : Nat → List Nat) (mv : Value) (hp : IsPair w b gp (upd x 1 d) fx P1) (hmv : IsMv w mv T1.moved) (hfr : ∀ g, mv.ownBlock = some g → ∀ k, k < 2 → g ∉ fx k) => rKeep_any hp 1 (by decide) (t := T1) hmv hfr tok.2.1 (by rw [hn1]; exact tok.2.2.2) hca)
 rw [hT1, hT0] at hk2 ⊢
 rw [hT1] at hk1
 rw [hk1] at cK1
 have hk1n := (keep_same P1 1 T1 0).2.1
 have hk1c := fun k => (keep_same P1 1 T1 k).1
 have hk1t := (keep_same P1 1 T1 0).2.2.1 hk1
 generalize hP2 : (P1.keep 1 T1).2 = P2 at *
 have hT2 : P2.tab 0 = T0 := by
  rw [hk1t]
  show P1.tab 0 = _
  rw [hPt]; exact hT0
 have hcb : ∀ k, k < 2 → (P2.dev k).cache.length + 1 < 1000000 := fun k hk => by have h1 := hk1c k; have := hc k hk; omega
 have cK2 := Lib.hid (fun (w : World) (gp : List Nat) (fx : Nat → List Nat) (mv : Value) (hp : IsPair w b gp (upd x 1 d) fx P2) (hmv : IsMv w mv T0.moved) (hfr : ∀ g, mv.ownBlock = some g → ∀ k, k < 2 → g ∉ fx k) => rKeep_any hp 0 (by decide) (t := T0) hmv hfr tok.1 (by rw [hk1n, hn1]; exact tok.2.2.1) hcb)
 rw [hk2] at cK2
 have hT1' : P1.tab 1 = T1 := by rw [hPt]; exact hT1
 generalize (P2.keep 0 T0).2 = P3 at *
 unfold tabV at cK1 cK2
 have HTS := Lib.hid (And.intro hT1' hT2)
 have HH := Lib.hid (And.intro h (And.intro hd (And.intro hap hgp)))
 have HLT := Lib.hid (And.intro h.at_b2 hin.blk.lt)
 clear hk1 hk2 hP1 hP2 hPt hT1 hn1 hT0 hT1' hT2 tok hca hcb hk1n hk1c hk1t hc hsp hap hgp hz hd0 hne hin hgpe hbs hd h hzs hzn
 go_enter Tryz.func22, Tryz.ntmps22
 go_upto_region 3 with fail
 have q2 := (HBC.out W (Mods.refl _ _)).1
 have q3 := (HBC.out W (Mods.refl _ _)).2.1
 go_cut [17] from 18 to 49 (fun v wx => v = .bool false ∧ Hid (Mods [] W wx))
 case first =>
  clear HH cK1 cK2 HTS HDV
  obtain ⟨l0, l1⟩ := HNE.out _ ((Mods.refl [] W).drew)
  go_region_held3 (fun w' => w'.cell? ⟨b, 2, none⟩ = some (.pointer (some ⟨x 0, 0, none⟩)) ∧ w'.cell? ⟨b, 3, none⟩ = some (.pointer (some ⟨x 1, 0, none⟩)) ∧ (binOp .eql 22 (.pointer (some ⟨d, 0, none⟩)) (.pointer (some ⟨x 0, 0, none⟩))).run Tryz.prog w' = .ok (.bool false) w' ∧ (binOp .eql 22 (.pointer (some ⟨d, 0, none⟩)) (.pointer (some ⟨x 1, 0, none⟩))).run Tryz.prog w' = .ok (.bool false) w')
   (first | exact ⟨q2, q3, l0, l1⟩ | exact ⟨r2, r3, k0, k1⟩ | exact ⟨s2, s3, n0, n1⟩ | exact ⟨q2, q3, HNE.out _ (Mods.refl _ _)⟩ | fail)
   (first | (go_at_call 52; refine (rIs_any _).mono ?_; rintro e w' ⟨rfl, rfl⟩) | (go_at_call 53; have HMb2 := HMb; refine (cSh.out _ _ HMb.out ?_).mono ?_; (any_goals (first | exact Or.inl rfl | exact Or.inr rfl)); rintro e wc ⟨rfl, hm⟩; have HMc : Hid (Mods [] W wc) := Lib.hid (HMb2.out.trans hm (by simp)); obtain ⟨s2, s3, _, _⟩ := HBC.out wc HMc.out; obtain ⟨n0, n1⟩ := HNE.out wc HMc.out; clear hm) | (go_at_call 53; refine (cSh.out _ _ (Mods.refl _ _).drew ?_).mono ?_; (any_goals (first | exact Or.inl rfl | exact Or.inr rfl)); rintro e wb ⟨rfl, hm⟩; have HMb : Hid (Mods [] W wb) := Lib.hid (((Mods.refl [] W).drew).trans hm (by simp)); obtain ⟨r2, r3, _, _⟩ := HBC.out wb HMb.out; obtain ⟨k0, k1⟩ := HNE.out wb HMb.out; clear hm))
  all_goals go_wp2_with fail
  all_goals go_meet
  all_goals exact ⟨rfl, HMc⟩
 case rest =>
  obtain ⟨rfl, HMW⟩ := hcut
  obtain ⟨p2, p3, f2, f3⟩ := HBC.out wc HMW.out
  obtain ⟨hpD, hmD⟩ := HDV.out wc HMW.out
  obtain ⟨w2, hw2⟩ : ∃ w2, wc.setCell ⟨b, 3, none⟩ (.pointer (some ⟨d, 0, none⟩)) = w2 := ⟨_, rfl⟩
  have HPD : Hid (IsPair w2 b gp (upd x 1 d) (upd fx 1 fd) P1) := Lib.hid (by rw [← hw2]; exact hpD)
  have HMD : Hid (Mods [b] wc w2) := Lib.hid (by rw [← hw2]; exact hmD)
  obtain ⟨w3, hw3⟩ : ∃ w3, w2.alloc (.cells #[.int .i64 1, .int .i64 0] 3) = w3 := ⟨_, rfl⟩
  have hm3 : Mods [] w2 w3 := by rw [← hw3]; exact (Mods.refl _ _).alloc _
  have hb3 : Blk w3 w2.heap.size 3 [.int .i64 1, .int .i64 0] := by rw [← hw3]; exact Blk.new w2 3 _
  have HP3 : Hid (IsPair w3 b gp (upd x 1 d) (upd fx 1 fd) P1) := Lib.hid (HPD.out.keep0 hm3)
  have HB3 := Lib.hid hb3
  have HM3 := Lib.hid hm3
  obtain ⟨Aa, ca, t0, t1, t2, HVA, HFA, HGA⟩ := HP3.out.tabv (s := 1) (by decide) HTS.out.1
  have e0 := hb3.cell (i := 0) rfl
  clear hpD hmD hm3 hb3
  go_wp2_with (go_at_call 54; refine (rOther_any 1 (by decide)).mono ?_; rintro e w' ⟨rfl, rfl⟩)
  refine wp_loop_rounds 3 ?_
  rw [rounds_succ]
  go_wp2_with (go_at_call 55; refine (cK1.out _ _ _ _ HP3.out HVA.out HFA.out).mono ?_; rintro e w4 ⟨gp4, fx4, rfl, HP4, HM4, HN4, HG4⟩)
  rw [rounds_succ]
  obtain ⟨Ac, cc, s0, s1, s2, HVC, HFC, HGC⟩ := HP4.out.tabv (s := 0) (by decide) HTS.out.2
  have e1 := (HB3.out.keep HM4.out (by
   intro hx
   obtain ⟨hh, hhd, _, _⟩ := HH.out
   have h1 := HMW.out.size
   have h2 := HMD.out.size
   rcases List.mem_cons.1 hx with e | hx
   ·have := HLT.out.2; omega
   ·have hl : ∀ k, k < 2 → ∀ g ∈ upd fx 1 fd k, g < W.heap.size := fun k hk g hg => by
     by_cases ek : k = 1
     ·subst ek
      rw [upd_at] at hg
      exact hhd.lt g hg
     ·rw [upd_other _ _ ek] at hg
      exact (hh.dev k hk).lt g hg
    rcases List.mem_append.1 hx with hx | hx
    ·have := hl 0 (by decide) _ hx; omega
    ·have := hl 1 (by decide) _ hx; omega)).cell (i := 1) rfl
  go_wp2_with (go_at_call 55; refine (cK2.out _ _ _ _ HP4.out HVC.out HFC.out).mono ?_; rintro e w5 ⟨gp5, fx5, rfl, HP5, HM5, HN5, HG5⟩)
  rw [rounds_succ]
  go_wp2_with fail
  go_ret
  have z1 := HMW.out.size
  have z2 := HMD.out.size
  have z3 := HM3.out.size
  have z4 := HM4.out.size
  have hF : ∀ k, k < 2 → ∀ g ∈ upd fx 1 fd k, g ∈ b :: (fx 0 ++ fx 1 ++ fd) := fun k hk g hg => by
   by_cases ek : k = 1
   ·subst ek
    rw [upd_at] at hg
    simp [hg]
   ·rw [upd_other _ _ ek] at hg
    rcases (show k = 0 ∨ k = 1 by omega) with rfl | rfl <;> simp [hg]
  refine ⟨gp5, fx5, rfl, Lib.hid ⟨HP5.out, ?_, fun k hk g hg => ?_, fun g hg => ?_⟩⟩
  ·have a1 : Mods (b :: (fx 0 ++ fx 1 ++ fd)) W w3 := ((HMW.out.mono (by simp)).trans HMD.out (fun z hz => .inl (by rw [List.mem_singleton.1 hz]; simp))).trans HM3.out (by simp)
   have a2 := a1.trans HM4.out (fun z hz => .inl (by
    rcases List.mem_cons.1 hz with rfl | hz
    ·simp
    ·rcases List.mem_append.1 hz with hz | hz
     ·exact hF 0 (by decide) z hz
     ·exact hF 1 (by decide) z hz))
   have hn4 : ∀ k, k < 2 → ∀ z ∈ fx4 k, z ∈ b :: (fx 0 ++ fx 1 ++ fd) ∨ W.heap.size ≤ z := fun k hk z hz => by
    rcases HN4.out k hk z hz with h1 | h1
    ·exact .inl (hF k hk z h1)
    ·exact .inr (by omega)
   exact a2.trans HM5.out (fun z hz => by
    rcases List.mem_cons.1 hz with rfl | hz
    ·exact .inl (by simp)
    ·rcases List.mem_append.1 hz with hz | hz
     ·exact hn4 0 (by decide) z hz
     ·exact hn4 1 (by decide) z hz)
  ·rcases HN5.out k hk g hg with h1 | h1
   ·rcases HN4.out k hk g h1 with h2 | h2
    ·exact .inl h2
    ·exact .inr (by omega)
   ·exact .inr (by omega)
  ·have hg4 : ∀ z ∈ gp4, z ∈ gp ∨ W.heap.size ≤ z := fun z hz => by
    rcases HG4.out z hz with h1 | h1 | h1
    ·exact .inl h1
    ·exact .inl (HGA.out z h1)
    ·exact .inr (by omega)
   rcases HG5.out g hg with h1 | h1 | h1
   ·exact hg4 g h1
   ·exact hg4 g (HGC.out g h1)
   ·exact .inr (by omega)
end Go.Proofs.YtkjpdfomppjiiaaGreatDoor
/- A device is killed; a device's pointer compared. -/
namespace Go.Proofs.YtkjpdfomppjiiaaGreatDoor
open Go.RowKit

theorem setDev_setDev (P : Pr) (s : Nat) (D E : Dev) : (P.setDev s D).setDev s E = P.setDev s E := by
 unfold Pr.setDev
 simp only
 congr 1
 funext k
 split <;> rfl
end Go.Proofs.YtkjpdfomppjiiaaGreatDoor
/- A pair's refusals: nil ones, sides that there aren't, devices that may not be a pair. -/
namespace Go.Proofs.YtkjpdfomppjiiaaGreatDoor
open Go.RowKit

theorem rReplace_nilD {W : World} (b : Nat) (s : Int) : Calls Tryz.prog 22 #[.pointer (some ⟨b, 0, none⟩), .int .i64 s, .pointer none] W fun e w' => e = .returned (.int .i64 1) ∧ W = w' := by
 go_enter Tryz.func22, Tryz.ntmps22
 go_wp2_with fail
 go_ret
 exact ⟨rfl, rfl⟩
theorem dev_self_eql (w : World) (d : Nat) : (binOp .eql 22 (.pointer (some ⟨d, 0, none⟩)) (.pointer (some ⟨d, 0, none⟩))).run Tryz.prog w = .ok (.bool true) w := by
 obtain ⟨j, hj⟩ := Option.isSome_iff_exists.1 (show (Tryz.prog.info? 106).isSome = true by kernel_rfl)
 exact run_eql_ptr_same w ⟨d, 0, none⟩ Tryz.underlying22 hj
set_option maxRecDepth 100000 in
set_option maxHeartbeats 6400000 in
theorem rReplace_unlike {W : World} {b : Nat} {gp : List Nat} {x : Nat → Nat} {fx : Nat → List Nat} {P : Pr} (h : IsPair W b gp x fx P) {d : Nat} {fd : List Nat} {D : Dev} (hd : IsDev W d fd D) (hz : D.sectors ≠ (P.dev 0).sectors) :
  Calls Tryz.prog 22 #[.pointer (some ⟨b, 0, none⟩), .int .i64 0, .pointer (some ⟨d, 0, none⟩)] W fun e w' => e = .returned (.int .i64 2) ∧ Hid (Mods [] W w') := by
 have hd0 : IsDev W (x 0) (fx 0) (P.dev 0) := h.dev 0 (by decide)
 obtain ⟨sb, m, hin, hgpe, hbs⟩ := h.pb
 have HBC : Hid (∀ w, Mods [] W w → w.cell? ⟨b, 2, none⟩ = some (.pointer (some ⟨x 0, 0, none⟩))) := Lib.hid (fun w hm => (hin.blk.keep hm (by simp)).cell (i := 2) rfl)
 have q2 := HBC.out W (Mods.refl _ _)
 have hne : d ≠ x 0 := fun e => by
  subst e
  have h1 := hd
  obtain ⟨mb, bb, cv, c0, c1, c2, i1, _, _⟩ := hd
  obtain ⟨mb', bb', cv', c0', c1', c2', i2, _, _⟩ := hd0
  have h3 := i1.dev.inj i2.dev
  unfold devCells at h3
  simp only [List.cons.injEq, Value.int.injEq, true_and] at h3
  omega
 have cSh := Lib.hid (fun (w : World) (p : Nat) (hm : Mods [] W w) (hp : p = d ∨ p = x 0) => show Calls Tryz.prog 53 #[.pointer (some ⟨p, 0, none⟩)] w fun e w' => e = .returned (.agg #[.int .i64 ((if p = d then D.sectors else (P.dev 0).sectors : Nat) : Nat), .int .i64 ((if p = d then D.size else (P.dev 0).size : Nat) : Nat)]) ∧ Mods [] w w' from by
  rcases hp with rfl | rfl
  ·rw [if_pos rfl, if_pos rfl]; exact dShape_any (hd.keep hm (by simp))
  ·rw [if_neg (fun e => hne e.symm), if_neg (fun e => hne e.symm)]; exact dShape_any (hd0.keep hm (by simp)))
 obtain ⟨y, hy⟩ : ∃ y, x 0 = y := ⟨_, rfl⟩
 obtain ⟨n1, hn1⟩ : ∃ n1, D.sectors = n1 := ⟨_, rfl⟩
 obtain ⟨n2, hn2⟩ : ∃ n2, (P.dev 0).sectors = n2 := ⟨_, rfl⟩
 obtain ⟨z1, hz1⟩ : ∃ z, D.size = z := ⟨_, rfl⟩
 obtain ⟨z2, hz2⟩ : ∃ z, (P.dev 0).size = z := ⟨_, rfl⟩
 rw [hn1, hn2] at hz
 rw [hn1, hn2, hz1, hz2] at cSh
 rw [hy] at HBC q2 cSh hne
 have hyd : ¬ y = d := fun e => hne e.symm
 have hz' : ¬ (n1 : Int) = (n2 : Int) := by omega
 clear h hd hd0 hin hgpe hbs hz hy hn1 hn2 hz1 hz2
 go_enter Tryz.func22, Tryz.ntmps22
 go_upto_region 3 with fail
 go_cut [17] from 18 to 49 (fun v wx => v = .bool true ∧ Hid (Mods [] W wx))
 case first =>
  refine wp_region_held_drew (S := fun w' => w'.cell? ⟨b, 2, none⟩ = some (.pointer (some ⟨y, 0, none⟩))) (by kernel_rfl) (HBC.out _ (Mods.refl _ _).drew) (fun hHeld => ?_)
  refine wpAnyH_take (i := 0) (oi := { dst := some 18, op := Op.move (Operand.tmp 1), type := 3, pos := "remap.go:265", after := #[], guard := none }) (v := .int .i64 0) rfl (by kernel_rfl) (by kernel_rfl) (by kernel_rfl) (fun _ _ _ h => h) (Or.inl ⟨by rfl, ?_⟩) hHeld ?_
  ·intro w hSw
   try dsimp only at hSw
   go_simp
  try simp only [Act.put, List.setIfInBounds_toArray, List.set_cons_zero, List.set_cons_succ]
  refine wpAnyH_ready (rs := [1]) (by kernel_rfl) (by simp) ?_
  refine AllReadyH.cons (o := { dst := some 19, op := Op.call { callee := Callee.value (Operand.func 52), args := #[Operand.tmp 18], argTypes := #[3] }, type := 4, pos := "remap.go:265", after := #[{ on := 0, ground := Ground.data }], guard := none }) rfl (fun K hK => ?_) AllReadyH.nil
  go_simp
  refine (rIs_any _).mono ?_
  rintro e w' ⟨rfl, rfl⟩
  (try go_wp2_with fail)
  refine hK.out _ _ (HBC.out _ (Mods.refl _ _).drew) (fun hHeld => ?_)
  clear hK K
  try simp only [Act.put, List.setIfInBounds_toArray, List.set_cons_zero, List.set_cons_succ]
  refine wpAnyH_take (i := 2) (oi := { dst := some 20, op := Op.unOp UnOp.not 4 (Operand.tmp 19), type := 4, pos := "remap.go:265", after := #[{ on := 1, ground := Ground.data }], guard := none }) (v := .bool false) rfl (by kernel_rfl) (by kernel_rfl) (by kernel_rfl) (fun _ _ _ h => h) (Or.inl ⟨by rfl, ?_⟩) hHeld ?_
  ·intro w hSw
   try dsimp only at hSw
   go_simp
  try simp only [Act.put, List.setIfInBounds_toArray, List.set_cons_zero, List.set_cons_succ]
  refine wpAnyH_take (i := 3) (oi := { dst := some 21, op := Op.move (Operand.tmp 20), type := 4, pos := "remap.go:265", after := #[{ on := 2, ground := Ground.data }, { on := 1, ground := Ground.chain }], guard := none }) (v := .bool false) rfl (by kernel_rfl) (by kernel_rfl) (by kernel_rfl) (fun _ _ _ h => h) (Or.inl ⟨by rfl, ?_⟩) hHeld ?_
  ·intro w hSw
   try dsimp only at hSw
   go_simp
  try simp only [Act.put, List.setIfInBounds_toArray, List.set_cons_zero, List.set_cons_succ]
  refine wpAnyH_take (i := 4) (oi := { dst := some 22, op := Op.move (Operand.tmp 2), type := 22, pos := "remap.go:265", after := #[{ on := 3, ground := Ground.guard }], guard := some (3, false) }) (v := .pointer (some ⟨d, 0, none⟩)) rfl (by kernel_rfl) (by kernel_rfl) (by kernel_rfl) (fun _ _ _ h => h) (Or.inl ⟨by rfl, ?_⟩) hHeld ?_
  ·intro w hSw
   try dsimp only at hSw
   go_simp
  try simp only [Act.put, List.setIfInBounds_toArray, List.set_cons_zero, List.set_cons_succ]
  refine wpAnyH_take (i := 6) (oi := { dst := some 24, op := Op.move (Operand.tmp 0), type := 55, pos := "remap.go:265", after := #[{ on := 3, ground := Ground.guard }], guard := some (3, false) }) (v := .pointer (some ⟨b, 0, none⟩)) rfl (by kernel_rfl) (by kernel_rfl) (by kernel_rfl) (fun _ _ _ h => h) (Or.inl ⟨by rfl, ?_⟩) hHeld ?_
  ·intro w hSw
   try dsimp only at hSw
   go_simp
  try simp only [Act.put, List.setIfInBounds_toArray, List.set_cons_zero, List.set_cons_succ]
  refine wpAnyH_take (i := 7) (oi := { dst := some 25, op := Op.nilCheck (Operand.tmp 24), type := 0, pos := "remap.go:265", after := #[{ on := 6, ground := Ground.data }, { on := 3, ground := Ground.guard }], guard := some (3, false) }) (v := .pointer (some ⟨b, 0, none⟩)) rfl (by kernel_rfl) (by kernel_rfl) (by kernel_rfl) (fun _ _ _ h => h) (Or.inl ⟨by rfl, ?_⟩) hHeld ?_
  ·intro w hSw
   try dsimp only at hSw
   go_simp
  try simp only [Act.put, List.setIfInBounds_toArray, List.set_cons_zero, List.set_cons_succ]
  refine wpAnyH_take (i := 8) (oi := { dst := some 26, op := Op.fieldAddr 123 (Operand.tmp 25) 2, type := 0, pos := "remap.go:265", after := #[{ on := 7, ground := Ground.data }, { on := 3, ground := Ground.guard }], guard := some (3, false) }) (v := .pointer (some ⟨b, 2, none⟩)) rfl (by kernel_rfl) (by kernel_rfl) (by kernel_rfl) (fun _ _ _ h => h) (Or.inl ⟨by rfl, ?_⟩) hHeld ?_
  ·intro w hSw
   try dsimp only at hSw
   go_simp
  try simp only [Act.put, List.setIfInBounds_toArray, List.set_cons_zero, List.set_cons_succ]
  refine wpAnyH_take (i := 9) (oi := { dst := some 27, op := Op.indexAddr 23 (Operand.tmp 26) (Operand.const (Value.int IntKind.i64 0)), type := 0, pos := "remap.go:265", after := #[{ on := 8, ground := Ground.data }, { on := 3, ground := Ground.guard }], guard := some (3, false) }) (v := .pointer (some ⟨b, 2, none⟩)) rfl (by kernel_rfl) (by kernel_rfl) (by kernel_rfl) (fun _ _ _ h => h) (Or.inl ⟨by rfl, ?_⟩) hHeld ?_
  ·intro w hSw
   try dsimp only at hSw
   go_simp
  try simp only [Act.put, List.setIfInBounds_toArray, List.set_cons_zero, List.set_cons_succ]
  refine wpAnyH_take (i := 10) (oi := { dst := some 28, op := Op.load 22 (Operand.tmp 27), type := 22, pos := "remap.go:265", after := #[{ on := 9, ground := Ground.data }, { on := 3, ground := Ground.guard }], guard := some (3, false) }) (v := .pointer (some ⟨y, 0, none⟩)) rfl (by kernel_rfl) (by kernel_rfl) (by kernel_rfl) (fun _ _ _ h => h) (Or.inl ⟨by rfl, ?_⟩) hHeld ?_
  ·intro w hSw
   try dsimp only at hSw
   go_simp
  try simp only [Act.put, List.setIfInBounds_toArray, List.set_cons_zero, List.set_cons_succ]
  refine wpAnyH_ready (rs := [5]) (by kernel_rfl) (by simp) ?_
  refine AllReadyH.cons (o := { dst := some 23, op := Op.call { callee := Callee.value (Operand.func 53), args := #[Operand.tmp 22], argTypes := #[22] }, type := 54, pos := "remap.go:265", after := #[{ on := 4, ground := Ground.data }, { on := 3, ground := Ground.chain }, { on := 3, ground := Ground.guard }], guard := some (3, false) }) rfl (fun K hK => ?_) AllReadyH.nil
  go_simp
  refine (cSh.out _ _ (Mods.refl _ _).drew ?_).mono ?_
  any_goals (first | exact Or.inl rfl | exact Or.inr rfl)
  rintro e wb ⟨rfl, hm⟩
  have HMb : Hid (Mods [] W wb) := Lib.hid (((Mods.refl [] W).drew).trans hm (by simp))
  have r2 := HBC.out wb HMb.out
  clear hm
  (try go_wp2_with fail)
  refine hK.out _ _ (r2) (fun hHeld => ?_)
  clear hK K
  try simp only [Act.put, List.setIfInBounds_toArray, List.set_cons_zero, List.set_cons_succ]
  refine wpAnyH_ready (rs := [11]) (by kernel_rfl) (by simp) ?_
  refine AllReadyH.cons (o := { dst := some 29, op := Op.call { callee := Callee.value (Operand.func 53), args := #[Operand.tmp 28], argTypes := #[22] }, type := 54, pos := "remap.go:265", after := #[{ on := 10, ground := Ground.data }, { on := 5, ground := Ground.chain }, { on := 3, ground := Ground.guard }], guard := some (3, false) }) rfl (fun K hK => ?_) AllReadyH.nil
  go_simp
  refine (cSh.out _ _ HMb.out ?_).mono ?_
  any_goals (first | exact Or.inl rfl | exact Or.inr rfl)
  rintro e wc ⟨rfl, hm⟩
  have HMc : Hid (Mods [] W wc) := Lib.hid (HMb.out.trans hm (by simp))
  have s2 := HBC.out wc HMc.out
  clear hm
  (try go_wp2_with fail)
  refine hK.out _ _ (s2) (fun hHeld => ?_)
  clear hK K
  try simp only [Act.put, List.setIfInBounds_toArray, List.set_cons_zero, List.set_cons_succ]
  refine wpAnyH_take (i := 12) (oi := { dst := some 30, op := Op.binOp BinOp.neq 54 (Operand.tmp 23) (Operand.tmp 29) 54, type := 4, pos := "remap.go:265", after := #[{ on := 5, ground := Ground.data }, { on := 11, ground := Ground.data }, { on := 3, ground := Ground.guard }], guard := some (3, false) }) (v := .bool true) rfl (by kernel_rfl) (by kernel_rfl) (by kernel_rfl) (fun _ _ _ h => h) (Or.inl ⟨by rfl, ?_⟩) hHeld ?_
  ·intro w hSw
   try dsimp only at hSw
   go_simp
  try simp only [Act.put, List.setIfInBounds_toArray, List.set_cons_zero, List.set_cons_succ]
  refine wpAnyH_take (i := 13) (oi := { dst := some 31, op := Op.pick (Operand.tmp 21) (Operand.const (Value.bool true)) (Operand.tmp 30), type := 4, pos := "remap.go:265", after := #[{ on := 3, ground := Ground.data }, { on := 12, ground := Ground.data }], guard := none }) (v := .bool true) rfl (by kernel_rfl) (by kernel_rfl) (by kernel_rfl) (fun _ _ _ h => h) (Or.inl ⟨by rfl, ?_⟩) hHeld ?_
  ·intro w hSw
   try dsimp only at hSw
   go_simp
  try simp only [Act.put, List.setIfInBounds_toArray, List.set_cons_zero, List.set_cons_succ]
  refine wpAnyH_take (i := 14) (oi := { dst := some 32, op := Op.move (Operand.tmp 31), type := 4, pos := "remap.go:265", after := #[{ on := 13, ground := Ground.data }, { on := 11, ground := Ground.chain }], guard := none }) (v := .bool true) rfl (by kernel_rfl) (by kernel_rfl) (by kernel_rfl) (fun _ _ _ h => h) (Or.inl ⟨by rfl, ?_⟩) hHeld ?_
  ·intro w hSw
   try dsimp only at hSw
   go_simp
  try simp only [Act.put, List.setIfInBounds_toArray, List.set_cons_zero, List.set_cons_succ]
  refine wpAnyH_take (i := 15) (oi := { dst := some 33, op := Op.move (Operand.tmp 2), type := 22, pos := "remap.go:265", after := #[{ on := 14, ground := Ground.guard }], guard := some (14, false) }) (v := undef) rfl (by kernel_rfl) (by kernel_rfl) (by kernel_rfl) (fun _ _ _ h => h) (Or.inr ⟨by rfl, rfl⟩) hHeld ?_
  try simp only [Act.put, List.setIfInBounds_toArray, List.set_cons_zero, List.set_cons_succ]
  refine wpAnyH_take (i := 16) (oi := { dst := some 34, op := Op.move (Operand.tmp 0), type := 55, pos := "remap.go:265", after := #[{ on := 14, ground := Ground.guard }], guard := some (14, false) }) (v := undef) rfl (by kernel_rfl) (by kernel_rfl) (by kernel_rfl) (fun _ _ _ h => h) (Or.inr ⟨by rfl, rfl⟩) hHeld ?_
  try simp only [Act.put, List.setIfInBounds_toArray, List.set_cons_zero, List.set_cons_succ]
  refine wpAnyH_take (i := 17) (oi := { dst := some 35, op := Op.nilCheck (Operand.tmp 34), type := 0, pos := "remap.go:265", after := #[{ on := 16, ground := Ground.data }, { on := 14, ground := Ground.guard }], guard := some (14, false) }) (v := undef) rfl (by kernel_rfl) (by kernel_rfl) (by kernel_rfl) (fun _ _ _ h => h) (Or.inr ⟨by rfl, rfl⟩) hHeld ?_
  try simp only [Act.put, List.setIfInBounds_toArray, List.set_cons_zero, List.set_cons_succ]
  refine wpAnyH_take (i := 18) (oi := { dst := some 36, op := Op.fieldAddr 123 (Operand.tmp 35) 2, type := 0, pos := "remap.go:265", after := #[{ on := 17, ground := Ground.data }, { on := 14, ground := Ground.guard }], guard := some (14, false) }) (v := undef) rfl (by kernel_rfl) (by kernel_rfl) (by kernel_rfl) (fun _ _ _ h => h) (Or.inr ⟨by rfl, rfl⟩) hHeld ?_
  try simp only [Act.put, List.setIfInBounds_toArray, List.set_cons_zero, List.set_cons_succ]
  refine wpAnyH_take (i := 19) (oi := { dst := some 37, op := Op.indexAddr 23 (Operand.tmp 36) (Operand.const (Value.int IntKind.i64 0)), type := 0, pos := "remap.go:265", after := #[{ on := 18, ground := Ground.data }, { on := 14, ground := Ground.guard }], guard := some (14, false) }) (v := undef) rfl (by kernel_rfl) (by kernel_rfl) (by kernel_rfl) (fun _ _ _ h => h) (Or.inr ⟨by rfl, rfl⟩) hHeld ?_
  try simp only [Act.put, List.setIfInBounds_toArray, List.set_cons_zero, List.set_cons_succ]
  refine wpAnyH_take (i := 20) (oi := { dst := some 38, op := Op.load 22 (Operand.tmp 37), type := 22, pos := "remap.go:265", after := #[{ on := 19, ground := Ground.data }, { on := 14, ground := Ground.guard }], guard := some (14, false) }) (v := undef) rfl (by kernel_rfl) (by kernel_rfl) (by kernel_rfl) (fun _ _ _ h => h) (Or.inr ⟨by rfl, rfl⟩) hHeld ?_
  try simp only [Act.put, List.setIfInBounds_toArray, List.set_cons_zero, List.set_cons_succ]
  refine wpAnyH_take (i := 21) (oi := { dst := some 39, op := Op.binOp BinOp.eql 22 (Operand.tmp 33) (Operand.tmp 38) 22, type := 4, pos := "remap.go:265", after := #[{ on := 15, ground := Ground.data }, { on := 20, ground := Ground.data }, { on := 14, ground := Ground.guard }], guard := some (14, false) }) (v := undef) rfl (by kernel_rfl) (by kernel_rfl) (by kernel_rfl) (fun _ _ _ h => h) (Or.inr ⟨by rfl, rfl⟩) hHeld ?_
  try simp only [Act.put, List.setIfInBounds_toArray, List.set_cons_zero, List.set_cons_succ]
  refine wpAnyH_take (i := 22) (oi := { dst := some 40, op := Op.pick (Operand.tmp 32) (Operand.const (Value.bool true)) (Operand.tmp 39), type := 4, pos := "remap.go:265", after := #[{ on := 14, ground := Ground.data }, { on := 21, ground := Ground.data }], guard := none }) (v := .bool true) rfl (by kernel_rfl) (by kernel_rfl) (by kernel_rfl) (fun _ _ _ h => h) (Or.inl ⟨by rfl, ?_⟩) hHeld ?_
  ·intro w hSw
   try dsimp only at hSw
   go_simp
  try simp only [Act.put, List.setIfInBounds_toArray, List.set_cons_zero, List.set_cons_succ]
  refine wpAnyH_take (i := 23) (oi := { dst := some 41, op := Op.move (Operand.tmp 40), type := 4, pos := "remap.go:265", after := #[{ on := 22, ground := Ground.data }, { on := 14, ground := Ground.chain }], guard := none }) (v := .bool true) rfl (by kernel_rfl) (by kernel_rfl) (by kernel_rfl) (fun _ _ _ h => h) (Or.inl ⟨by rfl, ?_⟩) hHeld ?_
  ·intro w hSw
   try dsimp only at hSw
   go_simp
  try simp only [Act.put, List.setIfInBounds_toArray, List.set_cons_zero, List.set_cons_succ]
  refine wpAnyH_take (i := 24) (oi := { dst := some 42, op := Op.move (Operand.tmp 2), type := 22, pos := "remap.go:265", after := #[{ on := 23, ground := Ground.guard }], guard := some (23, false) }) (v := undef) rfl (by kernel_rfl) (by kernel_rfl) (by kernel_rfl) (fun _ _ _ h => h) (Or.inr ⟨by rfl, rfl⟩) hHeld ?_
  try simp only [Act.put, List.setIfInBounds_toArray, List.set_cons_zero, List.set_cons_succ]
  refine wpAnyH_take (i := 25) (oi := { dst := some 43, op := Op.move (Operand.tmp 0), type := 55, pos := "remap.go:265", after := #[{ on := 23, ground := Ground.guard }], guard := some (23, false) }) (v := undef) rfl (by kernel_rfl) (by kernel_rfl) (by kernel_rfl) (fun _ _ _ h => h) (Or.inr ⟨by rfl, rfl⟩) hHeld ?_
  try simp only [Act.put, List.setIfInBounds_toArray, List.set_cons_zero, List.set_cons_succ]
  refine wpAnyH_take (i := 26) (oi := { dst := some 44, op := Op.nilCheck (Operand.tmp 43), type := 0, pos := "remap.go:265", after := #[{ on := 25, ground := Ground.data }, { on := 23, ground := Ground.guard }], guard := some (23, false) }) (v := undef) rfl (by kernel_rfl) (by kernel_rfl) (by kernel_rfl) (fun _ _ _ h => h) (Or.inr ⟨by rfl, rfl⟩) hHeld ?_
  try simp only [Act.put, List.setIfInBounds_toArray, List.set_cons_zero, List.set_cons_succ]
  refine wpAnyH_take (i := 27) (oi := { dst := some 45, op := Op.fieldAddr 123 (Operand.tmp 44) 2, type := 0, pos := "remap.go:265", after := #[{ on := 26, ground := Ground.data }, { on := 23, ground := Ground.guard }], guard := some (23, false) }) (v := undef) rfl (by kernel_rfl) (by kernel_rfl) (by kernel_rfl) (fun _ _ _ h => h) (Or.inr ⟨by rfl, rfl⟩) hHeld ?_
  try simp only [Act.put, List.setIfInBounds_toArray, List.set_cons_zero, List.set_cons_succ]
  refine wpAnyH_take (i := 28) (oi := { dst := some 46, op := Op.indexAddr 23 (Operand.tmp 45) (Operand.const (Value.int IntKind.i64 1)), type := 0, pos := "remap.go:265", after := #[{ on := 27, ground := Ground.data }, { on := 23, ground := Ground.guard }], guard := some (23, false) }) (v := undef) rfl (by kernel_rfl) (by kernel_rfl) (by kernel_rfl) (fun _ _ _ h => h) (Or.inr ⟨by rfl, rfl⟩) hHeld ?_
  try simp only [Act.put, List.setIfInBounds_toArray, List.set_cons_zero, List.set_cons_succ]
  refine wpAnyH_take (i := 29) (oi := { dst := some 47, op := Op.load 22 (Operand.tmp 46), type := 22, pos := "remap.go:265", after := #[{ on := 28, ground := Ground.data }, { on := 23, ground := Ground.guard }], guard := some (23, false) }) (v := undef) rfl (by kernel_rfl) (by kernel_rfl) (by kernel_rfl) (fun _ _ _ h => h) (Or.inr ⟨by rfl, rfl⟩) hHeld ?_
  try simp only [Act.put, List.setIfInBounds_toArray, List.set_cons_zero, List.set_cons_succ]
  refine wpAnyH_take (i := 30) (oi := { dst := some 48, op := Op.binOp BinOp.eql 22 (Operand.tmp 42) (Operand.tmp 47) 22, type := 4, pos := "remap.go:265", after := #[{ on := 24, ground := Ground.data }, { on := 29, ground := Ground.data }, { on := 23, ground := Ground.guard }], guard := some (23, false) }) (v := undef) rfl (by kernel_rfl) (by kernel_rfl) (by kernel_rfl) (fun _ _ _ h => h) (Or.inr ⟨by rfl, rfl⟩) hHeld ?_
  try simp only [Act.put, List.setIfInBounds_toArray, List.set_cons_zero, List.set_cons_succ]
  refine wpAnyH_take (i := 31) (oi := { dst := some 49, op := Op.pick (Operand.tmp 41) (Operand.const (Value.bool true)) (Operand.tmp 48), type := 4, pos := "remap.go:265", after := #[{ on := 23, ground := Ground.data }, { on := 30, ground := Ground.data }], guard := none }) (v := .bool true) rfl (by kernel_rfl) (by kernel_rfl) (by kernel_rfl) (fun _ _ _ h => h) (Or.inl ⟨by rfl, ?_⟩) hHeld ?_
  ·intro w hSw
   try dsimp only at hSw
   go_simp
  try simp only [Act.put, List.setIfInBounds_toArray, List.set_cons_zero, List.set_cons_succ]
  refine wpAnyH_take (i := 32) (oi := { dst := some 17, op := Op.assign (Operand.tmp 49), type := 4, pos := "remap.go:265", after := #[{ on := 31, ground := Ground.data }, { on := 23, ground := Ground.chain }], guard := none }) (v := .bool true) rfl (by kernel_rfl) (by kernel_rfl) (by kernel_rfl) (fun _ _ _ h => h) (Or.inl ⟨by rfl, ?_⟩) hHeld ?_
  ·intro w hSw
   try dsimp only at hSw
   go_simp
  try simp only [Act.put, List.setIfInBounds_toArray, List.set_cons_zero, List.set_cons_succ]
  refine wpAnyH_done (by kernel_rfl) ?_ _
  go_wp2_with fail
  go_meet
  exact ⟨rfl, HMc⟩
 case rest =>
  obtain ⟨rfl, HMW⟩ := hcut
  go_wp2_with fail
  go_ret
  exact ⟨rfl, HMW⟩
end Go.Proofs.YtkjpdfomppjiiaaGreatDoor
/- Replace by the other side's own device is refused. -/
namespace Go.Proofs.YtkjpdfomppjiiaaGreatDoor
open Go.RowKit

set_option maxRecDepth 100000 in
set_option maxHeartbeats 3200000 in
theorem rReplace_other {W : World} {b : Nat} {gp : List Nat} {x : Nat → Nat} {fx : Nat → List Nat} {P : Pr} (h : IsPair W b gp x fx P) :
  Calls Tryz.prog 22 #[.pointer (some ⟨b, 0, none⟩), .int .i64 0, .pointer (some ⟨x 1, 0, none⟩)] W fun e w' => e = .returned (.int .i64 2) ∧ Hid (Mods [] W w') := by
 obtain ⟨zs, hzs⟩ : ∃ zs, (P.dev 0).size = zs := ⟨_, rfl⟩
 obtain ⟨zn, hzn⟩ : ∃ zn, (P.dev 0).sectors = zn := ⟨_, rfl⟩
 have hd0 : IsDev W (x 0) (fx 0) (P.dev 0) := h.dev 0 (by decide)
 have hd1 : IsDev W (x 1) (fx 1) (P.dev 1) := h.dev 1 (by decide)
 have hsm := h.same 1 (by decide)
 have hne : x 1 ≠ x 0 := fun e => h.apart 1 (by decide) (x 1) hd1.head (by rw [e]; exact hd0.head)
 have cSh := Lib.hid (fun (w : World) (p : Nat) (hm : Mods [] W w) (hp : p = x 1 ∨ p = x 0) => show Calls Tryz.prog 53 #[.pointer (some ⟨p, 0, none⟩)] w fun e w' => e = .returned (.agg #[.int .i64 (zn : Nat), .int .i64 (zs : Nat)]) ∧ Mods [] w w' from by
  rcases hp with rfl | rfl
  ·have h1 := dShape_any (hd1.keep hm (by simp))
   rw [hsm.1, hsm.2, hzs, hzn] at h1; exact h1
  ·have h1 := dShape_any (hd0.keep hm (by simp))
   rw [hzs, hzn] at h1; exact h1)
 obtain ⟨sb, m, hin, hgpe, hbs⟩ := h.pb
 have HBC : Hid (∀ w, Mods [] W w → w.cell? ⟨b, 2, none⟩ = some (.pointer (some ⟨x 0, 0, none⟩)) ∧ w.cell? ⟨b, 3, none⟩ = some (.pointer (some ⟨x 1, 0, none⟩)) ∧ (binOp .eql 22 (.pointer (some ⟨x 1, 0, none⟩)) (.pointer (some ⟨x 0, 0, none⟩))).run Tryz.prog w = .ok (.bool false) w ∧ (binOp .eql 22 (.pointer (some ⟨x 1, 0, none⟩)) (.pointer (some ⟨x 1, 0, none⟩))).run Tryz.prog w = .ok (.bool true) w) := Lib.hid (fun w hm => by
  have hb := hin.blk.keep hm (by simp)
  exact ⟨hb.cell (i := 2) rfl, hb.cell (i := 3) rfl, dev_ne (hd1.keep hm (by simp)) (hd0.keep hm (by simp)) hne, dev_self_eql w (x 1)⟩)
 obtain ⟨y0, hy0⟩ : ∃ y, x 0 = y := ⟨_, rfl⟩
 obtain ⟨y1, hy1⟩ : ∃ y, x 1 = y := ⟨_, rfl⟩
 rw [hy0, hy1] at HBC cSh
 rw [hy1]
 clear h hd0 hd1 hsm hne hin hgpe hbs hzs hzn hy0 hy1
 go_enter Tryz.func22, Tryz.ntmps22
 go_upto_region 3 with fail
 obtain ⟨q2, q3, q4, q5⟩ := HBC.out W (Mods.refl _ _)
 go_cut [17] from 18 to 49 (fun v wx => v = .bool true ∧ Hid (Mods [] W wx))
 case first =>
  go_region_held3 (fun w' => w'.cell? ⟨b, 2, none⟩ = some (.pointer (some ⟨y0, 0, none⟩)) ∧ w'.cell? ⟨b, 3, none⟩ = some (.pointer (some ⟨y1, 0, none⟩)) ∧ (binOp .eql 22 (.pointer (some ⟨y1, 0, none⟩)) (.pointer (some ⟨y0, 0, none⟩))).run Tryz.prog w' = .ok (.bool false) w' ∧ (binOp .eql 22 (.pointer (some ⟨y1, 0, none⟩)) (.pointer (some ⟨y1, 0, none⟩))).run Tryz.prog w' = .ok (.bool true) w')
   (first | exact r2 | exact s2 | exact HBC.out _ (Mods.refl _ _).drew | exact HBC.out _ (Mods.refl _ _) | fail)
   (first | (go_at_call 52; refine (rIs_any _).mono ?_; rintro e w' ⟨rfl, rfl⟩) | (go_at_call 53; have HMb2 := HMb; refine (cSh.out _ _ HMb.out ?_).mono ?_; (any_goals (first | exact Or.inl rfl | exact Or.inr rfl)); rintro e wc ⟨rfl, hm⟩; have HMc : Hid (Mods [] W wc) := Lib.hid (HMb2.out.trans hm (by simp)); have s2 := HBC.out wc HMc.out; clear hm) | (go_at_call 53; refine (cSh.out _ _ (Mods.refl _ _).drew ?_).mono ?_; (any_goals (first | exact Or.inl rfl | exact Or.inr rfl)); rintro e wb ⟨rfl, hm⟩; have HMb : Hid (Mods [] W wb) := Lib.hid (((Mods.refl [] W).drew).trans hm (by simp)); have r2 := HBC.out wb HMb.out; clear hm))
  all_goals go_wp2_with fail
  all_goals go_meet
  all_goals exact ⟨rfl, HMc⟩
 case rest =>
  obtain ⟨rfl, HMW⟩ := hcut
  go_wp2_with fail
  go_ret
  exact ⟨rfl, HMW⟩
end Go.Proofs.YtkjpdfomppjiiaaGreatDoor
/- Replace of a side that there isn't. -/
namespace Go.Proofs.YtkjpdfomppjiiaaGreatDoor
open Go.RowKit

set_option maxRecDepth 100000 in
theorem rReplace_side {W : World} (b d : Nat) {s : Int} (hs : ¬ (0 ≤ s ∧ s < 2)) :
  Calls Tryz.prog 22 #[.pointer (some ⟨b, 0, none⟩), .int .i64 s, .pointer (some ⟨d, 0, none⟩)] W fun e w' => e = .returned (.int .i64 2) ∧ Hid (Mods [] W w') := by
 have cI := Lib.hid (fun W => rIs_any (W := W) s)
 have hd : (decide (0 ≤ s) && decide (s < 2)) = false := by simpa using hs
 try rw [hd] at cI
 go_enter Tryz.func22, Tryz.ntmps22
 go_upto_region 3 with fail
 go_cut [17] from 18 to 49 (fun cv wx => cv = .bool true ∧ Hid (Mods [] W wx))
 case first =>
  refine wp_region_held_drew (S := fun w' => Hid (Mods [] W w')) (by kernel_rfl) (Lib.hid ((Mods.refl [] W).drew)) (fun hHeld => ?_)
  refine wpAnyH_take (i := 0) (oi := { dst := some 18, op := Op.move (Operand.tmp 1), type := 3, pos := "remap.go:265", after := #[], guard := none }) (v := .int .i64 s) rfl (by kernel_rfl) (by kernel_rfl) (by kernel_rfl) (fun _ _ _ h => h) (Or.inl ⟨by rfl, ?_⟩) hHeld ?_
  ·intro w hSw
   try dsimp only at hSw
   go_simp
  try simp only [Act.put, List.setIfInBounds_toArray, List.set_cons_zero, List.set_cons_succ]
  refine wpAnyH_ready (rs := [1]) (by kernel_rfl) (by simp) ?_
  refine AllReadyH.cons (o := { dst := some 19, op := Op.call { callee := Callee.value (Operand.func 52), args := #[Operand.tmp 18], argTypes := #[3] }, type := 4, pos := "remap.go:265", after := #[{ on := 0, ground := Ground.data }], guard := none }) rfl (fun K hK => ?_) AllReadyH.nil
  go_simp
  refine (cI.out _).mono ?_
  rintro e w' ⟨rfl, rfl⟩
  (try go_wp2_with fail)
  refine hK.out _ _ (Lib.hid ((Mods.refl [] W).drew)) (fun hHeld => ?_)
  clear hK K
  try simp only [Act.put, List.setIfInBounds_toArray, List.set_cons_zero, List.set_cons_succ]
  refine wpAnyH_take (i := 2) (oi := { dst := some 20, op := Op.unOp UnOp.not 4 (Operand.tmp 19), type := 4, pos := "remap.go:265", after := #[{ on := 1, ground := Ground.data }], guard := none }) (v := .bool true) rfl (by kernel_rfl) (by kernel_rfl) (by kernel_rfl) (fun _ _ _ h => h) (Or.inl ⟨by rfl, ?_⟩) hHeld ?_
  ·intro w hSw
   try dsimp only at hSw
   go_simp
  try simp only [Act.put, List.setIfInBounds_toArray, List.set_cons_zero, List.set_cons_succ]
  refine wpAnyH_take (i := 3) (oi := { dst := some 21, op := Op.move (Operand.tmp 20), type := 4, pos := "remap.go:265", after := #[{ on := 2, ground := Ground.data }, { on := 1, ground := Ground.chain }], guard := none }) (v := .bool true) rfl (by kernel_rfl) (by kernel_rfl) (by kernel_rfl) (fun _ _ _ h => h) (Or.inl ⟨by rfl, ?_⟩) hHeld ?_
  ·intro w hSw
   try dsimp only at hSw
   go_simp
  try simp only [Act.put, List.setIfInBounds_toArray, List.set_cons_zero, List.set_cons_succ]
  refine wpAnyH_take (i := 4) (oi := { dst := some 22, op := Op.move (Operand.tmp 2), type := 22, pos := "remap.go:265", after := #[{ on := 3, ground := Ground.guard }], guard := some (3, false) }) (v := undef) rfl (by kernel_rfl) (by kernel_rfl) (by kernel_rfl) (fun _ _ _ h => h) (Or.inr ⟨by rfl, rfl⟩) hHeld ?_
  try simp only [Act.put, List.setIfInBounds_toArray, List.set_cons_zero, List.set_cons_succ]
  refine wpAnyH_take (i := 5) (oi := { dst := some 23, op := Op.call { callee := Callee.value (Operand.func 53), args := #[Operand.tmp 22], argTypes := #[22] }, type := 54, pos := "remap.go:265", after := #[{ on := 4, ground := Ground.data }, { on := 3, ground := Ground.chain }, { on := 3, ground := Ground.guard }], guard := some (3, false) }) (v := undef) rfl (by kernel_rfl) (by kernel_rfl) (by kernel_rfl) (fun _ _ _ h => h) (Or.inr ⟨by rfl, rfl⟩) hHeld ?_
  try simp only [Act.put, List.setIfInBounds_toArray, List.set_cons_zero, List.set_cons_succ]
  refine wpAnyH_take (i := 6) (oi := { dst := some 24, op := Op.move (Operand.tmp 0), type := 55, pos := "remap.go:265", after := #[{ on := 3, ground := Ground.guard }], guard := some (3, false) }) (v := undef) rfl (by kernel_rfl) (by kernel_rfl) (by kernel_rfl) (fun _ _ _ h => h) (Or.inr ⟨by rfl, rfl⟩) hHeld ?_
  try simp only [Act.put, List.setIfInBounds_toArray, List.set_cons_zero, List.set_cons_succ]
  refine wpAnyH_take (i := 7) (oi := { dst := some 25, op := Op.nilCheck (Operand.tmp 24), type := 0, pos := "remap.go:265", after := #[{ on := 6, ground := Ground.data }, { on := 3, ground := Ground.guard }], guard := some (3, false) }) (v := undef) rfl (by kernel_rfl) (by kernel_rfl) (by kernel_rfl) (fun _ _ _ h => h) (Or.inr ⟨by rfl, rfl⟩) hHeld ?_
  try simp only [Act.put, List.setIfInBounds_toArray, List.set_cons_zero, List.set_cons_succ]
  refine wpAnyH_take (i := 8) (oi := { dst := some 26, op := Op.fieldAddr 123 (Operand.tmp 25) 2, type := 0, pos := "remap.go:265", after := #[{ on := 7, ground := Ground.data }, { on := 3, ground := Ground.guard }], guard := some (3, false) }) (v := undef) rfl (by kernel_rfl) (by kernel_rfl) (by kernel_rfl) (fun _ _ _ h => h) (Or.inr ⟨by rfl, rfl⟩) hHeld ?_
  try simp only [Act.put, List.setIfInBounds_toArray, List.set_cons_zero, List.set_cons_succ]
  refine wpAnyH_take (i := 9) (oi := { dst := some 27, op := Op.indexAddr 23 (Operand.tmp 26) (Operand.const (Value.int IntKind.i64 0)), type := 0, pos := "remap.go:265", after := #[{ on := 8, ground := Ground.data }, { on := 3, ground := Ground.guard }], guard := some (3, false) }) (v := undef) rfl (by kernel_rfl) (by kernel_rfl) (by kernel_rfl) (fun _ _ _ h => h) (Or.inr ⟨by rfl, rfl⟩) hHeld ?_
  try simp only [Act.put, List.setIfInBounds_toArray, List.set_cons_zero, List.set_cons_succ]
  refine wpAnyH_take (i := 10) (oi := { dst := some 28, op := Op.load 22 (Operand.tmp 27), type := 22, pos := "remap.go:265", after := #[{ on := 9, ground := Ground.data }, { on := 3, ground := Ground.guard }], guard := some (3, false) }) (v := undef) rfl (by kernel_rfl) (by kernel_rfl) (by kernel_rfl) (fun _ _ _ h => h) (Or.inr ⟨by rfl, rfl⟩) hHeld ?_
  try simp only [Act.put, List.setIfInBounds_toArray, List.set_cons_zero, List.set_cons_succ]
  refine wpAnyH_take (i := 11) (oi := { dst := some 29, op := Op.call { callee := Callee.value (Operand.func 53), args := #[Operand.tmp 28], argTypes := #[22] }, type := 54, pos := "remap.go:265", after := #[{ on := 10, ground := Ground.data }, { on := 5, ground := Ground.chain }, { on := 3, ground := Ground.guard }], guard := some (3, false) }) (v := undef) rfl (by kernel_rfl) (by kernel_rfl) (by kernel_rfl) (fun _ _ _ h => h) (Or.inr ⟨by rfl, rfl⟩) hHeld ?_
  try simp only [Act.put, List.setIfInBounds_toArray, List.set_cons_zero, List.set_cons_succ]
  refine wpAnyH_take (i := 12) (oi := { dst := some 30, op := Op.binOp BinOp.neq 54 (Operand.tmp 23) (Operand.tmp 29) 54, type := 4, pos := "remap.go:265", after := #[{ on := 5, ground := Ground.data }, { on := 11, ground := Ground.data }, { on := 3, ground := Ground.guard }], guard := some (3, false) }) (v := undef) rfl (by kernel_rfl) (by kernel_rfl) (by kernel_rfl) (fun _ _ _ h => h) (Or.inr ⟨by rfl, rfl⟩) hHeld ?_
  try simp only [Act.put, List.setIfInBounds_toArray, List.set_cons_zero, List.set_cons_succ]
  refine wpAnyH_take (i := 13) (oi := { dst := some 31, op := Op.pick (Operand.tmp 21) (Operand.const (Value.bool true)) (Operand.tmp 30), type := 4, pos := "remap.go:265", after := #[{ on := 3, ground := Ground.data }, { on := 12, ground := Ground.data }], guard := none }) (v := .bool true) rfl (by kernel_rfl) (by kernel_rfl) (by kernel_rfl) (fun _ _ _ h => h) (Or.inl ⟨by rfl, ?_⟩) hHeld ?_
  ·intro w hSw
   try dsimp only at hSw
   go_simp
  try simp only [Act.put, List.setIfInBounds_toArray, List.set_cons_zero, List.set_cons_succ]
  refine wpAnyH_take (i := 14) (oi := { dst := some 32, op := Op.move (Operand.tmp 31), type := 4, pos := "remap.go:265", after := #[{ on := 13, ground := Ground.data }, { on := 11, ground := Ground.chain }], guard := none }) (v := .bool true) rfl (by kernel_rfl) (by kernel_rfl) (by kernel_rfl) (fun _ _ _ h => h) (Or.inl ⟨by rfl, ?_⟩) hHeld ?_
  ·intro w hSw
   try dsimp only at hSw
   go_simp
  try simp only [Act.put, List.setIfInBounds_toArray, List.set_cons_zero, List.set_cons_succ]
  refine wpAnyH_take (i := 15) (oi := { dst := some 33, op := Op.move (Operand.tmp 2), type := 22, pos := "remap.go:265", after := #[{ on := 14, ground := Ground.guard }], guard := some (14, false) }) (v := undef) rfl (by kernel_rfl) (by kernel_rfl) (by kernel_rfl) (fun _ _ _ h => h) (Or.inr ⟨by rfl, rfl⟩) hHeld ?_
  try simp only [Act.put, List.setIfInBounds_toArray, List.set_cons_zero, List.set_cons_succ]
  refine wpAnyH_take (i := 16) (oi := { dst := some 34, op := Op.move (Operand.tmp 0), type := 55, pos := "remap.go:265", after := #[{ on := 14, ground := Ground.guard }], guard := some (14, false) }) (v := undef) rfl (by kernel_rfl) (by kernel_rfl) (by kernel_rfl) (fun _ _ _ h => h) (Or.inr ⟨by rfl, rfl⟩) hHeld ?_
  try simp only [Act.put, List.setIfInBounds_toArray, List.set_cons_zero, List.set_cons_succ]
  refine wpAnyH_take (i := 17) (oi := { dst := some 35, op := Op.nilCheck (Operand.tmp 34), type := 0, pos := "remap.go:265", after := #[{ on := 16, ground := Ground.data }, { on := 14, ground := Ground.guard }], guard := some (14, false) }) (v := undef) rfl (by kernel_rfl) (by kernel_rfl) (by kernel_rfl) (fun _ _ _ h => h) (Or.inr ⟨by rfl, rfl⟩) hHeld ?_
  try simp only [Act.put, List.setIfInBounds_toArray, List.set_cons_zero, List.set_cons_succ]
  refine wpAnyH_take (i := 18) (oi := { dst := some 36, op := Op.fieldAddr 123 (Operand.tmp 35) 2, type := 0, pos := "remap.go:265", after := #[{ on := 17, ground := Ground.data }, { on := 14, ground := Ground.guard }], guard := some (14, false) }) (v := undef) rfl (by kernel_rfl) (by kernel_rfl) (by kernel_rfl) (fun _ _ _ h => h) (Or.inr ⟨by rfl, rfl⟩) hHeld ?_
  try simp only [Act.put, List.setIfInBounds_toArray, List.set_cons_zero, List.set_cons_succ]
  refine wpAnyH_take (i := 19) (oi := { dst := some 37, op := Op.indexAddr 23 (Operand.tmp 36) (Operand.const (Value.int IntKind.i64 0)), type := 0, pos := "remap.go:265", after := #[{ on := 18, ground := Ground.data }, { on := 14, ground := Ground.guard }], guard := some (14, false) }) (v := undef) rfl (by kernel_rfl) (by kernel_rfl) (by kernel_rfl) (fun _ _ _ h => h) (Or.inr ⟨by rfl, rfl⟩) hHeld ?_
  try simp only [Act.put, List.setIfInBounds_toArray, List.set_cons_zero, List.set_cons_succ]
  refine wpAnyH_take (i := 20) (oi := { dst := some 38, op := Op.load 22 (Operand.tmp 37), type := 22, pos := "remap.go:265", after := #[{ on := 19, ground := Ground.data }, { on := 14, ground := Ground.guard }], guard := some (14, false) }) (v := undef) rfl (by kernel_rfl) (by kernel_rfl) (by kernel_rfl) (fun _ _ _ h => h) (Or.inr ⟨by rfl, rfl⟩) hHeld ?_
  try simp only [Act.put, List.setIfInBounds_toArray, List.set_cons_zero, List.set_cons_succ]
  refine wpAnyH_take (i := 21) (oi := { dst := some 39, op := Op.binOp BinOp.eql 22 (Operand.tmp 33) (Operand.tmp 38) 22, type := 4, pos := "remap.go:265", after := #[{ on := 15, ground := Ground.data }, { on := 20, ground := Ground.data }, { on := 14, ground := Ground.guard }], guard := some (14, false) }) (v := undef) rfl (by kernel_rfl) (by kernel_rfl) (by kernel_rfl) (fun _ _ _ h => h) (Or.inr ⟨by rfl, rfl⟩) hHeld ?_
  try simp only [Act.put, List.setIfInBounds_toArray, List.set_cons_zero, List.set_cons_succ]
  refine wpAnyH_take (i := 22) (oi := { dst := some 40, op := Op.pick (Operand.tmp 32) (Operand.const (Value.bool true)) (Operand.tmp 39), type := 4, pos := "remap.go:265", after := #[{ on := 14, ground := Ground.data }, { on := 21, ground := Ground.data }], guard := none }) (v := .bool true) rfl (by kernel_rfl) (by kernel_rfl) (by kernel_rfl) (fun _ _ _ h => h) (Or.inl ⟨by rfl, ?_⟩) hHeld ?_
  ·intro w hSw
   try dsimp only at hSw
   go_simp
  try simp only [Act.put, List.setIfInBounds_toArray, List.set_cons_zero, List.set_cons_succ]
  refine wpAnyH_take (i := 23) (oi := { dst := some 41, op := Op.move (Operand.tmp 40), type := 4, pos := "remap.go:265", after := #[{ on := 22, ground := Ground.data }, { on := 14, ground := Ground.chain }], guard := none }) (v := .bool true) rfl (by kernel_rfl) (by kernel_rfl) (by kernel_rfl) (fun _ _ _ h => h) (Or.inl ⟨by rfl, ?_⟩) hHeld ?_
  ·intro w hSw
   try dsimp only at hSw
   go_simp
  try simp only [Act.put, List.setIfInBounds_toArray, List.set_cons_zero, List.set_cons_succ]
  refine wpAnyH_take (i := 24) (oi := { dst := some 42, op := Op.move (Operand.tmp 2), type := 22, pos := "remap.go:265", after := #[{ on := 23, ground := Ground.guard }], guard := some (23, false) }) (v := undef) rfl (by kernel_rfl) (by kernel_rfl) (by kernel_rfl) (fun _ _ _ h => h) (Or.inr ⟨by rfl, rfl⟩) hHeld ?_
  try simp only [Act.put, List.setIfInBounds_toArray, List.set_cons_zero, List.set_cons_succ]
  refine wpAnyH_take (i := 25) (oi := { dst := some 43, op := Op.move (Operand.tmp 0), type := 55, pos := "remap.go:265", after := #[{ on := 23, ground := Ground.guard }], guard := some (23, false) }) (v := undef) rfl (by kernel_rfl) (by kernel_rfl) (by kernel_rfl) (fun _ _ _ h => h) (Or.inr ⟨by rfl, rfl⟩) hHeld ?_
  try simp only [Act.put, List.setIfInBounds_toArray, List.set_cons_zero, List.set_cons_succ]
  refine wpAnyH_take (i := 26) (oi := { dst := some 44, op := Op.nilCheck (Operand.tmp 43), type := 0, pos := "remap.go:265", after := #[{ on := 25, ground := Ground.data }, { on := 23, ground := Ground.guard }], guard := some (23, false) }) (v := undef) rfl (by kernel_rfl) (by kernel_rfl) (by kernel_rfl) (fun _ _ _ h => h) (Or.inr ⟨by rfl, rfl⟩) hHeld ?_
  try simp only [Act.put, List.setIfInBounds_toArray, List.set_cons_zero, List.set_cons_succ]
  refine wpAnyH_take (i := 27) (oi := { dst := some 45, op := Op.fieldAddr 123 (Operand.tmp 44) 2, type := 0, pos := "remap.go:265", after := #[{ on := 26, ground := Ground.data }, { on := 23, ground := Ground.guard }], guard := some (23, false) }) (v := undef) rfl (by kernel_rfl) (by kernel_rfl) (by kernel_rfl) (fun _ _ _ h => h) (Or.inr ⟨by rfl, rfl⟩) hHeld ?_
  try simp only [Act.put, List.setIfInBounds_toArray, List.set_cons_zero, List.set_cons_succ]
  refine wpAnyH_take (i := 28) (oi := { dst := some 46, op := Op.indexAddr 23 (Operand.tmp 45) (Operand.const (Value.int IntKind.i64 1)), type := 0, pos := "remap.go:265", after := #[{ on := 27, ground := Ground.data }, { on := 23, ground := Ground.guard }], guard := some (23, false) }) (v := undef) rfl (by kernel_rfl) (by kernel_rfl) (by kernel_rfl) (fun _ _ _ h => h) (Or.inr ⟨by rfl, rfl⟩) hHeld ?_
  try simp only [Act.put, List.setIfInBounds_toArray, List.set_cons_zero, List.set_cons_succ]
  refine wpAnyH_take (i := 29) (oi := { dst := some 47, op := Op.load 22 (Operand.tmp 46), type := 22, pos := "remap.go:265", after := #[{ on := 28, ground := Ground.data }, { on := 23, ground := Ground.guard }], guard := some (23, false) }) (v := undef) rfl (by kernel_rfl) (by kernel_rfl) (by kernel_rfl) (fun _ _ _ h => h) (Or.inr ⟨by rfl, rfl⟩) hHeld ?_
  try simp only [Act.put, List.setIfInBounds_toArray, List.set_cons_zero, List.set_cons_succ]
  refine wpAnyH_take (i := 30) (oi := { dst := some 48, op := Op.binOp BinOp.eql 22 (Operand.tmp 42) (Operand.tmp 47) 22, type := 4, pos := "remap.go:265", after := #[{ on := 24, ground := Ground.data }, { on := 29, ground := Ground.data }, { on := 23, ground := Ground.guard }], guard := some (23, false) }) (v := undef) rfl (by kernel_rfl) (by kernel_rfl) (by kernel_rfl) (fun _ _ _ h => h) (Or.inr ⟨by rfl, rfl⟩) hHeld ?_
  try simp only [Act.put, List.setIfInBounds_toArray, List.set_cons_zero, List.set_cons_succ]
  refine wpAnyH_take (i := 31) (oi := { dst := some 49, op := Op.pick (Operand.tmp 41) (Operand.const (Value.bool true)) (Operand.tmp 48), type := 4, pos := "remap.go:265", after := #[{ on := 23, ground := Ground.data }, { on := 30, ground := Ground.data }], guard := none }) (v := .bool true) rfl (by kernel_rfl) (by kernel_rfl) (by kernel_rfl) (fun _ _ _ h => h) (Or.inl ⟨by rfl, ?_⟩) hHeld ?_
  ·intro w hSw
   try dsimp only at hSw
   go_simp
  try simp only [Act.put, List.setIfInBounds_toArray, List.set_cons_zero, List.set_cons_succ]
  refine wpAnyH_take (i := 32) (oi := { dst := some 17, op := Op.assign (Operand.tmp 49), type := 4, pos := "remap.go:265", after := #[{ on := 31, ground := Ground.data }, { on := 23, ground := Ground.chain }], guard := none }) (v := .bool true) rfl (by kernel_rfl) (by kernel_rfl) (by kernel_rfl) (fun _ _ _ h => h) (Or.inl ⟨by rfl, ?_⟩) hHeld ?_
  ·intro w hSw
   try dsimp only at hSw
   go_simp
  try simp only [Act.put, List.setIfInBounds_toArray, List.set_cons_zero, List.set_cons_succ]
  refine wpAnyH_done (by kernel_rfl) ?_ _
  go_wp2_with fail
  go_meet
  exact ⟨rfl, Lib.hid ((Mods.refl [] W).drew)⟩
 case rest =>
  obtain ⟨rfl, HM⟩ := hcut
  go_wp2_with fail
  go_ret
  exact ⟨rfl, HM⟩
end Go.Proofs.YtkjpdfomppjiiaaGreatDoor
namespace Go.Proofs.YtkjpdfomppjiiaaGreatDoor
open Go.RowKit

theorem setDev_self (P : Pr) (s : Nat) : P.setDev s (P.dev s) = P := by
 unfold Pr.setDev
 have : (fun d => if d = s then P.dev s else P.dev d) = P.dev := by
  funext d
  split
  ·rename_i e; rw [e]
  ·rfl
 rw [this]
section
variable {W w0 w : World} {F : List Nat} {x : Nat → Nat} {mb p : Nat} {M : Mi} {B z n c d : Nat} {fd : List Nat} {r : Nat → ByteArray}
theorem rReplace_wd {gp : List Nat} {fx : Nat → List Nat} {s : Nat} (hs : s < 2) {E : Dev} (hp : IsPair w p gp x fx (M.P.setDev s E)) (h : WS B z n c M r) (hc : c ≤ 900000) (hr : Dev.right ((B + 4 + n : Nat) : Int) (z : Int) = true) (hB : 2 ≤ B) (hd : IsDev w d fd (Dev.new (B + 4 + n) z)) (hap : ∀ k, k < 2 → ∀ g ∈ fd, g ∉ fx k) (hgp : ∀ g ∈ gp, g ∉ fd) :
  ∃ P', WD B z n 0 ⟨P', M.bl, M.reps⟩ (fun d i => if d = s then bA (zerosL z) else r i) ∧
   Calls Tryz.prog 22 #[.pointer (some ⟨p, 0, none⟩), .int .i64 (s : Nat), .pointer (some ⟨d, 0, none⟩)] w fun e w' => ∃ gp' fx', e = .returned (.int .i64 0) ∧ Hid (ReplTo w w' p gp gp' (upd x s d) fx (upd fx s fd) fx' fd P') := by
 obtain ⟨hz, P', k1, k2, k3⟩ := h.replace hs hr hB
 refine ⟨P', k3, ?_⟩
 have hss := setDev_setDev M.P s E (Dev.new (B + 4 + n) z)
 have hzE : (Dev.new (B + 4 + n) z).size = ((M.P.setDev s E).dev 0).size ∧ (Dev.new (B + 4 + n) z).sectors = ((M.P.setDev s E).dev 0).sectors := by
  have hsm := hp.same (1 - s) (by omega)
  have e : (M.P.setDev s E).dev (1 - s) = M.P.dev (1 - s) := by unfold Pr.setDev; simp; omega
  rw [e] at hsm
  have h2 := h.gm.pi.inv.same (1 - s) (by omega)
  exact ⟨hz.1.trans (h2.1.symm.trans hsm.1), hz.2.trans (h2.2.symm.trans hsm.2)⟩
 have hcc : ∀ k, k < 2 → (((M.P.setDev s E).setDev s (Dev.new (B + 4 + n) z)).dev k).cache.length + 2 < 1000000 := by
  intro k hk
  rw [hss]
  show (if k = s then Dev.new (B + 4 + n) z else M.P.dev k).cache.length + 2 < 1000000
  split
  ·show (0 : Nat) + 2 < 1000000; omega
  ·have := h.gm.few k hk; omega
 have hsp : ∀ k, k < 2 → ((M.P.setDev s E).tab k).spares = (M.P.setDev s E).n := fun k hk => by
  show (M.P.tab k).spares = M.P.n
  exact (h.gm.pi.slots k hk).spares
 have hk1 : (((M.P.setDev s E).setDev s (Dev.new (B + 4 + n) z)).keep s ((M.P.setDev s E).tab s)).1 = 0 := by rw [hss]; exact k1
 have hk2 : ((((M.P.setDev s E).setDev s (Dev.new (B + 4 + n) z)).keep s ((M.P.setDev s E).tab s)).2.keep (1 - s) ((M.P.setDev s E).tab (1 - s))) = (0, P') := by rw [hss]; exact k2
 rcases two_cases hs with rfl | rfl
 ·have h9 := rReplace_0 hp hd hzE hap hgp hsp hcc hk1 (by rw [show (1 : Nat) = 1 - 0 from rfl, hk2])
  have e9 : ((((M.P.setDev 0 E).setDev 0 (Dev.new (B + 4 + n) z)).keep 0 ((M.P.setDev 0 E).tab 0)).2.keep 1 ((M.P.setDev 0 E).tab 1)).2 = P' := by
   have h8 := hk2
   rw [show 1 - 0 = 1 from rfl] at h8
   rw [h8]
  rw [e9] at h9; exact h9
 ·have h9 := rReplace_1 hp hd hzE hap hgp hsp hcc hk1 (by rw [show (0 : Nat) = 1 - 1 from rfl, hk2])
  have e9 : ((((M.P.setDev 1 E).setDev 1 (Dev.new (B + 4 + n) z)).keep 1 ((M.P.setDev 1 E).tab 1)).2.keep 0 ((M.P.setDev 1 E).tab 0)).2 = P' := by
   have h8 := hk2
   rw [show 1 - 1 = 0 from rfl] at h8
   rw [h8]
  rw [e9] at h9; exact h9
theorem oReplace {s : Nat} (hs : s < 2) {E : Dev} (h : OwnM W F w0 mb p x { M with P := M.P.setDev s E }) (hm : Mods [] w0 w) (hw : WS B z n c M r) (hc : c ≤ 900000) (hr : Dev.right ((B + 4 + n : Nat) : Int) (z : Int) = true) (hB : 2 ≤ B) (hd : IsDev w d fd (Dev.new (B + 4 + n) z)) (hn : ∀ g ∈ fd, w0.heap.size ≤ g) :
  Calls Tryz.prog 22 #[.pointer (some ⟨p, 0, none⟩), .int .i64 (s : Nat), .pointer (some ⟨d, 0, none⟩)] w fun e w' => e = .returned (.int .i64 0) ∧ Hid (∃ P', OwnM W F w' mb p (upd x s d) ⟨P', M.bl, M.reps⟩ ∧ WD B z n 0 ⟨P', M.bl, M.reps⟩ (fun d i => if d = s then bA (zerosL z) else r i) ∧ Minds F w w') := by
 obtain ⟨tb, mmb, gp, fx, hI, hf⟩ := h.foot_lt
 have hI2 := hI.still hm
 have hfx : ∀ k, k < 2 → ∀ g ∈ fx k, W.heap.size ≤ g ∧ g ∉ F ∧ g < w0.heap.size := fun k hk g hg => hf g (by
  rcases two_cases hk with rfl | rfl
  ·exact .inr (.inr (.inr (.inr (.inl hg))))
  ·exact .inr (.inr (.inr (.inr (.inr hg)))))
 have hgp : ∀ g ∈ gp, W.heap.size ≤ g ∧ g ∉ F ∧ g < w0.heap.size := fun g hg => hf g (.inr (.inr (.inr (.inl hg))))
 have hWw := h.mods.size
 have hs0 := hm.size
 obtain ⟨P', k1, k2⟩ := rReplace_wd hs hI2.pair hw hc hr hB hd (fun k hk g hg hx => by have h1 := hn g hg; have h2 := (hfx k hk g hx).2.2; omega) (fun g hg hx => by have h1 := hn g hx; have h2 := (hgp g hg).2.2; omega)
 refine k2.mono fun e w' ⟨gp', fx', h1, h2⟩ => ⟨h1, Lib.hid ⟨P', ?_, k1, ⟨_, h2.out.mods, fun k hk hx => ?_⟩⟩⟩
 ·have hnew : ∀ {g : Nat}, w.heap.size ≤ g → g ∉ F := fun hg hx => by have := h.lt _ hx; omega
  have l1 := hf mb (.inl rfl)
  have l2 := hf tb (.inr (.inl rfl))
  have l3 := hf mmb (.inr (.inr (.inl rfl)))
  have hfd : ∀ g ∈ fd, W.heap.size ≤ g ∧ g ∉ F ∧ w0.heap.size ≤ g := fun g hg => by
   have := hn g hg
   exact ⟨by omega, fun hx => by have := h.lt g hx; omega, this⟩
  have hup : ∀ k, k < 2 → ∀ g ∈ upd fx s fd k, (W.heap.size ≤ g ∧ g ∉ F) ∧ g ≠ mb ∧ g ≠ tb ∧ g ≠ mmb := fun k hk g hg => by
   by_cases e : k = s
   ·subst e
    rw [upd_at] at hg
    have h3 := hfd g hg
    exact ⟨⟨h3.1, h3.2.1⟩, by omega, by omega, by omega⟩
   ·rw [upd_other _ _ e] at hg
    have h3 := hfx k hk g hg
    have h4 := hI2.freeF k hk g hg
    exact ⟨⟨h3.1, h3.2.1⟩, h4⟩
  have hoff : ∀ t, (t = mb ∨ t = tb ∨ t = mmb) → t ∉ p :: (fx 0 ++ fx 1 ++ fd) := fun t ht hx => by
   have hlt : t < w0.heap.size := by rcases ht with rfl | rfl | rfl; exact l1.2.2; exact l2.2.2; exact l3.2.2
   rcases List.mem_cons.1 hx with e | hx
   ·have h3 := hI2.freeG p hI2.at_p
    rcases ht with rfl | rfl | rfl
    ·exact h3.1 e.symm
    ·exact h3.2.1 e.symm
    ·exact h3.2.2 e.symm
   ·rcases List.mem_append.1 hx with hx | hx
    ·rcases List.mem_append.1 hx with hx | hx
     ·have h3 := hI2.freeF 0 (by decide) t hx; rcases ht with rfl | rfl | rfl; exact h3.1 rfl; exact h3.2.1 rfl; exact h3.2.2 rfl
     ·have h3 := hI2.freeF 1 (by decide) t hx; rcases ht with rfl | rfl | rfl; exact h3.1 rfl; exact h3.2.1 rfl; exact h3.2.2 rfl
    ·have := hn t hx; omega
  have hF' : ∀ k, k < 2 → ∀ g ∈ fx' k, (W.heap.size ≤ g ∧ g ∉ F) ∧ g ≠ mb ∧ g ≠ tb ∧ g ≠ mmb := fun k hk g hg => by
   rcases h2.out.newF k hk g hg with h3 | h3
   ·exact hup k hk g h3
   ·exact ⟨⟨by omega, hnew h3⟩, by omega, by omega, by omega⟩
  have hG' : ∀ g ∈ gp', (W.heap.size ≤ g ∧ g ∉ F) ∧ g ≠ mb ∧ g ≠ tb ∧ g ≠ mmb := fun g hg => by
   rcases h2.out.newG g hg with h3 | h3
   ·have h4 := hgp g h3
    exact ⟨⟨h4.1, h4.2.1⟩, hI2.freeG g h3⟩
   ·exact ⟨⟨by omega, hnew h3⟩, by omega, by omega, by omega⟩
  refine ⟨⟨tb, mmb, gp', fx', ⟨Blk.keep hI2.blk h2.out.mods (hoff _ (.inl rfl)), hI2.sum.keep h2.out.mods (hoff _ (.inr (.inl rfl))), hI2.map.keep h2.out.mods (hoff _ (.inr (.inr rfl))), hI2.nd, h2.out.pair, fun g hg => (hG' g hg).2, fun k hk g hg => (hF' k hk g hg).2⟩, fun g hg => ?_⟩, (h.mods.trans hm (by simp)).trans h2.out.mods (fun k hk => .inr ?_), fun g hg => ?_⟩
  ·rcases hg with rfl | rfl | rfl | hg | hg | hg
   ·exact ⟨l1.1, l1.2.1⟩
   ·exact ⟨l2.1, l2.2.1⟩
   ·exact ⟨l3.1, l3.2.1⟩
   ·exact (hG' g hg).1
   ·exact (hF' 0 (by decide) g hg).1
   ·exact (hF' 1 (by decide) g hg).1
  ·rcases List.mem_cons.1 hk with rfl | hk
   ·exact (hgp _ hI2.at_p).1
   ·rcases List.mem_append.1 hk with hk | hk
    ·rcases List.mem_append.1 hk with hk | hk
     ·exact (hfx 0 (by decide) k hk).1
     ·exact (hfx 1 (by decide) k hk).1
    ·exact (hfd k hk).1
  ·have h3 := h.lt g hg; have h4 := h2.out.mods.size; omega
 ·rcases List.mem_cons.1 hk with rfl | hk
  ·exact (hgp _ hI2.at_p).2.1 hx
  ·rcases List.mem_append.1 hk with hk | hk
   ·rcases List.mem_append.1 hk with hk | hk
    ·exact (hfx 0 (by decide) k hk).2.1 hx
    ·exact (hfx 1 (by decide) k hk).2.1 hx
   ·have h3 := hn k hk; have h4 := h.lt k hx; omega
end
end Go.Proofs.YtkjpdfomppjiiaaGreatDoor
