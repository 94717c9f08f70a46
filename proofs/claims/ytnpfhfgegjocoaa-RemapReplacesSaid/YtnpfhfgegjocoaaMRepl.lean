/- RemapReplaces: whatever the moves are, and whichever side, the law answers true. No condition but the form's own. (Printed by wip/remapreplaces.py.) -/
import Derived.Test.YtnpfhfgegjocoaaMD
import Derived.Deep.CutRange
import Derived.Deep.RegionHeld3
import Derived.Outline
import Derived.LoopN
import Derived.Test.YtnpfhfgegjocoaaMG
import Derived.LaidEqlPtr
import Derived.Test.YtnpfhfgegjocoaaMA
/- Pair.Replace: another device stands in a side's place. (Printed by wip/pair13.py.) -/
namespace Go.Proofs.Ytnpfhfgegjocoaa
open Go.RowKit

theorem IsPair.at_b2 {w : World} {b : Nat} {gp : List Nat} {x : Nat → Nat} {fx : Nat → List Nat} {P : Pr} (h : IsPair w b gp x fx P) : b ∈ gp := by
  obtain ⟨_, _, _, hg, _⟩ := h.pb
  rw [hg]; simp [pairFoot]
theorem IsPair.device {w : World} {b : Nat} {gp : List Nat} {x : Nat → Nat} {fx : Nat → List Nat} {P : Pr} (h : IsPair w b gp x fx P) {s : Nat} (hs : s < 2) {d : Nat} {fd : List Nat} {D : Dev} (hd : IsDev w d fd D) (hz : D.size = (P.dev 0).size ∧ D.sectors = (P.dev 0).sectors)
    (hap : ∀ k, k < 2 → ∀ g ∈ fd, g ∉ fx k) (hgp : ∀ g ∈ gp, g ∉ fd) :
    IsPair (w.setCell ⟨b, 2 + s, none⟩ (.pointer (some ⟨d, 0, none⟩))) b gp (upd x s d) (upd fx s fd) (P.setDev s D) ∧ Mods [b] w (w.setCell ⟨b, 2 + s, none⟩ (.pointer (some ⟨d, 0, none⟩))) := by
  have hm : Mods [b] w (w.setCell ⟨b, 2 + s, none⟩ (.pointer (some ⟨d, 0, none⟩))) := (Mods.refl _ _).setCell (.inl (by simp)) _
  have hbg : b ∈ gp := by
    obtain ⟨_, _, _, hg, _⟩ := h.pb
    rw [hg]; simp [pairFoot]
  have hdev : ∀ k, k < 2 → IsDev w (upd x s d k) (upd fx s fd k) ((P.setDev s D).dev k) ∧ (∀ g ∈ upd fx s fd k, g ∉ gp) := by
    intro k hk
    by_cases e : k = s
    · subst e
      rw [upd_at, upd_at]
      refine ⟨?_, fun g hg hx => hgp g hx hg⟩
      show IsDev w d fd (if k = k then D else P.dev k)
      rw [if_pos rfl]; exact hd
    · rw [upd_other _ _ e, upd_other _ _ e]
      refine ⟨?_, fun g hg hx => h.free g hx k hk hg⟩
      show IsDev w (x k) (fx k) (if k = s then D else P.dev k)
      rw [if_neg e]; exact h.dev k hk
  have hsh : ∀ k, k < 2 → ((P.setDev s D).dev k).size = (P.dev 0).size ∧ ((P.setDev s D).dev k).sectors = (P.dev 0).sectors := by
    intro k hk
    show (if k = s then D else P.dev k).size = _ ∧ (if k = s then D else P.dev k).sectors = _
    split
    · exact hz
    · exact h.same k hk
  refine ⟨⟨?_, fun k hk => (hdev k hk).1.keep hm (fun g hg hx => (hdev k hk).2 g hg (by rw [List.mem_singleton.1 hx]; exact hbg)), fun k hk g hg hx => ?_, fun g hg k hk hx => (hdev k hk).2 g hx hg, fun k hk => ?_, ?_⟩, hm⟩
  · obtain ⟨sb, m, hin, hg, hne⟩ := h.pb
    refine ⟨sb, m, ⟨?_, hin.sum.keep hm (by simp; exact fun e => hne e.symm), fun k hk => (hin.mv k hk).keep hm (fun g hg' hx => ?_), hin.tok, hin.n⟩, hg, hne⟩
    · have hb := hin.blk.set (2 + s) (.pointer (some ⟨d, 0, none⟩))
      have e : (pairCells sb P.n x P.tab m).set (2 + s) (.pointer (some ⟨d, 0, none⟩)) = pairCells sb P.n (upd x s d) P.tab m := by
        rcases (show s = 0 ∨ s = 1 by omega) with rfl | rfl <;> rfl
      rw [e] at hb; exact hb
    · have h1 := mv_ne hin.blk (hin.mv k hk) g hg'
      exact h1 (List.mem_singleton.1 hx)
  · by_cases e : k = s
    · subst e
      rw [upd_at] at hg
      rw [upd_other _ _ (by omega)] at hx
      exact hap (1 - k) (by omega) g hg hx
    · rw [upd_other _ _ e] at hg
      have e2 : 1 - k = s := by omega
      rw [e2, upd_at] at hx
      exact hap k hk g hx hg
  · rw [(hsh k hk).1, (hsh k hk).2, (hsh 0 (by decide)).1, (hsh 0 (by decide)).2]; exact ⟨rfl, rfl⟩
  · have := h.fit
    unfold Pr.Fit at this ⊢
    rw [(hsh 0 (by decide)).1, (hsh 0 (by decide)).2]; exact this
/-- What Replace leaves. -/
structure ReplTo (W w' : World) (b : Nat) (gp gp' : List Nat) (x' : Nat → Nat) (fx fx0 fx' : Nat → List Nat) (fd : List Nat) (P' : Pr) : Prop where
  pair : IsPair w' b gp' x' fx' P'
  mods : Mods (b :: (fx 0 ++ fx 1 ++ fd)) W w'
  newF : ∀ k, k < 2 → ∀ g ∈ fx' k, g ∈ fx0 k ∨ W.heap.size ≤ g
  newG : ∀ g ∈ gp', g ∈ gp ∨ W.heap.size ≤ g
/-- A side's table, as its cells lie. -/
theorem IsPair.tabv {w : World} {b : Nat} {gp : List Nat} {x : Nat → Nat} {fx : Nat → List Nat} {P : Pr} (h : IsPair w b gp x fx P) {s : Nat} (hs : s < 2) {T : Tab} (hT : P.tab s = T) :
    ∃ A c, w.cell? ⟨b, 4 + 3 * s, none⟩ = some (.int .i64 (T.blocks : Nat)) ∧ w.cell? ⟨b, 4 + 3 * s + 1, none⟩ = some (.int .i64 (T.spares : Nat)) ∧ w.cell? ⟨b, 4 + 3 * s + 2, none⟩ = some (.slice A T.moved.length c) ∧ Hid (IsMv w (.slice A T.moved.length c) T.moved) ∧ Hid (∀ g, (Value.slice A T.moved.length c).ownBlock = some g → ∀ k, k < 2 → g ∉ fx k) ∧ Hid (∀ g, (Value.slice A T.moved.length c).ownBlock = some g → g ∈ gp) := by
  obtain ⟨sb, m, hin, hg, _⟩ := h.pb
  have hmv := hin.mv s hs
  rw [hT] at hmv
  obtain ⟨A, c, e, _⟩ := mv_shape hmv
  have hgp : ∀ g, (m s).ownBlock = some g → g ∈ gp := fun g hg' => by
    rw [hg]
    unfold pairFoot
    rcases (show s = 0 ∨ s = 1 by omega) with rfl | rfl <;> simp [hg']
  have hm3 : w.cell? ⟨b, 4 + 3 * s + 2, none⟩ = some (m s) := by
    rcases (show s = 0 ∨ s = 1 by omega) with rfl | rfl
    · exact hin.blk.cell (i := 6) rfl
    · exact hin.blk.cell (i := 9) rfl
  rw [e] at hmv hgp hm3
  refine ⟨A, c, ?_, ?_, hm3, hmv, Lib.hid (fun g hg' k hk => h.free g (hgp g hg') k hk), hgp⟩
  · rw [← hT]
    rcases (show s = 0 ∨ s = 1 by omega) with rfl | rfl
    · exact hin.blk.cell (i := 4) rfl
    · exact hin.blk.cell (i := 7) rfl
  · rw [← hT]
    rcases (show s = 0 ∨ s = 1 by omega) with rfl | rfl
    · exact hin.blk.cell (i := 5) rfl
    · exact hin.blk.cell (i := 8) rfl
theorem nil_ptr (b : Nat) (w : World) : (binOp .eql 23 (.pointer (some ⟨b, 0, none⟩)) (.pointer none)).run Try.prog w = .ok (.bool false) w := by kernel_rfl
set_option maxRecDepth 100000 in
set_option maxHeartbeats 3200000 in
theorem rReplace_0 {W : World} {b : Nat} {gp : List Nat} {x : Nat → Nat} {fx : Nat → List Nat} {P : Pr} (h : IsPair W b gp x fx P) {d : Nat} {fd : List Nat} {D : Dev} (hd : IsDev W d fd D) (hz : D.size = (P.dev 0).size ∧ D.sectors = (P.dev 0).sectors)
    (hap : ∀ k, k < 2 → ∀ g ∈ fd, g ∉ fx k) (hgp : ∀ g ∈ gp, g ∉ fd) (hsp : ∀ k, k < 2 → (P.tab k).spares = P.n) (hc : ∀ k, k < 2 → ((P.setDev 0 D).dev k).cache.length + 2 < 1000000)
    (hk1 : ((P.setDev 0 D).keep 0 (P.tab 0)).1 = 0) (hk2 : (((P.setDev 0 D).keep 0 (P.tab 0)).2.keep 1 (P.tab 1)).1 = 0) :
    Calls Try.prog 29 #[.pointer (some ⟨b, 0, none⟩), .int .i64 0, .pointer (some ⟨d, 0, none⟩)] W fun e w' => ∃ gp' fx', e = .returned (.int .i64 0) ∧ Hid (ReplTo W w' b gp gp' (upd x 0 d) fx (upd fx 0 fd) fx' fd (((P.setDev 0 D).keep 0 (P.tab 0)).2.keep 1 (P.tab 1)).2) := by
  have hd0 : IsDev W (x 0) (fx 0) (P.dev 0) := h.dev 0 (by decide)
  have hne : ∀ k, k < 2 → d ≠ x k := fun k hk e => hap k hk d hd.head (by rw [e]; exact (h.dev k hk).head)
  obtain ⟨zs, hzs⟩ : ∃ zs, (P.dev 0).size = zs := ⟨_, rfl⟩
  obtain ⟨zn, hzn⟩ : ∃ zn, (P.dev 0).sectors = zn := ⟨_, rfl⟩
  have cSh := Lib.hid (fun (w : World) (p : Nat) (hm : Mods [] W w) (hp : p = d ∨ p = x 0) => show Calls Try.prog 56 #[.pointer (some ⟨p, 0, none⟩)] w fun e w' => e = .returned (.agg #[.int .i64 (zn : Nat), .int .i64 (zs : Nat)]) ∧ Mods [] w w' from by
    rcases hp with rfl | rfl
    · have h1 := dShape_any (hd.keep hm (by simp))
      rw [hz.1, hz.2, hzs, hzn] at h1; exact h1
    · have h1 := dShape_any (hd0.keep hm (by simp))
      rw [hzs, hzn] at h1; exact h1)
  have HNE := Lib.hid (fun (w : World) (hm : Mods [] W w) => And.intro (dev_ne (hd.keep hm (by simp)) ((h.dev 0 (by decide)).keep hm (by simp)) (hne 0 (by decide))) (dev_ne (hd.keep hm (by simp)) ((h.dev 1 (by decide)).keep hm (by simp)) (hne 1 (by decide))))
  obtain ⟨sb, m, hin, hgpe, hbs⟩ := h.pb
  have HBC : Hid (∀ w, Mods [] W w → w.cell? ⟨b, 2, none⟩ = some (.pointer (some ⟨x 0, 0, none⟩)) ∧ w.cell? ⟨b, 3, none⟩ = some (.pointer (some ⟨x 1, 0, none⟩)) ∧ w.frozen? ⟨b, 2, none⟩ = false ∧ w.frozen? ⟨b, 3, none⟩ = false) := Lib.hid (fun w hm => by
    have hb := hin.blk.keep hm (by simp)
    exact ⟨hb.cell (i := 2) rfl, hb.cell (i := 3) rfl, hb.free 2, hb.free 3⟩)
  have HDV := Lib.hid (fun (w : World) (hm : Mods [] W w) => (h.keep0 hm).device (s := 0) (by decide) (hd.keep hm (by simp)) hz hap hgp)
  obtain ⟨P1, hP1⟩ : ∃ P1, P.setDev 0 D = P1 := ⟨_, rfl⟩
  have hPt : P1.tab = P.tab := by rw [← hP1]; rfl
  have hn1 : P1.n = P.n := by rw [← hP1]; rfl
  rw [hP1] at HDV hk1 hk2 hc ⊢
  obtain ⟨T0, hT0⟩ : ∃ T, P.tab 0 = T := ⟨_, rfl⟩
  obtain ⟨T1, hT1⟩ : ∃ T, P.tab 1 = T := ⟨_, rfl⟩
  have tok : T0.Ok ∧ T1.Ok ∧ T0.moved.length ≤ P.n ∧ T1.moved.length ≤ P.n := by
    have a0 := hin.tok 0 (by decide)
    have a1 := hin.tok 1 (by decide)
    have l0 := a0.len
    have l1 := a1.len
    rw [hsp 0 (by decide)] at l0
    rw [hsp 1 (by decide)] at l1
    rw [hT0] at a0 l0
    rw [hT1] at a1 l1
    exact ⟨a0, a1, l0, l1⟩
  have hca : ∀ k, k < 2 → (P1.dev k).cache.length + 1 < 1000000 := fun k hk => by have := hc k hk; omega
  have cK1 := Lib.hid (fun (w : World) (gp : List Nat) (fx : Nat → List Nat) (mv : Value) (hp : IsPair w b gp (upd x 0 d) fx P1) (hmv : IsMv w mv T0.moved) (hfr : ∀ g, mv.ownBlock = some g → ∀ k, k < 2 → g ∉ fx k) => rKeep_any hp 0 (by decide) (t := T0) hmv hfr tok.1 (by rw [hn1]; exact tok.2.2.1) hca)
  rw [hT0, hT1] at hk2 ⊢
  rw [hT0] at hk1
  rw [hk1] at cK1
  have hk1n := (keep_same P1 0 T0 0).2.1
  have hk1c := fun k => (keep_same P1 0 T0 k).1
  have hk1t := (keep_same P1 0 T0 0).2.2.1 hk1
  generalize hP2 : (P1.keep 0 T0).2 = P2 at *
  have hT2 : P2.tab 1 = T1 := by
    rw [hk1t]
    show P1.tab 1 = _
    rw [hPt]; exact hT1
  have hcb : ∀ k, k < 2 → (P2.dev k).cache.length + 1 < 1000000 := fun k hk => by have h1 := hk1c k; have := hc k hk; omega
  have cK2 := Lib.hid (fun (w : World) (gp : List Nat) (fx : Nat → List Nat) (mv : Value) (hp : IsPair w b gp (upd x 0 d) fx P2) (hmv : IsMv w mv T1.moved) (hfr : ∀ g, mv.ownBlock = some g → ∀ k, k < 2 → g ∉ fx k) => rKeep_any hp 1 (by decide) (t := T1) hmv hfr tok.2.1 (by rw [hk1n, hn1]; exact tok.2.2.2) hcb)
  rw [hk2] at cK2
  have hT1' : P1.tab 0 = T0 := by rw [hPt]; exact hT0
  generalize (P2.keep 1 T1).2 = P3 at *
  unfold tabV at cK1 cK2
  have HTS := Lib.hid (And.intro hT1' hT2)
  have HH := Lib.hid (And.intro h (And.intro hd (And.intro hap hgp)))
  have HLT := Lib.hid (And.intro h.at_b2 hin.blk.lt)
  clear hk1 hk2 hP1 hP2 hPt hT1 hn1 hT0 hT1' hT2 tok hca hcb hk1n hk1c hk1t hc hsp hap hgp hz hd0 hne hin hgpe hbs hd h hzs hzn
  go_enter Try.func29, Try.ntmps29
  go_upto_region 3 with fail
  have q2 := (HBC.out W (Mods.refl _ _)).1
  have q3 := (HBC.out W (Mods.refl _ _)).2.1
  go_cut [17] from 18 to 49 (fun v wx => v = .bool false ∧ Hid (Mods [] W wx))
  case first =>
    clear HH cK1 cK2 HTS HDV
    obtain ⟨l0, l1⟩ := HNE.out _ ((Mods.refl [] W).drew)
    go_region_held3 (fun w' => w'.cell? ⟨b, 2, none⟩ = some (.pointer (some ⟨x 0, 0, none⟩)) ∧ w'.cell? ⟨b, 3, none⟩ = some (.pointer (some ⟨x 1, 0, none⟩)) ∧ (binOp .eql 23 (.pointer (some ⟨d, 0, none⟩)) (.pointer (some ⟨x 0, 0, none⟩))).run Try.prog w' = .ok (.bool false) w' ∧ (binOp .eql 23 (.pointer (some ⟨d, 0, none⟩)) (.pointer (some ⟨x 1, 0, none⟩))).run Try.prog w' = .ok (.bool false) w')
      (first | exact ⟨q2, q3, l0, l1⟩ | exact ⟨r2, r3, k0, k1⟩ | exact ⟨s2, s3, n0, n1⟩ | exact ⟨q2, q3, HNE.out _ (Mods.refl _ _)⟩ | fail)
      (first | (go_at_call 34; refine (rIs_any _).mono ?_; rintro e w' ⟨rfl, rfl⟩) | (go_at_call 56; have HMb2 := HMb; refine (cSh.out _ _ HMb.out ?_).mono ?_; (any_goals (first | exact Or.inl rfl | exact Or.inr rfl)); rintro e wc ⟨rfl, hm⟩; have HMc : Hid (Mods [] W wc) := Lib.hid (HMb2.out.trans hm (by simp)); obtain ⟨s2, s3, _, _⟩ := HBC.out wc HMc.out; obtain ⟨n0, n1⟩ := HNE.out wc HMc.out; clear hm) | (go_at_call 56; refine (cSh.out _ _ (Mods.refl _ _).drew ?_).mono ?_; (any_goals (first | exact Or.inl rfl | exact Or.inr rfl)); rintro e wb ⟨rfl, hm⟩; have HMb : Hid (Mods [] W wb) := Lib.hid (((Mods.refl [] W).drew).trans hm (by simp)); obtain ⟨r2, r3, _, _⟩ := HBC.out wb HMb.out; obtain ⟨k0, k1⟩ := HNE.out wb HMb.out; clear hm))
    all_goals go_wp2_with fail
    all_goals go_meet
    all_goals exact ⟨rfl, HMc⟩
  case rest =>
    obtain ⟨rfl, HMW⟩ := hcut
    obtain ⟨p2, p3, f2, f3⟩ := HBC.out wc HMW.out
    obtain ⟨hpD, hmD⟩ := HDV.out wc HMW.out
    obtain ⟨w2, hw2⟩ : ∃ w2, wc.setCell ⟨b, 2, none⟩ (.pointer (some ⟨d, 0, none⟩)) = w2 := ⟨_, rfl⟩
    have HPD : Hid (IsPair w2 b gp (upd x 0 d) (upd fx 0 fd) P1) := Lib.hid (by rw [← hw2]; exact hpD)
    have HMD : Hid (Mods [b] wc w2) := Lib.hid (by rw [← hw2]; exact hmD)
    obtain ⟨w3, hw3⟩ : ∃ w3, w2.alloc (.cells #[.int .i64 0, .int .i64 1] 3) = w3 := ⟨_, rfl⟩
    have hm3 : Mods [] w2 w3 := by rw [← hw3]; exact (Mods.refl _ _).alloc _
    have hb3 : Blk w3 w2.heap.size 3 [.int .i64 0, .int .i64 1] := by rw [← hw3]; exact Blk.new w2 3 _
    have HP3 : Hid (IsPair w3 b gp (upd x 0 d) (upd fx 0 fd) P1) := Lib.hid (HPD.out.keep0 hm3)
    have HB3 := Lib.hid hb3
    have HM3 := Lib.hid hm3
    obtain ⟨Aa, ca, t0, t1, t2, HVA, HFA, HGA⟩ := HP3.out.tabv (s := 0) (by decide) HTS.out.1
    have e0 := hb3.cell (i := 0) rfl
    clear hpD hmD hm3 hb3
    go_wp2_with (go_at_call 57; refine (rOther_any 0 (by decide)).mono ?_; rintro e w' ⟨rfl, rfl⟩)
    refine wp_loop_rounds 3 ?_
    rw [rounds_succ]
    go_wp2_with (go_at_call 36; refine (cK1.out _ _ _ _ HP3.out HVA.out HFA.out).mono ?_; rintro e w4 ⟨gp4, fx4, rfl, HP4, HM4, HN4, HG4⟩)
    rw [rounds_succ]
    obtain ⟨Ac, cc, s0, s1, s2, HVC, HFC, HGC⟩ := HP4.out.tabv (s := 1) (by decide) HTS.out.2
    have e1 := (HB3.out.keep HM4.out (by
      intro hx
      obtain ⟨hh, hhd, _, _⟩ := HH.out
      have h1 := HMW.out.size
      have h2 := HMD.out.size
      rcases List.mem_cons.1 hx with e | hx
      · have := HLT.out.2; omega
      · have hl : ∀ k, k < 2 → ∀ g ∈ upd fx 0 fd k, g < W.heap.size := fun k hk g hg => by
          by_cases ek : k = 0
          · subst ek
            rw [upd_at] at hg
            exact hhd.lt g hg
          · rw [upd_other _ _ ek] at hg
            exact (hh.dev k hk).lt g hg
        rcases List.mem_append.1 hx with hx | hx
        · have := hl 0 (by decide) _ hx; omega
        · have := hl 1 (by decide) _ hx; omega)).cell (i := 1) rfl
    go_wp2_with (go_at_call 36; refine (cK2.out _ _ _ _ HP4.out HVC.out HFC.out).mono ?_; rintro e w5 ⟨gp5, fx5, rfl, HP5, HM5, HN5, HG5⟩)
    rw [rounds_succ]
    go_wp2_with fail
    go_ret
    have z1 := HMW.out.size
    have z2 := HMD.out.size
    have z3 := HM3.out.size
    have z4 := HM4.out.size
    have hF : ∀ k, k < 2 → ∀ g ∈ upd fx 0 fd k, g ∈ b :: (fx 0 ++ fx 1 ++ fd) := fun k hk g hg => by
      by_cases ek : k = 0
      · subst ek
        rw [upd_at] at hg
        simp [hg]
      · rw [upd_other _ _ ek] at hg
        rcases (show k = 0 ∨ k = 1 by omega) with rfl | rfl <;> simp [hg]
    refine ⟨gp5, fx5, rfl, Lib.hid ⟨HP5.out, ?_, fun k hk g hg => ?_, fun g hg => ?_⟩⟩
    · have a1 : Mods (b :: (fx 0 ++ fx 1 ++ fd)) W w3 := ((HMW.out.mono (by simp)).trans HMD.out (fun z hz => .inl (by rw [List.mem_singleton.1 hz]; simp))).trans HM3.out (by simp)
      have a2 := a1.trans HM4.out (fun z hz => .inl (by
        rcases List.mem_cons.1 hz with rfl | hz
        · simp
        · rcases List.mem_append.1 hz with hz | hz
          · exact hF 0 (by decide) z hz
          · exact hF 1 (by decide) z hz))
      have hn4 : ∀ k, k < 2 → ∀ z ∈ fx4 k, z ∈ b :: (fx 0 ++ fx 1 ++ fd) ∨ W.heap.size ≤ z := fun k hk z hz => by
        rcases HN4.out k hk z hz with h1 | h1
        · exact .inl (hF k hk z h1)
        · exact .inr (by omega)
      exact a2.trans HM5.out (fun z hz => by
        rcases List.mem_cons.1 hz with rfl | hz
        · exact .inl (by simp)
        · rcases List.mem_append.1 hz with hz | hz
          · exact hn4 0 (by decide) z hz
          · exact hn4 1 (by decide) z hz)
    · rcases HN5.out k hk g hg with h1 | h1
      · rcases HN4.out k hk g h1 with h2 | h2
        · exact .inl h2
        · exact .inr (by omega)
      · exact .inr (by omega)
    · have hg4 : ∀ z ∈ gp4, z ∈ gp ∨ W.heap.size ≤ z := fun z hz => by
        rcases HG4.out z hz with h1 | h1 | h1
        · exact .inl h1
        · exact .inl (HGA.out z h1)
        · exact .inr (by omega)
      rcases HG5.out g hg with h1 | h1 | h1
      · exact hg4 g h1
      · exact hg4 g (HGC.out g h1)
      · exact .inr (by omega)
set_option maxRecDepth 100000 in
set_option maxHeartbeats 3200000 in
theorem rReplace_1 {W : World} {b : Nat} {gp : List Nat} {x : Nat → Nat} {fx : Nat → List Nat} {P : Pr} (h : IsPair W b gp x fx P) {d : Nat} {fd : List Nat} {D : Dev} (hd : IsDev W d fd D) (hz : D.size = (P.dev 0).size ∧ D.sectors = (P.dev 0).sectors)
    (hap : ∀ k, k < 2 → ∀ g ∈ fd, g ∉ fx k) (hgp : ∀ g ∈ gp, g ∉ fd) (hsp : ∀ k, k < 2 → (P.tab k).spares = P.n) (hc : ∀ k, k < 2 → ((P.setDev 1 D).dev k).cache.length + 2 < 1000000)
    (hk1 : ((P.setDev 1 D).keep 1 (P.tab 1)).1 = 0) (hk2 : (((P.setDev 1 D).keep 1 (P.tab 1)).2.keep 0 (P.tab 0)).1 = 0) :
    Calls Try.prog 29 #[.pointer (some ⟨b, 0, none⟩), .int .i64 1, .pointer (some ⟨d, 0, none⟩)] W fun e w' => ∃ gp' fx', e = .returned (.int .i64 0) ∧ Hid (ReplTo W w' b gp gp' (upd x 1 d) fx (upd fx 1 fd) fx' fd (((P.setDev 1 D).keep 1 (P.tab 1)).2.keep 0 (P.tab 0)).2) := by
  have hd0 : IsDev W (x 0) (fx 0) (P.dev 0) := h.dev 0 (by decide)
  have hne : ∀ k, k < 2 → d ≠ x k := fun k hk e => hap k hk d hd.head (by rw [e]; exact (h.dev k hk).head)
  obtain ⟨zs, hzs⟩ : ∃ zs, (P.dev 0).size = zs := ⟨_, rfl⟩
  obtain ⟨zn, hzn⟩ : ∃ zn, (P.dev 0).sectors = zn := ⟨_, rfl⟩
  have cSh := Lib.hid (fun (w : World) (p : Nat) (hm : Mods [] W w) (hp : p = d ∨ p = x 0) => show Calls Try.prog 56 #[.pointer (some ⟨p, 0, none⟩)] w fun e w' => e = .returned (.agg #[.int .i64 (zn : Nat), .int .i64 (zs : Nat)]) ∧ Mods [] w w' from by
    rcases hp with rfl | rfl
    · have h1 := dShape_any (hd.keep hm (by simp))
      rw [hz.1, hz.2, hzs, hzn] at h1; exact h1
    · have h1 := dShape_any (hd0.keep hm (by simp))
      rw [hzs, hzn] at h1; exact h1)
  have HNE := Lib.hid (fun (w : World) (hm : Mods [] W w) => And.intro (dev_ne (hd.keep hm (by simp)) ((h.dev 0 (by decide)).keep hm (by simp)) (hne 0 (by decide))) (dev_ne (hd.keep hm (by simp)) ((h.dev 1 (by decide)).keep hm (by simp)) (hne 1 (by decide))))
  obtain ⟨sb, m, hin, hgpe, hbs⟩ := h.pb
  have HBC : Hid (∀ w, Mods [] W w → w.cell? ⟨b, 2, none⟩ = some (.pointer (some ⟨x 0, 0, none⟩)) ∧ w.cell? ⟨b, 3, none⟩ = some (.pointer (some ⟨x 1, 0, none⟩)) ∧ w.frozen? ⟨b, 2, none⟩ = false ∧ w.frozen? ⟨b, 3, none⟩ = false) := Lib.hid (fun w hm => by
    have hb := hin.blk.keep hm (by simp)
    exact ⟨hb.cell (i := 2) rfl, hb.cell (i := 3) rfl, hb.free 2, hb.free 3⟩)
  have HDV := Lib.hid (fun (w : World) (hm : Mods [] W w) => (h.keep0 hm).device (s := 1) (by decide) (hd.keep hm (by simp)) hz hap hgp)
  obtain ⟨P1, hP1⟩ : ∃ P1, P.setDev 1 D = P1 := ⟨_, rfl⟩
  have hPt : P1.tab = P.tab := by rw [← hP1]; rfl
  have hn1 : P1.n = P.n := by rw [← hP1]; rfl
  rw [hP1] at HDV hk1 hk2 hc ⊢
  obtain ⟨T1, hT1⟩ : ∃ T, P.tab 1 = T := ⟨_, rfl⟩
  obtain ⟨T0, hT0⟩ : ∃ T, P.tab 0 = T := ⟨_, rfl⟩
  have tok : T0.Ok ∧ T1.Ok ∧ T0.moved.length ≤ P.n ∧ T1.moved.length ≤ P.n := by
    have a0 := hin.tok 0 (by decide)
    have a1 := hin.tok 1 (by decide)
    have l0 := a0.len
    have l1 := a1.len
    rw [hsp 0 (by decide)] at l0
    rw [hsp 1 (by decide)] at l1
    rw [hT0] at a0 l0
    rw [hT1] at a1 l1
    exact ⟨a0, a1, l0, l1⟩
  have hca : ∀ k, k < 2 → (P1.dev k).cache.length + 1 < 1000000 := fun k hk => by have := hc k hk; omega
  have cK1 := Lib.hid (fun (w : World) (gp : List Nat) (fx : Nat → List Nat) (mv : Value) (hp : IsPair w b gp (upd x 1 d) fx P1) (hmv : IsMv w mv T1.moved) (hfr : ∀ g, mv.ownBlock = some g → ∀ k, k < 2 → g ∉ fx k) => rKeep_any hp 1 (by decide) (t := T1) hmv hfr tok.2.1 (by rw [hn1]; exact tok.2.2.2) hca)
  rw [hT1, hT0] at hk2 ⊢
  rw [hT1] at hk1
  rw [hk1] at cK1
  have hk1n := (keep_same P1 1 T1 0).2.1
  have hk1c := fun k => (keep_same P1 1 T1 k).1
  have hk1t := (keep_same P1 1 T1 0).2.2.1 hk1
  generalize hP2 : (P1.keep 1 T1).2 = P2 at *
  have hT2 : P2.tab 0 = T0 := by
    rw [hk1t]
    show P1.tab 0 = _
    rw [hPt]; exact hT0
  have hcb : ∀ k, k < 2 → (P2.dev k).cache.length + 1 < 1000000 := fun k hk => by have h1 := hk1c k; have := hc k hk; omega
  have cK2 := Lib.hid (fun (w : World) (gp : List Nat) (fx : Nat → List Nat) (mv : Value) (hp : IsPair w b gp (upd x 1 d) fx P2) (hmv : IsMv w mv T0.moved) (hfr : ∀ g, mv.ownBlock = some g → ∀ k, k < 2 → g ∉ fx k) => rKeep_any hp 0 (by decide) (t := T0) hmv hfr tok.1 (by rw [hk1n, hn1]; exact tok.2.2.1) hcb)
  rw [hk2] at cK2
  have hT1' : P1.tab 1 = T1 := by rw [hPt]; exact hT1
  generalize (P2.keep 0 T0).2 = P3 at *
  unfold tabV at cK1 cK2
  have HTS := Lib.hid (And.intro hT1' hT2)
  have HH := Lib.hid (And.intro h (And.intro hd (And.intro hap hgp)))
  have HLT := Lib.hid (And.intro h.at_b2 hin.blk.lt)
  clear hk1 hk2 hP1 hP2 hPt hT1 hn1 hT0 hT1' hT2 tok hca hcb hk1n hk1c hk1t hc hsp hap hgp hz hd0 hne hin hgpe hbs hd h hzs hzn
  go_enter Try.func29, Try.ntmps29
  go_upto_region 3 with fail
  have q2 := (HBC.out W (Mods.refl _ _)).1
  have q3 := (HBC.out W (Mods.refl _ _)).2.1
  go_cut [17] from 18 to 49 (fun v wx => v = .bool false ∧ Hid (Mods [] W wx))
  case first =>
    clear HH cK1 cK2 HTS HDV
    obtain ⟨l0, l1⟩ := HNE.out _ ((Mods.refl [] W).drew)
    go_region_held3 (fun w' => w'.cell? ⟨b, 2, none⟩ = some (.pointer (some ⟨x 0, 0, none⟩)) ∧ w'.cell? ⟨b, 3, none⟩ = some (.pointer (some ⟨x 1, 0, none⟩)) ∧ (binOp .eql 23 (.pointer (some ⟨d, 0, none⟩)) (.pointer (some ⟨x 0, 0, none⟩))).run Try.prog w' = .ok (.bool false) w' ∧ (binOp .eql 23 (.pointer (some ⟨d, 0, none⟩)) (.pointer (some ⟨x 1, 0, none⟩))).run Try.prog w' = .ok (.bool false) w')
      (first | exact ⟨q2, q3, l0, l1⟩ | exact ⟨r2, r3, k0, k1⟩ | exact ⟨s2, s3, n0, n1⟩ | exact ⟨q2, q3, HNE.out _ (Mods.refl _ _)⟩ | fail)
      (first | (go_at_call 34; refine (rIs_any _).mono ?_; rintro e w' ⟨rfl, rfl⟩) | (go_at_call 56; have HMb2 := HMb; refine (cSh.out _ _ HMb.out ?_).mono ?_; (any_goals (first | exact Or.inl rfl | exact Or.inr rfl)); rintro e wc ⟨rfl, hm⟩; have HMc : Hid (Mods [] W wc) := Lib.hid (HMb2.out.trans hm (by simp)); obtain ⟨s2, s3, _, _⟩ := HBC.out wc HMc.out; obtain ⟨n0, n1⟩ := HNE.out wc HMc.out; clear hm) | (go_at_call 56; refine (cSh.out _ _ (Mods.refl _ _).drew ?_).mono ?_; (any_goals (first | exact Or.inl rfl | exact Or.inr rfl)); rintro e wb ⟨rfl, hm⟩; have HMb : Hid (Mods [] W wb) := Lib.hid (((Mods.refl [] W).drew).trans hm (by simp)); obtain ⟨r2, r3, _, _⟩ := HBC.out wb HMb.out; obtain ⟨k0, k1⟩ := HNE.out wb HMb.out; clear hm))
    all_goals go_wp2_with fail
    all_goals go_meet
    all_goals exact ⟨rfl, HMc⟩
  case rest =>
    obtain ⟨rfl, HMW⟩ := hcut
    obtain ⟨p2, p3, f2, f3⟩ := HBC.out wc HMW.out
    obtain ⟨hpD, hmD⟩ := HDV.out wc HMW.out
    obtain ⟨w2, hw2⟩ : ∃ w2, wc.setCell ⟨b, 3, none⟩ (.pointer (some ⟨d, 0, none⟩)) = w2 := ⟨_, rfl⟩
    have HPD : Hid (IsPair w2 b gp (upd x 1 d) (upd fx 1 fd) P1) := Lib.hid (by rw [← hw2]; exact hpD)
    have HMD : Hid (Mods [b] wc w2) := Lib.hid (by rw [← hw2]; exact hmD)
    obtain ⟨w3, hw3⟩ : ∃ w3, w2.alloc (.cells #[.int .i64 1, .int .i64 0] 3) = w3 := ⟨_, rfl⟩
    have hm3 : Mods [] w2 w3 := by rw [← hw3]; exact (Mods.refl _ _).alloc _
    have hb3 : Blk w3 w2.heap.size 3 [.int .i64 1, .int .i64 0] := by rw [← hw3]; exact Blk.new w2 3 _
    have HP3 : Hid (IsPair w3 b gp (upd x 1 d) (upd fx 1 fd) P1) := Lib.hid (HPD.out.keep0 hm3)
    have HB3 := Lib.hid hb3
    have HM3 := Lib.hid hm3
    obtain ⟨Aa, ca, t0, t1, t2, HVA, HFA, HGA⟩ := HP3.out.tabv (s := 1) (by decide) HTS.out.1
    have e0 := hb3.cell (i := 0) rfl
    clear hpD hmD hm3 hb3
    go_wp2_with (go_at_call 57; refine (rOther_any 1 (by decide)).mono ?_; rintro e w' ⟨rfl, rfl⟩)
    refine wp_loop_rounds 3 ?_
    rw [rounds_succ]
    go_wp2_with (go_at_call 36; refine (cK1.out _ _ _ _ HP3.out HVA.out HFA.out).mono ?_; rintro e w4 ⟨gp4, fx4, rfl, HP4, HM4, HN4, HG4⟩)
    rw [rounds_succ]
    obtain ⟨Ac, cc, s0, s1, s2, HVC, HFC, HGC⟩ := HP4.out.tabv (s := 0) (by decide) HTS.out.2
    have e1 := (HB3.out.keep HM4.out (by
      intro hx
      obtain ⟨hh, hhd, _, _⟩ := HH.out
      have h1 := HMW.out.size
      have h2 := HMD.out.size
      rcases List.mem_cons.1 hx with e | hx
      · have := HLT.out.2; omega
      · have hl : ∀ k, k < 2 → ∀ g ∈ upd fx 1 fd k, g < W.heap.size := fun k hk g hg => by
          by_cases ek : k = 1
          · subst ek
            rw [upd_at] at hg
            exact hhd.lt g hg
          · rw [upd_other _ _ ek] at hg
            exact (hh.dev k hk).lt g hg
        rcases List.mem_append.1 hx with hx | hx
        · have := hl 0 (by decide) _ hx; omega
        · have := hl 1 (by decide) _ hx; omega)).cell (i := 1) rfl
    go_wp2_with (go_at_call 36; refine (cK2.out _ _ _ _ HP4.out HVC.out HFC.out).mono ?_; rintro e w5 ⟨gp5, fx5, rfl, HP5, HM5, HN5, HG5⟩)
    rw [rounds_succ]
    go_wp2_with fail
    go_ret
    have z1 := HMW.out.size
    have z2 := HMD.out.size
    have z3 := HM3.out.size
    have z4 := HM4.out.size
    have hF : ∀ k, k < 2 → ∀ g ∈ upd fx 1 fd k, g ∈ b :: (fx 0 ++ fx 1 ++ fd) := fun k hk g hg => by
      by_cases ek : k = 1
      · subst ek
        rw [upd_at] at hg
        simp [hg]
      · rw [upd_other _ _ ek] at hg
        rcases (show k = 0 ∨ k = 1 by omega) with rfl | rfl <;> simp [hg]
    refine ⟨gp5, fx5, rfl, Lib.hid ⟨HP5.out, ?_, fun k hk g hg => ?_, fun g hg => ?_⟩⟩
    · have a1 : Mods (b :: (fx 0 ++ fx 1 ++ fd)) W w3 := ((HMW.out.mono (by simp)).trans HMD.out (fun z hz => .inl (by rw [List.mem_singleton.1 hz]; simp))).trans HM3.out (by simp)
      have a2 := a1.trans HM4.out (fun z hz => .inl (by
        rcases List.mem_cons.1 hz with rfl | hz
        · simp
        · rcases List.mem_append.1 hz with hz | hz
          · exact hF 0 (by decide) z hz
          · exact hF 1 (by decide) z hz))
      have hn4 : ∀ k, k < 2 → ∀ z ∈ fx4 k, z ∈ b :: (fx 0 ++ fx 1 ++ fd) ∨ W.heap.size ≤ z := fun k hk z hz => by
        rcases HN4.out k hk z hz with h1 | h1
        · exact .inl (hF k hk z h1)
        · exact .inr (by omega)
      exact a2.trans HM5.out (fun z hz => by
        rcases List.mem_cons.1 hz with rfl | hz
        · exact .inl (by simp)
        · rcases List.mem_append.1 hz with hz | hz
          · exact hn4 0 (by decide) z hz
          · exact hn4 1 (by decide) z hz)
    · rcases HN5.out k hk g hg with h1 | h1
      · rcases HN4.out k hk g h1 with h2 | h2
        · exact .inl h2
        · exact .inr (by omega)
      · exact .inr (by omega)
    · have hg4 : ∀ z ∈ gp4, z ∈ gp ∨ W.heap.size ≤ z := fun z hz => by
        rcases HG4.out z hz with h1 | h1 | h1
        · exact .inl h1
        · exact .inl (HGA.out z h1)
        · exact .inr (by omega)
      rcases HG5.out g hg with h1 | h1 | h1
      · exact hg4 g h1
      · exact hg4 g (HGC.out g h1)
      · exact .inr (by omega)
end Go.Proofs.Ytnpfhfgegjocoaa
/- The laws' pair: a device is killed, another one stands in its place. -/
namespace Go.Proofs.Ytnpfhfgegjocoaa
open Go.RowKit

theorem dev_self (w : World) (d : Nat) : (binOp .neq 23 (.pointer (some ⟨d, 0, none⟩)) (.pointer (some ⟨d, 0, none⟩))).run Try.prog w = .ok (.bool false) w := by
  obtain ⟨j, hj⟩ := Option.isSome_iff_exists.1 (show (Try.prog.info? 85).isSome = true by kernel_rfl)
  have h : ∀ k : Nat, (Op.equalIn (k + 1) 23 (.pointer (some ⟨d, 0, none⟩)) (.pointer (some ⟨d, 0, none⟩))).run Try.prog w = .ok true w := fun k => by
    simp [Op.equalIn, run_underlying Try.underlying23, sizeOf, typeInfo, hj, run_sameAddr_same]
  simp only [binOp]
  simp [Op.equal, Op.maxDepth, h 9999]
/-- No block's sector is bad. -/
def NoBad (P : Pr) : Prop := ∀ d, d < 2 → ∀ j, 4 ≤ j → (P.dev d).bad.getD j false = false
theorem NoBad.stays {P P' : Pr} (h : NoBad P) {J : Nat → Nat → Prop} (st : Stays P P' J) (hJ : ∀ d j, 4 ≤ j → J d j) : NoBad P' := fun d hd j hj => ((st.same d hd).bad j (hJ d j hj)).trans (h d hd j hj)
/-- Write at the laws' pair, of a block whose sector isn't bad. -/
theorem gWriteOk {W : World} {b : Nat} {gp : List Nat} {x : Nat → Nat} {fx : Nat → List Nat} {P : Pr} (hp : IsPair W b gp x fx P) (h : Gd P) {s i : Nat} (hs : s < 2) (hi : i < 12) (hc : Few P 900000) {img : ByteArray} (hx : img.size = 128) (hn : NoBad P) :
    Calls Try.prog 20 #[.pointer (some ⟨b, 0, none⟩), .int .i64 (s : Nat), .int .i64 (i : Nat), .string img] W fun e w' => ∃ P' gp' fx', e = .returned (.int .i64 0) ∧ Hid (PairTo W w' b gp gp' x fx fx' P') ∧ Hid (Gd P') ∧ Hid (P'.tab = P.tab) ∧ Hid (P'.read s (i : Int) = (img, 0)) ∧ Hid (NoBad P') ∧ Hid (∀ d, d < 2 → (P'.dev d).cache.length ≤ (P.dev d).cache.length + 1) := by
  have hib : i < (P.tab s).blocks := by rw [h.blocks hs]; exact hi
  obtain ⟨P1, e1, g1, t1, st1, r1, _⟩ := write_good h.pi hs hib (x := img) (by rw [hx, h.size]) (hn s hs _ (by omega)) 4
  refine (gWrite hp h hs hi hc hx).mono fun e w' ⟨c, P', gp', fx', m, h1, h2, h3, _, _, _, h7, h8⟩ => ?_
  have h9 := h8.out.symm.trans e1
  injection h9 with e2 e3
  subst e2
  subst e3
  refine ⟨P', gp', fx', h1, h2, h3, Lib.hid t1, Lib.hid r1, Lib.hid (fun d hd j hj => ?_), h7⟩
  have hb : ∀ (D : Dev) (k : Nat) (y : ByteArray), (D.write (k : Int) y).2.bad = D.bad := fun D k y => by
    unfold Dev.write
    split
    · rfl
    · split
      · rfl
      · split
        · rfl
        · split
          · exact (Dev.burn_same D).2.2.2.1
          · split
            · exact (Dev.burn_same D).2.2.2.1
            · have hpb : ∀ (E : Dev) (q : Nat), (E.put q y).bad = E.bad := fun E q => by
                unfold Dev.put
                simp only
                split
                · split <;> rfl
                · split <;> rfl
              rw [hpb]; exact (Dev.burn_same D).2.2.2.1
  have hP : P' = P.setDev s ((P.dev s).write ((((P.tab s).at_ (i : Int)).1 + 4 : Nat) : Int) img).2 := by
    have e5 := e1
    unfold Pr.write Pr.sector at e5
    rw [if_neg (by rw [Tab.at_in hib]; simp)] at e5
    simp only at e5
    have hw := Dev.write_quiet (h.pi.inv.dev s hs).q (h.pi.at_lt hs hib) (hn s hs _ (by omega)) (x := img) (by rw [hx, (h.pi.inv.same s hs).1, h.size])
    rw [hw] at e5 ⊢
    simp at e5
    exact e5.symm
  rw [hP]
  show ((if d = s then _ else P.dev d)).bad.getD j false = false
  split
  · rw [hb]; exact hn s hs j hj
  · exact hn d hd j hj
theorem setDev_setDev (P : Pr) (s : Nat) (D E : Dev) : (P.setDev s D).setDev s E = P.setDev s E := by
  unfold Pr.setDev
  simp only
  congr 1
  funext k
  split <;> rfl
/-- Kill. -/
theorem gKill {W : World} {b : Nat} {gp : List Nat} {x : Nat → Nat} {fx : Nat → List Nat} {P : Pr} (hp : IsPair W b gp x fx P) {s : Nat} (hs : s < 2) :
    Calls Try.prog 32 #[.pointer (some ⟨x s, 0, none⟩)] W fun e w' => e = .returned (.tuple #[]) ∧ Hid (PairTo W w' b gp gp x fx fx (P.setDev s { P.dev s with gone := true })) := by
  refine (dKill_any (hp.dev s hs)).mono fun e w' ⟨h1, h2, h3⟩ => ⟨h1, ?_⟩
  have hto := PairTo.dev hp hs (dev_to h2 (h3.mono (fun z hz => by rw [List.mem_singleton.1 hz]; exact (hp.dev s hs).head))) ⟨rfl, rfl⟩
  rw [upd_self] at hto
  exact hto
/-- Replace, after a device was killed. -/
theorem gReplace {W0 W : World} {b : Nat} {gp : List Nat} {x : Nat → Nat} {fx : Nat → List Nat} {P : Pr} {s : Nat} (hs : s < 2) {E : Dev} (hp : IsPair W b gp x fx (P.setDev s E)) (h : Gd P) (_hEc : E.cache.length ≤ 900000) (hc : Few P 900000) {d : Nat} {fd : List Nat} (hd : IsDev W d fd (Dev.new 20 128))
    (hap : ∀ k, k < 2 → ∀ g ∈ fd, g ∉ fx k) (hgp : ∀ g ∈ gp, g ∉ fd) (hm : Mods [] W0 W) (hnF : ∀ k, k < 2 → ∀ g ∈ fx k, W0.heap.size ≤ g) (hnG : ∀ g ∈ gp, W0.heap.size ≤ g) (hnD : ∀ g ∈ fd, W0.heap.size ≤ g) :
    Calls Try.prog 29 #[.pointer (some ⟨b, 0, none⟩), .int .i64 (s : Nat), .pointer (some ⟨d, 0, none⟩)] W fun e w' => ∃ gp' fx' P', e = .returned (.int .i64 0) ∧ Hid (Own W0 w' (upd x s d) fx' b gp' P') ∧ Hid (∀ k, k < 2 → P'.tab k = P.tab k) ∧ Hid (∀ i : Nat, i < 12 → P'.read (1 - s) (i : Int) = P.read (1 - s) (i : Int)) ∧ Hid (Few P' 0) := by
  have hq := new_quiet 20 128 shape_right
  have hz : (Dev.new 20 128).size = (P.dev 0).size ∧ (Dev.new 20 128).sectors = (P.dev 0).sectors := ⟨h.size.symm, h.sec.symm⟩
  obtain ⟨P', k1, k2, k3, k4, k5, k6, k7⟩ := replace_inv h.pi hs hq (new_empty 20 128 (by omega)) hz
  have hss := setDev_setDev P s E (Dev.new 20 128)
  have hzE : (Dev.new 20 128).size = ((P.setDev s E).dev 0).size ∧ (Dev.new 20 128).sectors = ((P.setDev s E).dev 0).sectors := by
    have hsm := hp.same (1 - s) (by omega)
    have e : (P.setDev s E).dev (1 - s) = P.dev (1 - s) := by unfold Pr.setDev; simp; omega
    rw [e] at hsm
    have h2 := h.pi.inv.same (1 - s) (by omega)
    exact ⟨hz.1.trans (h2.1.symm.trans hsm.1), hz.2.trans (h2.2.symm.trans hsm.2)⟩
  have hcc : ∀ k, k < 2 → (((P.setDev s E).setDev s (Dev.new 20 128)).dev k).cache.length + 2 < 1000000 := by
    intro k hk
    rw [hss]
    show (if k = s then Dev.new 20 128 else P.dev k).cache.length + 2 < 1000000
    split
    · show (0 : Nat) + 2 < 1000000; omega
    · have := hc k hk; omega
  have hsp : ∀ k, k < 2 → ((P.setDev s E).tab k).spares = (P.setDev s E).n := fun k hk => (h.spares hk).trans h.n.symm
  have hk1 : (((P.setDev s E).setDev s (Dev.new 20 128)).keep s ((P.setDev s E).tab s)).1 = 0 := by rw [hss]; exact k1
  have hk2 : ((((P.setDev s E).setDev s (Dev.new 20 128)).keep s ((P.setDev s E).tab s)).2.keep (1 - s) ((P.setDev s E).tab (1 - s))) = (0, P') := by rw [hss]; exact k2
  have key : Calls Try.prog 29 #[.pointer (some ⟨b, 0, none⟩), .int .i64 (s : Nat), .pointer (some ⟨d, 0, none⟩)] W fun e w' => ∃ gp' fx', e = .returned (.int .i64 0) ∧ Hid (ReplTo W w' b gp gp' (upd x s d) fx (upd fx s fd) fx' fd P') := by
    rcases two_cases hs with rfl | rfl
    · have h9 := rReplace_0 hp hd hzE hap hgp hsp hcc hk1 (by rw [show (1 : Nat) = 1 - 0 from rfl, hk2])
      have e9 : ((((P.setDev 0 E).setDev 0 (Dev.new 20 128)).keep 0 ((P.setDev 0 E).tab 0)).2.keep 1 ((P.setDev 0 E).tab 1)).2 = P' := by
        have h8 := hk2
        rw [show 1 - 0 = 1 from rfl] at h8
        rw [h8]
      rw [e9] at h9; exact h9
    · have h9 := rReplace_1 hp hd hzE hap hgp hsp hcc hk1 (by rw [show (0 : Nat) = 1 - 1 from rfl, hk2])
      have e9 : ((((P.setDev 1 E).setDev 1 (Dev.new 20 128)).keep 1 ((P.setDev 1 E).tab 1)).2.keep 0 ((P.setDev 1 E).tab 0)).2 = P' := by
        have h8 := hk2
        rw [show 1 - 1 = 0 from rfl] at h8
        rw [h8]
      rw [e9] at h9; exact h9
  have hgd : Gd P' := by
    have a1 := k3.inv.same (1 - s) (by omega)
    have a2 := h.pi.inv.same (1 - s) (by omega)
    exact ⟨k3, k5.trans h.n, a1.1.symm.trans (k6.size.trans (a2.1.trans h.size)), a1.2.symm.trans (k6.sectors.trans (a2.2.trans h.sec))⟩
  refine key.mono fun e w' ⟨gp', fx', h1, h2⟩ => ⟨gp', fx', P', h1, ?_, k4, ?_, fun d hd => by rw [k7 d hd]; exact Nat.le_refl _⟩
  · have hsz := hm.size
    refine ⟨h2.out.pair, hgd, fun k hk g hg => ?_, fun g hg => ?_, hm.trans h2.out.mods (fun k hk => .inr ?_)⟩
    · rcases h2.out.newF k hk g hg with h3 | h3
      · by_cases e : k = s
        · subst e
          rw [upd_at] at h3
          exact hnD g h3
        · rw [upd_other _ _ e] at h3
          exact hnF k hk g h3
      · omega
    · rcases h2.out.newG g hg with h3 | h3
      · exact hnG g h3
      · omega
    · rcases List.mem_cons.1 hk with rfl | hk
      · exact hnG _ hp.at_b
      · rcases List.mem_append.1 hk with hk | hk
        · rcases List.mem_append.1 hk with hk | hk
          · exact hnF 0 (by decide) _ hk
          · exact hnF 1 (by decide) _ hk
        · exact hnD _ hk
  · intro i hi
    have hs1 : 1 - s < 2 := by omega
    have hib : i < (P.tab (1 - s)).blocks := by rw [h.blocks hs1]; exact hi
    rw [read_in hib, read_in (by rw [hgd.blocks hs1]; exact hi), k4 _ hs1]
    exact Dev.read_same k6 (h.pi.inv.dev _ hs1).q (k3.inv.dev _ hs1).q (by omega)
end Go.Proofs.Ytnpfhfgegjocoaa
namespace Go.Proofs.Ytnpfhfgegjocoaa
open Go.ChangeShapes Go.WideShapes Go.ChangeAt Go.RowKit

theorem info_u8R : (Try.prog.info? 5).map (fun i => (i.zero, i.size, i.bytes)) = some (some (.int .u8 0), 1, 1) := by kernel_rfl
/-- What the moves keep. -/
def RW (W w : World) (x : Nat → Nat) (b : Nat) : Prop := ∃ fx gp P, Own W w x fx b gp P ∧ NoBad P ∧ Few P 0
theorem RW.moved {W w : World} {x : Nat → Nat} {b s i : Nat} (h : RW W w x b) (hs : s < 2) (hi : i < 12) : Calls Try.prog 12 #[.pointer (some ⟨b, 0, none⟩), .int .i64 (s : Nat), .int .i64 (i : Nat)] w fun e w' => ∃ c : Nat, e = .returned (.int .i64 (c : Nat)) ∧ Hid (RW W w' x b) := by
  obtain ⟨fx, gp, P, hO, hN, hF⟩ := h
  refine (gMove hO.pair hO.gd hs hi (hF.mono (Nat.zero_le _))).mono fun e w' ⟨c, P', gp', fx', h1, h2, h3, h4⟩ => ⟨c, h1, ?_⟩
  rcases h4.out with ⟨_, _, _, st, m4⟩ | ⟨_, _, rfl⟩
  · exact ⟨fx', gp', P', hO.to h2.out h3.out, hN.stays st (fun _ j hj => hj), few0 m4⟩
  · exact ⟨fx', gp', _, hO.to h2.out h3.out, hN, hF⟩
set_option maxRecDepth 100000 in
set_option maxHeartbeats 12800000 in
theorem remapReplaces_walk (A : Option Addr) (len cap : Nat) (zs : List Nat) (side : Bool) (W : World) (hr : Row W A (u8sOf zs)) (hz : zs.length = len) (hlc : len ≤ cap) (hcm : cap ≤ maxLen) (hb : ∀ z ∈ zs, z < 256) :
    Calls Try.prog 6 #[.slice A len cap, .bool side] W fun e w' => e = .returned (.bool true) ∧ Mods [] W w' := by
  have HR := Lib.hid hr
  have HL := Lib.hid hz
  have HZ := Lib.hid hb
  clear hr hz hb
  unfold maxLen at hcm
  obtain ⟨q, hq⟩ : ∃ q : Nat, min (len : Int) 6 = (q : Int) := ⟨min len 6, by omega⟩
  have hql : q ≤ len := by omega
  have hqm : max (q : Int) 0 = (q : Int) := by omega
  obtain ⟨i8, hi8, _, _, _⟩ := info_parts info_u8R
  have hsl := fun (k : Int) (h0 : 0 ≤ k) (h1 : k ≤ cap) (W : World) => run_prefix Try.prog 52 5 i8 A len cap k W Try.underlying52 hi8 h0 h1
  obtain ⟨F, hF⟩ : ∃ F, fullB ⟨#[115, 116, 97, 121, 115]⟩ = F := ⟨_, rfl⟩
  have hFs : F.size = 128 := by rw [← hF]; exact fullB_size _
  have cFull := Lib.hid (fun W => show Calls Try.prog 9 #[.string ⟨#[115, 116, 97, 121, 115]⟩] W fun e w' => e = .returned (.string F) ∧ Hid (Mods [] W w') from (qFull_any (W := W) ⟨#[115, 116, 97, 121, 115]⟩ (by decide)).mono fun e w' ⟨z, h1, h2, _, h4⟩ => ⟨by rw [h1, h2.out, hF], h4⟩)
  go_enter Try.func6, Try.ntmps6
  go_wp2_with (first | (go_at_call 7; refine qFresh_any.mono ?_; rintro e w1 ⟨x, fx, b, gp, P, rfl, HF⟩) | (go_at_call 8; refine qWakes_any.mono ?_; rintro e w2 ⟨rfl, hm2⟩; have HM2 := Lib.hid hm2; clear hm2))
  have HI : Hid (RW W w2 x b) := ⟨fx, gp, P, HF.out.own.still HM2.out, HF.out.bad, few0 HF.out.cache⟩
  clear hsl hq HF HM2 hF
  go_loopw [41] (fun iv wr => ∃ i : Nat, i ≤ q ∧ iv = .int .i64 i ∧ RW W wr x b) (fun iv _ => q - (intOf iv).toNat)
  case atStart => exact ⟨0, Nat.zero_le _, rfl, HI.out⟩
  case round =>
    clear HI
    obtain ⟨i, hi, rfl, hW⟩ := hrel
    by_cases hlt : i < q
    · have hzi : i < zs.length := by have := HL.out; omega
      obtain ⟨bz, off, rfl, hcell⟩ := (HR.out.keep (by obtain ⟨fx, gp, P, hO, _⟩ := hW; exact hO.mods) (fun _ _ => by simp)).at (i := i) (u := .int .u8 (zs[i] : Nat)) (by simp [u8sOf, hzi])
      have hz256 := HZ.out _ (List.getElem_mem hzi)
      generalize zs[i] = z at *
      obtain ⟨s, hs⟩ : ∃ s : Nat, (z : Int).tmod 2 = (s : Int) := ⟨z % 2, by rw [Int.tmod_eq_emod_of_nonneg (by omega)]; omega⟩
      have hs2 : s < 2 := by rw [Int.tmod_eq_emod_of_nonneg (by omega)] at hs; omega
      obtain ⟨h, hh⟩ : ∃ h : Nat, (z : Int).tdiv 2 = (h : Int) := ⟨z / 2, by rw [Int.tdiv_eq_ediv_of_nonneg (by omega)]; omega⟩
      have hh8 : h < 128 := by rw [Int.tdiv_eq_ediv_of_nonneg (by omega)] at hh; omega
      obtain ⟨k, hk⟩ : ∃ k : Nat, (h : Int).tmod 12 = (k : Int) := ⟨h % 12, by rw [Int.tmod_eq_emod_of_nonneg (by omega)]; omega⟩
      have hk12 : k < 12 := by rw [Int.tmod_eq_emod_of_nonneg (by omega)] at hk; omega
      have cMv := Lib.hid (hW.moved hs2 hk12)
      clear hW
      go_wp2_with (go_at_call 12; refine cMv.out.mono ?_; rintro e wm ⟨c, rfl, HN⟩)
      go_roundw
      case rel => exact ⟨i + 1, by omega, by go_num, HN.out⟩
      case measure => simp [intOf]; omega
    · obtain rfl : i = q := by omega
      obtain ⟨fx, gp, P, hO, hN, hFw⟩ := hW
      have HO := Lib.hid hO
      have HN := Lib.hid hN
      have HFw := Lib.hid hFw
      clear hO hN hFw
      cases side with
      | false =>
        as_aux_lemma =>
        have cWr := Lib.hid (fun (w : World) (h : Mods [] wr w) => gWriteOk (HO.out.pair.keep0 h) HO.out.gd (s := 1) (i := 2) (by decide) (by decide) (HFw.out.mono (Nat.zero_le _)) hFs HN.out)
        go_wp2_with (go_at_call 9; refine (cFull.out _).mono ?_; rintro e w3 ⟨rfl, HM3⟩)
        refine (cWr.out _ HM3.out).mono ?_
        rintro e w4 ⟨P4, gp4, fx4, rfl, HP4, HG4, HT4, HR4, HN4, HC4⟩
        have HO4 := Lib.hid ((HO.out.still HM3.out).to HP4.out HG4.out)
        have HF4 : Hid (Few P4 1) := fun d hd => Nat.le_trans (HC4.out d hd) (Nat.add_le_add_right (HFw.out d hd) 1)
        have cFl := Lib.hid (gFlush HO4.out.pair HO4.out.gd (s := 1) (by decide) (HF4.out.mono (by decide)))
        clear HP4 HC4 HM3 cWr HO HN HFw HT4 HN4
        go_wp2_with fail
        refine cFl.out.mono ?_
        rintro e w5 ⟨P5, fx5, rfl, HP5, HG5, HT5, HS5, HC5⟩
        have HO5 := Lib.hid (HO4.out.to HP5.out HG5.out)
        have HF5 : Hid (Few P5 1) := fun d hd => Nat.le_trans (HC5.out d hd) (HF4.out d hd)
        have HR5 : Hid (P5.read 1 ((2 : Nat) : Int) = (F, 0)) := (stay_read HO4.out.gd HO5.out.gd HS5.out (s := 1) (i := 2) (by decide) (by decide) (by rw [HT5.out]) trivial).trans HR4.out
        obtain ⟨T0, hT0⟩ : ∃ T0, P5.tab 0 = T0 := ⟨_, rfl⟩
        obtain ⟨T1, hT1⟩ : ∃ T1, P5.tab 1 = T1 := ⟨_, rfl⟩
        have HTT := Lib.hid (And.intro hT0 hT1)
        obtain ⟨Z0, hZ0⟩ : ∃ Z0, bA (textL T0.moved) = Z0 := ⟨_, rfl⟩
        obtain ⟨Z1, hZ1⟩ : ∃ Z1, bA (textL T1.moved) = Z1 := ⟨_, rfl⟩
        have cX0 := Lib.hid (fun (w : World) (v : Value) (h : Hid (TabAt w v T0)) => oText h)
        have cX1 := Lib.hid (fun (w : World) (v : Value) (h : Hid (TabAt w v T1)) => oText h)
        rw [hZ0] at cX0
        rw [hZ1] at cX1
        have cTb := Lib.hid (oTable HO5.out (s := 0) (by decide) hT0)
        clear HP5 HS5 HC5 HT5 HR4 HF4 HO4 cFl hT0 hT1 hZ0 hZ1 HG4 HG5
        go_wp2_with (first | (go_at_call 10; refine cTb.out.mono ?_; rintro e w6 ⟨A6, c6, rfl, HV6, HM6⟩) | (go_at_call 19; refine (cX0.out _ _ HV6).mono ?_; rintro e w7 ⟨rfl, HM7⟩))
        have HO7 := Lib.hid ((HO5.out.still HM6.out).still HM7.out)
        refine (gKill HO7.out.pair (s := 0) (by decide)).mono ?_
        rintro e w8 ⟨rfl, HP8⟩
        clear HO5 HM6 HM7 HV6 cTb
        have cNew := Lib.hid (dNew_any (W := w8) 20 128 shape_right)
        go_wp2_with fail
        refine cNew.out.mono ?_
        rintro e w9 ⟨d, fd, rfl, HD9, HM9, HFD⟩
        have HP9 := Lib.hid (HP8.out.pair.keep0 HM9.out)
        have hal := rAlive_0 HP9.out
        rw [show (!(((P5.setDev 0 { P5.dev 0 with gone := true }).dev 0).gone)) = false from rfl] at hal
        have cAl := Lib.hid hal
        have hW9 : Mods [] W w9 ∧ (∀ k, k < 2 → ∀ g ∈ fx5 k, W.heap.size ≤ g) ∧ (∀ g ∈ gp4, W.heap.size ≤ g) ∧ (∀ g ∈ fd, W.heap.size ≤ g) := by
          have hb := HO7.out.newG b HO7.out.pair.at_b
          have a1 := HO7.out.mods.trans HP8.out.mods (fun k hk => .inr (by
            rcases List.mem_cons.1 hk with rfl | hk
            · exact hb
            · exact HO7.out.foot k hk))
          exact ⟨a1.trans HM9.out (by simp), HO7.out.newF, HO7.out.newG, fun g hg => Nat.le_trans a1.size (HFD.out g hg)⟩
        have cRp := Lib.hid (gReplace (s := 0) (by decide) (E := { P5.dev 0 with gone := true }) HP9.out HO7.out.gd (by have := HF5.out 0 (by decide); show (P5.dev 0).cache.length ≤ 900000; omega) (HF5.out.mono (by decide)) HD9.out
          (fun k hk g hg hx => by have := (HP8.out.pair.dev k hk).lt g hx; have := HFD.out g hg; omega) (fun g hg hx => by have := HP8.out.pair.pb.lt g hg; have := HFD.out g hx; omega) hW9.1 hW9.2.1 hW9.2.2.1 hW9.2.2.2)
        clear hal hW9 cNew
        go_wp2_with (go_at_call 30; refine cAl.out.mono ?_; rintro e w' ⟨rfl, rfl⟩)
        refine cRp.out.mono ?_
        rintro e wa ⟨gpa, fxa, Pa, rfl, HOa, HTa, HRa, HFa⟩
        have hal := rAlive_0 HOa.out.pair
        rw [(HOa.out.gd.pi.inv.dev 0 (by decide)).q.gone] at hal
        have cAl2 := Lib.hid hal
        have cDv := Lib.hid (rDevice_0 HOa.out.pair)
        rw [show upd x 0 d 0 = d from rfl] at cDv
        have cTb := Lib.hid (oTable HOa.out (s := 0) (by decide) ((HTa.out 0 (by decide)).trans HTT.out.1))
        clear hal cAl cRp HP9 HP8 HM9 HFD
        have dsf := fun w => dev_self w d
        go_wp2_with (first | (go_at_call 30; refine cAl2.out.mono ?_; rintro e w' ⟨rfl, rfl⟩) | (go_at_call 14; refine cDv.out.mono ?_; rintro e w' ⟨rfl, rfl⟩) | (go_at_call 10; refine cTb.out.mono ?_; rintro e wb ⟨Ab, cb, rfl, HVb, HMb⟩) | (go_at_call 19; refine (cX0.out _ _ HVb).mono ?_; rintro e wc ⟨rfl, HMc⟩))
        have HOc := Lib.hid ((HOa.out.still HMb.out).still HMc.out)
        have cOp := Lib.hid (gOpen HOc.out.pair HOc.out.gd (HFa.out.mono (by decide)))
        rw [show upd x 0 d 1 = x 1 from rfl, show upd x 0 d 0 = d from rfl] at cOp
        go_wp2_with fail
        refine cOp.out.mono ?_
        rintro e wd ⟨bo, gpo, rfl, HPo, HMo, HNo, HGo, HTo⟩
        have HOo := Lib.hid (HOc.out.opened HPo.out HMo.out HNo.out HGo.out)
        have HOp : Hid (Own W wd (upd x 0 d) fxa b gpa Pa) := by
          have hfr : ∀ g ∈ gpa, g ∉ fxa 0 ++ fxa 1 := fun g hg hx => by
            rcases List.mem_append.1 hx with hx | hx
            · exact HOc.out.pair.free g hg 0 (by decide) hx
            · exact HOc.out.pair.free g hg 1 (by decide) hx
          exact HOc.out.same ⟨HOc.out.pair.pb.keep HMo.out hfr, HPo.out.dev, HOc.out.pair.apart, HOc.out.pair.free, HOc.out.pair.same, HOc.out.pair.fit⟩ HMo.out
        have hrd : (openP Pa).read 1 ((2 : Nat) : Int) = (F, 0) := (open_read (by decide) _).trans ((HRa.out 2 (by decide)).trans HR5.out)
        have cRd := Lib.hid (gRead HOo.out.pair (s := 1) (by decide) ((2 : Nat) : Int) (by
          have e : (openP Pa).dev = Pa.dev := rfl
          unfold Few
          rw [e]
          exact HFa.out.mono (by decide)))
        rw [hrd] at cRd
        clear hrd cOp cAl2 cDv cTb HVb HMb HMc HR5 HRa HFa HMo HNo HGo
        go_wp2_with (go_at_call 16; refine cRd.out.mono ?_; rintro e we ⟨rfl, HPe, HMe⟩)
        refine (cFull.out _).mono ?_
        rintro e wf ⟨rfl, HMf⟩
        have HO1 := Lib.hid ((HOo.out.same HPe.out HMe.out).still HMf.out)
        have HO2 : Hid (Own W wf (upd x 0 d) fxa b gpa Pa) := by
          have hfr : ∀ g ∈ gpa, g ∉ fxa 0 ++ fxa 1 := fun g hg hx => by
            rcases List.mem_append.1 hx with hx | hx
            · exact HOp.out.pair.free g hg 0 (by decide) hx
            · exact HOp.out.pair.free g hg 1 (by decide) hx
          exact (HOp.out.same ⟨HOp.out.pair.pb.keep HMe.out hfr, HPe.out.dev, HOp.out.pair.apart, HOp.out.pair.free, HOp.out.pair.same, HOp.out.pair.fit⟩ HMe.out).still HMf.out
        have cQ0 := Lib.hid (fun (w : World) (hm : Mods [] wf w) => oTable (HO1.out.still hm) (s := 0) (by decide) ((HTo.out 0 (by decide)).trans ((HTa.out 0 (by decide)).trans HTT.out.1)))
        have cQ1 := Lib.hid (fun (w : World) (hm : Mods [] wf w) => oTable (HO1.out.still hm) (s := 1) (by decide) ((HTo.out 1 (by decide)).trans ((HTa.out 1 (by decide)).trans HTT.out.2)))
        have cP1 := Lib.hid (fun (w : World) (hm : Mods [] wf w) => oTable (HO2.out.still hm) (s := 1) (by decide) ((HTa.out 1 (by decide)).trans HTT.out.2))
        have mk0 : Hid (Mods [] wf wf) := Lib.hid (Mods.refl _ _)
        clear HO2 HOp HOo HPe HMe HMf HPo HOc
        go_wp2_with (first
          | (go_at_call 10; refine (cQ0.out _ mk0.out).mono ?_; rintro e wa ⟨A1, c1, rfl, HV0, hm⟩; have mk1 := Lib.hid (mk0.out.trans hm.out (by simp)); clear mk0 hm)
          | (go_at_call 19; refine (cX0.out _ _ HV0).mono ?_; rintro e wa ⟨rfl, hm⟩; have mk2 := Lib.hid (mk1.out.trans hm.out (by simp)); clear mk1 hm HV0)
          | (go_at_call 10; refine (cQ1.out _ mk2.out).mono ?_; rintro e wa ⟨A1, c1, rfl, HV1, hm⟩; have mk3 := Lib.hid (mk2.out.trans hm.out (by simp)); clear mk2 hm)
          | (go_at_call 19; refine (cX1.out _ _ HV1).mono ?_; rintro e wa ⟨rfl, hm⟩; have mk4 := Lib.hid (mk3.out.trans hm.out (by simp)); clear mk3 hm HV1)
          | (go_at_call 10; refine (cP1.out _ mk4.out).mono ?_; rintro e wa ⟨A1, c1, rfl, HV2, hm⟩; have mk5 := Lib.hid (mk4.out.trans hm.out (by simp)); clear mk4 hm)
          | (go_at_call 19; refine (cX1.out _ _ HV2).mono ?_; rintro e wa ⟨rfl, hm⟩; have mk6 := Lib.hid (mk5.out.trans hm.out (by simp)); clear mk5 hm HV2))
        go_ret
        exact ⟨rfl, (HO1.out.still mk6.out).mods⟩
      | true =>
        as_aux_lemma =>
        have cWr := Lib.hid (fun (w : World) (h : Mods [] wr w) => gWriteOk (HO.out.pair.keep0 h) HO.out.gd (s := 0) (i := 2) (by decide) (by decide) (HFw.out.mono (Nat.zero_le _)) hFs HN.out)
        go_wp2_with (go_at_call 9; refine (cFull.out _).mono ?_; rintro e w3 ⟨rfl, HM3⟩)
        refine (cWr.out _ HM3.out).mono ?_
        rintro e w4 ⟨P4, gp4, fx4, rfl, HP4, HG4, HT4, HR4, HN4, HC4⟩
        have HO4 := Lib.hid ((HO.out.still HM3.out).to HP4.out HG4.out)
        have HF4 : Hid (Few P4 1) := fun d hd => Nat.le_trans (HC4.out d hd) (Nat.add_le_add_right (HFw.out d hd) 1)
        have cFl := Lib.hid (gFlush HO4.out.pair HO4.out.gd (s := 0) (by decide) (HF4.out.mono (by decide)))
        clear HP4 HC4 HM3 cWr HO HN HFw HT4 HN4
        go_wp2_with fail
        refine cFl.out.mono ?_
        rintro e w5 ⟨P5, fx5, rfl, HP5, HG5, HT5, HS5, HC5⟩
        have HO5 := Lib.hid (HO4.out.to HP5.out HG5.out)
        have HF5 : Hid (Few P5 1) := fun d hd => Nat.le_trans (HC5.out d hd) (HF4.out d hd)
        have HR5 : Hid (P5.read 0 ((2 : Nat) : Int) = (F, 0)) := (stay_read HO4.out.gd HO5.out.gd HS5.out (s := 0) (i := 2) (by decide) (by decide) (by rw [HT5.out]) trivial).trans HR4.out
        obtain ⟨T0, hT0⟩ : ∃ T0, P5.tab 0 = T0 := ⟨_, rfl⟩
        obtain ⟨T1, hT1⟩ : ∃ T1, P5.tab 1 = T1 := ⟨_, rfl⟩
        have HTT := Lib.hid (And.intro hT0 hT1)
        obtain ⟨Z0, hZ0⟩ : ∃ Z0, bA (textL T0.moved) = Z0 := ⟨_, rfl⟩
        obtain ⟨Z1, hZ1⟩ : ∃ Z1, bA (textL T1.moved) = Z1 := ⟨_, rfl⟩
        have cX0 := Lib.hid (fun (w : World) (v : Value) (h : Hid (TabAt w v T0)) => oText h)
        have cX1 := Lib.hid (fun (w : World) (v : Value) (h : Hid (TabAt w v T1)) => oText h)
        rw [hZ0] at cX0
        rw [hZ1] at cX1
        have cTb := Lib.hid (oTable HO5.out (s := 1) (by decide) hT1)
        clear HP5 HS5 HC5 HT5 HR4 HF4 HO4 cFl hT0 hT1 hZ0 hZ1 HG4 HG5
        go_wp2_with (first | (go_at_call 10; refine cTb.out.mono ?_; rintro e w6 ⟨A6, c6, rfl, HV6, HM6⟩) | (go_at_call 19; refine (cX1.out _ _ HV6).mono ?_; rintro e w7 ⟨rfl, HM7⟩))
        have HO7 := Lib.hid ((HO5.out.still HM6.out).still HM7.out)
        refine (gKill HO7.out.pair (s := 1) (by decide)).mono ?_
        rintro e w8 ⟨rfl, HP8⟩
        clear HO5 HM6 HM7 HV6 cTb
        have cNew := Lib.hid (dNew_any (W := w8) 20 128 shape_right)
        go_wp2_with fail
        refine cNew.out.mono ?_
        rintro e w9 ⟨d, fd, rfl, HD9, HM9, HFD⟩
        have HP9 := Lib.hid (HP8.out.pair.keep0 HM9.out)
        have hal := rAlive_1 HP9.out
        rw [show (!(((P5.setDev 1 { P5.dev 1 with gone := true }).dev 1).gone)) = false from rfl] at hal
        have cAl := Lib.hid hal
        have hW9 : Mods [] W w9 ∧ (∀ k, k < 2 → ∀ g ∈ fx5 k, W.heap.size ≤ g) ∧ (∀ g ∈ gp4, W.heap.size ≤ g) ∧ (∀ g ∈ fd, W.heap.size ≤ g) := by
          have hb := HO7.out.newG b HO7.out.pair.at_b
          have a1 := HO7.out.mods.trans HP8.out.mods (fun k hk => .inr (by
            rcases List.mem_cons.1 hk with rfl | hk
            · exact hb
            · exact HO7.out.foot k hk))
          exact ⟨a1.trans HM9.out (by simp), HO7.out.newF, HO7.out.newG, fun g hg => Nat.le_trans a1.size (HFD.out g hg)⟩
        have cRp := Lib.hid (gReplace (s := 1) (by decide) (E := { P5.dev 1 with gone := true }) HP9.out HO7.out.gd (by have := HF5.out 1 (by decide); show (P5.dev 1).cache.length ≤ 900000; omega) (HF5.out.mono (by decide)) HD9.out
          (fun k hk g hg hx => by have := (HP8.out.pair.dev k hk).lt g hx; have := HFD.out g hg; omega) (fun g hg hx => by have := HP8.out.pair.pb.lt g hg; have := HFD.out g hx; omega) hW9.1 hW9.2.1 hW9.2.2.1 hW9.2.2.2)
        clear hal hW9 cNew
        go_wp2_with (go_at_call 30; refine cAl.out.mono ?_; rintro e w' ⟨rfl, rfl⟩)
        refine cRp.out.mono ?_
        rintro e wa ⟨gpa, fxa, Pa, rfl, HOa, HTa, HRa, HFa⟩
        have hal := rAlive_1 HOa.out.pair
        rw [(HOa.out.gd.pi.inv.dev 1 (by decide)).q.gone] at hal
        have cAl2 := Lib.hid hal
        have cDv := Lib.hid (rDevice_1 HOa.out.pair)
        rw [show upd x 1 d 1 = d from rfl] at cDv
        have cTb := Lib.hid (oTable HOa.out (s := 1) (by decide) ((HTa.out 1 (by decide)).trans HTT.out.2))
        clear hal cAl cRp HP9 HP8 HM9 HFD
        have dsf := fun w => dev_self w d
        go_wp2_with (first | (go_at_call 30; refine cAl2.out.mono ?_; rintro e w' ⟨rfl, rfl⟩) | (go_at_call 14; refine cDv.out.mono ?_; rintro e w' ⟨rfl, rfl⟩) | (go_at_call 10; refine cTb.out.mono ?_; rintro e wb ⟨Ab, cb, rfl, HVb, HMb⟩) | (go_at_call 19; refine (cX1.out _ _ HVb).mono ?_; rintro e wc ⟨rfl, HMc⟩))
        have HOc := Lib.hid ((HOa.out.still HMb.out).still HMc.out)
        have cOp := Lib.hid (gOpen HOc.out.pair HOc.out.gd (HFa.out.mono (by decide)))
        rw [show upd x 1 d 0 = x 0 from rfl, show upd x 1 d 1 = d from rfl] at cOp
        go_wp2_with fail
        refine cOp.out.mono ?_
        rintro e wd ⟨bo, gpo, rfl, HPo, HMo, HNo, HGo, HTo⟩
        have HOo := Lib.hid (HOc.out.opened HPo.out HMo.out HNo.out HGo.out)
        have HOp : Hid (Own W wd (upd x 1 d) fxa b gpa Pa) := by
          have hfr : ∀ g ∈ gpa, g ∉ fxa 0 ++ fxa 1 := fun g hg hx => by
            rcases List.mem_append.1 hx with hx | hx
            · exact HOc.out.pair.free g hg 0 (by decide) hx
            · exact HOc.out.pair.free g hg 1 (by decide) hx
          exact HOc.out.same ⟨HOc.out.pair.pb.keep HMo.out hfr, HPo.out.dev, HOc.out.pair.apart, HOc.out.pair.free, HOc.out.pair.same, HOc.out.pair.fit⟩ HMo.out
        have hrd : (openP Pa).read 0 ((2 : Nat) : Int) = (F, 0) := (open_read (by decide) _).trans ((HRa.out 2 (by decide)).trans HR5.out)
        have cRd := Lib.hid (gRead HOo.out.pair (s := 0) (by decide) ((2 : Nat) : Int) (by
          have e : (openP Pa).dev = Pa.dev := rfl
          unfold Few
          rw [e]
          exact HFa.out.mono (by decide)))
        rw [hrd] at cRd
        clear hrd cOp cAl2 cDv cTb HVb HMb HMc HR5 HRa HFa HMo HNo HGo
        go_wp2_with (go_at_call 16; refine cRd.out.mono ?_; rintro e we ⟨rfl, HPe, HMe⟩)
        refine (cFull.out _).mono ?_
        rintro e wf ⟨rfl, HMf⟩
        have HO1 := Lib.hid ((HOo.out.same HPe.out HMe.out).still HMf.out)
        have HO2 : Hid (Own W wf (upd x 1 d) fxa b gpa Pa) := by
          have hfr : ∀ g ∈ gpa, g ∉ fxa 0 ++ fxa 1 := fun g hg hx => by
            rcases List.mem_append.1 hx with hx | hx
            · exact HOp.out.pair.free g hg 0 (by decide) hx
            · exact HOp.out.pair.free g hg 1 (by decide) hx
          exact (HOp.out.same ⟨HOp.out.pair.pb.keep HMe.out hfr, HPe.out.dev, HOp.out.pair.apart, HOp.out.pair.free, HOp.out.pair.same, HOp.out.pair.fit⟩ HMe.out).still HMf.out
        have cQ1 := Lib.hid (fun (w : World) (hm : Mods [] wf w) => oTable (HO1.out.still hm) (s := 1) (by decide) ((HTo.out 1 (by decide)).trans ((HTa.out 1 (by decide)).trans HTT.out.2)))
        have cQ0 := Lib.hid (fun (w : World) (hm : Mods [] wf w) => oTable (HO1.out.still hm) (s := 0) (by decide) ((HTo.out 0 (by decide)).trans ((HTa.out 0 (by decide)).trans HTT.out.1)))
        have cP0 := Lib.hid (fun (w : World) (hm : Mods [] wf w) => oTable (HO2.out.still hm) (s := 0) (by decide) ((HTa.out 0 (by decide)).trans HTT.out.1))
        have mk0 : Hid (Mods [] wf wf) := Lib.hid (Mods.refl _ _)
        clear HO2 HOp HOo HPe HMe HMf HPo HOc
        go_wp2_with (first
          | (go_at_call 10; refine (cQ1.out _ mk0.out).mono ?_; rintro e wa ⟨A1, c1, rfl, HV0, hm⟩; have mk1 := Lib.hid (mk0.out.trans hm.out (by simp)); clear mk0 hm)
          | (go_at_call 19; refine (cX1.out _ _ HV0).mono ?_; rintro e wa ⟨rfl, hm⟩; have mk2 := Lib.hid (mk1.out.trans hm.out (by simp)); clear mk1 hm HV0)
          | (go_at_call 10; refine (cQ0.out _ mk2.out).mono ?_; rintro e wa ⟨A1, c1, rfl, HV1, hm⟩; have mk3 := Lib.hid (mk2.out.trans hm.out (by simp)); clear mk2 hm)
          | (go_at_call 19; refine (cX0.out _ _ HV1).mono ?_; rintro e wa ⟨rfl, hm⟩; have mk4 := Lib.hid (mk3.out.trans hm.out (by simp)); clear mk3 hm HV1)
          | (go_at_call 10; refine (cP0.out _ mk4.out).mono ?_; rintro e wa ⟨A1, c1, rfl, HV2, hm⟩; have mk5 := Lib.hid (mk4.out.trans hm.out (by simp)); clear mk4 hm)
          | (go_at_call 19; refine (cX0.out _ _ HV2).mono ?_; rintro e wa ⟨rfl, hm⟩; have mk6 := Lib.hid (mk5.out.trans hm.out (by simp)); clear mk5 hm HV2))
        go_ret
        exact ⟨rfl, (HO1.out.still mk6.out).mods⟩
theorem readables_remapReplaces : ∀ t ∈ (#[52, 4] : Array TypeId).toList, Try.prog.readableRec t = true ∧ t < Try.prog.types.size := by
  intro t ht
  simp only [List.mem_cons, List.not_mem_nil, or_false] at ht
  rcases ht with rfl | rfl
  all_goals exact ⟨by kernel_rfl, of_decide_eq_true (by kernel_rfl)⟩

set_option maxRecDepth 100000 in
theorem remapReplaces_contract (H : Type) (enc : TypeId × Value → H) (W : World) (base : Nat) (args : Array Value) (ds gs : List (DataW H)) (before : List MemPlace)
    (hval : ∀ (j : Nat) t v, Try.f6.params[j]? = some t → args[j]? = some v → Value.okWide Try.prog W .any base t v)
    (hW : DataW.Whole enc Try.prog Try.f6.params.toList Rows.remapReplacesSpec.vars false W args.toList ds gs before) :
    Calls Try.prog 6 args W fun e W' => ∃ v, e = .returned v ∧ Rows.remapReplacesSpec.post enc Try.prog Try.f6 false true false false W args v W' := by
  have hW' := hW
  obtain ⟨p, q, hA0, hV, he, hfz, hnd⟩ := hW
  have hA : DataW.TrodAll enc Try.prog W 0 (fun _ => true) true Try.f6.params.toList args.toList ds p := hA0
  rw [Try.params6] at hA hval
  obtain ⟨v0, vs0, d0, ds0, p0, q0, hargs, rfl, rfl, h0, r0⟩ := trodAll_cons hA
  obtain ⟨v1, vs1, d1, ds1, p1, q1, rfl, rfl, rfl, h1, r1⟩ := trodAll_cons r0
  obtain ⟨rfl, rfl, rfl⟩ := trodAll_nil r1
  obtain rfl : args = #[v0, v1] := by cases args; simp_all
  obtain ⟨movesA, movesLen, movesCap, moves, rfl, movesRow, movesL, movesC, movesM, movesB⟩ := u8s_open Try.underlying52 Try.underlying5 cellsU8 (hval 0 52 v0 rfl rfl) h0
  obtain ⟨side, rfl, rfl, rfl⟩ := open_bool Try.underlying4 (hval 1 4 v1 rfl rfl) h1
  refine (remapReplaces_walk movesA movesLen movesCap moves side W movesRow movesL movesC movesM movesB).mono fun e W' ⟨he', hm⟩ => ?_
  subst he'
  exact ⟨_, rfl, post_law laidOut (by rw [Try.params6]; exact readables_remapReplaces) (by rfl) Try.underlying4 rfl rfl hW' hm.below⟩

set_option maxRecDepth 100000 in
theorem remapReplaces_lifted (os : Os) (started : os.Started) (H : Type) (enc : TypeId × Value → H) :
    ReturnsInHanded {} Try.checked os 6 .any (Rows.remapReplacesSpec.pre6 enc Try.prog Try.f6 Rows.remapReplacesRow.domain false) (Rows.remapReplacesSpec.post enc Try.prog Try.f6 false true false false) := by
  refine returnsInHanded_of_change (C := Try.checked) own started (by kernel_rfl) Try.func6
    (ChangeSpec.witness6 (enc := enc) (C := Try.checked) false ⟨#[], #[.slice none 0 0, .bool false], []⟩ 8 (by kernel_rfl) (by kernel_rfl) (by kernel_rfl) (by kernel_rfl)) ?_
  intro W base args ds gs before hval hW _ _
  exact remapReplaces_contract H enc W base args ds gs before hval hW

/-- The law. -/
theorem remapReplaces_said : Rows.RemapReplacesSaid :=
  OpenClaim.holds_of_wide 6 Try.f6 rfl rfl rfl rfl rfl rfl rfl ⟨rfl, rfl, rfl, rfl, rfl⟩ rfl rfl rfl rfl rfl (by kernel_rfl) Try.func6 (by kernel_rfl)
    (of_decide_eq_true (by kernel_rfl)) (by unfold Func.isWrapper; first | (rw [if_pos (by decide +kernel)]; kernel_rfl) | (rw [if_neg (by decide +kernel)]; exact ⟨rfl, rfl⟩))
    (fun os started H enc _ => remapReplaces_lifted os started H enc)
end Go.Proofs.Ytnpfhfgegjocoaa
