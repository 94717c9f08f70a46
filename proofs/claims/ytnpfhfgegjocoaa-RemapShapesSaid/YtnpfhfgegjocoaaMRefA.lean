/- The laws' pair: a device is killed, another one stands in its place. -/
import Derived.Test.YtnpfhfgegjocoaaMG
import Derived.Test.YtnpfhfgegjocoaaMD
import Derived.Deep.CutRange
import Derived.Deep.RegionHeld3
import Derived.Outline
import Derived.LoopN
import Derived.LaidEqlPtr
/- The laws' pair, no block of which is bad. -/
namespace Go.Proofs.Ytnpfhfgegjocoaa
open Go.RowKit

/-- No block's sector is bad. -/
def NoBad (P : Pr) : Prop := ∀ d, d < 2 → ∀ j, 4 ≤ j → (P.dev d).bad.getD j false = false
theorem NoBad.stays {P P' : Pr} (h : NoBad P) {J : Nat → Nat → Prop} (st : Stays P P' J) (hJ : ∀ d j, 4 ≤ j → J d j) : NoBad P' := fun d hd j hj => ((st.same d hd).bad j (hJ d j hj)).trans (h d hd j hj)
/-- Write at the laws' pair, of a block whose sector isn't bad. -/
theorem gWriteOk {W : World} {b : Nat} {gp : List Nat} {x : Nat → Nat} {fx : Nat → List Nat} {P : Pr} (hp : IsPair W b gp x fx P) (h : Gd P) {s i : Nat} (hs : s < 2) (hi : i < 12) (hc : Few P 900000) {img : ByteArray} (hx : img.size = 128) (hn : NoBad P) :
    Calls Try.prog 20 #[.pointer (some ⟨b, 0, none⟩), .int .i64 (s : Nat), .int .i64 (i : Nat), .string img] W fun e w' => ∃ P' gp' fx', e = .returned (.int .i64 0) ∧ Hid (PairTo W w' b gp gp' x fx fx' P') ∧ Hid (Gd P') ∧ Hid (P'.tab = P.tab) ∧ Hid (P'.read s (i : Int) = (img, 0)) ∧ Hid (NoBad P') ∧ Hid (∀ d, d < 2 → (P'.dev d).cache.length ≤ (P.dev d).cache.length + 1) := by
  have hib : i < (P.tab s).blocks := by rw [h.blocks hs]; exact hi
  obtain ⟨P1, e1, g1, t1, st1, r1, _⟩ := write_good h.pi hs hib (x := img) (by rw [hx, h.size]) (hn s hs _ (by omega)) 4
  refine (gWrite hp h hs hi hc hx).mono fun e w' ⟨c, P', gp', fx', m, h1, h2, h3, _, _, _, h7, h8⟩ => ?_
  have h9 := h8.out.symm.trans e1
  injection h9 with e2 e3
  subst e2
  subst e3
  refine ⟨P', gp', fx', h1, h2, h3, Lib.hid t1, Lib.hid r1, Lib.hid (fun d hd j hj => ?_), h7⟩
  have hb : ∀ (D : Dev) (k : Nat) (y : ByteArray), (D.write (k : Int) y).2.bad = D.bad := fun D k y => by
    unfold Dev.write
    split
    · rfl
    · split
      · rfl
      · split
        · rfl
        · split
          · exact (Dev.burn_same D).2.2.2.1
          · split
            · exact (Dev.burn_same D).2.2.2.1
            · have hpb : ∀ (E : Dev) (q : Nat), (E.put q y).bad = E.bad := fun E q => by
                unfold Dev.put
                simp only
                split
                · split <;> rfl
                · split <;> rfl
              rw [hpb]; exact (Dev.burn_same D).2.2.2.1
  have hP : P' = P.setDev s ((P.dev s).write ((((P.tab s).at_ (i : Int)).1 + 4 : Nat) : Int) img).2 := by
    have e5 := e1
    unfold Pr.write Pr.sector at e5
    rw [if_neg (by rw [Tab.at_in hib]; simp)] at e5
    simp only at e5
    have hw := Dev.write_quiet (h.pi.inv.dev s hs).q (h.pi.at_lt hs hib) (hn s hs _ (by omega)) (x := img) (by rw [hx, (h.pi.inv.same s hs).1, h.size])
    rw [hw] at e5 ⊢
    simp at e5
    exact e5.symm
  rw [hP]
  show ((if d = s then _ else P.dev d)).bad.getD j false = false
  split
  · rw [hb]; exact hn s hs j hj
  · exact hn d hd j hj
end Go.Proofs.Ytnpfhfgegjocoaa
/- Pair.Replace: another device stands in a side's place. (Printed by wip/pair13.py.) -/
namespace Go.Proofs.Ytnpfhfgegjocoaa
open Go.RowKit

theorem IsPair.at_b2 {w : World} {b : Nat} {gp : List Nat} {x : Nat → Nat} {fx : Nat → List Nat} {P : Pr} (h : IsPair w b gp x fx P) : b ∈ gp := by
  obtain ⟨_, _, _, hg, _⟩ := h.pb
  rw [hg]; simp [pairFoot]
theorem IsPair.device {w : World} {b : Nat} {gp : List Nat} {x : Nat → Nat} {fx : Nat → List Nat} {P : Pr} (h : IsPair w b gp x fx P) {s : Nat} (hs : s < 2) {d : Nat} {fd : List Nat} {D : Dev} (hd : IsDev w d fd D) (hz : D.size = (P.dev 0).size ∧ D.sectors = (P.dev 0).sectors)
    (hap : ∀ k, k < 2 → ∀ g ∈ fd, g ∉ fx k) (hgp : ∀ g ∈ gp, g ∉ fd) :
    IsPair (w.setCell ⟨b, 2 + s, none⟩ (.pointer (some ⟨d, 0, none⟩))) b gp (upd x s d) (upd fx s fd) (P.setDev s D) ∧ Mods [b] w (w.setCell ⟨b, 2 + s, none⟩ (.pointer (some ⟨d, 0, none⟩))) := by
  have hm : Mods [b] w (w.setCell ⟨b, 2 + s, none⟩ (.pointer (some ⟨d, 0, none⟩))) := (Mods.refl _ _).setCell (.inl (by simp)) _
  have hbg : b ∈ gp := by
    obtain ⟨_, _, _, hg, _⟩ := h.pb
    rw [hg]; simp [pairFoot]
  have hdev : ∀ k, k < 2 → IsDev w (upd x s d k) (upd fx s fd k) ((P.setDev s D).dev k) ∧ (∀ g ∈ upd fx s fd k, g ∉ gp) := by
    intro k hk
    by_cases e : k = s
    · subst e
      rw [upd_at, upd_at]
      refine ⟨?_, fun g hg hx => hgp g hx hg⟩
      show IsDev w d fd (if k = k then D else P.dev k)
      rw [if_pos rfl]; exact hd
    · rw [upd_other _ _ e, upd_other _ _ e]
      refine ⟨?_, fun g hg hx => h.free g hx k hk hg⟩
      show IsDev w (x k) (fx k) (if k = s then D else P.dev k)
      rw [if_neg e]; exact h.dev k hk
  have hsh : ∀ k, k < 2 → ((P.setDev s D).dev k).size = (P.dev 0).size ∧ ((P.setDev s D).dev k).sectors = (P.dev 0).sectors := by
    intro k hk
    show (if k = s then D else P.dev k).size = _ ∧ (if k = s then D else P.dev k).sectors = _
    split
    · exact hz
    · exact h.same k hk
  refine ⟨⟨?_, fun k hk => (hdev k hk).1.keep hm (fun g hg hx => (hdev k hk).2 g hg (by rw [List.mem_singleton.1 hx]; exact hbg)), fun k hk g hg hx => ?_, fun g hg k hk hx => (hdev k hk).2 g hx hg, fun k hk => ?_, ?_⟩, hm⟩
  · obtain ⟨sb, m, hin, hg, hne⟩ := h.pb
    refine ⟨sb, m, ⟨?_, hin.sum.keep hm (by simp; exact fun e => hne e.symm), fun k hk => (hin.mv k hk).keep hm (fun g hg' hx => ?_), hin.tok, hin.n⟩, hg, hne⟩
    · have hb := hin.blk.set (2 + s) (.pointer (some ⟨d, 0, none⟩))
      have e : (pairCells sb P.n x P.tab m).set (2 + s) (.pointer (some ⟨d, 0, none⟩)) = pairCells sb P.n (upd x s d) P.tab m := by
        rcases (show s = 0 ∨ s = 1 by omega) with rfl | rfl <;> rfl
      rw [e] at hb; exact hb
    · have h1 := mv_ne hin.blk (hin.mv k hk) g hg'
      exact h1 (List.mem_singleton.1 hx)
  · by_cases e : k = s
    · subst e
      rw [upd_at] at hg
      rw [upd_other _ _ (by omega)] at hx
      exact hap (1 - k) (by omega) g hg hx
    · rw [upd_other _ _ e] at hg
      have e2 : 1 - k = s := by omega
      rw [e2, upd_at] at hx
      exact hap k hk g hx hg
  · rw [(hsh k hk).1, (hsh k hk).2, (hsh 0 (by decide)).1, (hsh 0 (by decide)).2]; exact ⟨rfl, rfl⟩
  · have := h.fit
    unfold Pr.Fit at this ⊢
    rw [(hsh 0 (by decide)).1, (hsh 0 (by decide)).2]; exact this
/-- What Replace leaves. -/
structure ReplTo (W w' : World) (b : Nat) (gp gp' : List Nat) (x' : Nat → Nat) (fx fx0 fx' : Nat → List Nat) (fd : List Nat) (P' : Pr) : Prop where
  pair : IsPair w' b gp' x' fx' P'
  mods : Mods (b :: (fx 0 ++ fx 1 ++ fd)) W w'
  newF : ∀ k, k < 2 → ∀ g ∈ fx' k, g ∈ fx0 k ∨ W.heap.size ≤ g
  newG : ∀ g ∈ gp', g ∈ gp ∨ W.heap.size ≤ g
/-- A side's table, as its cells lie. -/
theorem IsPair.tabv {w : World} {b : Nat} {gp : List Nat} {x : Nat → Nat} {fx : Nat → List Nat} {P : Pr} (h : IsPair w b gp x fx P) {s : Nat} (hs : s < 2) {T : Tab} (hT : P.tab s = T) :
    ∃ A c, w.cell? ⟨b, 4 + 3 * s, none⟩ = some (.int .i64 (T.blocks : Nat)) ∧ w.cell? ⟨b, 4 + 3 * s + 1, none⟩ = some (.int .i64 (T.spares : Nat)) ∧ w.cell? ⟨b, 4 + 3 * s + 2, none⟩ = some (.slice A T.moved.length c) ∧ Hid (IsMv w (.slice A T.moved.length c) T.moved) ∧ Hid (∀ g, (Value.slice A T.moved.length c).ownBlock = some g → ∀ k, k < 2 → g ∉ fx k) ∧ Hid (∀ g, (Value.slice A T.moved.length c).ownBlock = some g → g ∈ gp) := by
  obtain ⟨sb, m, hin, hg, _⟩ := h.pb
  have hmv := hin.mv s hs
  rw [hT] at hmv
  obtain ⟨A, c, e, _⟩ := mv_shape hmv
  have hgp : ∀ g, (m s).ownBlock = some g → g ∈ gp := fun g hg' => by
    rw [hg]
    unfold pairFoot
    rcases (show s = 0 ∨ s = 1 by omega) with rfl | rfl <;> simp [hg']
  have hm3 : w.cell? ⟨b, 4 + 3 * s + 2, none⟩ = some (m s) := by
    rcases (show s = 0 ∨ s = 1 by omega) with rfl | rfl
    · exact hin.blk.cell (i := 6) rfl
    · exact hin.blk.cell (i := 9) rfl
  rw [e] at hmv hgp hm3
  refine ⟨A, c, ?_, ?_, hm3, hmv, Lib.hid (fun g hg' k hk => h.free g (hgp g hg') k hk), hgp⟩
  · rw [← hT]
    rcases (show s = 0 ∨ s = 1 by omega) with rfl | rfl
    · exact hin.blk.cell (i := 4) rfl
    · exact hin.blk.cell (i := 7) rfl
  · rw [← hT]
    rcases (show s = 0 ∨ s = 1 by omega) with rfl | rfl
    · exact hin.blk.cell (i := 5) rfl
    · exact hin.blk.cell (i := 8) rfl
theorem nil_ptr (b : Nat) (w : World) : (binOp .eql 23 (.pointer (some ⟨b, 0, none⟩)) (.pointer none)).run Try.prog w = .ok (.bool false) w := by kernel_rfl
set_option maxRecDepth 100000 in
set_option maxHeartbeats 3200000 in
theorem rReplace_0 {W : World} {b : Nat} {gp : List Nat} {x : Nat → Nat} {fx : Nat → List Nat} {P : Pr} (h : IsPair W b gp x fx P) {d : Nat} {fd : List Nat} {D : Dev} (hd : IsDev W d fd D) (hz : D.size = (P.dev 0).size ∧ D.sectors = (P.dev 0).sectors)
    (hap : ∀ k, k < 2 → ∀ g ∈ fd, g ∉ fx k) (hgp : ∀ g ∈ gp, g ∉ fd) (hsp : ∀ k, k < 2 → (P.tab k).spares = P.n) (hc : ∀ k, k < 2 → ((P.setDev 0 D).dev k).cache.length + 2 < 1000000)
    (hk1 : ((P.setDev 0 D).keep 0 (P.tab 0)).1 = 0) (hk2 : (((P.setDev 0 D).keep 0 (P.tab 0)).2.keep 1 (P.tab 1)).1 = 0) :
    Calls Try.prog 29 #[.pointer (some ⟨b, 0, none⟩), .int .i64 0, .pointer (some ⟨d, 0, none⟩)] W fun e w' => ∃ gp' fx', e = .returned (.int .i64 0) ∧ Hid (ReplTo W w' b gp gp' (upd x 0 d) fx (upd fx 0 fd) fx' fd (((P.setDev 0 D).keep 0 (P.tab 0)).2.keep 1 (P.tab 1)).2) := by
  have hd0 : IsDev W (x 0) (fx 0) (P.dev 0) := h.dev 0 (by decide)
  have hne : ∀ k, k < 2 → d ≠ x k := fun k hk e => hap k hk d hd.head (by rw [e]; exact (h.dev k hk).head)
  obtain ⟨zs, hzs⟩ : ∃ zs, (P.dev 0).size = zs := ⟨_, rfl⟩
  obtain ⟨zn, hzn⟩ : ∃ zn, (P.dev 0).sectors = zn := ⟨_, rfl⟩
  have cSh := Lib.hid (fun (w : World) (p : Nat) (hm : Mods [] W w) (hp : p = d ∨ p = x 0) => show Calls Try.prog 56 #[.pointer (some ⟨p, 0, none⟩)] w fun e w' => e = .returned (.agg #[.int .i64 (zn : Nat), .int .i64 (zs : Nat)]) ∧ Mods [] w w' from by
    rcases hp with rfl | rfl
    · have h1 := dShape_any (hd.keep hm (by simp))
      rw [hz.1, hz.2, hzs, hzn] at h1; exact h1
    · have h1 := dShape_any (hd0.keep hm (by simp))
      rw [hzs, hzn] at h1; exact h1)
  have HNE := Lib.hid (fun (w : World) (hm : Mods [] W w) => And.intro (dev_ne (hd.keep hm (by simp)) ((h.dev 0 (by decide)).keep hm (by simp)) (hne 0 (by decide))) (dev_ne (hd.keep hm (by simp)) ((h.dev 1 (by decide)).keep hm (by simp)) (hne 1 (by decide))))
  obtain ⟨sb, m, hin, hgpe, hbs⟩ := h.pb
  have HBC : Hid (∀ w, Mods [] W w → w.cell? ⟨b, 2, none⟩ = some (.pointer (some ⟨x 0, 0, none⟩)) ∧ w.cell? ⟨b, 3, none⟩ = some (.pointer (some ⟨x 1, 0, none⟩)) ∧ w.frozen? ⟨b, 2, none⟩ = false ∧ w.frozen? ⟨b, 3, none⟩ = false) := Lib.hid (fun w hm => by
    have hb := hin.blk.keep hm (by simp)
    exact ⟨hb.cell (i := 2) rfl, hb.cell (i := 3) rfl, hb.free 2, hb.free 3⟩)
  have HDV := Lib.hid (fun (w : World) (hm : Mods [] W w) => (h.keep0 hm).device (s := 0) (by decide) (hd.keep hm (by simp)) hz hap hgp)
  obtain ⟨P1, hP1⟩ : ∃ P1, P.setDev 0 D = P1 := ⟨_, rfl⟩
  have hPt : P1.tab = P.tab := by rw [← hP1]; rfl
  have hn1 : P1.n = P.n := by rw [← hP1]; rfl
  rw [hP1] at HDV hk1 hk2 hc ⊢
  obtain ⟨T0, hT0⟩ : ∃ T, P.tab 0 = T := ⟨_, rfl⟩
  obtain ⟨T1, hT1⟩ : ∃ T, P.tab 1 = T := ⟨_, rfl⟩
  have tok : T0.Ok ∧ T1.Ok ∧ T0.moved.length ≤ P.n ∧ T1.moved.length ≤ P.n := by
    have a0 := hin.tok 0 (by decide)
    have a1 := hin.tok 1 (by decide)
    have l0 := a0.len
    have l1 := a1.len
    rw [hsp 0 (by decide)] at l0
    rw [hsp 1 (by decide)] at l1
    rw [hT0] at a0 l0
    rw [hT1] at a1 l1
    exact ⟨a0, a1, l0, l1⟩
  have hca : ∀ k, k < 2 → (P1.dev k).cache.length + 1 < 1000000 := fun k hk => by have := hc k hk; omega
  have cK1 := Lib.hid (fun (w : World) (gp : List Nat) (fx : Nat → List Nat) (mv : Value) (hp : IsPair w b gp (upd x 0 d) fx P1) (hmv : IsMv w mv T0.moved) (hfr : ∀ g, mv.ownBlock = some g → ∀ k, k < 2 → g ∉ fx k) => rKeep_any hp 0 (by decide) (t := T0) hmv hfr tok.1 (by rw [hn1]; exact tok.2.2.1) hca)
  rw [hT0, hT1] at hk2 ⊢
  rw [hT0] at hk1
  rw [hk1] at cK1
  have hk1n := (keep_same P1 0 T0 0).2.1
  have hk1c := fun k => (keep_same P1 0 T0 k).1
  have hk1t := (keep_same P1 0 T0 0).2.2.1 hk1
  generalize hP2 : (P1.keep 0 T0).2 = P2 at *
  have hT2 : P2.tab 1 = T1 := by
    rw [hk1t]
    show P1.tab 1 = _
    rw [hPt]; exact hT1
  have hcb : ∀ k, k < 2 → (P2.dev k).cache.length + 1 < 1000000 := fun k hk => by have h1 := hk1c k; have := hc k hk; omega
  have cK2 := Lib.hid (fun (w : World) (gp : List Nat) (fx : Nat → List Nat) (mv : Value) (hp : IsPair w b gp (upd x 0 d) fx P2) (hmv : IsMv w mv T1.moved) (hfr : ∀ g, mv.ownBlock = some g → ∀ k, k < 2 → g ∉ fx k) => rKeep_any hp 1 (by decide) (t := T1) hmv hfr tok.2.1 (by rw [hk1n, hn1]; exact tok.2.2.2) hcb)
  rw [hk2] at cK2
  have hT1' : P1.tab 0 = T0 := by rw [hPt]; exact hT0
  generalize (P2.keep 1 T1).2 = P3 at *
  unfold tabV at cK1 cK2
  have HTS := Lib.hid (And.intro hT1' hT2)
  have HH := Lib.hid (And.intro h (And.intro hd (And.intro hap hgp)))
  have HLT := Lib.hid (And.intro h.at_b2 hin.blk.lt)
  clear hk1 hk2 hP1 hP2 hPt hT1 hn1 hT0 hT1' hT2 tok hca hcb hk1n hk1c hk1t hc hsp hap hgp hz hd0 hne hin hgpe hbs hd h hzs hzn
  go_enter Try.func29, Try.ntmps29
  go_upto_region 3 with fail
  have q2 := (HBC.out W (Mods.refl _ _)).1
  have q3 := (HBC.out W (Mods.refl _ _)).2.1
  go_cut [17] from 18 to 49 (fun v wx => v = .bool false ∧ Hid (Mods [] W wx))
  case first =>
    clear HH cK1 cK2 HTS HDV
    obtain ⟨l0, l1⟩ := HNE.out _ ((Mods.refl [] W).drew)
    go_region_held3 (fun w' => w'.cell? ⟨b, 2, none⟩ = some (.pointer (some ⟨x 0, 0, none⟩)) ∧ w'.cell? ⟨b, 3, none⟩ = some (.pointer (some ⟨x 1, 0, none⟩)) ∧ (binOp .eql 23 (.pointer (some ⟨d, 0, none⟩)) (.pointer (some ⟨x 0, 0, none⟩))).run Try.prog w' = .ok (.bool false) w' ∧ (binOp .eql 23 (.pointer (some ⟨d, 0, none⟩)) (.pointer (some ⟨x 1, 0, none⟩))).run Try.prog w' = .ok (.bool false) w')
      (first | exact ⟨q2, q3, l0, l1⟩ | exact ⟨r2, r3, k0, k1⟩ | exact ⟨s2, s3, n0, n1⟩ | exact ⟨q2, q3, HNE.out _ (Mods.refl _ _)⟩ | fail)
      (first | (go_at_call 34; refine (rIs_any _).mono ?_; rintro e w' ⟨rfl, rfl⟩) | (go_at_call 56; have HMb2 := HMb; refine (cSh.out _ _ HMb.out ?_).mono ?_; (any_goals (first | exact Or.inl rfl | exact Or.inr rfl)); rintro e wc ⟨rfl, hm⟩; have HMc : Hid (Mods [] W wc) := Lib.hid (HMb2.out.trans hm (by simp)); obtain ⟨s2, s3, _, _⟩ := HBC.out wc HMc.out; obtain ⟨n0, n1⟩ := HNE.out wc HMc.out; clear hm) | (go_at_call 56; refine (cSh.out _ _ (Mods.refl _ _).drew ?_).mono ?_; (any_goals (first | exact Or.inl rfl | exact Or.inr rfl)); rintro e wb ⟨rfl, hm⟩; have HMb : Hid (Mods [] W wb) := Lib.hid (((Mods.refl [] W).drew).trans hm (by simp)); obtain ⟨r2, r3, _, _⟩ := HBC.out wb HMb.out; obtain ⟨k0, k1⟩ := HNE.out wb HMb.out; clear hm))
    all_goals go_wp2_with fail
    all_goals go_meet
    all_goals exact ⟨rfl, HMc⟩
  case rest =>
    obtain ⟨rfl, HMW⟩ := hcut
    obtain ⟨p2, p3, f2, f3⟩ := HBC.out wc HMW.out
    obtain ⟨hpD, hmD⟩ := HDV.out wc HMW.out
    obtain ⟨w2, hw2⟩ : ∃ w2, wc.setCell ⟨b, 2, none⟩ (.pointer (some ⟨d, 0, none⟩)) = w2 := ⟨_, rfl⟩
    have HPD : Hid (IsPair w2 b gp (upd x 0 d) (upd fx 0 fd) P1) := Lib.hid (by rw [← hw2]; exact hpD)
    have HMD : Hid (Mods [b] wc w2) := Lib.hid (by rw [← hw2]; exact hmD)
    obtain ⟨w3, hw3⟩ : ∃ w3, w2.alloc (.cells #[.int .i64 0, .int .i64 1] 3) = w3 := ⟨_, rfl⟩
    have hm3 : Mods [] w2 w3 := by rw [← hw3]; exact (Mods.refl _ _).alloc _
    have hb3 : Blk w3 w2.heap.size 3 [.int .i64 0, .int .i64 1] := by rw [← hw3]; exact Blk.new w2 3 _
    have HP3 : Hid (IsPair w3 b gp (upd x 0 d) (upd fx 0 fd) P1) := Lib.hid (HPD.out.keep0 hm3)
    have HB3 := Lib.hid hb3
    have HM3 := Lib.hid hm3
    obtain ⟨Aa, ca, t0, t1, t2, HVA, HFA, HGA⟩ := HP3.out.tabv (s := 0) (by decide) HTS.out.1
    have e0 := hb3.cell (i := 0) rfl
    clear hpD hmD hm3 hb3
    go_wp2_with (go_at_call 57; refine (rOther_any 0 (by decide)).mono ?_; rintro e w' ⟨rfl, rfl⟩)
    refine wp_loop_rounds 3 ?_
    rw [rounds_succ]
    go_wp2_with (go_at_call 36; refine (cK1.out _ _ _ _ HP3.out HVA.out HFA.out).mono ?_; rintro e w4 ⟨gp4, fx4, rfl, HP4, HM4, HN4, HG4⟩)
    rw [rounds_succ]
    obtain ⟨Ac, cc, s0, s1, s2, HVC, HFC, HGC⟩ := HP4.out.tabv (s := 1) (by decide) HTS.out.2
    have e1 := (HB3.out.keep HM4.out (by
      intro hx
      obtain ⟨hh, hhd, _, _⟩ := HH.out
      have h1 := HMW.out.size
      have h2 := HMD.out.size
      rcases List.mem_cons.1 hx with e | hx
      · have := HLT.out.2; omega
      · have hl : ∀ k, k < 2 → ∀ g ∈ upd fx 0 fd k, g < W.heap.size := fun k hk g hg => by
          by_cases ek : k = 0
          · subst ek
            rw [upd_at] at hg
            exact hhd.lt g hg
          · rw [upd_other _ _ ek] at hg
            exact (hh.dev k hk).lt g hg
        rcases List.mem_append.1 hx with hx | hx
        · have := hl 0 (by decide) _ hx; omega
        · have := hl 1 (by decide) _ hx; omega)).cell (i := 1) rfl
    go_wp2_with (go_at_call 36; refine (cK2.out _ _ _ _ HP4.out HVC.out HFC.out).mono ?_; rintro e w5 ⟨gp5, fx5, rfl, HP5, HM5, HN5, HG5⟩)
    rw [rounds_succ]
    go_wp2_with fail
    go_ret
    have z1 := HMW.out.size
    have z2 := HMD.out.size
    have z3 := HM3.out.size
    have z4 := HM4.out.size
    have hF : ∀ k, k < 2 → ∀ g ∈ upd fx 0 fd k, g ∈ b :: (fx 0 ++ fx 1 ++ fd) := fun k hk g hg => by
      by_cases ek : k = 0
      · subst ek
        rw [upd_at] at hg
        simp [hg]
      · rw [upd_other _ _ ek] at hg
        rcases (show k = 0 ∨ k = 1 by omega) with rfl | rfl <;> simp [hg]
    refine ⟨gp5, fx5, rfl, Lib.hid ⟨HP5.out, ?_, fun k hk g hg => ?_, fun g hg => ?_⟩⟩
    · have a1 : Mods (b :: (fx 0 ++ fx 1 ++ fd)) W w3 := ((HMW.out.mono (by simp)).trans HMD.out (fun z hz => .inl (by rw [List.mem_singleton.1 hz]; simp))).trans HM3.out (by simp)
      have a2 := a1.trans HM4.out (fun z hz => .inl (by
        rcases List.mem_cons.1 hz with rfl | hz
        · simp
        · rcases List.mem_append.1 hz with hz | hz
          · exact hF 0 (by decide) z hz
          · exact hF 1 (by decide) z hz))
      have hn4 : ∀ k, k < 2 → ∀ z ∈ fx4 k, z ∈ b :: (fx 0 ++ fx 1 ++ fd) ∨ W.heap.size ≤ z := fun k hk z hz => by
        rcases HN4.out k hk z hz with h1 | h1
        · exact .inl (hF k hk z h1)
        · exact .inr (by omega)
      exact a2.trans HM5.out (fun z hz => by
        rcases List.mem_cons.1 hz with rfl | hz
        · exact .inl (by simp)
        · rcases List.mem_append.1 hz with hz | hz
          · exact hn4 0 (by decide) z hz
          · exact hn4 1 (by decide) z hz)
    · rcases HN5.out k hk g hg with h1 | h1
      · rcases HN4.out k hk g h1 with h2 | h2
        · exact .inl h2
        · exact .inr (by omega)
      · exact .inr (by omega)
    · have hg4 : ∀ z ∈ gp4, z ∈ gp ∨ W.heap.size ≤ z := fun z hz => by
        rcases HG4.out z hz with h1 | h1 | h1
        · exact .inl h1
        · exact .inl (HGA.out z h1)
        · exact .inr (by omega)
      rcases HG5.out g hg with h1 | h1 | h1
      · exact hg4 g h1
      · exact hg4 g (HGC.out g h1)
      · exact .inr (by omega)
set_option maxRecDepth 100000 in
set_option maxHeartbeats 3200000 in
theorem rReplace_1 {W : World} {b : Nat} {gp : List Nat} {x : Nat → Nat} {fx : Nat → List Nat} {P : Pr} (h : IsPair W b gp x fx P) {d : Nat} {fd : List Nat} {D : Dev} (hd : IsDev W d fd D) (hz : D.size = (P.dev 0).size ∧ D.sectors = (P.dev 0).sectors)
    (hap : ∀ k, k < 2 → ∀ g ∈ fd, g ∉ fx k) (hgp : ∀ g ∈ gp, g ∉ fd) (hsp : ∀ k, k < 2 → (P.tab k).spares = P.n) (hc : ∀ k, k < 2 → ((P.setDev 1 D).dev k).cache.length + 2 < 1000000)
    (hk1 : ((P.setDev 1 D).keep 1 (P.tab 1)).1 = 0) (hk2 : (((P.setDev 1 D).keep 1 (P.tab 1)).2.keep 0 (P.tab 0)).1 = 0) :
    Calls Try.prog 29 #[.pointer (some ⟨b, 0, none⟩), .int .i64 1, .pointer (some ⟨d, 0, none⟩)] W fun e w' => ∃ gp' fx', e = .returned (.int .i64 0) ∧ Hid (ReplTo W w' b gp gp' (upd x 1 d) fx (upd fx 1 fd) fx' fd (((P.setDev 1 D).keep 1 (P.tab 1)).2.keep 0 (P.tab 0)).2) := by
  have hd0 : IsDev W (x 0) (fx 0) (P.dev 0) := h.dev 0 (by decide)
  have hne : ∀ k, k < 2 → d ≠ x k := fun k hk e => hap k hk d hd.head (by rw [e]; exact (h.dev k hk).head)
  obtain ⟨zs, hzs⟩ : ∃ zs, (P.dev 0).size = zs := ⟨_, rfl⟩
  obtain ⟨zn, hzn⟩ : ∃ zn, (P.dev 0).sectors = zn := ⟨_, rfl⟩
  have cSh := Lib.hid (fun (w : World) (p : Nat) (hm : Mods [] W w) (hp : p = d ∨ p = x 0) => show Calls Try.prog 56 #[.pointer (some ⟨p, 0, none⟩)] w fun e w' => e = .returned (.agg #[.int .i64 (zn : Nat), .int .i64 (zs : Nat)]) ∧ Mods [] w w' from by
    rcases hp with rfl | rfl
    · have h1 := dShape_any (hd.keep hm (by simp))
      rw [hz.1, hz.2, hzs, hzn] at h1; exact h1
    · have h1 := dShape_any (hd0.keep hm (by simp))
      rw [hzs, hzn] at h1; exact h1)
  have HNE := Lib.hid (fun (w : World) (hm : Mods [] W w) => And.intro (dev_ne (hd.keep hm (by simp)) ((h.dev 0 (by decide)).keep hm (by simp)) (hne 0 (by decide))) (dev_ne (hd.keep hm (by simp)) ((h.dev 1 (by decide)).keep hm (by simp)) (hne 1 (by decide))))
  obtain ⟨sb, m, hin, hgpe, hbs⟩ := h.pb
  have HBC : Hid (∀ w, Mods [] W w → w.cell? ⟨b, 2, none⟩ = some (.pointer (some ⟨x 0, 0, none⟩)) ∧ w.cell? ⟨b, 3, none⟩ = some (.pointer (some ⟨x 1, 0, none⟩)) ∧ w.frozen? ⟨b, 2, none⟩ = false ∧ w.frozen? ⟨b, 3, none⟩ = false) := Lib.hid (fun w hm => by
    have hb := hin.blk.keep hm (by simp)
    exact ⟨hb.cell (i := 2) rfl, hb.cell (i := 3) rfl, hb.free 2, hb.free 3⟩)
  have HDV := Lib.hid (fun (w : World) (hm : Mods [] W w) => (h.keep0 hm).device (s := 1) (by decide) (hd.keep hm (by simp)) hz hap hgp)
  obtain ⟨P1, hP1⟩ : ∃ P1, P.setDev 1 D = P1 := ⟨_, rfl⟩
  have hPt : P1.tab = P.tab := by rw [← hP1]; rfl
  have hn1 : P1.n = P.n := by rw [← hP1]; rfl
  rw [hP1] at HDV hk1 hk2 hc ⊢
  obtain ⟨T1, hT1⟩ : ∃ T, P.tab 1 = T := ⟨_, rfl⟩
  obtain ⟨T0, hT0⟩ : ∃ T, P.tab 0 = T := ⟨_, rfl⟩
  have tok : T0.Ok ∧ T1.Ok ∧ T0.moved.length ≤ P.n ∧ T1.moved.length ≤ P.n := by
    have a0 := hin.tok 0 (by decide)
    have a1 := hin.tok 1 (by decide)
    have l0 := a0.len
    have l1 := a1.len
    rw [hsp 0 (by decide)] at l0
    rw [hsp 1 (by decide)] at l1
    rw [hT0] at a0 l0
    rw [hT1] at a1 l1
    exact ⟨a0, a1, l0, l1⟩
  have hca : ∀ k, k < 2 → (P1.dev k).cache.length + 1 < 1000000 := fun k hk => by have := hc k hk; omega
  have cK1 := Lib.hid (fun (w : World) (gp : List Nat) (fx : Nat → List Nat) (mv : Value) (hp : IsPair w b gp (upd x 1 d) fx P1) (hmv : IsMv w mv T1.moved) (hfr : ∀ g, mv.ownBlock = some g → ∀ k, k < 2 → g ∉ fx k) => rKeep_any hp 1 (by decide) (t := T1) hmv hfr tok.2.1 (by rw [hn1]; exact tok.2.2.2) hca)
  rw [hT1, hT0] at hk2 ⊢
  rw [hT1] at hk1
  rw [hk1] at cK1
  have hk1n := (keep_same P1 1 T1 0).2.1
  have hk1c := fun k => (keep_same P1 1 T1 k).1
  have hk1t := (keep_same P1 1 T1 0).2.2.1 hk1
  generalize hP2 : (P1.keep 1 T1).2 = P2 at *
  have hT2 : P2.tab 0 = T0 := by
    rw [hk1t]
    show P1.tab 0 = _
    rw [hPt]; exact hT0
  have hcb : ∀ k, k < 2 → (P2.dev k).cache.length + 1 < 1000000 := fun k hk => by have h1 := hk1c k; have := hc k hk; omega
  have cK2 := Lib.hid (fun (w : World) (gp : List Nat) (fx : Nat → List Nat) (mv : Value) (hp : IsPair w b gp (upd x 1 d) fx P2) (hmv : IsMv w mv T0.moved) (hfr : ∀ g, mv.ownBlock = some g → ∀ k, k < 2 → g ∉ fx k) => rKeep_any hp 0 (by decide) (t := T0) hmv hfr tok.1 (by rw [hk1n, hn1]; exact tok.2.2.1) hcb)
  rw [hk2] at cK2
  have hT1' : P1.tab 1 = T1 := by rw [hPt]; exact hT1
  generalize (P2.keep 0 T0).2 = P3 at *
  unfold tabV at cK1 cK2
  have HTS := Lib.hid (And.intro hT1' hT2)
  have HH := Lib.hid (And.intro h (And.intro hd (And.intro hap hgp)))
  have HLT := Lib.hid (And.intro h.at_b2 hin.blk.lt)
  clear hk1 hk2 hP1 hP2 hPt hT1 hn1 hT0 hT1' hT2 tok hca hcb hk1n hk1c hk1t hc hsp hap hgp hz hd0 hne hin hgpe hbs hd h hzs hzn
  go_enter Try.func29, Try.ntmps29
  go_upto_region 3 with fail
  have q2 := (HBC.out W (Mods.refl _ _)).1
  have q3 := (HBC.out W (Mods.refl _ _)).2.1
  go_cut [17] from 18 to 49 (fun v wx => v = .bool false ∧ Hid (Mods [] W wx))
  case first =>
    clear HH cK1 cK2 HTS HDV
    obtain ⟨l0, l1⟩ := HNE.out _ ((Mods.refl [] W).drew)
    go_region_held3 (fun w' => w'.cell? ⟨b, 2, none⟩ = some (.pointer (some ⟨x 0, 0, none⟩)) ∧ w'.cell? ⟨b, 3, none⟩ = some (.pointer (some ⟨x 1, 0, none⟩)) ∧ (binOp .eql 23 (.pointer (some ⟨d, 0, none⟩)) (.pointer (some ⟨x 0, 0, none⟩))).run Try.prog w' = .ok (.bool false) w' ∧ (binOp .eql 23 (.pointer (some ⟨d, 0, none⟩)) (.pointer (some ⟨x 1, 0, none⟩))).run Try.prog w' = .ok (.bool false) w')
      (first | exact ⟨q2, q3, l0, l1⟩ | exact ⟨r2, r3, k0, k1⟩ | exact ⟨s2, s3, n0, n1⟩ | exact ⟨q2, q3, HNE.out _ (Mods.refl _ _)⟩ | fail)
      (first | (go_at_call 34; refine (rIs_any _).mono ?_; rintro e w' ⟨rfl, rfl⟩) | (go_at_call 56; have HMb2 := HMb; refine (cSh.out _ _ HMb.out ?_).mono ?_; (any_goals (first | exact Or.inl rfl | exact Or.inr rfl)); rintro e wc ⟨rfl, hm⟩; have HMc : Hid (Mods [] W wc) := Lib.hid (HMb2.out.trans hm (by simp)); obtain ⟨s2, s3, _, _⟩ := HBC.out wc HMc.out; obtain ⟨n0, n1⟩ := HNE.out wc HMc.out; clear hm) | (go_at_call 56; refine (cSh.out _ _ (Mods.refl _ _).drew ?_).mono ?_; (any_goals (first | exact Or.inl rfl | exact Or.inr rfl)); rintro e wb ⟨rfl, hm⟩; have HMb : Hid (Mods [] W wb) := Lib.hid (((Mods.refl [] W).drew).trans hm (by simp)); obtain ⟨r2, r3, _, _⟩ := HBC.out wb HMb.out; obtain ⟨k0, k1⟩ := HNE.out wb HMb.out; clear hm))
    all_goals go_wp2_with fail
    all_goals go_meet
    all_goals exact ⟨rfl, HMc⟩
  case rest =>
    obtain ⟨rfl, HMW⟩ := hcut
    obtain ⟨p2, p3, f2, f3⟩ := HBC.out wc HMW.out
    obtain ⟨hpD, hmD⟩ := HDV.out wc HMW.out
    obtain ⟨w2, hw2⟩ : ∃ w2, wc.setCell ⟨b, 3, none⟩ (.pointer (some ⟨d, 0, none⟩)) = w2 := ⟨_, rfl⟩
    have HPD : Hid (IsPair w2 b gp (upd x 1 d) (upd fx 1 fd) P1) := Lib.hid (by rw [← hw2]; exact hpD)
    have HMD : Hid (Mods [b] wc w2) := Lib.hid (by rw [← hw2]; exact hmD)
    obtain ⟨w3, hw3⟩ : ∃ w3, w2.alloc (.cells #[.int .i64 1, .int .i64 0] 3) = w3 := ⟨_, rfl⟩
    have hm3 : Mods [] w2 w3 := by rw [← hw3]; exact (Mods.refl _ _).alloc _
    have hb3 : Blk w3 w2.heap.size 3 [.int .i64 1, .int .i64 0] := by rw [← hw3]; exact Blk.new w2 3 _
    have HP3 : Hid (IsPair w3 b gp (upd x 1 d) (upd fx 1 fd) P1) := Lib.hid (HPD.out.keep0 hm3)
    have HB3 := Lib.hid hb3
    have HM3 := Lib.hid hm3
    obtain ⟨Aa, ca, t0, t1, t2, HVA, HFA, HGA⟩ := HP3.out.tabv (s := 1) (by decide) HTS.out.1
    have e0 := hb3.cell (i := 0) rfl
    clear hpD hmD hm3 hb3
    go_wp2_with (go_at_call 57; refine (rOther_any 1 (by decide)).mono ?_; rintro e w' ⟨rfl, rfl⟩)
    refine wp_loop_rounds 3 ?_
    rw [rounds_succ]
    go_wp2_with (go_at_call 36; refine (cK1.out _ _ _ _ HP3.out HVA.out HFA.out).mono ?_; rintro e w4 ⟨gp4, fx4, rfl, HP4, HM4, HN4, HG4⟩)
    rw [rounds_succ]
    obtain ⟨Ac, cc, s0, s1, s2, HVC, HFC, HGC⟩ := HP4.out.tabv (s := 0) (by decide) HTS.out.2
    have e1 := (HB3.out.keep HM4.out (by
      intro hx
      obtain ⟨hh, hhd, _, _⟩ := HH.out
      have h1 := HMW.out.size
      have h2 := HMD.out.size
      rcases List.mem_cons.1 hx with e | hx
      · have := HLT.out.2; omega
      · have hl : ∀ k, k < 2 → ∀ g ∈ upd fx 1 fd k, g < W.heap.size := fun k hk g hg => by
          by_cases ek : k = 1
          · subst ek
            rw [upd_at] at hg
            exact hhd.lt g hg
          · rw [upd_other _ _ ek] at hg
            exact (hh.dev k hk).lt g hg
        rcases List.mem_append.1 hx with hx | hx
        · have := hl 0 (by decide) _ hx; omega
        · have := hl 1 (by decide) _ hx; omega)).cell (i := 1) rfl
    go_wp2_with (go_at_call 36; refine (cK2.out _ _ _ _ HP4.out HVC.out HFC.out).mono ?_; rintro e w5 ⟨gp5, fx5, rfl, HP5, HM5, HN5, HG5⟩)
    rw [rounds_succ]
    go_wp2_with fail
    go_ret
    have z1 := HMW.out.size
    have z2 := HMD.out.size
    have z3 := HM3.out.size
    have z4 := HM4.out.size
    have hF : ∀ k, k < 2 → ∀ g ∈ upd fx 1 fd k, g ∈ b :: (fx 0 ++ fx 1 ++ fd) := fun k hk g hg => by
      by_cases ek : k = 1
      · subst ek
        rw [upd_at] at hg
        simp [hg]
      · rw [upd_other _ _ ek] at hg
        rcases (show k = 0 ∨ k = 1 by omega) with rfl | rfl <;> simp [hg]
    refine ⟨gp5, fx5, rfl, Lib.hid ⟨HP5.out, ?_, fun k hk g hg => ?_, fun g hg => ?_⟩⟩
    · have a1 : Mods (b :: (fx 0 ++ fx 1 ++ fd)) W w3 := ((HMW.out.mono (by simp)).trans HMD.out (fun z hz => .inl (by rw [List.mem_singleton.1 hz]; simp))).trans HM3.out (by simp)
      have a2 := a1.trans HM4.out (fun z hz => .inl (by
        rcases List.mem_cons.1 hz with rfl | hz
        · simp
        · rcases List.mem_append.1 hz with hz | hz
          · exact hF 0 (by decide) z hz
          · exact hF 1 (by decide) z hz))
      have hn4 : ∀ k, k < 2 → ∀ z ∈ fx4 k, z ∈ b :: (fx 0 ++ fx 1 ++ fd) ∨ W.heap.size ≤ z := fun k hk z hz => by
        rcases HN4.out k hk z hz with h1 | h1
        · exact .inl (hF k hk z h1)
        · exact .inr (by omega)
      exact a2.trans HM5.out (fun z hz => by
        rcases List.mem_cons.1 hz with rfl | hz
        · exact .inl (by simp)
        · rcases List.mem_append.1 hz with hz | hz
          · exact hn4 0 (by decide) z hz
          · exact hn4 1 (by decide) z hz)
    · rcases HN5.out k hk g hg with h1 | h1
      · rcases HN4.out k hk g h1 with h2 | h2
        · exact .inl h2
        · exact .inr (by omega)
      · exact .inr (by omega)
    · have hg4 : ∀ z ∈ gp4, z ∈ gp ∨ W.heap.size ≤ z := fun z hz => by
        rcases HG4.out z hz with h1 | h1 | h1
        · exact .inl h1
        · exact .inl (HGA.out z h1)
        · exact .inr (by omega)
      rcases HG5.out g hg with h1 | h1 | h1
      · exact hg4 g h1
      · exact hg4 g (HGC.out g h1)
      · exact .inr (by omega)
end Go.Proofs.Ytnpfhfgegjocoaa
namespace Go.Proofs.Ytnpfhfgegjocoaa
open Go.RowKit

theorem dev_self (w : World) (d : Nat) : (binOp .neq 23 (.pointer (some ⟨d, 0, none⟩)) (.pointer (some ⟨d, 0, none⟩))).run Try.prog w = .ok (.bool false) w := by
  obtain ⟨j, hj⟩ := Option.isSome_iff_exists.1 (show (Try.prog.info? 85).isSome = true by kernel_rfl)
  have h : ∀ k : Nat, (Op.equalIn (k + 1) 23 (.pointer (some ⟨d, 0, none⟩)) (.pointer (some ⟨d, 0, none⟩))).run Try.prog w = .ok true w := fun k => by
    simp [Op.equalIn, run_underlying Try.underlying23, sizeOf, typeInfo, hj, run_sameAddr_same]
  simp only [binOp]
  simp [Op.equal, Op.maxDepth, h 9999]
theorem setDev_setDev (P : Pr) (s : Nat) (D E : Dev) : (P.setDev s D).setDev s E = P.setDev s E := by
  unfold Pr.setDev
  simp only
  congr 1
  funext k
  split <;> rfl
/-- Kill. -/
theorem gKill {W : World} {b : Nat} {gp : List Nat} {x : Nat → Nat} {fx : Nat → List Nat} {P : Pr} (hp : IsPair W b gp x fx P) {s : Nat} (hs : s < 2) :
    Calls Try.prog 32 #[.pointer (some ⟨x s, 0, none⟩)] W fun e w' => e = .returned (.tuple #[]) ∧ Hid (PairTo W w' b gp gp x fx fx (P.setDev s { P.dev s with gone := true })) := by
  refine (dKill_any (hp.dev s hs)).mono fun e w' ⟨h1, h2, h3⟩ => ⟨h1, ?_⟩
  have hto := PairTo.dev hp hs (dev_to h2 (h3.mono (fun z hz => by rw [List.mem_singleton.1 hz]; exact (hp.dev s hs).head))) ⟨rfl, rfl⟩
  rw [upd_self] at hto
  exact hto
/-- Replace, after a device was killed. -/
theorem gReplace {W0 W : World} {b : Nat} {gp : List Nat} {x : Nat → Nat} {fx : Nat → List Nat} {P : Pr} {s : Nat} (hs : s < 2) {E : Dev} (hp : IsPair W b gp x fx (P.setDev s E)) (h : Gd P) (_hEc : E.cache.length ≤ 900000) (hc : Few P 900000) {d : Nat} {fd : List Nat} (hd : IsDev W d fd (Dev.new 20 128))
    (hap : ∀ k, k < 2 → ∀ g ∈ fd, g ∉ fx k) (hgp : ∀ g ∈ gp, g ∉ fd) (hm : Mods [] W0 W) (hnF : ∀ k, k < 2 → ∀ g ∈ fx k, W0.heap.size ≤ g) (hnG : ∀ g ∈ gp, W0.heap.size ≤ g) (hnD : ∀ g ∈ fd, W0.heap.size ≤ g) :
    Calls Try.prog 29 #[.pointer (some ⟨b, 0, none⟩), .int .i64 (s : Nat), .pointer (some ⟨d, 0, none⟩)] W fun e w' => ∃ gp' fx' P', e = .returned (.int .i64 0) ∧ Hid (Own W0 w' (upd x s d) fx' b gp' P') ∧ Hid (∀ k, k < 2 → P'.tab k = P.tab k) ∧ Hid (∀ i : Nat, i < 12 → P'.read (1 - s) (i : Int) = P.read (1 - s) (i : Int)) ∧ Hid (Few P' 0) := by
  have hq := new_quiet 20 128 shape_right
  have hz : (Dev.new 20 128).size = (P.dev 0).size ∧ (Dev.new 20 128).sectors = (P.dev 0).sectors := ⟨h.size.symm, h.sec.symm⟩
  obtain ⟨P', k1, k2, k3, k4, k5, k6, k7⟩ := replace_inv h.pi hs hq (new_empty 20 128 (by omega)) hz
  have hss := setDev_setDev P s E (Dev.new 20 128)
  have hzE : (Dev.new 20 128).size = ((P.setDev s E).dev 0).size ∧ (Dev.new 20 128).sectors = ((P.setDev s E).dev 0).sectors := by
    have hsm := hp.same (1 - s) (by omega)
    have e : (P.setDev s E).dev (1 - s) = P.dev (1 - s) := by unfold Pr.setDev; simp; omega
    rw [e] at hsm
    have h2 := h.pi.inv.same (1 - s) (by omega)
    exact ⟨hz.1.trans (h2.1.symm.trans hsm.1), hz.2.trans (h2.2.symm.trans hsm.2)⟩
  have hcc : ∀ k, k < 2 → (((P.setDev s E).setDev s (Dev.new 20 128)).dev k).cache.length + 2 < 1000000 := by
    intro k hk
    rw [hss]
    show (if k = s then Dev.new 20 128 else P.dev k).cache.length + 2 < 1000000
    split
    · show (0 : Nat) + 2 < 1000000; omega
    · have := hc k hk; omega
  have hsp : ∀ k, k < 2 → ((P.setDev s E).tab k).spares = (P.setDev s E).n := fun k hk => (h.spares hk).trans h.n.symm
  have hk1 : (((P.setDev s E).setDev s (Dev.new 20 128)).keep s ((P.setDev s E).tab s)).1 = 0 := by rw [hss]; exact k1
  have hk2 : ((((P.setDev s E).setDev s (Dev.new 20 128)).keep s ((P.setDev s E).tab s)).2.keep (1 - s) ((P.setDev s E).tab (1 - s))) = (0, P') := by rw [hss]; exact k2
  have key : Calls Try.prog 29 #[.pointer (some ⟨b, 0, none⟩), .int .i64 (s : Nat), .pointer (some ⟨d, 0, none⟩)] W fun e w' => ∃ gp' fx', e = .returned (.int .i64 0) ∧ Hid (ReplTo W w' b gp gp' (upd x s d) fx (upd fx s fd) fx' fd P') := by
    rcases two_cases hs with rfl | rfl
    · have h9 := rReplace_0 hp hd hzE hap hgp hsp hcc hk1 (by rw [show (1 : Nat) = 1 - 0 from rfl, hk2])
      have e9 : ((((P.setDev 0 E).setDev 0 (Dev.new 20 128)).keep 0 ((P.setDev 0 E).tab 0)).2.keep 1 ((P.setDev 0 E).tab 1)).2 = P' := by
        have h8 := hk2
        rw [show 1 - 0 = 1 from rfl] at h8
        rw [h8]
      rw [e9] at h9; exact h9
    · have h9 := rReplace_1 hp hd hzE hap hgp hsp hcc hk1 (by rw [show (0 : Nat) = 1 - 1 from rfl, hk2])
      have e9 : ((((P.setDev 1 E).setDev 1 (Dev.new 20 128)).keep 1 ((P.setDev 1 E).tab 1)).2.keep 0 ((P.setDev 1 E).tab 0)).2 = P' := by
        have h8 := hk2
        rw [show 1 - 1 = 0 from rfl] at h8
        rw [h8]
      rw [e9] at h9; exact h9
  have hgd : Gd P' := by
    have a1 := k3.inv.same (1 - s) (by omega)
    have a2 := h.pi.inv.same (1 - s) (by omega)
    exact ⟨k3, k5.trans h.n, a1.1.symm.trans (k6.size.trans (a2.1.trans h.size)), a1.2.symm.trans (k6.sectors.trans (a2.2.trans h.sec))⟩
  refine key.mono fun e w' ⟨gp', fx', h1, h2⟩ => ⟨gp', fx', P', h1, ?_, k4, ?_, fun d hd => by rw [k7 d hd]; exact Nat.le_refl _⟩
  · have hsz := hm.size
    refine ⟨h2.out.pair, hgd, fun k hk g hg => ?_, fun g hg => ?_, hm.trans h2.out.mods (fun k hk => .inr ?_)⟩
    · rcases h2.out.newF k hk g hg with h3 | h3
      · by_cases e : k = s
        · subst e
          rw [upd_at] at h3
          exact hnD g h3
        · rw [upd_other _ _ e] at h3
          exact hnF k hk g h3
      · omega
    · rcases h2.out.newG g hg with h3 | h3
      · exact hnG g h3
      · omega
    · rcases List.mem_cons.1 hk with rfl | hk
      · exact hnG _ hp.at_b
      · rcases List.mem_append.1 hk with hk | hk
        · rcases List.mem_append.1 hk with hk | hk
          · exact hnF 0 (by decide) _ hk
          · exact hnF 1 (by decide) _ hk
        · exact hnD _ hk
  · intro i hi
    have hs1 : 1 - s < 2 := by omega
    have hib : i < (P.tab (1 - s)).blocks := by rw [h.blocks hs1]; exact hi
    rw [read_in hib, read_in (by rw [hgd.blocks hs1]; exact hi), k4 _ hs1]
    exact Dev.read_same k6 (h.pi.inv.dev _ hs1).q (k3.inv.dev _ hs1).q (by omega)
end Go.Proofs.Ytnpfhfgegjocoaa
