/- law08: fresh, sealed. -/
import Derived.Test.YtkjpdfomppjiiaaGreatDoorKC
import Derived.Test.YtkjpdfomppjiiaaGreatDoorKF
import Derived.Deep.CutRange
import Derived.Test.YtkjpdfomppjiiaaGreatDoorKH
import Derived.Test.YtkjpdfomppjiiaaGreatDoorKG
/- dev: turn. -/

/- dev.Garble. -/

/- A mirror that was made since W, its blocks none of F; what else may have turned. -/
namespace Go.Proofs.YtkjpdfomppjiiaaGreatDoor
open Go.RowKit

def Minds (F : List Nat) (w w' : World) : Prop := ∃ L, Mods L w w' ∧ ∀ k ∈ L, k ∉ F
section
variable {F G : List Nat} {w w' w1 w2 : World}
theorem Minds.refl (F : List Nat) (w : World) : Minds F w w := ⟨[], Mods.refl _ _, by simp⟩
theorem Minds.of (h : Mods [] w w') : Minds F w w' := ⟨[], h, by simp⟩
theorem Minds.trans (h : Minds F w w1) (g : Minds F w1 w2) : Minds F w w2 := by
 obtain ⟨L, h1, h2⟩ := h
 obtain ⟨K, g1, g2⟩ := g
 refine ⟨L ++ K, (h1.mono (fun k hk => List.mem_append_left _ hk)).trans g1 (fun k hk => .inl (List.mem_append_right _ hk)), fun k hk => ?_⟩
 rcases List.mem_append.1 hk with hk | hk
 ·exact h2 k hk
 ·exact g2 k hk
theorem Minds.mono (h : Minds F w w1) (hs : ∀ k ∈ G, k ∈ F) : Minds G w w1 := by
 obtain ⟨L, h1, h2⟩ := h
 exact ⟨L, h1, fun k hk hx => h2 k hk (hs k hx)⟩
theorem Minds.tr (h : Minds F w w1) (g : Mods [] w1 w2) : Minds F w w2 := h.trans (Minds.of g)
theorem Minds.blk (h : Minds F w w') {g : Nat} {t : TypeId} {l : List Value} (hb : Blk w g t l) (hg : g ∈ F) : Blk w' g t l := by
 obtain ⟨L, h1, h2⟩ := h
 exact hb.keep h1 (fun hx => h2 g hx hg)
theorem Minds.map (h : Minds F w w') {κ : Type} {kv : κ → Value} {g n : Nat} {f : κ → Option Value} (hb : MapK kv w g f n) (hg : g ∈ F) : MapK kv w' g f n := by
 obtain ⟨L, h1, h2⟩ := h
 exact hb.keep h1 (fun hx => h2 g hx hg)
theorem Minds.size (h : Minds F w w') : w.heap.size ≤ w'.heap.size := h.elim fun _ h => h.1.size
structure OwnM (W : World) (F : List Nat) (w : World) (b p : Nat) (x : Nat → Nat) (M : Mi) : Prop where
 ex : ∃ tb mb gp fx, IsM w b p tb mb gp x fx M ∧ ∀ g, g = b ∨ g = tb ∨ g = mb ∨ g ∈ gp ∨ g ∈ fx 0 ∨ g ∈ fx 1 → W.heap.size ≤ g ∧ g ∉ F
 mods : Mods [] W w
 lt : ∀ g ∈ F, g < w.heap.size
variable {W : World} {b p : Nat} {x : Nat → Nat} {M M' : Mi} {B z c : Nat}
theorem OwnM.turn (h : OwnM W F w b p x M) {tb mb : Nat} {gp gp' : List Nat} {fx fx' : Nat → List Nat} (hI : IsM w b p tb mb gp x fx M) (hf : ∀ g, g = b ∨ g = tb ∨ g = mb ∨ g ∈ gp ∨ g ∈ fx 0 ∨ g ∈ fx 1 → W.heap.size ≤ g ∧ g ∉ F) (g : MTo w w' b p tb mb gp gp' x fx fx' M') :
  Hid (OwnM W F w' b p x M') ∧ Hid (Minds F w w') := by
 have hs := h.mods.size
 have hL : ∀ k ∈ b :: mb :: p :: (fx 0 ++ fx 1), W.heap.size ≤ k ∧ k ∉ F := fun k hk => by
  rcases List.mem_cons.1 hk with rfl | hk
  ·exact hf _ (.inl rfl)
  ·rcases List.mem_cons.1 hk with rfl | hk
   ·exact hf _ (.inr (.inr (.inl rfl)))
   ·rcases List.mem_cons.1 hk with rfl | hk
    ·exact hf _ (.inr (.inr (.inr (.inl hI.at_p))))
    ·rcases List.mem_append.1 hk with hk | hk
     ·exact hf _ (.inr (.inr (.inr (.inr (.inl hk)))))
     ·exact hf _ (.inr (.inr (.inr (.inr (.inr hk)))))
 have hnew : ∀ k, w.heap.size ≤ k → W.heap.size ≤ k ∧ k ∉ F := fun k hk => ⟨by omega, fun hx => by have := h.lt k hx; omega⟩
 refine ⟨Lib.hid ⟨⟨tb, mb, gp', fx', g.is, fun k hk => ?_⟩, h.mods.trans g.mods (fun k hk => .inr (hL k hk).1), fun k hk => Nat.lt_of_lt_of_le (h.lt k hk) g.mods.size⟩, Lib.hid ⟨_, g.mods, fun k hk => (hL k hk).2⟩⟩
 rcases hk with rfl | rfl | rfl | hk | hk | hk
 ·exact hf _ (.inl rfl)
 ·exact hf _ (.inr (.inl rfl))
 ·exact hf _ (.inr (.inr (.inl rfl)))
 ·rcases g.newG k hk with h1 | h1
  ·exact hf _ (.inr (.inr (.inr (.inl h1))))
  ·exact hnew k h1
 ·rcases g.newF 0 (by decide) k hk with h1 | h1
  ·exact hf _ (.inr (.inr (.inr (.inr (.inl h1)))))
  ·exact hnew k h1
 ·rcases g.newF 1 (by decide) k hk with h1 | h1
  ·exact hf _ (.inr (.inr (.inr (.inr (.inr h1)))))
  ·exact hnew k h1
theorem OwnM.still (h : OwnM W F w b p x M) (hm : Mods [] w w1) : OwnM W F w1 b p x M := by
 obtain ⟨tb, mb, gp, fx, hI, hf⟩ := h.ex
 exact (h.turn hI hf (MTo.still hI hm)).1.out
theorem OwnM.foot_lt (h : OwnM W F w b p x M) : ∃ tb mb gp fx, IsM w b p tb mb gp x fx M ∧ ∀ g, g = b ∨ g = tb ∨ g = mb ∨ g ∈ gp ∨ g ∈ fx 0 ∨ g ∈ fx 1 → W.heap.size ≤ g ∧ g ∉ F ∧ g < w.heap.size := by
 obtain ⟨tb, mb, gp, fx, hI, hf⟩ := h.ex
 obtain ⟨l1, l2, l3⟩ := hI.lt
 refine ⟨tb, mb, gp, fx, hI, fun g hg => ⟨(hf g hg).1, (hf g hg).2, ?_⟩⟩
 rcases hg with rfl | rfl | rfl | hg | hg | hg
 ·exact l1
 ·exact l2
 ·exact l3
 ·exact hI.pair.pb.lt _ hg
 ·exact (hI.pair.dev 0 (by decide)).lt _ hg
 ·exact (hI.pair.dev 1 (by decide)).lt _ hg
theorem OwnM.protect (h : OwnM W F w b p x M) (hm : Mods [] w w1) (hG : ∀ g ∈ G, g ∈ F ∨ w.heap.size ≤ g ∧ g < w1.heap.size) : OwnM W G w1 b p x M := by
 obtain ⟨tb, mb, gp, fx, hI, hf⟩ := h.foot_lt
 refine ⟨⟨tb, mb, gp, fx, hI.still hm, fun g hg => ⟨(hf g hg).1, fun hx => ?_⟩⟩, h.mods.trans hm (by simp), fun g hg => ?_⟩
 ·rcases hG g hx with h1 | h1
  ·exact (hf g hg).2.1 h1
  ·have := (hf g hg).2.2; omega
 ·rcases hG g hg with h1 | h1
  ·exact Nat.lt_of_lt_of_le (h.lt g h1) hm.size
  ·exact h1.2
theorem OwnM.fewer (h : OwnM W F w b p x M) (hG : ∀ g ∈ G, g ∈ F) : OwnM W G w b p x M := h.protect (Mods.refl _ _) (fun g hg => .inl (hG g hg))
theorem OwnM.aside (h : OwnM W F w b p x M) {L : List Nat} (hm : Mods L w w1) (hL : ∀ k ∈ L, k ∈ F ∧ W.heap.size ≤ k) : OwnM W F w1 b p x M := by
 obtain ⟨tb, mb, gp, fx, hI, hf⟩ := h.ex
 have hno : ∀ g, g = b ∨ g = tb ∨ g = mb ∨ g ∈ gp ∨ g ∈ fx 0 ∨ g ∈ fx 1 → g ∉ L := fun g hg hx => (hf g hg).2 (hL g hx).1
 refine ⟨⟨tb, mb, gp, fx, hI.keep hm ⟨hno _ (.inl rfl), hno _ (.inr (.inl rfl)), hno _ (.inr (.inr (.inl rfl)))⟩ (fun g hg => hno _ (.inr (.inr (.inr (.inl hg))))) (fun k hk g hg => hno _ ?_), hf⟩, h.mods.trans hm (fun k hk => .inr (hL k hk).2), fun g hg => Nat.lt_of_lt_of_le (h.lt g hg) hm.size⟩
 rcases two_cases hk with rfl | rfl
 ·exact .inr (.inr (.inr (.inr (.inl hg))))
 ·exact .inr (.inr (.inr (.inr (.inr hg))))
theorem OwnM.n_le (h : OwnM W F w b p x M) : M.P.n ≤ 32 := by
 obtain ⟨tb, mb, gp, fx, hI, _⟩ := h.ex
 exact hI.n_le
theorem oWrite (h : OwnM W F w b p x M) (hF : Fine B z c M.P) (hc : c ≤ 700000) {i : Nat} (hi : i < B) {img : ByteArray} (hx : img.size = z) :
  Calls Tryz.prog 131 #[.pointer (some ⟨b, 0, none⟩), .int .i64 (i : Nat), .string img] w fun e w' => e = .returned (.int .i64 ((M.write i img).1 : Nat)) ∧ Hid (OwnM W F w' b p x (M.write i img).2) ∧ Hid (Minds F w w') := by
 obtain ⟨tb, mb, gp, fx, hI, hf⟩ := h.ex
 exact (mWrite_m hI hF hc hi hx).mono fun e w' ⟨gp', fx', h1, h2⟩ => ⟨h1, h.turn hI hf h2.out⟩
theorem oFlush (h : OwnM W F w b p x M) (hF : Fine B z c M.P) (hc : c ≤ 800000) :
  Calls Tryz.prog 50 #[.pointer (some ⟨b, 0, none⟩)] w fun e w' => e = .returned (.int .i64 ((M.flush).1 : Nat)) ∧ Hid (OwnM W F w' b p x (M.flush).2) ∧ Hid (Minds F w w') := by
 obtain ⟨tb, mb, gp, fx, hI, hf⟩ := h.ex
 exact (mFlush_m hI hF hc).mono fun e w' ⟨fx', h1, h2⟩ => ⟨h1, h.turn hI hf h2.out⟩
theorem oHeal (h : OwnM W F w b p x M) (hF : Fine B z c M.P) (hc : c ≤ 600000) (hr : M.reps < 900000000) {i : Nat} (hi : i < B) {img : ByteArray} (hx : img.size = z) :
  Calls Tryz.prog 88 #[.pointer (some ⟨b, 0, none⟩), .int .i64 (i : Nat), .string img] w fun e w' => e = .returned (.tuple #[.int .i64 ((M.heal i img).1 : Nat), .int .i64 0]) ∧ Hid (OwnM W F w' b p x (M.heal i img).2) ∧ Hid (Minds F w w') := by
 obtain ⟨tb, mb, gp, fx, hI, hf⟩ := h.ex
 exact (mHeal_m hI hF hc hr hi hx).mono fun e w' ⟨gp', fx', h1, h2⟩ => ⟨h1, h.turn hI hf h2.out⟩
theorem oChk (h : OwnM W F w b p x M) (hF : Fine B z c M.P) (hc : c ≤ 600000) (hr : M.reps < 900000000) (q : PtrE) {i : Nat} (hi : i < B) (hq : q.addr = (i : Int)) :
  Calls Tryz.prog 153 #[.pointer (some ⟨b, 0, none⟩), ptrV q] w fun e w' => e = .returned (.tuple #[.int .i64 ((M.check q i).1.1 : Nat), .int .i64 ((M.check q i).1.2 : Nat)]) ∧ Hid (OwnM W F w' b p x (M.check q i).2) ∧ Hid (Minds F w w') := by
 obtain ⟨tb, mb, gp, fx, hI, hf⟩ := h.ex
 exact (mChk_m hI hF hc hr q hi hq).mono fun e w' ⟨gp', fx', h1, h2⟩ => ⟨h1, h.turn hI hf h2.out⟩
theorem oImages (h : OwnM W F w b p x M) (hF : Fine B z c M.P) (hc : c ≤ 800000) {i : Nat} (hi : i < B) :
  Calls Tryz.prog 78 #[.pointer (some ⟨b, 0, none⟩), .int .i64 (i : Nat)] w fun e w' => ∃ A k n, e = .returned (.tuple #[.slice A n k, .int .i64 0]) ∧ Hid (OwnM W F w' b p x M) ∧ Hid (Minds F w w') ∧ Hid (w'.ownsRow 0 9 1 (.slice A n k) n ((M.imgs i).map Value.string)) ∧ Hid (∀ g, (Value.slice A n k).ownBlock = some g → w.heap.size ≤ g) := by
 obtain ⟨tb, mb, gp, fx, hI, hf⟩ := h.ex
 exact (mImages_m hI hF hc hi).mono fun e w' ⟨A, k, n, h1, h2⟩ => ⟨A, k, n, h1, (h.turn hI hf h2.out.to_).1, (h.turn hI hf h2.out.to_).2, Lib.hid h2.out.own, Lib.hid h2.out.new⟩
theorem oDegr (h : OwnM W F w b p x M) : Calls Tryz.prog 24 #[.pointer (some ⟨b, 0, none⟩)] w fun e w' => e = .returned (.bool ((M.P.dev 0).gone || (M.P.dev 1).gone)) ∧ w = w' := by
 obtain ⟨tb, mb, gp, fx, hI, hf⟩ := h.ex
 exact mDegr_m hI
theorem oPair (h : OwnM W F w b p x M) : Calls Tryz.prog 21 #[.pointer (some ⟨b, 0, none⟩)] w fun e w' => e = .returned (.pointer (some ⟨p, 0, none⟩)) ∧ w = w' := by
 obtain ⟨tb, mb, gp, fx, hI, hf⟩ := h.ex
 exact mPair_m hI
theorem OwnM.dev (h : OwnM W F w b p x M) {tb mb : Nat} {gp : List Nat} {fx : Nat → List Nat} (hI : IsM w b p tb mb gp x fx M) (hf : ∀ g, g = b ∨ g = tb ∨ g = mb ∨ g ∈ gp ∨ g ∈ fx 0 ∨ g ∈ fx 1 → W.heap.size ≤ g ∧ g ∉ F) {s : Nat} (hs : s < 2) {fp' : List Nat} {D' : Dev} (g : DevTo w w' (x s) (fx s) fp' D') (hd : D'.size = (M.P.dev s).size ∧ D'.sectors = (M.P.dev s).sectors) :
  Hid (OwnM W F w' b p x { M with P := M.P.setDev s D' }) ∧ Hid (Minds F w w') := h.turn hI hf (hI.pairTo (PairTo.dev hI.pair hs g hd))
theorem oKill (h : OwnM W F w b p x M) {s : Nat} (hs : s < 2) :
  Calls Tryz.prog 17 #[.pointer (some ⟨x s, 0, none⟩)] w fun e w' => e = .returned (.tuple #[]) ∧ Hid (OwnM W F w' b p x { M with P := M.P.setDev s { M.P.dev s with gone := true } }) ∧ Hid (Minds F w w') := by
 obtain ⟨tb, mb, gp, fx, hI, hf⟩ := h.ex
 exact (dKill_any (hI.pair.dev s hs)).mono fun e w' ⟨h1, h2, h3⟩ => ⟨h1, h.dev hI hf hs (dev_to h2 (h3.mono (fun k hk => by rw [List.mem_singleton.1 hk]; exact (hI.pair.dev s hs).head))) ⟨rfl, rfl⟩⟩
end
end Go.Proofs.YtkjpdfomppjiiaaGreatDoor
/- The mirror, its devices there: what reads, plainly. -/
namespace Go.Proofs.YtkjpdfomppjiiaaGreatDoor

def Sound (P : Pr) : Prop := ∀ d, d < 2 → ∀ j, 4 ≤ j → (P.dev d).bad.getD j false = false
theorem Sound.alike {P P' : Pr} (h : Sound P) (g : Alike P P') : Sound P' := fun d hd j hj => by rw [g.bad d hd]; exact h d hd j hj
structure Gm (B z n c : Nat) (M : Mi) : Prop where
 pi : PI M.P
 nn : M.P.n = n
 size : (M.P.dev 0).size = z
 blocks : ∀ s, s < 2 → (M.P.tab s).blocks = B
 few : ∀ d, d < 2 → (M.P.dev d).cache.length ≤ c
 bad : M.bl ≠ [] → ∃ s, s < 2 ∧ (M.P.tab s).moved.length = n
theorem write_nine : ∀ (k : Nat) (P : Pr) (s i : Nat) (x : ByteArray), PI P → s < 2 → i < (P.tab s).blocks → x.size = (P.dev 0).size → ∀ P', Pr.write k P s (i : Int) x = (9, P') → (P'.read s (i : Int)).2 = 7
 | 0, P, s, i, x, _, _, _, _, P', e => by simp [Pr.write] at e
 | k + 1, P, s, i, x, h, hs, hi, hx, P', e => by
  cases hb : (P.dev s).bad.getD (((P.tab s).at_ (i : Int)).1 + 4) false with
  | false =>
   obtain ⟨P1, h1, _⟩ := write_good h hs hi hx hb k
   rw [h1] at e
   injection e with e _
   cases e
  | true =>
   rw [write_bad h hs hi hx hb k] at e
   by_cases hm : (P.tab s).moved.length < (P.tab s).spares
   ·have hmv := Tab.mv_ok hi hm
    obtain ⟨P1, e1, hP1, ht1, hst1, hc1⟩ := move_inv (i := (i : Int)) h hs (by rw [hmv])
    rw [e1] at e
    simp only [ne_eq, not_true_eq_false, if_false] at e
    refine write_nine k P1 s i x hP1 hs ?_ (by rw [(hst1.same 0 (by decide)).size]; exact hx) P' e
    rw [ht1]
    simp
    exact hi
   ·have hmv := Tab.mv_full hi hm
    have e1 : P.move s (i : Int) = (9, P) := by unfold Pr.move; rw [hmv]; simp
    rw [e1] at e
    simp only [ne_eq] at e
    rw [if_pos (by simp)] at e
    injection e with _ e
    rw [← e, read_bad h hs hi hb]
section
variable {B z n c : Nat} {M : Mi}
theorem Gm.fine (h : Gm B z n c M) : Fine B z c M.P :=
 ⟨fun d hd => ⟨(h.pi.inv.dev d hd).q.off, (h.pi.inv.dev d hd).q.fuse, (h.pi.inv.same d hd).1.trans h.size, h.few d hd⟩, fun s hs => (h.pi.slots s hs).spares, h.blocks⟩
theorem Gm.mono {c' : Nat} (h : Gm B z n c M) (hl : c ≤ c') : Gm B z n c' M := ⟨h.pi, h.nn, h.size, h.blocks, fun d hd => Nat.le_trans (h.few d hd) hl, h.bad⟩
theorem Gm.n_le (h : Gm B z n c M) : M.P.n ≤ 32 := h.pi.inv.fit.2.1
theorem Gm.gone (h : Gm B z n c M) {d : Nat} (hd : d < 2) : (M.P.dev d).gone = false := (h.pi.inv.dev d hd).q.gone
theorem Gm.none (h : Gm B z n c M) (o : Nat) : M.none o = o := by unfold Mi.none; rw [h.gone (by decide)]; simp
theorem Gm.put (h : Gm B z n c M) {s i : Nat} (hs : s < 2) (hi : i < B) {x : ByteArray} (hx : x.size = z) :
  ∃ k M', M.put s i x = (k, M') ∧ Gm B z n (c + 1) M' ∧ M'.reps = M.reps ∧ (∀ d j, d < 2 → j < B → (d ≠ s ∨ j ≠ i) → M'.P.read d (j : Int) = M.P.read d (j : Int)) ∧
   (k = 0 ∧ M'.P.read s (i : Int) = (x, 0) ∨ k = 9 ∧ (M.P.read s (i : Int)).2 = 7 ∧ (M'.P.read s (i : Int)).2 = 7 ∧ (M'.P.tab s).moved.length = n) ∧
   (∀ d, d < 2 → (M.P.tab d).moved.length = n → (M'.P.tab d).moved.length = n) ∧ Alike M.P M'.P ∧ (k = 0 → M.bl = [] → M'.bl = []) := by
 have hib : i < (M.P.tab s).blocks := by rw [h.blocks s hs]; exact hi
 have hxs : x.size = (M.P.dev 0).size := by rw [hx, h.size]
 have hsp := (h.pi.slots s hs).spares
 obtain ⟨k, P', m, w1, w2, w3, w4, w5, w6⟩ := write_inv (M.P.n + 1) M.P s i x h.pi hs hib hxs (by rw [hsp]; omega)
 obtain ⟨_, al, _⟩ := Fine.write (M.P.n + 1) h.fine hs (i : Int) x
 rw [w1] at al
 have hts : P'.tab s = (M.P.tab s).moves m i := by rw [w3]; simp
 have hto : ∀ d, d ≠ s → P'.tab d = M.P.tab d := fun d hd => by rw [w3]; simp [hd]
 have hblk : ∀ d, d < 2 → (P'.tab d).blocks = B := fun d hd => by
  by_cases e : d = s
  ·rw [e, hts]; exact h.blocks s hs
  ·rw [hto d e]; exact h.blocks d hd
 have hn' : P'.n = n := w4.n.trans h.nn
 have hsp' : ∀ d, d < 2 → (P'.tab d).spares = n := fun d hd => by rw [(w2.slots d hd).spares, hn']
 have hfull : ∀ d, d < 2 → (M.P.tab d).moved.length = n → (P'.tab d).moved.length = n := fun d hd e => by
  by_cases e2 : d = s
  ·have hl := (w2.slots d hd).tok.len
   rw [hsp' d hd] at hl
   have : (M.P.tab d).moved.length ≤ (P'.tab d).moved.length := by
    rw [e2, hts]
    show _ ≤ ((M.P.tab s).moved ++ List.replicate m i).length
    simp
   omega
  ·rw [hto d e2]; exact e
 have hput : M.put s i x = (k, { M with P := P', bl := if k = 9 then addB M.bl (s, i) else if k = 0 then remB M.bl (s, i) else M.bl }) := by unfold Mi.put; simp only; rw [w1]
 refine ⟨k, _, hput, ⟨w2, hn', ?_, hblk, fun d hd => ?_, fun hb => ?_⟩, rfl, fun d j hd hj hne => ?_, ?_, hfull, al, fun k0 hb => ?_⟩
 ·show (P'.dev 0).size = z
  rw [(w4.same 0 (by decide)).size]; exact h.size
 ·have h1 := w6 d hd
  have h2 := h.few d hd
  show (P'.dev d).cache.length ≤ c + 1
  omega
 ·show ∃ s, s < 2 ∧ (P'.tab s).moved.length = n
  rcases w5 with ⟨k0, _⟩ | ⟨k9, h9, _⟩
  ·have hbl : M.bl ≠ [] := fun e => hb (by
    subst k0
    show (if (0 : Nat) = 9 then addB M.bl (s, i) else if (0 : Nat) = 0 then remB M.bl (s, i) else M.bl) = []
    rw [if_neg (by decide), if_pos rfl, e]; rfl)
   obtain ⟨q, hq, hq2⟩ := h.bad hbl
   exact ⟨q, hq, hfull q hq hq2⟩
  ·exact ⟨s, hs, by rw [h9, hsp' s hs]⟩
 ·have hjb : j < (M.P.tab d).blocks := by rw [h.blocks d hd]; exact hj
  refine read_stays h.pi w2 w4 hd hjb (by rw [hblk d hd, h.blocks d hd]) ?_ ⟨by omega, fun e => ?_⟩
  ·by_cases e : d = s
   ·subst e
    rw [hts]
    exact Tab.at_moveds hjb (by rcases hne with h1 | h1; exact absurd rfl h1; exact fun e => h1 e.symm) m
   ·rw [hto d e]
  ·subst e
   have hne' : j ≠ i := by rcases hne with h1 | h1; exact absurd rfl h1; exact h1
   have ha : (P'.tab d).at_ (j : Int) = (M.P.tab d).at_ (j : Int) := by rw [hts]; exact Tab.at_moveds hjb (fun e => hne' e.symm) m
   rw [← ha]
   intro e
   exact hne' (Tab.at_inj (by rw [hblk d hd]; exact hj) (by rw [hblk d hd]; exact hi) (by omega))
 ·rcases w5 with ⟨k0, hr⟩ | ⟨k9, h9, hr⟩
  ·exact .inl ⟨k0, hr⟩
  ·subst k9
   exact .inr ⟨rfl, hr, write_nine _ _ _ _ _ h.pi hs hib hxs _ w1, by show (P'.tab s).moved.length = n; rw [h9, hsp' s hs]⟩
 ·subst k0
  show (if (0 : Nat) = 9 then addB M.bl (s, i) else if (0 : Nat) = 0 then remB M.bl (s, i) else M.bl) = []
  rw [if_neg (by decide), if_pos rfl, hb]; rfl
theorem Gm.put_full (h : Gm B z n c M) {s i : Nat} (hs : s < 2) (hi : i < B) {x : ByteArray} (hx : x.size = z) (hr : (M.P.read s (i : Int)).2 = 7) (hf : (M.P.tab s).moved.length = n) :
  (M.put s i x).1 = 9 ∧ (M.put s i x).2.P = M.P := by
 have hib : i < (M.P.tab s).blocks := by rw [h.blocks s hs]; exact hi
 have hb : (M.P.dev s).bad.getD (((M.P.tab s).at_ (i : Int)).1 + 4) false = true := by
  cases hb : (M.P.dev s).bad.getD (((M.P.tab s).at_ (i : Int)).1 + 4) false with
  | true => rfl
  | false => rw [read_ok h.pi hs hib hb] at hr; cases hr
 have hw := write_bad h.pi hs hib (x := x) (by rw [hx, h.size]) hb M.P.n
 have hmv := Tab.mv_full hib (by rw [hf, (h.pi.slots s hs).spares, h.nn]; omega)
 have e1 : M.P.move s (i : Int) = (9, M.P) := by unfold Pr.move; rw [hmv]; simp
 rw [e1] at hw
 simp only [ne_eq] at hw
 rw [if_pos (by simp)] at hw
 unfold Mi.put
 simp only
 rw [hw]
 exact ⟨rfl, rfl⟩
theorem Gm.put_ok (h : Gm B z n c M) (hn : Sound M.P) {s i : Nat} (hs : s < 2) (hi : i < B) {x : ByteArray} (hx : x.size = z) :
  ∃ M', M.put s i x = (0, M') ∧ Gm B z n (c + 1) M' ∧ Sound M'.P ∧ M'.reps = M.reps ∧ M'.P.tab = M.P.tab ∧ M'.P.read s (i : Int) = (x, 0) ∧ (∀ d j, d < 2 → j < B → (d ≠ s ∨ j ≠ i) → M'.P.read d (j : Int) = M.P.read d (j : Int)) ∧ (M.bl = [] → M'.bl = []) := by
 obtain ⟨k, M', e, g, r, o, q, _, al, bl⟩ := h.put hs hi hx
 have hib : i < (M.P.tab s).blocks := by rw [h.blocks s hs]; exact hi
 have hb := hn s hs (((M.P.tab s).at_ (i : Int)).1 + 4) (by omega)
 rcases q with ⟨rfl, hr⟩ | ⟨_, hr, _⟩
 ·obtain ⟨P1, e1, _, t1, _⟩ := write_good h.pi hs hib (x := x) (by rw [hx, h.size]) hb M.P.n
  have hP : M'.P = P1 := by
   have e2 := congrArg (fun y : Nat × Mi => y.2.P) e
   simp only at e2
   rw [← e2]
   unfold Mi.put
   simp only
   rw [e1]
  exact ⟨M', e, g, hn.alike al, r, by rw [hP, t1], hr, o, bl rfl⟩
 ·rw [read_ok h.pi hs hib hb] at hr; cases hr
theorem Gm.write_ok (h : Gm B z n c M) (hn : Sound M.P) {i : Nat} (hi : i < B) {x : ByteArray} (hx : x.size = z) :
  ∃ M', M.write i x = (0, M') ∧ Gm B z n (c + 2) M' ∧ Sound M'.P ∧ M'.reps = M.reps ∧ M'.P.tab = M.P.tab ∧ (∀ s, s < 2 → M'.P.read s (i : Int) = (x, 0)) ∧ (∀ d j, d < 2 → j < B → j ≠ i → M'.P.read d (j : Int) = M.P.read d (j : Int)) ∧ (M.bl = [] → M'.bl = []) := by
 obtain ⟨M1, e1, g1, n1, r1, t1, x1, o1, b1⟩ := h.put_ok hn (s := 0) (by decide) hi hx
 obtain ⟨M2, e2, g2, n2, r2, t2, x2, o2, b2⟩ := g1.put_ok n1 (s := 1) (by decide) hi hx
 refine ⟨M2, ?_, g2, n2, r2.trans r1, t2.trans t1, fun s hs => ?_, fun d j hd hj hne => (o2 d j hd hj (.inr hne)).trans (o1 d j hd hj (.inr hne)), fun hb => b2 (b1 hb)⟩
 ·unfold Mi.write
  simp only
  rw [e1]
  simp only
  rw [e2]
  simp
 ·rcases two_cases hs with rfl | rfl
  ·exact (o2 0 i (by decide) hi (.inl (by decide))).trans x1
  ·exact x2
theorem Gm.flush (h : Gm B z n c M) : ∃ M', M.flush = (0, M') ∧ Gm B z n c M' ∧ Alike M.P M'.P ∧ M'.reps = M.reps ∧ M'.bl = M.bl ∧ M'.P.tab = M.P.tab ∧ (∀ d j, d < 2 → j < B → M'.P.read d (j : Int) = M.P.read d (j : Int)) ∧ (∀ d, d < 2 → (M'.P.dev d).cache = []) := by
 obtain ⟨D0, e0, q0, s0, c0⟩ := dflush_inv (h.pi.inv.dev 0 (by decide))
 obtain ⟨p1, st1⟩ := h.pi.setDev (s := 0) (by decide) q0 s0 (fun _ _ => trivial)
 obtain ⟨D1, e1, q1, s1, c1⟩ := dflush_inv (h.pi.inv.dev 1 (by decide))
 have hd1 : (M.P.setDev 0 D0).dev 1 = M.P.dev 1 := rfl
 obtain ⟨p2, st2⟩ := p1.setDev (s := 1) (by decide) q1 (by rw [hd1]; exact s1) (fun _ _ => trivial)
 have hf0 : M.P.flush 0 = (0, M.P.setDev 0 D0) := by unfold Pr.flush; rw [e0]
 have hf1 : (M.P.setDev 0 D0).flush 1 = (0, (M.P.setDev 0 D0).setDev 1 D1) := by unfold Pr.flush; rw [hd1, e1]
 have hfl : M.flush = (0, { M with P := (M.P.setDev 0 D0).setDev 1 D1 }) := by
  unfold Mi.flush
  rw [hf0]
  simp only
  rw [hf1]
  simp only
  congr 1
  unfold Mi.none
  show (if (D0.gone && D1.gone) = true then 8 else 0) = 0
  rw [q0.q.gone]; simp
 have al : Alike M.P ((M.P.setDev 0 D0).setDev 1 D1) := by
  obtain ⟨f1, a1, _⟩ := h.fine.flush (s := 0) (by decide)
  rw [hf0] at f1 a1
  obtain ⟨_, a2, _⟩ := f1.flush (s := 1) (by decide)
  rw [hf1] at a2
  exact a1.trans a2
 have st := (st1.mono (fun (d j : Nat) (_ : True) => (fun _ => trivial : d = 0 → True))).trans (st2.mono (fun (d j : Nat) (_ : True) => (fun _ => trivial : d = 1 → True)))
 have hc : ∀ d, d < 2 → (((M.P.setDev 0 D0).setDev 1 D1).dev d).cache = [] := fun d hd => by
  rcases two_cases hd with rfl | rfl
  ·exact c0
  ·exact c1
 refine ⟨_, hfl, ⟨p2, st.n.trans h.nn, ?_, h.blocks, fun d hd => by show (((M.P.setDev 0 D0).setDev 1 D1).dev d).cache.length ≤ c; rw [hc d hd]; exact Nat.zero_le _, h.bad⟩, al, rfl, rfl, rfl, fun d j hd hj => ?_, hc⟩
 ·exact (st.same 0 (by decide)).size.trans h.size
 ·exact read_stays h.pi p2 st hd (by rw [h.blocks d hd]; exact hj) rfl rfl trivial
theorem Gm.repair_eq (h : Gm B z n c M) {s : Nat} (hs : s < 2) (i : Nat) (x : ByteArray) : M.repair s i x = (decide ((M.put s i x).1 = 0), if (M.put s i x).1 = 0 then { (M.put s i x).2 with reps := (M.put s i x).2.reps + 1 } else (M.put s i x).2) := by
 unfold Mi.repair
 rw [if_neg (by rw [h.gone hs]; decide)]
theorem Gm.same (h : Gm B z n c M) {M' : Mi} (hP : M'.P = M.P) (hb : M'.bl = M.bl) : Gm B z n c M' := ⟨by rw [hP]; exact h.pi, by rw [hP]; exact h.nn, by rw [hP]; exact h.size, by rw [hP]; exact h.blocks, by rw [hP]; exact h.few, by rw [hP, hb]; exact h.bad⟩
end
end Go.Proofs.YtkjpdfomppjiiaaGreatDoor
/- What harms a copy of a block, plainly: garbled, overwritten, stuck. -/
namespace Go.Proofs.YtkjpdfomppjiiaaGreatDoor

section
variable {B z n c : Nat} {M : Mi}
def Still (B n : Nat) (P : Pr) : Prop := ∀ s, s < 2 → P.tab s = ⟨B, n, []⟩
theorem Still.at_ {P : Pr} (h : Still B n P) {s i : Nat} (hs : s < 2) (hi : i < B) : ((P.tab s).at_ (i : Int)).1 = i := by
 rw [h s hs, Tab.at_in (by exact hi)]; rfl
theorem Gm.sec (h : Gm B z n c M) (ht : Still B n M.P) {s i : Nat} (hs : s < 2) (hi : i < B) : i + 4 < (M.P.dev s).sectors := by
 have := h.pi.at_lt hs (i := i) (by rw [h.blocks s hs]; exact hi)
 rw [ht.at_ hs hi] at this
 exact this
theorem Gm.device (h : Gm B z n c M) (ht : Still B n M.P) {s i : Nat} (hs : s < 2) (_hi : i < B) {D' : Dev} (hq : DevQ D') (hsm : Dev.Same (M.P.dev s) D' (· ≠ i + 4)) {c' : Nat} (hc : c ≤ c') (hl : D'.cache.length ≤ c') :
  Gm B z n c' { M with P := M.P.setDev s D' } ∧ Still B n (M.P.setDev s D') ∧ (∀ d j, d < 2 → j < B → (d ≠ s ∨ j ≠ i) → (M.P.setDev s D').read d (j : Int) = M.P.read d (j : Int)) := by
 obtain ⟨p1, st⟩ := h.pi.setDev hs hq hsm (fun j hj => by omega)
 refine ⟨⟨p1, h.nn, (st.same 0 (by decide)).size.trans h.size, h.blocks, fun d hd => ?_, h.bad⟩, ht, fun d j hd hj hne => ?_⟩
 ·show (if d = s then D' else M.P.dev d).cache.length ≤ c'
  split
  ·exact hl
  ·exact Nat.le_trans (h.few d hd) hc
 ·refine read_stays h.pi p1 st hd (by rw [h.blocks d hd]; exact hj) rfl rfl (fun e => ?_)
  rw [ht.at_ hd hj]
  rcases hne with h1 | h1
  ·exact absurd e h1
  ·omega
end
end Go.Proofs.YtkjpdfomppjiiaaGreatDoor
/- Read and Check of a block, plainly: where one copy is whole and no other one is taken for it. -/
namespace Go.Proofs.YtkjpdfomppjiiaaGreatDoor

section
variable {B z n c : Nat} {M : Mi}
theorem Mi.has_iff {q : PtrE} {s i : Nat} {X : ByteArray} (hr : M.P.read s (i : Int) = (X, 0)) : M.has q s i = meetsL q X.toList := by
 unfold Mi.has
 rw [hr]; simp
structure Cop (M : Mi) (q : PtrE) (X : ByteArray) (i : Nat) : Prop where
 only : ∀ s, s < 2 → M.has q s i = true → M.P.read s (i : Int) = (X, 0)
 one : ∃ s, s < 2 ∧ M.P.read s (i : Int) = (X, 0)
 meets : meetsL q X.toList = true
theorem Cop.whole {q : PtrE} {X : ByteArray} {i : Nat} (h : Cop M q X i) : ∃ s, s < 2 ∧ M.whole q i = (X, s, 0) ∧ (∀ k, k < s → M.has q k i = false) ∧ M.P.read s (i : Int) = (X, 0) := by
 obtain ⟨s, hs, hr⟩ := h.one
 have hh : M.has q s i = true := by rw [Mi.has_iff hr]; exact h.meets
 cases h0 : M.has q 0 i with
 | true =>
  have h1 := h.only 0 (by decide) h0
  exact ⟨0, by decide, by rw [Mi.whole_at (by decide) (fun k hk => by omega) h0, h1], fun k hk => by omega, h1⟩
 | false =>
  have e : s = 1 := by
   rcases two_cases hs with rfl | rfl
   ·rw [h0] at hh; cases hh
   ·rfl
  subst e
  exact ⟨1, by decide, by rw [Mi.whole_at (by decide) (fun k hk => by rw [show k = 0 by omega]; exact h0) hh, hr], fun k hk => by rw [show k = 0 by omega]; exact h0, hr⟩
def Done (n : Nat) (M : Mi) (X : ByteArray) (i s : Nat) : Prop := M.P.read s (i : Int) = (X, 0) ∨ (M.P.read s (i : Int)).2 = 7 ∧ (M.P.tab s).moved.length = n
structure But (B n i : Nat) (M M' : Mi) : Prop where
 reads : ∀ d j, d < 2 → j < B → j ≠ i → M'.P.read d (j : Int) = M.P.read d (j : Int)
 full : ∀ d, d < 2 → (M.P.tab d).moved.length = n → (M'.P.tab d).moved.length = n
 alike : Alike M.P M'.P
theorem But.refl (B n i : Nat) (M : Mi) : But B n i M M := ⟨fun _ _ _ _ _ => rfl, fun _ _ h => h, Alike.refl _⟩
theorem But.trans {i : Nat} {M1 M2 : Mi} (h : But B n i M M1) (g : But B n i M1 M2) : But B n i M M2 :=
 ⟨fun d j hd hj hne => (g.reads d j hd hj hne).trans (h.reads d j hd hj hne), fun d hd hf => g.full d hd (h.full d hd hf), h.alike.trans g.alike⟩
theorem Gm.repair (h : Gm B z n c M) {s i : Nat} (hs : s < 2) (hi : i < B) {x : ByteArray} (hx : x.size = z) :
  ∃ ok M', M.repair s i x = (ok, M') ∧ Gm B z n (c + 1) M' ∧ But B n i M M' ∧ Done n M' x i s ∧ M'.P.read (1 - s) (i : Int) = M.P.read (1 - s) (i : Int) ∧ M'.reps = M.reps + (if ok then 1 else 0) ∧ (ok = true ↔ M'.P.read s (i : Int) = (x, 0)) ∧ (ok = true → M.bl = [] → M'.bl = []) := by
 obtain ⟨k, M1, e, g, r, o, q, f, al, bl⟩ := h.put hs hi hx
 have hb : But B n i M M1 := ⟨fun d j hd hj hne => o d j hd hj (.inr hne), f, al⟩
 have ho := o (1 - s) i (by omega) hi (.inl (by omega))
 rw [h.repair_eq hs, e]
 simp only
 rcases q with ⟨rfl, hr⟩ | ⟨rfl, h7, h7', hf⟩
 ·refine ⟨true, { M1 with reps := M1.reps + 1 }, rfl, g.same rfl rfl, ⟨hb.reads, hb.full, hb.alike⟩, .inl hr, ho, by simp [r], by simp [hr], fun _ hbl => bl rfl hbl⟩
 ·refine ⟨false, M1, rfl, g, hb, .inr ⟨h7', hf⟩, ho, by simp [r], ⟨fun e => by simp at e, fun e => ?_⟩, fun e => by simp at e⟩
  rw [e] at h7'; cases h7'
theorem Gm.repair_ok (h : Gm B z n c M) (hn : Sound M.P) {s i : Nat} (hs : s < 2) (hi : i < B) {x : ByteArray} (hx : x.size = z) :
  ∃ M', M.repair s i x = (true, M') ∧ Gm B z n (c + 1) M' ∧ Sound M'.P ∧ M'.P.read s (i : Int) = (x, 0) ∧ (∀ d j, d < 2 → j < B → (d ≠ s ∨ j ≠ i) → M'.P.read d (j : Int) = M.P.read d (j : Int)) ∧ M'.reps = M.reps + 1 ∧ M'.P.tab = M.P.tab ∧ (M.bl = [] → M'.bl = []) := by
 obtain ⟨M1, e, g, n1, r, t, x1, o, b⟩ := h.put_ok hn hs hi hx
 rw [h.repair_eq hs, e]
 exact ⟨{ M1 with reps := M1.reps + 1 }, rfl, g.same rfl rfl, n1, x1, o, by rw [← r], t, b⟩
theorem Gm.healS (h : Gm B z n c M) {s i : Nat} (hs : s < 2) (hi : i < B) {x : ByteArray} (hx : x.size = z) :
  ∃ k M', M.healS s i x = (k, M') ∧ k ≤ 1 ∧ Gm B z n (c + 1) M' ∧ But B n i M M' ∧ Done n M' x i s ∧ M'.P.read (1 - s) (i : Int) = M.P.read (1 - s) (i : Int) ∧ M'.reps = M.reps + k ∧ (M.P.read s (i : Int) = (x, 0) → k = 0 ∧ M' = M) ∧ (Done n M x i s → k = 0 ∧ M'.P = M.P) := by
 unfold Mi.healS
 by_cases hr : M.P.read s (i : Int) = (x, 0)
 ·rw [if_pos hr]
  exact ⟨0, M, rfl, by omega, h.mono (by omega), But.refl _ _ _ _, .inl hr, rfl, rfl, fun _ => ⟨rfl, rfl⟩, fun _ => ⟨rfl, rfl⟩⟩
 ·rw [if_neg hr]
  obtain ⟨ok, M', e, g1, b1, d1, r1, p1, q1, _⟩ := h.repair hs hi hx
  rw [e]
  refine ⟨if ok = true then 1 else 0, M', rfl, by split <;> omega, g1, b1, d1, r1, p1, fun e => absurd e hr, fun hd => ?_⟩
  rcases hd with hd | ⟨h7, hf⟩
  ·exact absurd hd hr
  ·obtain ⟨k9, hP⟩ := h.put_full hs hi hx h7 hf
   rw [h.repair_eq hs, k9] at e
   simp only at e
   injection e with e1 e2
   rw [← e1, ← e2]
   exact ⟨by decide, hP⟩
end
end Go.Proofs.YtkjpdfomppjiiaaGreatDoor
namespace Go.Proofs.YtkjpdfomppjiiaaGreatDoor
open Go.RowKit

structure Gfresh (B z n : Nat) (M : Mi) : Prop where
 gm : Gm B z n 0 M
 sound : Sound M.P
 tab : ∀ s, s < 2 → M.P.tab s = ⟨B, n, []⟩
 zero : ∀ s i, s < 2 → i < B → M.P.read s (i : Int) = (bA (zerosL z), 0)
 bl : M.bl = []
 reps : M.reps = 0
theorem newdev_bad (n s j : Nat) : (Dev.new n s).bad.getD j false = false := by
 show (List.replicate n false).getD j false = false
 rw [List.getD_eq_getElem?_getD, List.getElem?_replicate]
 split <;> rfl
theorem fresh_gm (B z n : Nat) (hr : Dev.right ((B + 4 + n : Nat) : Int) (z : Int) = true) (h1 : n ≤ 32) (h2 : 8 + 2 * n + 24 ≤ z) (h3 : 2 ≤ B) :
  (newP n (fun _ => Dev.new (B + 4 + n) z)).Fit ∧ ∃ P', ((newP n (fun _ => Dev.new (B + 4 + n) z)).keep 0 (tab0 (newP n (fun _ => Dev.new (B + 4 + n) z)))).1 = 0 ∧ (((newP n (fun _ => Dev.new (B + 4 + n) z)).keep 0 (tab0 (newP n (fun _ => Dev.new (B + 4 + n) z)))).2.keep 1 (tab0 (newP n (fun _ => Dev.new (B + 4 + n) z)))) = (0, P') ∧ Gfresh B z n ⟨P', [], 0⟩ := by
 have hfit : (newP n (fun _ => Dev.new (B + 4 + n) z)).Fit := ⟨hr, h1, h2, by show 6 + n ≤ B + 4 + n; omega⟩
 have hinv : PInv0 (newP n (fun _ => Dev.new (B + 4 + n) z)) := ⟨fun _ _ => new_quiet (B + 4 + n) z hr, fun _ _ => ⟨rfl, rfl⟩, hfit⟩
 obtain ⟨P', k1, k2, k3, k4, k5, k6⟩ := format_inv hinv (fun _ _ => new_empty (B + 4 + n) z (by omega))
 have ht : tab0 (newP n (fun _ => Dev.new (B + 4 + n) z)) = ⟨B, n, []⟩ := by
  show (⟨blocksN (B + 4 + n) z n, n, []⟩ : Tab) = ⟨B, n, []⟩
  unfold blocksN
  rw [if_pos (by omega), show B + 4 + n - 4 - n = B by omega]
 rw [ht] at k4
 have hbad : Sound P' := fun d hd j hj => by rw [(k5.same d hd).bad j hj]; exact newdev_bad _ _ _
 have hblk : ∀ s, s < 2 → (P'.tab s).blocks = B := fun s hs => by rw [k4 s hs]
 have hn5 : P'.n = n := k5.n
 have hz5 : (P'.dev 0).size = z := (k5.same 0 (by decide)).size
 have hcur : ∀ s i, s < 2 → i < B → (P'.dev s).cur (i + 4) = ⟨Array.replicate z 0⟩ := fun s i hs hi => by
  rw [(k5.same s hs).cur (i + 4) (by show i + 4 < B + 4 + n; omega) (by omega)]
  show (Dev.late [] (i + 4)).getD ((List.replicate (B + 4 + n) (⟨Array.replicate z 0⟩ : ByteArray)).getD (i + 4) ⟨#[]⟩) = _
  rw [Dev.late_nil, Option.getD_none, List.getD_eq_getElem?_getD, List.getElem?_replicate, if_pos (by omega)]
  rfl
 have hgm : Gm B z n 0 ⟨P', [], 0⟩ := by
  constructor
  ·exact k3
  ·exact hn5
  ·exact hz5
  ·exact hblk
  ·intro d hd
   show (P'.dev d).cache.length ≤ 0
   rw [k6 d hd]; exact Nat.le_refl _
  ·intro hb; exact absurd rfl hb
 clear k5
 refine ⟨hfit, P', k1, k2, ?_⟩
 clear k1 k2 hinv hfit ht
 refine ⟨hgm, hbad, k4, fun s i hs hi => ?_, rfl, rfl⟩
 have hib : i < (P'.tab s).blocks := by rw [hblk s hs]; exact hi
 have hat : ((P'.tab s).at_ (i : Int)).1 = i := by
  rw [k4 s hs, Tab.at_in (by exact hi)]
  rfl
 show P'.read s (i : Int) = _
 rw [read_in hib, hat]
 have hq := (k3.inv.dev s hs).q
 have hlt : i + 4 < (P'.dev s).sectors := by have := k3.at_lt hs hib; rw [hat] at this; exact this
 unfold Dev.read
 rw [if_neg (by rw [hq.ready]; simp), if_neg (by rw [Dev.isS_of hlt]; simp), Int.toNat_natCast, hbad s hs (i + 4) (by omega)]
 simp only [Bool.false_eq_true, if_false]
 congr 1
 rw [hcur s i hs hi]
 unfold bA zerosL
 rw [List.toArray_replicate]
theorem results_ctt8 {fn : Func} {p u x : Tmp} {ty : TypeId} (h : fn.results = #[.cell p ty, .tmp u, .tmp x]) {tmps : Array Value} {P : Program} {w : World} {ad : Addr} {v : Value} (hp : tmps.getD p undef = .pointer (some ad)) (hl : (loadVar ty ad).run P w = .ok v w) :
  (results fn tmps).run P w = .ok (.tuple #[v, tmps.getD u undef, tmps.getD x undef]) w := by
 have e : (results fn tmps).run P w = ((asAddr (tmps.getD p undef)).run P w).andThen fun ad w1 => ((loadVar ty ad).run P w1).andThen fun v w2 => .ok (.tuple #[v, tmps.getD u undef, tmps.getD x undef]) w2 := by
  simp only [results, h]
  simp [Sem.run_bind, Result.andThen]
 rw [e, hp]
 simp only [asAddr, Sem.run_pure, Result.andThen_ok, hl]
theorem load_devs8 {w : World} {b : Nat} {a0 a1 : Value} (h : Blk w b 23 [a0, a1]) : (loadVar 23 ⟨b, 0, none⟩).run Tryz.prog w = .ok (.agg #[a0, a1]) w := by
 have c0 := h.cell (i := 0) (v := a0) rfl
 have c1 := h.cell (i := 1) (v := a1) rfl
 go_simp
end Go.Proofs.YtkjpdfomppjiiaaGreatDoor
