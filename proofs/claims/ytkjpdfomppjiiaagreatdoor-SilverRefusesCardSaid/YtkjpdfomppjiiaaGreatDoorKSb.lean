/- A silver as it lies in memory; what it answers. -/
import Derived.Test.YtkjpdfomppjiiaaGreatDoorKSu
import Derived.Test.YtkjpdfomppjiiaaGreatDoorKI
import Derived.Test.YtkjpdfomppjiiaaGreatDoorKSx
/- A mirror whose copies may differ, plainly; another device in a side's place. -/
namespace Go.Proofs.YtkjpdfomppjiiaaGreatDoor

def setR2 (rd : Nat → Nat → ByteArray) (s i : Nat) (X : ByteArray) : Nat → Nat → ByteArray := fun d j => if d = s ∧ j = i then X else rd d j
def mendR (rd : Nat → Nat → ByteArray) (i : Nat) (X : ByteArray) : Nat → Nat → ByteArray := fun d j => if j = i then X else rd d j
structure WD (B z n c : Nat) (M : Mi) (rd : Nat → Nat → ByteArray) : Prop where
 gm : Gm B z n c M
 sound : Sound M.P
 still : Still B n M.P
 read : ∀ (s i : Nat), s < 2 → i < B → M.P.read s (i : Int) = (rd s i, 0)
 size : ∀ s i, s < 2 → i < B → (rd s i).size = z
section
variable {B z n c : Nat} {M : Mi} {rd : Nat → Nat → ByteArray}
theorem WD.fine (h : WD B z n c M rd) : Fine B z c M.P := h.gm.fine
theorem WD.mono {c' : Nat} (h : WD B z n c M rd) (hc : c ≤ c') : WD B z n c' M rd := ⟨h.gm.mono hc, h.sound, h.still, h.read, h.size⟩
theorem WD.healS (h : WD B z n c M rd) {s i : Nat} (hs : s < 2) (hi : i < B) {X : ByteArray} (hX : X.size = z) :
  ∃ k M', M.healS s i X = (k, M') ∧ k ≤ 1 ∧ WD B z n (c + 1) M' (setR2 rd s i X) ∧ M'.reps = M.reps + k ∧ (rd s i = X → k = 0) := by
 unfold Mi.healS
 rw [h.read s i hs hi]
 by_cases e : rd s i = X
 ·rw [if_pos (by rw [e])]
  refine ⟨0, M, rfl, by omega, ⟨h.gm.mono (by omega), h.sound, h.still, fun d j hd hj => ?_, fun d j hd hj => ?_⟩, rfl, fun _ => rfl⟩
  ·unfold setR2
   split
   ·rename_i e2; obtain ⟨rfl, rfl⟩ := e2; rw [h.read d j hd hj, e]
   ·exact h.read d j hd hj
  ·unfold setR2
   split
   ·exact hX
   ·exact h.size d j hd hj
 ·rw [if_neg (fun e2 => e (congrArg Prod.fst e2))]
  obtain ⟨M', e1, g, n1, x1, o, r, t, _⟩ := h.gm.repair_ok h.sound hs hi hX
  rw [e1]
  refine ⟨1, M', rfl, by omega, ⟨g, n1, fun d hd => by rw [t]; exact h.still d hd, fun d j hd hj => ?_, fun d j hd hj => ?_⟩, r, fun h => absurd h e⟩
  ·unfold setR2
   by_cases e2 : d = s ∧ j = i
   ·obtain ⟨rfl, rfl⟩ := e2; rw [if_pos ⟨rfl, rfl⟩]; exact x1
   ·rw [if_neg e2]
    refine (o d j hd hj ?_).trans (h.read d j hd hj)
    by_cases e3 : d = s
    ·exact .inr (fun e4 => e2 ⟨e3, e4⟩)
    ·exact .inl e3
  ·unfold setR2
   split
   ·exact hX
   ·exact h.size d j hd hj
theorem WD.heal (h : WD B z n c M rd) {i : Nat} (hi : i < B) {X : ByteArray} (hX : X.size = z) :
  ∃ k M', M.heal i X = (k, M') ∧ k ≤ 2 ∧ WD B z n (c + 2) M' (mendR rd i X) ∧ M'.reps = M.reps + k ∧ (rd 0 i = X ∨ rd 1 i = X → k ≤ 1) := by
 obtain ⟨k0, M0, e0, l0, h0, r0, q0⟩ := h.healS (s := 0) (by decide) hi hX
 obtain ⟨k1, M1, e1, l1, h1, r1, q1⟩ := h0.healS (s := 1) (by decide) hi hX
 have hu : setR2 rd 0 i X 1 i = rd 1 i := by unfold setR2; rw [if_neg (by simp)]
 rw [hu] at q1
 have hr : ∀ d j, d < 2 → setR2 (setR2 rd 0 i X) 1 i X d j = mendR rd i X d j := fun d j hd => by
  unfold setR2 mendR
  rcases two_cases hd with rfl | rfl
  ·by_cases e : j = i <;> simp [e]
  ·by_cases e : j = i <;> simp [e]
 refine ⟨k0 + k1, M1, ?_, by omega, ⟨h1.gm, h1.sound, h1.still, fun d j hd hj => by rw [← hr d j hd]; exact h1.read d j hd hj, fun d j hd hj => by rw [← hr d j hd]; exact h1.size d j hd hj⟩, by rw [r1, r0]; omega, fun hh => ?_⟩
 ·unfold Mi.heal
  simp only
  rw [e0]
  simp only
  rw [e1]
 ·rcases hh with hh | hh
  ·have := q0 hh; omega
  ·have := q1 hh; omega
theorem WD.flush (h : WD B z n c M rd) : ∃ M', M.flush = (0, M') ∧ WD B z n 0 M' rd ∧ M'.reps = M.reps ∧ M'.bl = M.bl := by
 obtain ⟨M', e, g, a, r, b, t, o, f⟩ := h.gm.flush
 exact ⟨M', e, ⟨⟨g.pi, g.nn, g.size, g.blocks, fun d hd => by rw [f d hd]; exact Nat.le_refl _, g.bad⟩, h.sound.alike a, fun d hd => by rw [t]; exact h.still d hd, fun d j hd hj => (o d j hd hj).trans (h.read d j hd hj), h.size⟩, r, b⟩
structure Cp (B z : Nat) (rd : Nat → Nat → ByteArray) (q : PtrE) (X : ByteArray) (i : Nat) : Prop where
 lt : i < B
 addr : q.addr = (i : Int)
 size : X.size = z
 meets : meetsL q X.toList = true
 each : ∀ s, s < 2 → rd s i = X ∨ openL (rd s i).toList = none
 one : ∃ s, s < 2 ∧ rd s i = X
theorem Cp.mend {q : PtrE} {X Y : ByteArray} {i j : Nat} (h : Cp B z rd q X i) (hj : j = i → Y = X) : Cp B z (mendR rd j Y) q X i := by
 have hr : ∀ s, mendR rd j Y s i = X ∨ mendR rd j Y s i = rd s i := fun s => by
  unfold mendR
  by_cases e : i = j
  ·rw [if_pos e, hj e.symm]; exact .inl rfl
  ·rw [if_neg e]; exact .inr rfl
 refine ⟨h.lt, h.addr, h.size, h.meets, fun s hs => ?_, ?_⟩
 ·rcases hr s with e | e
  ·exact .inl e
  ·rw [e]; exact h.each s hs
 ·obtain ⟨s, hs, e⟩ := h.one
  rcases hr s with e1 | e1
  ·exact ⟨s, hs, e1⟩
  ·exact ⟨s, hs, e1.trans e⟩
theorem WD.check (h : WD B z n c M rd) {q : PtrE} {X : ByteArray} {i : Nat} (hc : Cp B z rd q X i) :
  ∃ k M', M.check q i = ((k, 0), M') ∧ k ≤ 1 ∧ WD B z n (c + 2) M' (mendR rd i X) ∧ M'.reps = M.reps + k := by
 have hC : Cop M q X i := by
  refine ⟨fun s hs hh => ?_, ?_, hc.meets⟩
  ·rw [h.read s i hs hc.lt]
   rcases hc.each s hs with e | e
   ·rw [e]
   ·rw [Mi.has_iff (h.read s i hs hc.lt)] at hh
    unfold meetsL at hh
    rw [e] at hh
    cases hh
  ·obtain ⟨s, hs, e⟩ := hc.one
   exact ⟨s, hs, by rw [h.read s i hs hc.lt, e]⟩
 obtain ⟨s, hs, hw, _, _⟩ := hC.whole
 obtain ⟨k, M', e1, k1, k2, k3, k4⟩ := h.heal hc.lt hc.size
 refine ⟨k, M', ?_, k4 ?_, k2, k3⟩
 ·unfold Mi.check
  rw [hw]
  simp only [ne_eq, not_true_eq_false, if_false]
  rw [e1]
 ·obtain ⟨s, hs, e⟩ := hc.one
  rcases two_cases hs with rfl | rfl
  ·exact .inl e
  ·exact .inr e
end
theorem replace_both {P : Pr} (h : PI P) {s : Nat} (hs : s < 2) {D : Dev} (hD : DevQ D) (he : Empty D) (hz : D.size = (P.dev 0).size ∧ D.sectors = (P.dev 0).sectors) :
  ∃ P', ((P.setDev s D).keep s (P.tab s)).1 = 0 ∧ (((P.setDev s D).keep s (P.tab s)).2.keep (1 - s) (P.tab (1 - s))) = (0, P') ∧ PI P' ∧ (∀ k, k < 2 → P'.tab k = P.tab k) ∧ P'.n = P.n ∧ Dev.Same (P.dev (1 - s)) (P'.dev (1 - s)) (4 ≤ ·) ∧ Dev.Same D (P'.dev s) (4 ≤ ·) ∧ ∀ d, d < 2 → (P'.dev d).cache = [] := by
 have hd1 : ∀ d, d < 2 → d ≠ s → (P.setDev s D).dev d = P.dev d := fun d _ hd => by unfold Pr.setDev; simp [hd]
 have hsh : ∀ d, d < 2 → ((P.setDev s D).dev d).size = (P.dev 0).size ∧ ((P.setDev s D).dev d).sectors = (P.dev 0).sectors := by
  intro d hd
  by_cases e : d = s
  ·rw [e, Pr.setDev_at]; exact hz
  ·rw [hd1 d hd e]; exact h.inv.same d hd
 have hI : PInv0 (P.setDev s D) := by
  refine ⟨fun d hd => ?_, fun d hd => ?_, ?_⟩
  ·by_cases e : d = s
   ·rw [e, Pr.setDev_at]; exact hD
   ·rw [hd1 d hd e]; exact h.inv.dev d hd
  ·rw [(hsh d hd).1, (hsh d hd).2, (hsh 0 (by decide)).1, (hsh 0 (by decide)).2]; exact ⟨rfl, rfl⟩
  ·have := h.inv.fit
   unfold Pr.Fit at this ⊢
   rw [(hsh 0 (by decide)).1, (hsh 0 (by decide)).2]; exact this
 have hold : ∀ side, side < 2 → ∀ d, d < 2 → OldOk (P.dev 0).size side (P.tab side).blocks P.n (P.tab side).moved.length (((P.setDev s D).dev d).media.getD (slotOf (decide (d = side)) ((P.tab side).moved.length + 1)) ⟨#[]⟩) := by
  intro side hsd d hd
  by_cases e : d = s
  ·rw [e, Pr.setDev_at]; exact .inl (he _ (slotOf_lt _ _))
  ·rw [hd1 d hd e]; exact (h.slots side hsd).old d hd
 have g0 := h.slots s hs
 have g1 := h.slots (1 - s) (by omega)
 obtain ⟨P1, e1, k1⟩ := keep_inv (t := P.tab s) hI hs g0.tok (by rw [(hsh 0 (by decide)).1, (hsh 0 (by decide)).2]; exact g0.blocks) g0.spares (fun d hd => by rw [(hsh 0 (by decide)).1]; exact hold s hs d hd)
 have hs0 := k1.same 0 (by decide)
 obtain ⟨P2, e2, k2⟩ := keep_inv (t := P.tab (1 - s)) k1.inv (s := 1 - s) (by omega) g1.tok (by rw [hs0.size, hs0.sectors, k1.n, (hsh 0 (by decide)).1, (hsh 0 (by decide)).2]; exact g1.blocks) (by rw [k1.n]; exact g1.spares) (fun d hd => by
  rw [old_same hI k1.inv hd (k1.same d hd) (slotOf_lt _ _) (slot_ne d s hd hs _ _), hs0.size, (hsh 0 (by decide)).1, k1.n]
  exact hold (1 - s) (by omega) d hd)
 have hss : 1 - (1 - s) = s := by omega
 refine ⟨P2, by rw [e1], by rw [e1]; exact e2, ⟨k2.inv, both (s := s) hs (by have := k2.other k1.inv (by omega) (by rw [hss]; exact k1.slots); rw [hss] at this; exact this) k2.slots⟩, fun k hk => ?_, k2.n.trans k1.n, ?_, ?_, k2.cache⟩
 ·rw [k2.tab]
  simp only
  by_cases e : k = 1 - s
  ·rw [if_pos e, e]
  ·rw [if_neg e, k1.tab]
   simp only
   have e2 : k = s := by omega
   rw [if_pos e2, e2]
 ·have h1 := k1.same (1 - s) (by omega)
  rw [hd1 (1 - s) (by omega) (by omega)] at h1
  exact (h1.mono (fun j hj => Nat.ne_of_gt (Nat.lt_of_lt_of_le (slotOf_lt _ _) hj))).trans ((k2.same (1 - s) (by omega)).mono (fun j hj => Nat.ne_of_gt (Nat.lt_of_lt_of_le (slotOf_lt _ _) hj)))
 ·have h1 := k1.same s hs
  rw [Pr.setDev_at] at h1
  exact (h1.mono (fun j hj => Nat.ne_of_gt (Nat.lt_of_lt_of_le (slotOf_lt _ _) hj))).trans ((k2.same s hs).mono (fun j hj => Nat.ne_of_gt (Nat.lt_of_lt_of_le (slotOf_lt _ _) hj)))
theorem new_cur {S z j : Nat} (hj : j < S) : (Dev.new S z).cur j = bA (zerosL z) := by
 show (Dev.late [] j).getD ((List.replicate S (⟨Array.replicate z 0⟩ : ByteArray)).getD j ⟨#[]⟩) = _
 rw [Dev.late_nil, Option.getD_none, List.getD_eq_getElem?_getD, List.getElem?_replicate, if_pos hj]
 unfold bA zerosL
 rw [List.toArray_replicate]
 rfl
section
variable {B z n c : Nat} {M : Mi} {r : Nat → ByteArray}
set_option maxHeartbeats 1000000 in
theorem WS.replace (h : WS B z n c M r) {s : Nat} (hs : s < 2) (hr : Dev.right ((B + 4 + n : Nat) : Int) (z : Int) = true) (hB : 2 ≤ B) :
  ((Dev.new (B + 4 + n) z).size = (M.P.dev 0).size ∧ (Dev.new (B + 4 + n) z).sectors = (M.P.dev 0).sectors) ∧
  ∃ P', ((M.P.setDev s (Dev.new (B + 4 + n) z)).keep s (M.P.tab s)).1 = 0 ∧ (((M.P.setDev s (Dev.new (B + 4 + n) z)).keep s (M.P.tab s)).2.keep (1 - s) (M.P.tab (1 - s))) = (0, P') ∧
   WD B z n 0 ⟨P', M.bl, M.reps⟩ (fun d i => if d = s then bA (zerosL z) else r i) := by
 have hsec : (M.P.dev 0).sectors = B + 4 + n := by
  have h1 := (h.gm.pi.slots 0 (by decide)).blocks
  rw [h.gm.blocks 0 (by decide), h.gm.nn] at h1
  unfold blocksN at h1
  split at h1
  ·omega
  ·omega
 have hz : (Dev.new (B + 4 + n) z).size = (M.P.dev 0).size ∧ (Dev.new (B + 4 + n) z).sectors = (M.P.dev 0).sectors := ⟨h.gm.size.symm, hsec.symm⟩
 refine ⟨hz, ?_⟩
 obtain ⟨P', k1, k2, k3, k4, k5, k6, k7, k8⟩ := replace_both h.gm.pi hs (new_quiet (B + 4 + n) z hr) (new_empty (B + 4 + n) z (by omega)) hz
 have hbad : Sound P' := fun d hd j hj => by
  by_cases e : d = s
  ·subst e; rw [k7.bad j hj]; exact newdev_bad _ _ _
  ·have e1 : d = 1 - s := by omega
   subst e1; rw [k6.bad j hj]; exact h.sound (1 - s) hd j hj
 have hst : Still B n P' := fun d hd => (k4 d hd).trans (h.still d hd)
 have hblk : ∀ d, d < 2 → (P'.tab d).blocks = B := fun d hd => by rw [k4 d hd]; exact h.gm.blocks d hd
 have hsz : (P'.dev 0).size = z := by
  rcases two_cases hs with rfl | rfl
  ·exact k7.size
  ·exact k6.size.trans h.gm.size
 have hgm : Gm B z n 0 ⟨P', M.bl, M.reps⟩ := ⟨k3, k5.trans h.gm.nn, hsz, hblk, fun d hd => by show (P'.dev d).cache.length ≤ 0; rw [k8 d hd]; exact Nat.le_refl _, fun hb => by
  obtain ⟨d, hd, e⟩ := h.gm.bad hb
  exact ⟨d, hd, by show (P'.tab d).moved.length = n; rw [k4 d hd]; exact e⟩⟩
 refine ⟨P', k1, k2, ⟨hgm, hbad, hst, fun d i hd hi => ?_, fun d i hd hi => ?_⟩⟩
 ·have hib : i < (P'.tab d).blocks := by rw [hblk d hd]; exact hi
  have hat : ((P'.tab d).at_ (i : Int)).1 = i := hst.at_ hd hi
  have hq := (k3.inv.dev d hd).q
  have hlt : i + 4 < (P'.dev d).sectors := by have := k3.at_lt hd hib; rw [hat] at this; exact this
  show P'.read d (i : Int) = _
  rw [read_in hib, hat]
  by_cases e : d = s
  ·subst e
   rw [if_pos rfl]
   unfold Dev.read
   rw [if_neg (by rw [hq.ready]; simp), if_neg (by rw [Dev.isS_of hlt]; simp), Int.toNat_natCast, hbad d hd (i + 4) (by omega)]
   simp only [Bool.false_eq_true, if_false]
   rw [k7.cur (i + 4) (show i + 4 < B + 4 + n by omega) (by omega), new_cur (show i + 4 < B + 4 + n by omega)]
  ·have e1 : d = 1 - s := by omega
   subst e1
   rw [if_neg e, Dev.read_same k6 (h.gm.pi.inv.dev (1 - s) hd).q hq (show 4 ≤ i + 4 by omega)]
   have h2 := h.both (1 - s) i hd hi
   rw [read_in (by rw [h.gm.blocks _ hd]; exact hi), h.still.at_ hd hi] at h2
   exact h2
 ·show (if d = s then bA (zerosL z) else r i).size = z
  split
  ·rw [bA_size]; unfold zerosL; rw [List.length_replicate]
  ·exact h.size i hi
end
end Go.Proofs.YtkjpdfomppjiiaaGreatDoor
/- A scrub as it lies in memory; a block's copies are made whole. -/
namespace Go.Proofs.YtkjpdfomppjiiaaGreatDoor
open Go.RowKit

def sbC (sb : Nat) (nx ps rp : Nat) (lv ov : Value) : List Value := [.pointer (some ⟨sb, 0, none⟩), .int .i64 (nx : Nat), .int .i64 (ps : Nat), .int .i64 (rp : Nat), lv, ov]
theorem run_makeMapSb (W : World) : (Instr.makeMap 111 none).run Tryz.prog W = .ok (.map (some W.heap.size)) (W.alloc (.map #[] 0)) := by kernel_rfl
section
variable {w : World} {sb sc nx ps rp : Nat} {lv ov : Value}
theorem sbNew_any : Calls Tryz.prog 23 #[.pointer (some ⟨sb, 0, none⟩)] w fun e w' => ∃ sc lm, e = .returned (.tuple #[.pointer (some ⟨sc, 0, none⟩), .int .i64 0]) ∧ Hid (Blk w' sc 113 (sbC sb 0 0 0 (.map (some lm)) (.map none))) ∧ Hid (Mods [] w w') ∧ Hid (w.heap.size ≤ sc) := by
 have hmm := run_makeMapSb
 go_enter Tryz.func23, Tryz.ntmps23
 go_wp2_with fail
 go_ret2
 exact ⟨w.heap.size + 1, w.heap.size, rfl, Lib.hid (Blk.newS 113 _ (by simp)), Lib.hid (((Mods.refl _ _).alloc _).alloc _), Lib.hid (by omega)⟩
theorem sbCounts_nil : Calls Tryz.prog 27 #[.pointer none] w fun e w' => e = .returned (.tuple #[.int .i64 0, .int .i64 0]) ∧ w = w' := by
 go_enter Tryz.func27, Tryz.ntmps27
 go_wp2_with fail
 go_ret2
 exact ⟨rfl, rfl⟩
end
structure SbIn (W w : World) (F : List Nat) (x : Nat → Nat) (a : StA) (M : Mi) (B z n c : Nat) (rd : Nat → Nat → ByteArray) (sc nx ps rp : Nat) (lv ov : Value) : Prop where
 st : StIn W w F x a M
 wd : WD B z n c M rd
 blk : Blk w sc 113 (sbC a.sb nx ps rp lv ov)
 mem : sc ∈ F ∧ W.heap.size ≤ sc ∧ sc ∉ a.all
section
variable {W w w' : World} {F : List Nat} {x : Nat → Nat} {a : StA} {M M' : Mi} {B z n c c' k k0 km sc nx ps rp : Nat} {rd rd' : Nat → Nat → ByteArray} {lv ov : Value} {q : PtrE} {X : ByteArray}
theorem SbIn.go (h : SbIn W w F x a M B z n c rd sc nx ps rp lv ov) (ho : OwnM W F w' a.mb a.p x M') (hm : Minds F w w') (hd : WD B z n c' M' rd') : SbIn W w' F x a M' B z n c' rd' sc nx ps rp lv ov :=
 ⟨h.st.go ho hm (fun _ h => h), hd, hm.blk h.blk h.mem.1, h.mem⟩
theorem SbIn.calm (h : SbIn W w F x a M B z n c rd sc nx ps rp lv ov) (hm : Mods [] w w') : SbIn W w' F x a M B z n c rd sc nx ps rp lv ov := h.go (h.st.own.still hm) (Minds.of hm) h.wd
structure SbTo (W w w' : World) (F : List Nat) (x : Nat → Nat) (a : StA) (M M' : Mi) (B z n c c' : Nat) (q : PtrE) (X : ByteArray) (k0 : Nat) (sc nx ps rp : Nat) (lv ov : Value) : Prop where
 ex : ∃ rd', SbIn W w' F x a M' B z n c' rd' sc nx ps rp lv ov ∧ Cp B z rd' q X k0
 reps : M'.reps ≤ M.reps + (c' - c)
 few : c ≤ c'
 minds : Minds F w w'
theorem zero_ptrS (w : World) : (zeroValue 79).run Tryz.prog w = .ok (.agg #[.int .i64 0, .int .u64 0, .int .u32 0]) w := by kernel_rfl
theorem kn_look (hm : MapK kvN w km (knO q k0) 1) (k : Nat) : (Instr.lookup 109 (.map (some km)) (.int .i64 (k : Nat)) true).run Tryz.prog w = .ok (.tuple #[if k = k0 then ptrV q else .agg #[.int .i64 0, .int .u64 0, .int .u32 0], .bool (decide (k = k0))]) w := by
 have h := hm.lookup (P := Tryz.prog) (T := 109) (K := 3) (E := 79) (d := .int .i64) (z := .agg #[.int .i64 0, .int .u64 0, .int .u32 0]) kvN_key Tryz.underlying109 Tryz.underlying3 (zero_ptrS w) k true
 unfold kvN at h
 rw [h]
 unfold knO
 by_cases e : k = k0 <;> simp [e]
set_option maxRecDepth 100000 in
set_option maxHeartbeats 3200000 in
theorem sbHeal_root (h : SbIn W w F x a M B z n c rd sc nx ps rp lv ov) (hm : MapK kvN w km (knO q k0) 1) (hc : Cp B z rd q X k0) (hcl : c ≤ 500000) (hr : M.reps < 900000000) :
  Calls Tryz.prog 100 #[.pointer (some ⟨sc, 0, none⟩), .int .i64 (k0 : Nat), .map (some km)] w fun e w' => ∃ j M' c', e = .returned (.tuple #[.int .i64 (j : Nat), .int .i64 0]) ∧ j ≤ 2 ∧ c' ≤ c + 2 ∧ Hid (SbTo W w w' F x a M M' B z n c c' q X k0 sc nx ps rp lv ov) := by
 obtain ⟨j, M', e1, k1, k2, k3⟩ := h.wd.check hc
 have hlk := kn_look hm k0
 rw [if_pos rfl, show decide (k0 = k0) = true by simp] at hlk
 obtain ⟨w2, hw2⟩ : ∃ w2, w.alloc (.cells #[.int .i64 q.addr, .int .u64 (q.gen : Nat), .int .u32 (q.sum : Nat)] 79) = w2 := ⟨_, rfl⟩
 obtain ⟨g, hg⟩ : ∃ g, w.heap.size = g := ⟨_, rfl⟩
 have hb2 : Blk w2 g 79 [.int .i64 q.addr, .int .u64 (q.gen : Nat), .int .u32 (q.sum : Nat)] := by rw [← hw2, ← hg]; exact Blk.new w 79 _
 have hm2 : Mods [] w w2 := by rw [← hw2]; exact (Mods.refl _ _).alloc _
 have cC := Lib.hid (oChk (h.st.own.still hm2) h.wd.fine (by omega) hr q hc.lt hc.addr)
 rw [e1] at cC
 have HM2 := Lib.hid hm2
 have HH := Lib.hid h
 have HC := Lib.hid hc
 have HK := Lib.hid (And.intro k1 (And.intro k2 k3))
 have cM := Lib.hid (stMirror_any h.st.st)
 have s0 := h.blk.cell (i := 0) rfl
 unfold ptrV at *
 have p0 := hb2.cell (i := 0) rfl
 have p1 := hb2.cell (i := 1) rfl
 have p2 := hb2.cell (i := 2) rfl
 simp only at cC
 obtain ⟨qa, hqa⟩ : ∃ t, q.addr = t := ⟨_, rfl⟩
 obtain ⟨qg, hqg⟩ : ∃ t, q.gen = t := ⟨_, rfl⟩
 obtain ⟨qs, hqs⟩ : ∃ t, q.sum = t := ⟨_, rfl⟩
 rw [hqa, hqg, hqs] at hlk hw2 cC
 rw [hqa] at p0
 rw [hqg] at p1
 rw [hqs] at p2
 clear h hm hc hcl hr e1 hb2 hm2 k1 k2 k3 hqa hqg hqs
 go_enter Tryz.func100, Tryz.ntmps100
 go_upto_region 3 with (go_at_call 20; refine cM.out.mono ?_; rintro e w1 ⟨rfl, hw1⟩; subst hw1)
 try rw [hw2, hg]
 clear hw2 hg
 go_wp2_with (go_at_call 153; refine cC.out.mono ?_; rintro e w3 ⟨rfl, HO3, HN3⟩)
 go_ret2
 have hN : Minds F w w3 := (Minds.of HM2.out).trans HN3.out
 refine ⟨j, M', c + 2, rfl, by have := HK.out.1; omega, by omega, Lib.hid ⟨⟨_, HH.out.go HO3.out hN HK.out.2.1, HC.out.mend (fun _ => rfl)⟩, by rw [HK.out.2.2]; have := HK.out.1; omega, by omega, hN⟩⟩
end
end Go.Proofs.YtkjpdfomppjiiaaGreatDoor
/- A block's copies are made whole: a superblock's, another one's. -/
namespace Go.Proofs.YtkjpdfomppjiiaaGreatDoor
open Go.RowKit

section
variable {W w w' : World} {F : List Nat} {x : Nat → Nat} {a : StA} {M M' : Mi} {B z n c c' k k0 km sc nx ps rp : Nat} {rd rd' : Nat → Nat → ByteArray} {lv ov : Value} {q : PtrE} {X : ByteArray}
set_option maxRecDepth 100000 in
set_option maxHeartbeats 3200000 in
theorem sbHeal_sup (h : SbIn W w F x a M B z n c rd sc nx ps rp lv ov) (hm : MapK kvN w km (knO q k0) 1) (hc : Cp B z rd q X k0) (hcl : c ≤ 500000) (hr : M.reps < 900000000) (hk : k ≠ k0) (hkB : k < B) (hks : k = a.sup.gen % 2) (hok : a.sup.Ok) (hz0 : 128 ≤ z) (hz : z ≤ 1024) :
  Calls Tryz.prog 100 #[.pointer (some ⟨sc, 0, none⟩), .int .i64 (k : Nat), .map (some km)] w fun e w' => ∃ j M' c', e = .returned (.tuple #[.int .i64 (j : Nat), .int .i64 0]) ∧ j ≤ 2 ∧ c' ≤ c + 2 ∧ Hid (SbTo W w w' F x a M M' B z n c c' q X k0 sc nx ps rp lv ov) := by
 have hil : (bA (supImg z a.sup)).size = z := by
  rw [bA_size]
  exact sealL_len _ (by rw [supL_len]; omega)
 obtain ⟨j, M', e1, k1, k2, k3, _⟩ := h.wd.heal hkB hil
 have hlk := kn_look hm k
 rw [if_neg hk, show decide (k = k0) = false by simp [hk]] at hlk
 obtain ⟨w2, hw2⟩ : ∃ w2, w.alloc (.cells #[.int .i64 0, .int .u64 0, .int .u32 0] 79) = w2 := ⟨_, rfl⟩
 obtain ⟨g, hg⟩ : ∃ g, w.heap.size = g := ⟨_, rfl⟩
 have hm2 : Mods [] w w2 := by rw [← hw2]; exact (Mods.refl _ _).alloc _
 have cI := Lib.hid (stImage_yes (h.st.calm hm2) h.wd.fine hz0 hz hok hks)
 have cH := Lib.hid (fun (w' : World) (hm : Mods [] w2 w') => oHeal ((h.st.own.still hm2).still hm) h.wd.fine (by omega) hr hkB hil)
 obtain ⟨img, himg⟩ : ∃ img, bA (supImg z a.sup) = img := ⟨_, rfl⟩
 rw [himg] at cI cH e1 k2
 rw [e1] at cH
 simp only at cH
 have HM2 := Lib.hid hm2
 have HH := Lib.hid h
 have HC := Lib.hid hc
 have HK := Lib.hid (And.intro k1 (And.intro k2 (And.intro k3 hk)))
 have cM := Lib.hid (stMirror_any h.st.st)
 have s0 := h.blk.cell (i := 0) rfl
 have s02 := (h.blk.keep hm2 (by simp)).cell (i := 0) rfl
 clear h hm hc hcl hr e1 hm2 k1 k2 k3 himg hil hk hks hok hkB
 have HW2 := Lib.hid hw2
 have HG2 := Lib.hid hg
 clear hw2 hg
 go_enter Tryz.func100, Tryz.ntmps100
 go_upto_region 3 with (go_at_call 20; refine cM.out.mono ?_; rintro e w1 ⟨rfl, hw1⟩; subst hw1)
 rw [HW2.out, HG2.out]
 go_wp2_with (first | (go_at_call 154; refine cI.out.mono ?_; rintro e w3 ⟨rfl, HM3⟩) | (go_at_call 88; refine (cH.out _ HM3.out).mono ?_; rintro e w4 ⟨rfl, HO4, HN4⟩))
 go_ret2
 have hN : Minds F w w4 := (Minds.of (HM2.out.tr HM3.out)).trans HN4.out
 refine ⟨j, M', c + 2, rfl, HK.out.1, by omega, Lib.hid ⟨⟨_, HH.out.go HO4.out hN HK.out.2.1, HC.out.mend (fun e => absurd e HK.out.2.2.2)⟩, by rw [HK.out.2.2.1]; have := HK.out.1; omega, by omega, hN⟩⟩
set_option maxRecDepth 100000 in
set_option maxHeartbeats 3200000 in
theorem sbHeal_none (h : SbIn W w F x a M B z n c rd sc nx ps rp lv ov) (hm : MapK kvN w km (knO q k0) 1) (hc : Cp B z rd q X k0) (hk : k ≠ k0) (hks : k ≠ a.sup.gen % 2) :
  Calls Tryz.prog 100 #[.pointer (some ⟨sc, 0, none⟩), .int .i64 (k : Nat), .map (some km)] w fun e w' => ∃ j M' c', e = .returned (.tuple #[.int .i64 (j : Nat), .int .i64 0]) ∧ j ≤ 2 ∧ c' ≤ c + 2 ∧ Hid (SbTo W w w' F x a M M' B z n c c' q X k0 sc nx ps rp lv ov) := by
 have hlk := kn_look hm k
 rw [if_neg hk, show decide (k = k0) = false by simp [hk]] at hlk
 obtain ⟨w2, hw2⟩ : ∃ w2, w.alloc (.cells #[.int .i64 0, .int .u64 0, .int .u32 0] 79) = w2 := ⟨_, rfl⟩
 obtain ⟨g, hg⟩ : ∃ g, w.heap.size = g := ⟨_, rfl⟩
 have hm2 : Mods [] w w2 := by rw [← hw2]; exact (Mods.refl _ _).alloc _
 have cI := Lib.hid (stImage_no (h.st.calm hm2) hks)
 have HM2 := Lib.hid hm2
 have HH := Lib.hid h
 have HC := Lib.hid hc
 have cM := Lib.hid (stMirror_any h.st.st)
 have s0 := h.blk.cell (i := 0) rfl
 have s02 := (h.blk.keep hm2 (by simp)).cell (i := 0) rfl
 clear h hm hc hm2 hk hks
 have HW2 := Lib.hid hw2
 have HG2 := Lib.hid hg
 clear hw2 hg
 go_enter Tryz.func100, Tryz.ntmps100
 go_upto_region 3 with (go_at_call 20; refine cM.out.mono ?_; rintro e w1 ⟨rfl, hw1⟩; subst hw1)
 rw [HW2.out, HG2.out]
 go_wp2_with (go_at_call 154; refine cI.out.mono ?_; rintro e w3 ⟨rfl, hw3⟩; subst hw3)
 go_ret2
 exact ⟨0, M, c, rfl, by omega, by omega, Lib.hid ⟨⟨rd, HH.out.calm HM2.out, HC.out⟩, by omega, by omega, Minds.of HM2.out⟩⟩
theorem sbHeal_any (h : SbIn W w F x a M B z n c rd sc nx ps rp lv ov) (hm : MapK kvN w km (knO q k0) 1) (hc : Cp B z rd q X k0) (hcl : c ≤ 500000) (hr : M.reps < 900000000) (hkB : k < B) (hok : a.sup.Ok) (hz0 : 128 ≤ z) (hz : z ≤ 1024) :
  Calls Tryz.prog 100 #[.pointer (some ⟨sc, 0, none⟩), .int .i64 (k : Nat), .map (some km)] w fun e w' => ∃ j M' c', e = .returned (.tuple #[.int .i64 (j : Nat), .int .i64 0]) ∧ j ≤ 2 ∧ c' ≤ c + 2 ∧ Hid (SbTo W w w' F x a M M' B z n c c' q X k0 sc nx ps rp lv ov) := by
 by_cases e : k = k0
 ·subst e; exact sbHeal_root h hm hc hcl hr
 ·by_cases e2 : k = a.sup.gen % 2
  ·exact sbHeal_sup h hm hc hcl hr e hkB e2 hok hz0 hz
  ·exact sbHeal_none h hm hc e e2
set_option maxRecDepth 100000 in
set_option maxHeartbeats 3200000 in
theorem sbBlock_any (h : SbIn W w F x a M B z n c rd sc nx ps rp lv ov) (hm : MapK kvN w km (knO q k0) 1) (hc : Cp B z rd q X k0) (hcl : c ≤ 500000) (hr : M.reps < 900000000) (hkB : nx < B) (hB : B ≤ 5000) (hrp : rp ≤ 100000000) (hok : a.sup.Ok) (hz0 : 128 ≤ z) (hz : z ≤ 1024) :
  Calls Tryz.prog 49 #[.pointer (some ⟨sc, 0, none⟩), .map (some km)] w fun e w' => ∃ rp' M' c', e = .returned (.int .i64 0) ∧ rp' ≤ rp + 2 ∧ c' ≤ c + 2 ∧ Hid (∃ rd', SbIn W w' F x a M' B z n c' rd' sc (nx + 1) ps rp' lv ov ∧ Cp B z rd' q X k0) ∧ Hid (M'.reps ≤ M.reps + 2) ∧ Hid (∀ G, (∀ g ∈ G, g ∈ F ∧ g ≠ sc) → Minds G w w') := by
 have cH := Lib.hid (sbHeal_any h hm hc hcl hr hkB hok hz0 hz)
 have s1 := h.blk.cell (i := 1) rfl
 have HB := Lib.hid (And.intro hkB (And.intro hB hrp))
 clear h hm hc hcl hr hkB hok hz0 hz hB hrp
 go_enter Tryz.func49, Tryz.ntmps49
 go_upto_region 2 with (go_at_call 100; refine cH.out.mono ?_; rintro e w1 ⟨j, M', c', rfl, hj, hc', HT1⟩)
 obtain ⟨rd', hsb, hcp⟩ := HT1.out.ex
 have b1 := hsb.blk.cell (i := 1) rfl
 have b3 := hsb.blk.cell (i := 3) rfl
 have f1 := hsb.blk.free 1
 have f3 := hsb.blk.free 3
 have HS1 := Lib.hid hsb
 have HC1 := Lib.hid hcp
 obtain ⟨r2, hr2⟩ : ∃ t, rp + j = t := ⟨_, rfl⟩
 obtain ⟨n2, hn2⟩ : ∃ t, nx + 1 = t := ⟨_, rfl⟩
 have hi2 : (rp : Int) + (j : Int) = (r2 : Int) := by omega
 have hj2 : (nx : Int) + 1 = (n2 : Int) := by omega
 have e1 : IntKind.i64.wrap (r2 : Int) = (r2 : Int) := by rw [IntKind.wrap_i64]; have := HB.out; omega
 have e2 : IntKind.i64.wrap (n2 : Int) = (n2 : Int) := by rw [IntKind.wrap_i64]; have := HB.out; omega
 have e3 : wrap64 (r2 : Int) = (r2 : Int) := by unfold wrap64; have := HB.out; omega
 have e4 : wrap64 (n2 : Int) = (n2 : Int) := by unfold wrap64; have := HB.out; omega
 have HJ := Lib.hid (And.intro hj (And.intro hc' (And.intro hr2 hn2)))
 clear hj hc' hr2 hn2 hsb hcp s1 cH
 go_wp2_with fail
 go_ret
 obtain ⟨g1, g2, g3, g4⟩ := HJ.out
 have hm2 : Mods [sc] w1 ((w1.setCell ⟨sc, 3, none⟩ (.int .i64 (r2 : Nat))).setCell ⟨sc, 1, none⟩ (.int .i64 (n2 : Nat))) := ((Mods.refl _ _).setCell (.inl (by simp)) _).setCell (.inl (by simp)) _
 refine ⟨r2, M', c', rfl, by omega, g2, Lib.hid ⟨rd', ⟨HS1.out.st.aside hm2 (fun k hk => by rw [List.mem_singleton.1 hk]; exact HS1.out.mem), HS1.out.wd, ?_, HS1.out.mem⟩, HC1.out⟩, Lib.hid (by have := HT1.out.reps; omega), Lib.hid (fun G hG => ?_)⟩
 ·have := (HS1.out.blk.set 3 (.int .i64 (r2 : Nat))).set 1 (.int .i64 (n2 : Nat))
  rw [g4]
  exact this
 ·exact (HT1.out.minds.mono (fun g hg => (hG g hg).1)).trans ⟨[sc], hm2, fun k hk hx => (hG k hx).2 (List.mem_singleton.1 hk)⟩
end
end Go.Proofs.YtkjpdfomppjiiaaGreatDoor
/- A pass' end; steps of a pass. -/
namespace Go.Proofs.YtkjpdfomppjiiaaGreatDoor
open Go.RowKit

section
variable {W w w' : World} {F : List Nat} {x : Nat → Nat} {a : StA} {M M' : Mi} {B z n c c' k k0 km sc nx ps rp : Nat} {rd rd' : Nat → Nat → ByteArray} {lv ov : Value} {q : PtrE} {X : ByteArray}
set_option maxRecDepth 100000 in
set_option maxHeartbeats 3200000 in
theorem sbTurn_no (h : SbIn W w F x a M B z n c rd sc nx ps rp lv ov) (hn : nx < B) :
  Calls Tryz.prog 51 #[.pointer (some ⟨sc, 0, none⟩)] w fun e w' => e = .returned (.bool false) ∧ Hid (Mods [] w w') := by
 have cB := Lib.hid (fun (w' : World) (hm : Mods [] w w') => stBlocks_any (h.st.own.still hm) h.wd.fine (h.st.st.keep hm (by simp)))
 have HC : Hid (∀ w', Mods [] w w' → w'.cell? ⟨sc, 0, none⟩ = some (.pointer (some ⟨a.sb, 0, none⟩)) ∧ w'.cell? ⟨sc, 1, none⟩ = some (.int .i64 (nx : Nat))) := Lib.hid (fun w' hm => ⟨(h.blk.keep hm (by simp)).cell (i := 0) rfl, (h.blk.keep hm (by simp)).cell (i := 1) rfl⟩)
 obtain ⟨s0, s1⟩ := HC.out w (Mods.refl _ _)
 clear h
 have hlt : decide ((nx : Int) < (B : Int)) = true := decide_eq_true (by omega)
 go_enter Tryz.func51, Tryz.ntmps51
 go_upto_region 1 with fail
 go_cut [12] from 3 to 11 (fun bv wx => bv = .bool true ∧ Hid (Mods [] w wx))
 case first =>
  go_region_held3 (fun w' => w'.cell? ⟨sc, 0, none⟩ = some (.pointer (some ⟨a.sb, 0, none⟩)) ∧ w'.cell? ⟨sc, 1, none⟩ = some (.int .i64 (nx : Nat)))
   (first | exact HC.out _ hmc.out | go_keep | fail)
   (first | (go_at_call 26; refine (cB.out _ (by first | exact (Mods.refl _ _).drew | exact Mods.refl _ _)).mono ?_; rintro e w2 ⟨rfl, hm2⟩; have hmc : Hid (Mods [] w w2) := (by first | exact Lib.hid (((Mods.refl _ _).drew).tr hm2.out) | exact Lib.hid ((Mods.refl _ _).tr hm2.out))) | fail)
  all_goals go_wp2_with fail
  all_goals go_meet
  all_goals exact ⟨by first | rfl | (rw [hlt]), hmc⟩
 case rest =>
  obtain ⟨rfl, HM⟩ := hcut
  go_wp2_with fail
  go_ret
  exact ⟨rfl, HM⟩
set_option maxRecDepth 100000 in
set_option maxHeartbeats 3200000 in
theorem sbTurn_yes (h : SbIn W w F x a M B z n c rd sc nx ps rp (.map (some k)) ov) (hn : ¬ nx < B) (hps : ps ≤ 100000000) :
  Calls Tryz.prog 51 #[.pointer (some ⟨sc, 0, none⟩)] w fun e w' => ∃ lm, e = .returned (.bool true) ∧ Hid (SbIn W w' F x a M B z n c rd sc 0 (ps + 1) rp (.map (some lm)) (.map (some k))) ∧ Hid (Mods [sc] w w') := by
 have hmm := run_makeMapSb
 have cB := Lib.hid (fun (w' : World) (hm : Mods [] w w') => stBlocks_any (h.st.own.still hm) h.wd.fine (h.st.st.keep hm (by simp)))
 have HC : Hid (∀ w', Mods [] w w' → w'.cell? ⟨sc, 0, none⟩ = some (.pointer (some ⟨a.sb, 0, none⟩)) ∧ w'.cell? ⟨sc, 1, none⟩ = some (.int .i64 (nx : Nat))) := Lib.hid (fun w' hm => ⟨(h.blk.keep hm (by simp)).cell (i := 0) rfl, (h.blk.keep hm (by simp)).cell (i := 1) rfl⟩)
 obtain ⟨s0, s1⟩ := HC.out w (Mods.refl _ _)
 have HH := Lib.hid h
 clear h
 have hlt : decide ((nx : Int) < (B : Int)) = false := decide_eq_false (by omega)
 obtain ⟨p2, hp2⟩ : ∃ t, ps + 1 = t := ⟨_, rfl⟩
 have hj2 : (ps : Int) + 1 = (p2 : Int) := by omega
 have e2 : IntKind.i64.wrap (p2 : Int) = (p2 : Int) := by rw [IntKind.wrap_i64]; omega
 have e4 : wrap64 (p2 : Int) = (p2 : Int) := by unfold wrap64; omega
 rw [hp2]
 clear hp2 hps
 go_enter Tryz.func51, Tryz.ntmps51
 go_upto_region 1 with fail
 go_cut [12] from 3 to 11 (fun bv wx => bv = .bool false ∧ Hid (Mods [] w wx))
 case first =>
  clear hmm
  go_region_held3 (fun w' => w'.cell? ⟨sc, 0, none⟩ = some (.pointer (some ⟨a.sb, 0, none⟩)) ∧ w'.cell? ⟨sc, 1, none⟩ = some (.int .i64 (nx : Nat)))
   (first | exact HC.out _ hmc.out | go_keep | fail)
   (first | (go_at_call 26; refine (cB.out _ (by first | exact (Mods.refl _ _).drew | exact Mods.refl _ _)).mono ?_; rintro e w2 ⟨rfl, hm2⟩; have hmc : Hid (Mods [] w w2) := (by first | exact Lib.hid (((Mods.refl _ _).drew).tr hm2.out) | exact Lib.hid ((Mods.refl _ _).tr hm2.out))) | fail)
  all_goals go_wp2_with fail
  all_goals go_meet
  all_goals exact ⟨by first | rfl | (rw [hlt]), hmc⟩
 case rest =>
  obtain ⟨rfl, HM⟩ := hcut
  have HS := Lib.hid (HH.out.calm HM.out)
  have b1 := HS.out.blk.cell (i := 1) rfl
  have b2 := HS.out.blk.cell (i := 2) rfl
  have b4 := HS.out.blk.cell (i := 4) rfl
  have b5 := HS.out.blk.cell (i := 5) (v := ov) rfl
  have f1 := HS.out.blk.free 1
  have f2 := HS.out.blk.free 2
  have f4 := HS.out.blk.free 4
  have f5 := HS.out.blk.free 5
  clear s0 s1 HC cB
  go_upto_region 5 with fail
  obtain ⟨w3, hw3⟩ : ∃ w3, (wc.setCell ⟨sc, 1, none⟩ (.int .i64 0)).setCell ⟨sc, 2, none⟩ (.int .i64 (p2 : Nat)) = w3 := ⟨_, rfl⟩
  have hb3 := (HS.out.blk.set 1 (.int .i64 0)).set 2 (.int .i64 (p2 : Nat))
  have hm3 : Mods [sc] wc w3 := by rw [← hw3]; exact ((Mods.refl _ _).setCell (.inl (by simp)) _).setCell (.inl (by simp)) _
  rw [hw3] at hb3
  rw [hw3]
  have HB3 : Hid (Blk w3 sc 113 (sbC a.sb 0 p2 rp (.map (some k)) ov)) := Lib.hid hb3
  have HM3 := Lib.hid hm3
  clear hw3 hm3 hb3 b1 b2 b4 b5 f1 f2 f4 f5
  have c4 : w3.cell? ⟨sc, 4, none⟩ = some (.map (some k)) := HB3.out.cell (i := 4) rfl
  have c5 : w3.cell? ⟨sc, 5, none⟩ = some ov := HB3.out.cell (i := 5) rfl
  have d4 : ∀ o, (w3.alloc o).cell? ⟨sc, 4, none⟩ = some (.map (some k)) := fun o => (HB3.out.alloc o).cell (i := 4) rfl
  have d5 : ∀ o, (w3.alloc o).cell? ⟨sc, 5, none⟩ = some ov := fun o => (HB3.out.alloc o).cell (i := 5) rfl
  have g4 : ∀ o, (w3.alloc o).frozen? ⟨sc, 4, none⟩ = false := fun o => (HB3.out.alloc o).free 4
  have g5 : ∀ o, (w3.alloc o).frozen? ⟨sc, 5, none⟩ = false := fun o => (HB3.out.alloc o).free 5
  go_wp2_with fail
  go_ret
  have hmA : Mods [sc] (w3.alloc (.map #[] 0)) (((w3.alloc (.map #[] 0)).setCell ⟨sc, 5, none⟩ (.map (some k))).setCell ⟨sc, 4, none⟩ (.map (some w3.heap.size))) := ((Mods.refl _ _).setCell (.inl (by simp)) _).setCell (.inl (by simp)) _
  have hm4 := (((Mods.refl [] w3).alloc (.map #[] 0)).mono (by simp) : Mods [sc] w3 _).trans hmA (fun k hk => .inl hk)
  have hmc : Mods [sc] wc _ := HM3.out.trans hm4 (fun k hk => .inl hk)
  refine ⟨w3.heap.size, rfl, Lib.hid ⟨HS.out.st.aside hmc (fun g hg => by rw [List.mem_singleton.1 hg]; exact HS.out.mem), HS.out.wd, ?_, HS.out.mem⟩, Lib.hid ((HM.out.mono (by simp) : Mods [sc] w wc).trans hmc (fun k hk => .inl hk))⟩
  exact ((HB3.out.alloc (.map #[] 0)).set 5 (.map (some k))).set 4 (.map (some w3.heap.size))
end
end Go.Proofs.YtkjpdfomppjiiaaGreatDoor
/- Steps of a pass. -/
namespace Go.Proofs.YtkjpdfomppjiiaaGreatDoor
open Go.RowKit

def SpPost (B z n : Nat) (W w w' : World) (F : List Nat) (x : Nat → Nat) (a : StA) (M : Mi) (q : PtrE) (X : ByteArray) (k0 k sc nx ps rp : Nat) (dn : Bool) : Prop :=
 ∃ rd' M' rp' lm' ov', SbIn W w' F x a M' B z n 0 rd' sc (if dn then 0 else nx + k) (if dn then ps + 1 else ps) rp' (.map (some lm')) ov' ∧ Cp B z rd' q X k0 ∧ M'.reps ≤ M.reps + 2 * B ∧ rp' ≤ rp + 2 * B ∧ ∀ G, (∀ g ∈ G, g ∈ F ∧ g ≠ sc) → Minds G w w'
section
variable {W w w' : World} {F : List Nat} {x : Nat → Nat} {a : StA} {M M' : Mi} {B z n c c' k k0 km lm sc nx ps rp : Nat} {rd rd' : Nat → Nat → ByteArray} {lv ov : Value} {q : PtrE} {X : ByteArray}
theorem SbIn.protect {G : List Nat} (h : SbIn W w F x a M B z n c rd sc nx ps rp lv ov) (hm : Mods [] w w') (hG : ∀ g ∈ G, w.heap.size ≤ g ∧ g < w'.heap.size) : SbIn W w' (G ++ F) x a M B z n c rd sc nx ps rp lv ov :=
 ⟨h.st.protect hm hG, h.wd, h.blk.keep hm (by simp), ⟨List.mem_append_right _ h.mem.1, h.mem.2⟩⟩
theorem SbIn.less {G : List Nat} (h : SbIn W w F x a M B z n c rd sc nx ps rp lv ov) (hG : ∀ g ∈ G, g ∈ F) (hm : ∀ g ∈ a.all, g ∈ G) (hs : sc ∈ G) : SbIn W w G x a M B z n c rd sc nx ps rp lv ov :=
 ⟨h.st.less hG hm, h.wd, h.blk, ⟨hs, h.mem.2⟩⟩
set_option maxRecDepth 100000 in
set_option maxHeartbeats 6400000 in
theorem sbStep_any (h : SbIn W w F x a M B z n c rd sc nx ps rp (.map (some lm)) ov) (hc : Cp B z rd q X k0) (hcl : c + 2 * B ≤ 500000) (hr : M.reps + 2 * B < 900000000) (hn : nx < B) (hB : B ≤ 5000) (hrp : rp + 2 * B ≤ 100000000) (hps : ps ≤ 100000000)
  (hok : a.sup.Ok) (hh : a.sup.height = 1) (hq : a.sup.root = q) (hz0 : 128 ≤ z) (hz : z ≤ 1024) (hk : 1 ≤ k) (hkl : k < 9223372036854775807) :
  Calls Tryz.prog 19 #[.pointer (some ⟨sc, 0, none⟩), .int .i64 (k : Nat)] w fun e w' => e = .returned (.tuple #[.bool (decide (B ≤ nx + k)), .int .i64 0]) ∧ Hid (SpPost B z n W w w' F x a M q X k0 k sc nx ps rp (decide (B ≤ nx + k))) := by
 have hK1 : decide ((k : Int) < 1) = false := decide_eq_false (by omega)
 have s0 := h.blk.cell (i := 0) rfl
 have cK := Lib.hid (stKnown_any (k := k0) h.st.st hh (by rw [hq]; exact hc.addr))
 rw [hq] at cK
 have HH := Lib.hid h
 have HC := Lib.hid hc
 have HN := Lib.hid (And.intro hcl (And.intro hr (And.intro hn (And.intro hB (And.intro hrp (And.intro hps (And.intro hok (And.intro hz0 (And.intro hz (And.intro hk hkl))))))))))
 clear h hc hcl hr hn hB hrp hps hok hh hq hz0 hz
 go_enter Tryz.func19, Tryz.ntmps19
 go_upto_region 8 with (go_at_call 48; refine cK.out.mono ?_; rintro e w1 ⟨km, rfl, HMK, HM1, HL1⟩)
 have HS1 : Hid (SbIn W w1 ([km] ++ F) x a M B z n c rd sc nx ps rp (.map (some lm)) ov) := Lib.hid (HH.out.protect HM1.out (fun g hg => by rw [List.mem_singleton.1 hg]; exact ⟨HL1.out, HMK.out.lt⟩))
 clear s0 cK
 go_wp2_with fail
 go_loopw [8] (fun nv wr => ∃ (i : Nat), i ≤ k ∧ nx + i ≤ B ∧ nv = .int .i64 i ∧ Hid (∃ rd' M' rp' c', SbIn W wr ([km] ++ F) x a M' B z n c' rd' sc (nx + i) ps rp' (.map (some lm)) ov ∧ Cp B z rd' q X k0 ∧ MapK kvN wr km (knO q k0) 1 ∧ c' ≤ c + 2 * i ∧ rp' ≤ rp + 2 * i ∧ M'.reps ≤ M.reps + 2 * i ∧ ∀ G, (∀ g ∈ G, g ∈ F ∧ g ≠ sc) → Minds G w wr)) (fun nv _ => k - (intOf nv).toNat)
 case atStart =>
  exact ⟨0, by omega, by have := HN.out.2.2.1; omega, rfl, Lib.hid ⟨rd, M, rp, c, HS1.out, HC.out, HMK.out, by omega, by omega, by omega, fun G _ => Minds.of HM1.out⟩⟩
 case round =>
  obtain ⟨i, hik, hiB, rfl, HR⟩ := hrel
  obtain ⟨rd', M', rp', c', hS, hC, hMK, hc', hrp', hM', hmn⟩ := HR.out
  have HR1 := Lib.hid hS
  obtain ⟨y, hy⟩ : ∃ y, nx + i = y := ⟨_, rfl⟩
  rw [hy] at hS hiB
  have cB := Lib.hid (fun (w' : World) (hm : Mods [] wr w') => stBlocks_any (hS.st.own.still hm) hS.wd.fine (hS.st.st.keep hm (by simp)))
  have HCC : Hid (∀ w', Mods [] wr w' → w'.cell? ⟨sc, 0, none⟩ = some (.pointer (some ⟨a.sb, 0, none⟩)) ∧ w'.cell? ⟨sc, 1, none⟩ = some (.int .i64 (y : Nat))) := Lib.hid (fun w' hm => ⟨(hS.blk.keep hm (by simp)).cell (i := 0) rfl, (hS.blk.keep hm (by simp)).cell (i := 1) rfl⟩)
  obtain ⟨s0, s1⟩ := HCC.out wr (Mods.refl _ _)
  have HRR := HR
  have HYB := Lib.hid (And.intro hy (And.intro hiB hik))
  clear hS hC hMK hc' hrp' hM' hmn HR1
  go_upto_region 9 with fail
  go_cut [42] from 28 to 41 (fun bv wx => bv = .bool (decide (i < k) && decide (y < B)) ∧ Hid (Mods [] wr wx))
  case first =>
   by_cases hik2 : i < k
   ·have hd1 : decide ((i : Int) < (k : Int)) = true := decide_eq_true (by omega)
    go_region_held3 (fun w' => w'.cell? ⟨sc, 0, none⟩ = some (.pointer (some ⟨a.sb, 0, none⟩)) ∧ w'.cell? ⟨sc, 1, none⟩ = some (.int .i64 (y : Nat)))
     (first | exact HCC.out _ hmc.out | go_keep | fail)
     (first | (go_at_call 26; refine (cB.out _ (by first | exact (Mods.refl _ _).drew | exact Mods.refl _ _)).mono ?_; rintro e w2 ⟨rfl, hm2⟩; have hmc : Hid (Mods [] wr w2) := (by first | exact Lib.hid (((Mods.refl _ _).drew).tr hm2.out) | exact Lib.hid ((Mods.refl _ _).tr hm2.out))) | fail)
    all_goals go_wp2_with fail
    all_goals go_meet
    all_goals exact ⟨by simp [hik2], hmc⟩
   ·have hd1 : decide ((i : Int) < (k : Int)) = false := decide_eq_false (by omega)
    go_quiet (fail)
    all_goals go_wp2_with fail
    all_goals go_meet
    exact ⟨by simp [hik2], Lib.hid ((Mods.refl _ _).drewN _)⟩
  case rest =>
   obtain ⟨rfl, HM2⟩ := hcut
   clear s0 s1 HCC cB
   obtain ⟨rd', M', rp', c', hS, hC, hMK, hc', hrp', hM', hmn⟩ := HRR.out
   obtain ⟨hy, hiB, hik⟩ := HYB.out
   rw [hy] at hS
   have hS2 := hS.calm HM2.out
   have hMK2 := hMK.keep HM2.out (by simp)
   have b0 := hS2.blk.cell (i := 0) rfl
   by_cases hgo : i < k ∧ y < B
   ·rw [show (decide (i < k) && decide (y < B)) = true by simp [hgo]]
    obtain ⟨n1, n2, n3, n4, n5, n6, n7, n8, n9, n10, n11⟩ := HN.out
    have cBk := Lib.hid (sbBlock_any hS2 hMK2 hC (by omega) (by omega) hgo.2 n4 (by omega) n7 n8 n9)
    have HNU := Lib.hid (And.intro hgo (And.intro hc' (And.intro hrp' (And.intro hM' hmn))))
    obtain ⟨i2, hi2⟩ : ∃ t, i + 1 = t := ⟨_, rfl⟩
    have hj2 : (i : Int) + 1 = (i2 : Int) := by omega
    have e2 : IntKind.i64.wrap (i2 : Int) = (i2 : Int) := by rw [IntKind.wrap_i64]; omega
    have e4 : wrap64 (i2 : Int) = (i2 : Int) := by unfold wrap64; omega
    have HI2 := Lib.hid hi2
    have HMK2 := Lib.hid hMK2
    clear n1 n2 n3 n4 n5 n6 n7 n8 n9 n10 n11 hgo hc' hrp' hM' hmn hS hS2 hMK2 hMK hC hi2 b0
    go_wp2_with (go_at_call 49; refine cBk.out.mono ?_; rintro e w4 ⟨rp2, M2, c2, rfl, hrp2, hc2, HS4, HM4, HN4⟩)
    obtain ⟨⟨g1, g2⟩, g3, g4, g5, g6⟩ := HNU.out
    obtain ⟨rd4, hs4, hc4⟩ := HS4.out
    have hi2 := HI2.out
    have hscF := HH.out.mem.1
    have hscl : sc < w.heap.size := HH.out.blk.lt
    have hkml := HL1.out
    have hmk4 := (HN4.out [km] (fun g hg => by rw [List.mem_singleton.1 hg]; exact ⟨by simp, by omega⟩)).map HMK2.out (by simp)
    have hM4 := HM4.out
    refine ⟨⟨i2, by omega, by omega, rfl, Lib.hid ⟨rd4, M2, rp2, c2, ?_, hc4, hmk4, by omega, by omega, by omega, fun G hG => ((g6 G hG).tr HM2.out).trans (HN4.out G (fun g hg => ⟨List.mem_append_right _ (hG g hg).1, (hG g hg).2⟩))⟩⟩, ?_⟩
    ·rw [← hi2, ← Nat.add_assoc, hy]
     exact hs4
    ·show k - (i2 : Int).toNat < k - (i : Int).toNat
     simp only [Int.toNat_natCast]
     omega
   ·rw [show (decide (i < k) && decide (y < B)) = false by simp; omega]
    obtain ⟨n1, n2, n3, n4, n5, n6, n7, n8, n9, n10, n11⟩ := HN.out
    have cM := Lib.hid (stMirror_any hS2.st.st)
    obtain ⟨M5, e5, d5, r5, b5⟩ := hS2.wd.flush
    have cF := oFlush hS2.st.own hS2.wd.fine (show c' ≤ 800000 by omega)
    rw [e5] at cF
    replace cF := Lib.hid cF
    have HS2 := Lib.hid hS2
    have HD5 := Lib.hid (And.intro d5 (And.intro r5 (And.intro hc' (And.intro hrp' (And.intro hM' (And.intro hmn hC))))))
    have hscl : sc < w.heap.size := HH.out.blk.lt
    have hkml := HL1.out
    have HKM : Hid (sc ≠ km) := Lib.hid (by omega)
    have hFl := HH.out.st.own.lt
    have HFL : Hid (∀ g ∈ F, g ≠ km) := Lib.hid (fun g hg => by have := hFl g hg; omega)
    have fin : ∀ (w9 : World) (dn : Bool) (lm' : Nat) (ov' : Value), dn = decide (B ≤ nx + k) → SbIn W w9 ([km] ++ F) x a M5 B z n 0 rd' sc (if dn then 0 else nx + k) (if dn then ps + 1 else ps) rp' (.map (some lm')) ov' → (∀ G, (∀ g ∈ G, g ∈ F ∧ g ≠ sc) → Minds G wc w9) → SpPost B z n W w w9 F x a M q X k0 k sc nx ps rp (decide (B ≤ nx + k)) := fun w9 dn lm' ov' hdn h9 hmn9 => by
     rw [← hdn]
     refine ⟨rd', M5, rp', lm', ov', h9.less (fun g hg => List.mem_append_right _ hg) (fun g hg => (HH.out.st.mem g hg).1) HH.out.mem.1, hC, by omega, by omega, fun G hG => ((hmn G hG).tr HM2.out).trans (hmn9 G hG)⟩
    have FIN := Lib.hid fin
    clear fin n1 n2 n3 n4 n5 n6 n7 n8 n9 n10 n11 hS hS2 hMK2 hMK hC hc' hrp' hM' hmn e5 d5 r5 b5 hscl hkml hFl
    by_cases hyB : y < B
    ·have HKI : Hid (i = k) := Lib.hid (by omega)
     go_upto_region 17 with (first | (go_at_call 20; refine cM.out.mono ?_; rintro e w5 ⟨rfl, hw5⟩; subst hw5) | (go_at_call 50; refine cF.out.mono ?_; rintro e w6 ⟨rfl, HO6, HN6⟩))
     have HS6 := Lib.hid (HS2.out.go HO6.out HN6.out HD5.out.1)
     have cT := Lib.hid (sbTurn_no HS6.out hyB)
     have hdn : decide (B ≤ nx + k) = false := decide_eq_false (by have := HKI.out; omega)
     go_wp2_with (go_at_call 51; refine cT.out.mono ?_; rintro e w7 ⟨rfl, HM7⟩)
     go_ret2
     refine ⟨by rw [hdn]; rfl, Lib.hid ?_⟩
     have h9 := FIN.out w7 false lm ov hdn.symm ?_ (fun G hG => (HN6.out.mono (fun g hg => List.mem_append_right _ (hG g hg).1)).tr HM7.out)
     ·exact h9
     ·have := HS6.out.calm HM7.out
      simp only [Bool.false_eq_true, if_false]
      rw [← HKI.out, hy]
      exact this
    ·go_upto_region 17 with (first | (go_at_call 20; refine cM.out.mono ?_; rintro e w5 ⟨rfl, hw5⟩; subst hw5) | (go_at_call 50; refine cF.out.mono ?_; rintro e w6 ⟨rfl, HO6, HN6⟩))
     have HS6 := Lib.hid (HS2.out.go HO6.out HN6.out HD5.out.1)
     have cT := Lib.hid (sbTurn_yes HS6.out hyB (by have := HN.out; omega))
     have hdn : decide (B ≤ nx + k) = true := decide_eq_true (by omega)
     go_wp2_with (go_at_call 51; refine cT.out.mono ?_; rintro e w7 ⟨lm7, rfl, HS7, HM7⟩)
     go_ret2
     refine ⟨by rw [hdn]; rfl, Lib.hid ?_⟩
     have h9 := FIN.out w7 true lm7 (.map (some lm)) hdn.symm ?_ (fun G hG => (HN6.out.mono (fun g hg => List.mem_append_right _ (hG g hg).1)).trans ⟨[sc], HM7.out, fun g hg hx => (hG g hx).2 (List.mem_singleton.1 hg)⟩)
     ·exact h9
     ·simp only [if_true]
      exact HS7.out
end
end Go.Proofs.YtkjpdfomppjiiaaGreatDoor
namespace Go.Proofs.YtkjpdfomppjiiaaGreatDoor
open Go.RowKit

def slC (sb : Nat) (cv : Value) (un : Bool) : List Value := [.pointer (some ⟨sb, 0, none⟩), cv, .bool un]
section
variable {W w : World} {F : List Nat} {x : Nat → Nat} {a : StA} {M : Mi} {B z n c sb sv sc nx ps rp : Nat} {lv ov cv : Value} {un : Bool}
theorem slNew_any : Calls Tryz.prog 5 #[.pointer (some ⟨sb, 0, none⟩)] w fun e w' => ∃ sv, e = .returned (.tuple #[.pointer (some ⟨sv, 0, none⟩), .int .i64 0]) ∧ Hid (Blk w' sv 50 (slC sb (.pointer none) false)) ∧ Hid (Mods [] w w') ∧ Hid (w.heap.size ≤ sv) := by
 go_enter Tryz.func5, Tryz.ntmps5
 go_wp2_with fail
 go_ret2
 exact ⟨w.heap.size, rfl, Lib.hid (Blk.new w 50 _), Lib.hid ((Mods.refl _ _).alloc _), Lib.hid (Nat.le_refl _)⟩
theorem slNew_nil : Calls Tryz.prog 5 #[.pointer none] w fun e w' => e = .returned (.tuple #[.pointer none, .int .i64 1]) ∧ w = w' := by
 go_enter Tryz.func5, Tryz.ntmps5
 go_wp2_with fail
 go_ret2
 exact ⟨rfl, rfl⟩
theorem slDegr_nil : Calls Tryz.prog 10 #[.pointer none] w fun e w' => e = .returned (.bool false) ∧ w = w' := by
 go_enter Tryz.func10, Tryz.ntmps10
 go_wp2_with fail
 go_ret
 exact ⟨rfl, rfl⟩
theorem slDegr_under (hb : Blk w sv 50 (slC sb cv true)) : Calls Tryz.prog 10 #[.pointer (some ⟨sv, 0, none⟩)] w fun e w' => e = .returned (.bool true) ∧ w = w' := by
 have c2 := hb.cell (i := 2) rfl
 clear hb
 go_enter Tryz.func10, Tryz.ntmps10
 go_wp2_with fail
 go_ret
 exact ⟨rfl, rfl⟩
theorem slDegr_any (hb : Blk w sv 50 (slC a.sb cv false)) (hst : Blk w a.sb 85 a.cells) (ho : OwnM W F w a.mb a.p x M) : Calls Tryz.prog 10 #[.pointer (some ⟨sv, 0, none⟩)] w fun e w' => e = .returned (.bool ((M.P.dev 0).gone || (M.P.dev 1).gone)) ∧ w = w' := by
 have c0 := hb.cell (i := 0) rfl
 have c2 := hb.cell (i := 2) rfl
 have cM := Lib.hid (stMirror_any hst)
 have cD := Lib.hid (oDegr ho)
 obtain ⟨r, hr⟩ : ∃ r, ((M.P.dev 0).gone || (M.P.dev 1).gone) = r := ⟨_, rfl⟩
 rw [hr] at cD ⊢
 clear hb hst ho hr
 go_enter Tryz.func10, Tryz.ntmps10
 go_wp2_with (first | (go_at_call 20; refine cM.out.mono ?_; rintro e w1 ⟨rfl, hw1⟩; subst hw1) | (go_at_call 24; refine cD.out.mono ?_; rintro e w2 ⟨rfl, hw2⟩; subst hw2))
 go_ret
 exact ⟨rfl, rfl⟩
theorem slDone_nil : Calls Tryz.prog 11 #[.pointer none] w fun e w' => e = .returned (.int .i64 0) ∧ w = w' := by
 go_enter Tryz.func11, Tryz.ntmps11
 go_wp2_with fail
 go_ret
 exact ⟨rfl, rfl⟩
theorem slDone_none (hb : Blk w sv 50 (slC sb (.pointer none) un)) : Calls Tryz.prog 11 #[.pointer (some ⟨sv, 0, none⟩)] w fun e w' => e = .returned (.int .i64 0) ∧ w = w' := by
 have c1 := hb.cell (i := 1) rfl
 clear hb
 go_enter Tryz.func11, Tryz.ntmps11
 go_wp2_with fail
 go_ret
 exact ⟨rfl, rfl⟩
theorem slDone_done (hb : Blk w sv 50 (slC a.sb (.pointer (some ⟨sc, 0, none⟩)) false)) (hst : Blk w a.sb 85 a.cells) (ho : OwnM W F w a.mb a.p x M) (hF : Fine B z c M.P) : Calls Tryz.prog 11 #[.pointer (some ⟨sv, 0, none⟩)] w fun e w' => e = .returned (.int .i64 (B : Nat)) ∧ Hid (Mods [] w w') := by
 have c0 := hb.cell (i := 0) rfl
 have c1 := hb.cell (i := 1) rfl
 have c2 := hb.cell (i := 2) rfl
 have cB := Lib.hid (stBlocks_any ho hF hst)
 clear hb hst ho hF
 go_enter Tryz.func11, Tryz.ntmps11
 go_wp2_with (go_at_call 26; refine cB.out.mono ?_; rintro e w1 ⟨rfl, HM1⟩)
 go_ret
 exact ⟨rfl, HM1⟩
theorem slCopied_nil : Calls Tryz.prog 12 #[.pointer none] w fun e w' => e = .returned (.int .i64 0) ∧ w = w' := by
 go_enter Tryz.func12, Tryz.ntmps12
 go_wp2_with fail
 go_ret
 exact ⟨rfl, rfl⟩
theorem slCopied_none (hb : Blk w sv 50 (slC sb (.pointer none) un)) : Calls Tryz.prog 12 #[.pointer (some ⟨sv, 0, none⟩)] w fun e w' => e = .returned (.int .i64 0) ∧ w = w' := by
 have c1 := hb.cell (i := 1) rfl
 have cC := Lib.hid (fun w => sbCounts_nil (w := w))
 clear hb
 go_enter Tryz.func12, Tryz.ntmps12
 go_wp2_with (go_at_call 27; refine (cC.out _).mono ?_; rintro e w1 ⟨rfl, hw1⟩; subst hw1)
 go_ret
 exact ⟨rfl, rfl⟩
theorem slStep_nil (k : Int) : Calls Tryz.prog 8 #[.pointer none, .int .i64 k] w fun e w' => e = .returned (.tuple #[.bool false, .int .i64 1]) ∧ w = w' := by
 go_enter Tryz.func8, Tryz.ntmps8
 go_wp2_with fail
 go_ret2
 exact ⟨rfl, rfl⟩
theorem slStep_arg {k : Int} (hk : k < 1) : Calls Tryz.prog 8 #[.pointer (some ⟨sv, 0, none⟩), .int .i64 k] w fun e w' => e = .returned (.tuple #[.bool false, .int .i64 2]) ∧ w = w' := by
 go_enter Tryz.func8, Tryz.ntmps8
 go_wp2_with fail
 go_ret2
 exact ⟨rfl, rfl⟩
theorem slStep_state {k : Int} (hk : ¬ k < 1) (hb : Blk w sv 50 (slC sb cv false)) : Calls Tryz.prog 8 #[.pointer (some ⟨sv, 0, none⟩), .int .i64 k] w fun e w' => e = .returned (.tuple #[.bool false, .int .i64 17]) ∧ w = w' := by
 have c2 := hb.cell (i := 2) rfl
 clear hb
 go_enter Tryz.func8, Tryz.ntmps8
 go_wp2_with fail
 go_ret2
 exact ⟨rfl, rfl⟩
theorem slStep_any {k : Int} (hk : ¬ k < 1) (hb : Blk w sv 50 (slC sb (.pointer (some ⟨sc, 0, none⟩)) true)) {d : Bool} {Q : World → Prop} (hS : Calls Tryz.prog 19 #[.pointer (some ⟨sc, 0, none⟩), .int .i64 k] w fun e w' => e = .returned (.tuple #[.bool d, .int .i64 0]) ∧ Hid (Q w')) (hQ : ∀ w', Q w' → Blk w' sv 50 (slC sb (.pointer (some ⟨sc, 0, none⟩)) true)) :
  Calls Tryz.prog 8 #[.pointer (some ⟨sv, 0, none⟩), .int .i64 k] w fun e w' => e = .returned (.tuple #[.bool d, .int .i64 0]) ∧ Hid (∃ w1, Q w1 ∧ Mods [sv] w1 w' ∧ Blk w' sv 50 (slC sb (.pointer (some ⟨sc, 0, none⟩)) (!d))) := by
 have c1 := hb.cell (i := 1) rfl
 have c2 := hb.cell (i := 2) rfl
 have HS := Lib.hid hS
 have HQ := Lib.hid hQ
 clear hb hS hQ
 go_enter Tryz.func8, Tryz.ntmps8
 go_upto_region 8 with (go_at_call 19; refine HS.out.mono ?_; rintro e w1 ⟨rfl, HQ1⟩)
 have hb1 := HQ.out w1 HQ1.out
 have f2 := hb1.free 2
 have b2 := hb1.cell (i := 2) rfl
 have HB1 := Lib.hid hb1
 clear hb1
 cases d
 ·go_wp2_with fail
  go_ret2
  exact ⟨rfl, Lib.hid ⟨w1, HQ1.out, Mods.refl _ _, HB1.out⟩⟩
 ·go_wp2_with fail
  go_ret2
  exact ⟨rfl, Lib.hid ⟨w1, HQ1.out, (Mods.refl _ _).setCell (.inl (by simp)) _, HB1.out.set 2 (.bool false)⟩⟩
theorem slReplace_nil (s : Int) (d : Value) : Calls Tryz.prog 9 #[.pointer none, .int .i64 s, d] w fun e w' => e = .returned (.int .i64 1) ∧ w = w' := by
 go_enter Tryz.func9, Tryz.ntmps9
 go_wp2_with fail
 go_ret
 exact ⟨rfl, rfl⟩
theorem slReplace_err {s : Int} {d : Option Addr} {k : Nat} (hk : k ≠ 0) (hb : Blk w sv 50 (slC a.sb cv un)) (hst : Blk w a.sb 85 a.cells) (ho : OwnM W F w a.mb a.p x M) (hR : Calls Tryz.prog 22 #[.pointer (some ⟨a.p, 0, none⟩), .int .i64 s, .pointer d] w fun e w' => e = .returned (.int .i64 (k : Nat)) ∧ Hid (Mods [] w w')) :
  Calls Tryz.prog 9 #[.pointer (some ⟨sv, 0, none⟩), .int .i64 s, .pointer d] w fun e w' => e = .returned (.int .i64 (k : Nat)) ∧ Hid (Mods [] w w') := by
 have c0 := hb.cell (i := 0) rfl
 have cM := Lib.hid (stMirror_any hst)
 have cP := Lib.hid (oPair ho)
 have HR := Lib.hid hR
 have hk2 : ¬ (k : Int) = 0 := by omega
 clear hb hst ho hR
 go_enter Tryz.func9, Tryz.ntmps9
 go_wp2_with (first | (go_at_call 20; refine cM.out.mono ?_; rintro e w1 ⟨rfl, hw1⟩; subst hw1) | (go_at_call 21; refine cP.out.mono ?_; rintro e w1 ⟨rfl, hw1⟩; subst hw1) | (go_at_call 22; refine HR.out.mono ?_; rintro e w2 ⟨rfl, HM2⟩))
 go_ret
 exact ⟨rfl, HM2⟩
theorem slReplace_any {s : Int} {d : Option Addr} {Q : World → Prop} (hb : Blk w sv 50 (slC a.sb cv un)) (hst : Blk w a.sb 85 a.cells) (ho : OwnM W F w a.mb a.p x M) (hR : Calls Tryz.prog 22 #[.pointer (some ⟨a.p, 0, none⟩), .int .i64 s, .pointer d] w fun e w' => e = .returned (.int .i64 0) ∧ Hid (Q w')) (hQ : ∀ w', Q w' → Blk w' sv 50 (slC a.sb cv un)) :
  Calls Tryz.prog 9 #[.pointer (some ⟨sv, 0, none⟩), .int .i64 s, .pointer d] w fun e w' => e = .returned (.int .i64 0) ∧ Hid (∃ w1 w3 sc lm, Q w1 ∧ Mods [] w1 w3 ∧ w1.heap.size ≤ sc ∧ Blk w3 sc 113 (sbC a.sb 0 0 0 (.map (some lm)) (.map none)) ∧ Mods [sv] w3 w' ∧ Blk w' sv 50 (slC a.sb (.pointer (some ⟨sc, 0, none⟩)) true)) := by
 have c0 := hb.cell (i := 0) rfl
 have cM := Lib.hid (stMirror_any hst)
 have cP := Lib.hid (oPair ho)
 have HR := Lib.hid hR
 have HQ := Lib.hid hQ
 have cN := Lib.hid (fun w => sbNew_any (w := w) (sb := a.sb))
 clear hb hst ho hR hQ
 go_enter Tryz.func9, Tryz.ntmps9
 go_upto_region 4 with (first | (go_at_call 20; refine cM.out.mono ?_; rintro e w1 ⟨rfl, hw1⟩; subst hw1) | (go_at_call 21; refine cP.out.mono ?_; rintro e w1 ⟨rfl, hw1⟩; subst hw1) | (go_at_call 22; refine HR.out.mono ?_; rintro e w2 ⟨rfl, HQ2⟩))
 have hb2 := HQ.out w2 HQ2.out
 have d0 := hb2.cell (i := 0) rfl
 have HB2 := Lib.hid hb2
 clear hb2 c0 cM cP HR
 go_wp2_with (go_at_call 23; refine (cN.out _).mono ?_; rintro e w3 ⟨sc, lm, rfl, HS3, HM3, HL3⟩; have hb3 := HB2.out.keep HM3.out (by simp); have e1 := hb3.cell (i := 1) rfl; have e2 := hb3.cell (i := 2) rfl; have f1 := hb3.free 1; have f2 := hb3.free 2; have HB3 := Lib.hid hb3; clear hb3)
 go_ret
 have hm4 : Mods [sv] w3 ((w3.setCell ⟨sv, 1, none⟩ (.pointer (some ⟨sc, 0, none⟩))).setCell ⟨sv, 2, none⟩ (.bool true)) := ((Mods.refl _ _).setCell (.inl (by simp)) _).setCell (.inl (by simp)) _
 exact ⟨rfl, Lib.hid ⟨w2, w3, sc, lm, HQ2.out, HM3.out, HL3.out, HS3.out, hm4, (HB3.out.set 1 (.pointer (some ⟨sc, 0, none⟩))).set 2 (.bool true)⟩⟩
end
end Go.Proofs.YtkjpdfomppjiiaaGreatDoor
