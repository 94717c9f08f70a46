/- The laws' pair: Stick, Kill; what reads as before. -/
import Derived.Test.YtkjpdfomppjiiaaGreatDoorKE
import Derived.Test.YtkjpdfomppjiiaaGreatDoorKC
import Derived.Lib.SliceRun
import Derived.Deep.RegionHeld3
import Derived.Outline
/- A pair without faults, plainly: what keep does to devices whose power doesn't fail; what the slots hold. -/
namespace Go.Proofs.YtkjpdfomppjiiaaGreatDoor

namespace Dev
structure Quiet (D : Dev) : Prop where
 off : D.off = false
 gone : D.gone = false
 fuse : D.fuse = 0
 lose : D.lose = 0
 stray : D.stray = 0
theorem Quiet.ready {D : Dev} (q : D.Quiet) : D.ready = 0 := by unfold Dev.ready; rw [q.off, q.gone]; rfl
theorem Quiet.burn {D : Dev} (q : D.Quiet) : D.burn = (0, D) := by unfold Dev.burn; rw [if_pos q.fuse]
theorem isS_of {D : Dev} {k : Nat} (h : k < D.sectors) : D.isS (k : Int) = true := by unfold isS; simp; exact h
theorem write_quiet {D : Dev} (q : D.Quiet) {k : Nat} (hk : k < D.sectors) (hb : D.bad.getD k false = false) {x : ByteArray} (hx : x.size = D.size) : D.write (k : Int) x = (0, { D with cache := D.cache ++ [(k, x)] }) := by
 rw [write_put q.ready (isS_of hk) hx (by rw [q.burn]) (by rw [Int.toNat_natCast]; exact hb), q.burn]
 unfold put
 rw [if_neg (by rw [q.stray]; decide), if_neg (by rw [q.lose]; decide), Int.toNat_natCast]
 have h1 := q.lose
 have h2 := q.stray
 cases D
 simp only at h1 h2
 subst h1
 subst h2
 rfl
theorem flush_quiet {D : Dev} (q : D.Quiet) : D.flush = (0, { D with media := settleAll D.media D.cache, cache := [] }) := by
 unfold flush
 rw [if_neg (by rw [q.ready]; simp), if_neg (by rw [q.burn]; simp), q.burn]
theorem settle_other : ∀ (c : List (Nat × ByteArray)) (m : List ByteArray) (j : Nat), (∀ x ∈ c, x.1 ≠ j) → (settleAll m c)[j]? = m[j]?
 | [], _, _, _ => rfl
 | x :: c, m, j, h => by
  show (settleAll (m.set x.1 x.2) c)[j]? = m[j]?
  rw [settle_other c _ j (fun y hy => h y (by simp [hy])), List.getElem?_set_ne (h x (by simp))]
end Dev
theorem put_quiet {D : Dev} (q : D.Quiet) {k : Nat} (hk : k < D.sectors) (hb : D.bad.getD k false = false) {x : ByteArray} (hx : x.size = D.size) :
  putD D k x = ((true, 0), { D with media := (Dev.settleAll D.media D.cache).set k x, cache := [] }) := by
 unfold putD
 simp only
 rw [Dev.write_quiet q hk hb hx]
 simp only [if_true]
 rw [Dev.flush_quiet (D := { D with cache := D.cache ++ [(k, x)] }) ⟨q.off, q.gone, q.fuse, q.lose, q.stray⟩]
 simp only [Dev.settle_snoc]
 rfl
theorem read_quiet {D : Dev} (q : D.Quiet) {k : Nat} (hk : k < D.sectors) (hb : D.bad.getD k false = false) (hc : ∀ x ∈ D.cache, x.1 ≠ k) : D.read (k : Int) = (D.media.getD k ⟨#[]⟩, 0) := by
 unfold Dev.read
 rw [if_neg (by rw [q.ready]; simp), if_neg (by rw [Dev.isS_of hk]; simp), Int.toNat_natCast, if_neg (by rw [hb]; simp)]
 unfold Dev.cur Dev.late
 rw [List.find?_eq_none.2 (fun x hx => by simpa using hc x (by simpa using hx))]
 rfl
structure DevQ (D : Dev) : Prop where
 q : D.Quiet
 ok : D.Ok
 sec : 4 ≤ D.sectors
 bad : ∀ j, j < 4 → D.bad.getD j false = false
 cache : ∀ x ∈ D.cache, 4 ≤ x.1
def kept (D : Dev) (k : Nat) (x : ByteArray) : Dev := { D with media := (Dev.settleAll D.media D.cache).set k x, cache := [] }
theorem DevQ.put {D : Dev} (h : DevQ D) {k : Nat} (hk : k < 4) {x : ByteArray} (hx : x.size = D.size) : putD D k x = ((true, 0), kept D k x) := put_quiet h.q (by have := h.sec; omega) (h.bad k hk) hx
theorem DevQ.kept {D : Dev} (h : DevQ D) {k : Nat} {x : ByteArray} (hx : x.size = D.size) : DevQ (kept D k x) := by
 refine ⟨⟨h.q.off, h.q.gone, h.q.fuse, h.q.lose, h.q.stray⟩, ⟨?_, h.ok.bad, h.ok.sec, h.ok.size0, h.ok.size1, ?_, fun x hx => by cases hx⟩, h.sec, h.bad, fun x hx => by cases hx⟩
 ·show ((Dev.settleAll D.media D.cache).set k x).length = _
  rw [List.length_set, Dev.settle_len]; exact h.ok.media
 ·have key : ∀ (c : List (Nat × ByteArray)) (m : List ByteArray), (∀ s ∈ m, s.size = D.size) → (∀ y ∈ c, y.2.size = D.size) → ∀ s ∈ Dev.settleAll m c, s.size = D.size := by
   intro c
   induction c with
   | nil => intro m hm _ s hs; exact hm s hs
   | cons y c ih =>
    intro m hm hc s hs
    refine ih (m.set y.1 y.2) (fun s hs => ?_) (fun z hz => hc z (by simp [hz])) s hs
    rcases List.mem_or_eq_of_mem_set hs with h1 | h1
    ·exact hm s h1
    ·rw [h1]; exact hc y (by simp)
  intro s hs
  rcases List.mem_or_eq_of_mem_set hs with h1 | h1
  ·exact key D.cache D.media h.ok.each (fun y hy => (h.ok.cache y hy).2) s h1
  ·rw [h1]; exact hx
theorem DevQ.slot {D : Dev} (h : DevQ D) {j : Nat} (hj : j < 4) : D.read (j : Int) = (D.media.getD j ⟨#[]⟩, 0) :=
 read_quiet h.q (by have := h.sec; omega) (h.bad j hj) (fun x hx => by have := h.cache x hx; omega)
theorem kept_at {D : Dev} (h : DevQ D) {k : Nat} (hk : k < 4) (x : ByteArray) : (kept D k x).media.getD k ⟨#[]⟩ = x := by
 show ((Dev.settleAll D.media D.cache).set k x).getD k ⟨#[]⟩ = x
 rw [List.getD_eq_getElem?_getD, List.getElem?_set_self (by rw [Dev.settle_len, h.ok.media]; have := h.sec; omega)]; rfl
theorem kept_other {D : Dev} (h : DevQ D) {k j : Nat} (hj : j < 4) (hne : j ≠ k) (x : ByteArray) : (kept D k x).media.getD j ⟨#[]⟩ = D.media.getD j ⟨#[]⟩ := by
 show ((Dev.settleAll D.media D.cache).set k x).getD j ⟨#[]⟩ = _
 rw [List.getD_eq_getElem?_getD, List.getD_eq_getElem?_getD, List.getElem?_set_ne (Ne.symm hne), Dev.settle_other _ _ _ (fun y hy => by have := h.cache y hy; omega)]
theorem slotOf_lt (own : Bool) (g : Nat) : slotOf own g < 4 := by
 unfold slotOf
 have := Nat.mod_lt g (show 0 < 2 by omega)
 cases own <;> simp <;> omega
theorem new_quiet (n s : Nat) (h : Dev.right (n : Int) (s : Int) = true) : DevQ (Dev.new n s) := by
 obtain ⟨h1, h2, h3, h4⟩ := right_parts h
 refine ⟨⟨rfl, rfl, rfl, rfl, rfl⟩, ⟨by simp [Dev.new], by simp [Dev.new], h2, h3, h4, ?_, fun x hx => by cases hx⟩, by show 4 ≤ n; omega, fun j hj => ?_, fun x hx => by cases hx⟩
 ·intro x hx
  have hx2 : x ∈ List.replicate n (⟨Array.replicate s 0⟩ : ByteArray) := hx
  rw [List.eq_of_mem_replicate hx2]
  show (Array.replicate s (0 : UInt8)).size = s
  simp
 ·show (List.replicate n false).getD j false = false
  rw [List.getD_eq_getElem?_getD, List.getElem?_replicate]
  split <;> rfl
theorem image_size {size side : Nat} {m : List Nat} (h : 8 + 2 * m.length + 24 ≤ size) : (bA (imageOf size side m)).size = size := by
 rw [bA_size]
 unfold imageOf
 rw [sealL_len _ (by rw [textL_len]; omega)]
theorem keep_quiet {P : Pr} {s : Nat} (hs : s < 2) (h : ∀ k, k < 2 → DevQ (P.dev k)) (hsz : (P.dev (1 - s)).size = (P.dev s).size) {t : Tab} (ht : 8 + 2 * t.moved.length + 24 ≤ (P.dev s).size) :
  P.keep s t = (0, ((P.setDev s (kept (P.dev s) (slotOf true t.moved.length) (bA (imageOf (P.dev s).size s t.moved)))).setDev (1 - s) (kept (P.dev (1 - s)) (slotOf false t.moved.length) (bA (imageOf (P.dev s).size s t.moved)))).setTab s t) := by
 have hx : (bA (imageOf (P.dev s).size s t.moved)).size = (P.dev s).size := image_size ht
 unfold Pr.keep
 simp only
 rw [(h s hs).put (slotOf_lt _ _) hx, (h (1 - s) (by omega)).put (slotOf_lt _ _) (hx.trans hsz.symm)]
 rfl
end Go.Proofs.YtkjpdfomppjiiaaGreatDoor
/- What the slots hold, and what find makes of them, plainly. -/
namespace Go.Proofs.YtkjpdfomppjiiaaGreatDoor

theorem image_open {size side : Nat} {m : List Nat} (hs : side < 2) (h1 : 128 ≤ size) (h2 : size ≤ 1024) (hm : m.length ≤ 32) (hfit : 8 + 2 * m.length + 24 ≤ size) :
  openL (bA (imageOf size side m)).toList = some (⟨2, (side : Nat), m.length⟩, textL m) := by
 rw [bA_list]
 unfold imageOf
 exact open_seal (by unfold sizedE; simp; omega) (by unfold EHead.right placedE; simp; omega) (by show m.length < 18446744073709551616; omega) (by rw [textL_len]; omega)
theorem image_parse {size side : Nat} {t : Tab} (hs : side < 2) (h1 : 128 ≤ size) (h2 : size ≤ 1024) (ht : t.Ok) (hfit : 8 + 2 * t.moved.length + 24 ≤ size) :
  parseP t.blocks t.spares side (bA (imageOf size side t.moved)) = some t := by
 have hl := ht.len
 have hsp := ht.spares
 unfold parseP
 rw [image_open hs h1 h2 (by omega) hfit]
 simp only
 rw [if_pos (by simp), parse_text ht]
 simp
def OldOk (size side B n len : Nat) (x : ByteArray) : Prop := openL x.toList = none ∨ ∃ m : List Nat, m.length < len ∧ x = bA (imageOf size side m) ∧ (⟨B, n, m⟩ : Tab).Ok
structure SlotsOf (P : Pr) (side : Nat) : Prop where
 tok : (P.tab side).Ok
 blocks : (P.tab side).blocks = blocksN (P.dev 0).sectors (P.dev 0).size P.n
 spares : (P.tab side).spares = P.n
 cur : ∀ d, d < 2 → (P.dev d).media.getD (slotOf (decide (d = side)) (P.tab side).moved.length) ⟨#[]⟩ = bA (imageOf (P.dev 0).size side (P.tab side).moved)
 old : ∀ d, d < 2 → OldOk (P.dev 0).size side (P.tab side).blocks P.n (P.tab side).moved.length ((P.dev d).media.getD (slotOf (decide (d = side)) ((P.tab side).moved.length + 1)) ⟨#[]⟩)
structure PInv0 (P : Pr) : Prop where
 dev : ∀ d, d < 2 → DevQ (P.dev d)
 same : ∀ d, d < 2 → (P.dev d).size = (P.dev 0).size ∧ (P.dev d).sectors = (P.dev 0).sectors
 fit : P.Fit
def LeO (o : Option Tab) (T : Tab) : Prop := ∀ u, o = some u → u.moved.length < T.moved.length
theorem better_cur {T : Tab} {o : Option Tab} (h : LeO o T) : better o (some T) = some T := by
 unfold better
 simp only
 cases o with
 | none => rfl
 | some u => simp only; rw [if_pos (h u rfl)]
theorem better_keep {T : Tab} {o : Option Tab} (h : o = some T ∨ LeO o T) : better (some T) o = some T := by
 unfold better
 cases o with
 | none => rfl
 | some u =>
  simp only
  rcases h with h | h
  ·injection h with h; rw [h, if_neg (Nat.lt_irrefl _)]
  ·rw [if_neg (by have := h u rfl; omega)]
theorem better_le {T : Tab} {o q : Option Tab} (h : LeO o T) (g : LeO q T) : LeO (better o q) T := by
 unfold better
 cases q with
 | none => exact h
 | some u =>
  cases o with
  | none => exact g
  | some v =>
   simp only
   split
   ·exact g
   ·exact h
theorem slotOf_mod (own : Bool) (g : Nat) : slotOf own (g % 2) = slotOf own g := by unfold slotOf; rw [Nat.mod_mod]
theorem look_at {P : Pr} (h : PInv0 P) {side d g : Nat} (hs : side < 2) (hd : d < 2) : look P side d g = parseP (blocksN (P.dev 0).sectors (P.dev 0).size P.n) P.n side ((P.dev d).media.getD (slotOf (decide (d = side)) g) ⟨#[]⟩) := by
 unfold look
 rw [(h.dev d hd).slot (slotOf_lt _ _), (h.same side hs).1, (h.same side hs).2]
 simp
theorem fits_tab {P : Pr} (h : PInv0 P) {m : List Nat} (hm : m.length ≤ P.n) : 8 + 2 * m.length + 24 ≤ (P.dev 0).size ∧ 128 ≤ (P.dev 0).size ∧ (P.dev 0).size ≤ 1024 := by
 have h1 := h.fit.2.2.1
 have h2 := right_parts h.fit.1
 omega
theorem look_cur {P : Pr} (h : PInv0 P) {side : Nat} (hs : side < 2) (g : SlotsOf P side) {d : Nat} (hd : d < 2) : look P side d ((P.tab side).moved.length % 2) = some (P.tab side) := by
 have hl := g.tok.len
 rw [g.spares] at hl
 obtain ⟨f1, f2, f3⟩ := fits_tab h hl
 rw [look_at h hs hd, slotOf_mod, g.cur d hd, ← g.blocks, ← g.spares]
 exact image_parse hs f2 f3 g.tok f1
theorem look_old {P : Pr} (h : PInv0 P) {side : Nat} (hs : side < 2) (g : SlotsOf P side) {d : Nat} (hd : d < 2) : LeO (look P side d (((P.tab side).moved.length + 1) % 2)) (P.tab side) := by
 intro u hu
 rw [look_at h hs hd, slotOf_mod] at hu
 rcases g.old d hd with ho | ⟨m, hm, hx, hok⟩
 ·unfold parseP at hu
  rw [ho] at hu
  cases hu
 ·have hl := hok.len
  obtain ⟨f1, f2, f3⟩ := fits_tab h hl
  rw [hx] at hu
  have h2 := image_parse hs f2 f3 hok f1
  rw [← g.blocks] at hu
  simp only at h2
  rw [h2] at hu
  injection hu with hu
  rw [← hu]; exact hm
theorem find_cur {P : Pr} (h : PInv0 P) {side : Nat} (hs : side < 2) (g : SlotsOf P side) : findP P side = some (P.tab side) := by
 have c0 := look_cur h hs g hs
 have c1 := look_cur h hs g (d := 1 - side) (by omega)
 have o0 := look_old h hs g hs
 have o1 := look_old h hs g (d := 1 - side) (by omega)
 unfold findP
 rcases Nat.mod_two_eq_zero_or_one (P.tab side).moved.length with e | e
 ·rw [e] at c0 c1
  rw [show ((P.tab side).moved.length + 1) % 2 = 1 by omega] at o0 o1
  rw [c0, c1, better_cur (o := none) (fun u hu => nomatch hu), better_keep (.inr o0), better_keep (.inl rfl), better_keep (.inr o1)]
 ·rw [e] at c0 c1
  rw [show ((P.tab side).moved.length + 1) % 2 = 0 by omega] at o0 o1
  rw [c0, c1, better_cur (better_le (o := none) (fun u hu => nomatch hu) o0), better_keep (.inr o1), better_keep (.inl rfl)]
end Go.Proofs.YtkjpdfomppjiiaaGreatDoor
/- A pair without faults, plainly: what stays when a table is kept, a block is written, all is flushed, a sector is made bad. -/
namespace Go.Proofs.YtkjpdfomppjiiaaGreatDoor

namespace Dev
theorem late_cons (x : Nat × ByteArray) (c : List (Nat × ByteArray)) (i : Nat) : late (x :: c) i = (late c i).or (if x.1 = i then some x.2 else none) := by
 unfold late
 rw [List.reverse_cons, List.find?_append]
 cases c.reverse.find? (fun x => decide (x.1 = i)) with
 | none => by_cases h : x.1 = i <;> simp [h]
 | some v => rfl
theorem settle_cur : ∀ (c : List (Nat × ByteArray)) (m : List ByteArray) (i : Nat), i < m.length → (settleAll m c).getD i ⟨#[]⟩ = (late c i).getD (m.getD i ⟨#[]⟩)
 | [], _, _, _ => rfl
 | x :: c, m, i, h => by
  show (settleAll (m.set x.1 x.2) c).getD i ⟨#[]⟩ = _
  rw [settle_cur c _ i (by rw [List.length_set]; exact h), late_cons]
  cases late c i with
  | some v => rfl
  | none =>
   by_cases e : x.1 = i
   ·subst e
    rw [List.getD_eq_getElem?_getD, List.getElem?_set_self h]
    simp
   ·rw [List.getD_eq_getElem?_getD, List.getElem?_set_ne e, ← List.getD_eq_getElem?_getD, if_neg e]
    rfl
structure Same (D E : Dev) (J : Nat → Prop) : Prop where
 size : E.size = D.size
 sectors : E.sectors = D.sectors
 bad : ∀ j, J j → E.bad.getD j false = D.bad.getD j false
 cur : ∀ j, j < D.sectors → J j → E.cur j = D.cur j
theorem Same.refl (D : Dev) (J : Nat → Prop) : Same D D J := ⟨rfl, rfl, fun _ _ => rfl, fun _ _ _ => rfl⟩
theorem Same.mono {D E : Dev} {J K : Nat → Prop} (h : Same D E J) (g : ∀ j, K j → J j) : Same D E K := ⟨h.size, h.sectors, fun j hj => h.bad j (g j hj), fun j h1 hj => h.cur j h1 (g j hj)⟩
theorem Same.trans {D E F : Dev} {J : Nat → Prop} (h : Same D E J) (g : Same E F J) : Same D F J :=
 ⟨g.size.trans h.size, g.sectors.trans h.sectors, fun j hj => (g.bad j hj).trans (h.bad j hj), fun j h1 hj => (g.cur j (by rw [h.sectors]; exact h1) hj).trans (h.cur j h1 hj)⟩
theorem read_same {D E : Dev} {J : Nat → Prop} (h : Same D E J) (hd : D.Quiet) (he : E.Quiet) {j : Nat} (hj : J j) : E.read (j : Int) = D.read (j : Int) := by
 unfold Dev.read
 rw [hd.ready, he.ready]
 simp only [ne_eq, not_true_eq_false, if_false, Int.toNat_natCast]
 have h1 : E.isS (j : Int) = D.isS (j : Int) := by unfold isS; rw [h.sectors]
 rw [h1, h.bad j hj]
 by_cases e : D.isS (j : Int) = false
 ·rw [if_pos e, if_pos e]
 ·rw [if_neg e, if_neg e]
  split
  ·rfl
  ·rw [h.cur j (by unfold isS at e; simp at e; exact e) hj]
end Dev
theorem DevQ.cur_slot {D : Dev} (h : DevQ D) {j : Nat} (hj : j < 4) : D.cur j = D.media.getD j ⟨#[]⟩ := by
 unfold Dev.cur Dev.late
 rw [List.find?_eq_none.2 (fun x hx => by have := h.cache x (by simpa using hx); simp; omega)]
 rfl
theorem kept_same {D : Dev} (h : DevQ D) (k : Nat) (x : ByteArray) : Dev.Same D (kept D k x) (· ≠ k) := by
 refine ⟨rfl, rfl, fun _ _ => rfl, fun j h1 hj => ?_⟩
 show (Dev.late [] j).getD (((Dev.settleAll D.media D.cache).set k x).getD j ⟨#[]⟩) = _
 rw [Dev.late_nil, Option.getD_none, List.getD_eq_getElem?_getD, List.getElem?_set_ne (fun e => hj e.symm), ← List.getD_eq_getElem?_getD, Dev.settle_cur _ _ _ (by rw [h.ok.media]; exact h1)]
 rfl
theorem SlotsOf.turn {P P' : Pr} {side : Nat} (g : SlotsOf P side) (h : PInv0 P) (h' : PInv0 P') (hn : P'.n = P.n) (ht : P'.tab side = P.tab side)
  (hd : ∀ d, d < 2 → ∃ J, Dev.Same (P.dev d) (P'.dev d) J ∧ ∀ k, J (slotOf (decide (d = side)) k)) : SlotsOf P' side := by
 have hm : ∀ d, d < 2 → ∀ k, (P'.dev d).media.getD (slotOf (decide (d = side)) k) ⟨#[]⟩ = (P.dev d).media.getD (slotOf (decide (d = side)) k) ⟨#[]⟩ := by
  intro d hd2 k
  obtain ⟨J, h1, h2⟩ := hd d hd2
  have h3 := slotOf_lt (decide (d = side)) k
  rw [← (h.dev d hd2).cur_slot h3, ← (h'.dev d hd2).cur_slot h3]
  exact h1.cur _ (by have := (h.dev d hd2).sec; omega) (h2 k)
 obtain ⟨J0, h1, _⟩ := hd 0 (by decide)
 refine ⟨by rw [ht]; exact g.tok, by rw [ht, h1.size, h1.sectors, hn]; exact g.blocks, by rw [ht, hn]; exact g.spares, fun d hd2 => ?_, fun d hd2 => ?_⟩
 ·rw [ht, hm d hd2, h1.size]; exact g.cur d hd2
 ·rw [ht, hm d hd2, h1.size, hn]; exact g.old d hd2
theorem slot_ne (d s : Nat) (hd : d < 2) (hs : s < 2) (a b : Nat) : slotOf (decide (d = 1 - s)) a ≠ slotOf (decide (d = s)) b := by
 unfold slotOf
 have h1 := Nat.mod_lt a (show 0 < 2 by omega)
 have h2 := Nat.mod_lt b (show 0 < 2 by omega)
 by_cases e : d = s
 ·rw [decide_eq_true e, decide_eq_false (by omega : ¬ d = 1 - s)]; simp; omega
 ·rw [decide_eq_false e, decide_eq_true (by omega : d = 1 - s)]; simp; omega
structure Keeps (P P' : Pr) (s : Nat) (t : Tab) : Prop where
 inv : PInv0 P'
 slots : SlotsOf P' s
 n : P'.n = P.n
 tab : P'.tab = fun j => if j = s then t else P.tab j
 same : ∀ d, d < 2 → Dev.Same (P.dev d) (P'.dev d) (· ≠ slotOf (decide (d = s)) t.moved.length)
 cache : ∀ d, d < 2 → (P'.dev d).cache = []
theorem keep_inv {P : Pr} {s : Nat} {t : Tab} (h : PInv0 P) (hs : s < 2) (ht : t.Ok) (hb : t.blocks = blocksN (P.dev 0).sectors (P.dev 0).size P.n) (hn : t.spares = P.n)
  (ho : ∀ d, d < 2 → OldOk (P.dev 0).size s t.blocks P.n t.moved.length ((P.dev d).media.getD (slotOf (decide (d = s)) (t.moved.length + 1)) ⟨#[]⟩)) :
  ∃ P', P.keep s t = (0, P') ∧ Keeps P P' s t := by
 have hl := ht.len
 obtain ⟨f1, f2, f3⟩ := fits_tab h (m := t.moved) (by omega)
 have hsz : ∀ d, d < 2 → (P.dev d).size = (P.dev s).size := fun d hd => (h.same d hd).1.trans (h.same s hs).1.symm
 have hk := keep_quiet hs h.dev (hsz (1 - s) (by omega)) (t := t) (by rw [(h.same s hs).1]; exact f1)
 refine ⟨_, hk, ?_⟩
 obtain ⟨x, hx⟩ : ∃ x, bA (imageOf (P.dev s).size s t.moved) = x := ⟨_, rfl⟩
 have hx0 : x = bA (imageOf (P.dev 0).size s t.moved) := by rw [← hx, (h.same s hs).1]
 have hxs : x.size = (P.dev 0).size := by rw [hx0]; exact image_size f1
 rw [hx]
 have hd : ∀ d, d < 2 → (((P.setDev s (kept (P.dev s) (slotOf true t.moved.length) x)).setDev (1 - s) (kept (P.dev (1 - s)) (slotOf false t.moved.length) x)).setTab s t).dev d = kept (P.dev d) (slotOf (decide (d = s)) t.moved.length) x := by
  intro d hd
  show (if d = 1 - s then _ else if d = s then _ else P.dev d) = _
  by_cases e : d = s
  ·rw [if_neg (by omega), if_pos e, decide_eq_true e, e]
  ·have e2 : d = 1 - s := by omega
   rw [if_pos e2, decide_eq_false e, e2]
 generalize hP' : (((P.setDev s (kept (P.dev s) (slotOf true t.moved.length) x)).setDev (1 - s) (kept (P.dev (1 - s)) (slotOf false t.moved.length) x)).setTab s t) = P' at hd
 have hn' : P'.n = P.n := by rw [← hP']; rfl
 have ht' : P'.tab = fun j => if j = s then t else P.tab j := by rw [← hP']; rfl
 have hts : P'.tab s = t := by rw [ht']; simp
 have hs0 : ∀ d, d < 2 → (P'.dev d).size = (P.dev d).size ∧ (P'.dev d).sectors = (P.dev d).sectors := fun d h2 => by rw [hd d h2]; exact ⟨rfl, rfl⟩
 have hI : PInv0 P' := by
  refine ⟨fun d h2 => ?_, fun d h2 => ?_, ?_⟩
  ·rw [hd d h2]; exact (h.dev d h2).kept (by rw [hxs, (h.same d h2).1])
  ·rw [(hs0 d h2).1, (hs0 d h2).2, (hs0 0 (by decide)).1, (hs0 0 (by decide)).2]; exact h.same d h2
  ·have := h.fit
   unfold Pr.Fit at this ⊢
   rw [(hs0 0 (by decide)).1, (hs0 0 (by decide)).2, hn']; exact this
 refine ⟨hI, ⟨by rw [hts]; exact ht, ?_, by rw [hts, hn']; exact hn, fun d h2 => ?_, fun d h2 => ?_⟩, hn', ht', fun d h2 => ?_, fun d h2 => ?_⟩
 ·rw [hts, (hs0 0 (by decide)).1, (hs0 0 (by decide)).2, hn']; exact hb
 ·rw [hts, hd d h2, kept_at (h.dev d h2) (slotOf_lt _ _), (hs0 0 (by decide)).1, hx0]
 ·rw [hts, hd d h2, kept_other (h.dev d h2) (slotOf_lt _ _) (by
   unfold slotOf
   have : (t.moved.length + 1) % 2 ≠ t.moved.length % 2 := by omega
   omega), (hs0 0 (by decide)).1, hn']
  exact ho d h2
 ·rw [hd d h2]; exact kept_same (h.dev d h2) _ _
 ·rw [hd d h2]; rfl
theorem Keeps.other {P P' : Pr} {s : Nat} {t : Tab} (k : Keeps P P' s t) (h : PInv0 P) (hs : s < 2) (g : SlotsOf P (1 - s)) : SlotsOf P' (1 - s) :=
 g.turn h k.inv k.n (by rw [k.tab]; simp; omega) (fun d hd => ⟨_, k.same d hd, fun a => slot_ne d s hd hs a _⟩)
structure PI (P : Pr) : Prop where
 inv : PInv0 P
 slots : ∀ s, s < 2 → SlotsOf P s
theorem both {p : Nat → Prop} {s : Nat} (hs : s < 2) (h0 : p s) (h1 : p (1 - s)) : ∀ k, k < 2 → p k := by
 intro k hk
 rcases (show k = s ∨ k = 1 - s by omega) with rfl | rfl
 ·exact h0
 ·exact h1
structure Stays (P P' : Pr) (J : Nat → Nat → Prop) : Prop where
 n : P'.n = P.n
 same : ∀ d, d < 2 → Dev.Same (P.dev d) (P'.dev d) (J d)
theorem move_inv {P : Pr} {s : Nat} {i : Int} (h : PI P) (hs : s < 2) (hm : ((P.tab s).move i).2 = 0) :
  ∃ P', P.move s i = (0, P') ∧ PI P' ∧ (P'.tab = fun j => if j = s then { P.tab s with moved := (P.tab s).moved ++ [i.toNat] } else P.tab j) ∧ Stays P P' (fun _ j => 4 ≤ j) ∧ ∀ d, d < 2 → (P'.dev d).cache = [] := by
 obtain ⟨m1, m2⟩ := tmove_ok hm
 have hok := (h.slots s hs).tok.mv i
 unfold Pr.move
 rw [if_neg (by rw [hm]; simp)]
 rw [m1] at hok ⊢
 have g := h.slots s hs
 obtain ⟨P', e, k⟩ := keep_inv (t := { P.tab s with moved := (P.tab s).moved ++ [i.toNat] }) h.inv hs hok g.blocks g.spares (fun d hd => .inr ⟨(P.tab s).moved, by simp, by
  rw [← g.cur d hd]
  simp only [List.length_append, List.length_singleton]
  unfold slotOf
  rw [show ((P.tab s).moved.length + 1 + 1) % 2 = (P.tab s).moved.length % 2 by omega], by
  have := g.tok
  rw [← g.spares]; exact this⟩)
 refine ⟨P', e, ⟨k.inv, both hs k.slots (k.other h.inv hs (h.slots _ (by omega)))⟩, k.tab, ⟨k.n, fun d hd => (k.same d hd).mono (fun j hj => Nat.ne_of_gt (Nat.lt_of_lt_of_le (slotOf_lt _ _) hj))⟩, k.cache⟩
theorem dwrite_inv {D : Dev} (h : DevQ D) {k : Nat} (h4 : 4 ≤ k) (hk : k < D.sectors) (hb : D.bad.getD k false = false) {x : ByteArray} (hx : x.size = D.size) :
  ∃ D', D.write (k : Int) x = (0, D') ∧ DevQ D' ∧ Dev.Same D D' (· ≠ k) ∧ D'.cur k = x ∧ D'.cache.length = D.cache.length + 1 := by
 refine ⟨_, Dev.write_quiet h.q hk hb hx, ⟨⟨h.q.off, h.q.gone, h.q.fuse, h.q.lose, h.q.stray⟩, ⟨h.ok.media, h.ok.bad, h.ok.sec, h.ok.size0, h.ok.size1, h.ok.each, fun y hy => ?_⟩, h.sec, h.bad, fun y hy => ?_⟩, ⟨rfl, rfl, fun _ _ => rfl, fun j _ hj => ?_⟩, ?_, by simp⟩
 ·rcases List.mem_append.1 hy with hy | hy
  ·exact h.ok.cache y hy
  ·rw [List.mem_singleton.1 hy]; exact ⟨hk, hx⟩
 ·rcases List.mem_append.1 hy with hy | hy
  ·exact h.cache y hy
  ·rw [List.mem_singleton.1 hy]; exact h4
 ·show (Dev.late (D.cache ++ [(k, x)]) j).getD _ = _
  rw [Dev.late_snoc, if_neg (fun e => hj e.symm)]; rfl
 ·show (Dev.late (D.cache ++ [(k, x)]) k).getD _ = _
  rw [Dev.late_snoc, if_pos rfl]; rfl
theorem dwrite_bad {D : Dev} (h : DevQ D) {k : Nat} (hk : k < D.sectors) (hb : D.bad.getD k false = true) {x : ByteArray} (hx : x.size = D.size) : D.write (k : Int) x = (7, D) := by
 unfold Dev.write
 rw [if_neg (by rw [h.q.ready]; simp), if_neg (by rw [Dev.isS_of hk]; simp), if_neg (by rw [hx]; simp), if_neg (by rw [h.q.burn]; simp), Int.toNat_natCast, if_pos hb, h.q.burn]
theorem dflush_inv {D : Dev} (h : DevQ D) : ∃ D', D.flush = (0, D') ∧ DevQ D' ∧ Dev.Same D D' (fun _ => True) ∧ D'.cache = [] := by
 refine ⟨_, Dev.flush_quiet h.q, ⟨⟨h.q.off, h.q.gone, h.q.fuse, h.q.lose, h.q.stray⟩, ⟨(Dev.settle_len _ _).trans h.ok.media, h.ok.bad, h.ok.sec, h.ok.size0, h.ok.size1, Dev.settle_each _ _ h.ok.each (fun x hx => (h.ok.cache x hx).2), fun y hy => nomatch hy⟩, h.sec, h.bad, fun y hy => nomatch hy⟩, ⟨rfl, rfl, fun _ _ => rfl, fun j h1 _ => ?_⟩, rfl⟩
 show (Dev.late [] j).getD ((Dev.settleAll D.media D.cache).getD j ⟨#[]⟩) = _
 rw [Dev.late_nil, Option.getD_none, Dev.settle_cur _ _ _ (by rw [h.ok.media]; exact h1)]
 rfl
theorem PI.setDev {P : Pr} (h : PI P) {s : Nat} (_hs : s < 2) {D' : Dev} {J : Nat → Prop} (hq : DevQ D') (hsm : Dev.Same (P.dev s) D' J) (hJ : ∀ j, j < 4 → J j) : PI (P.setDev s D') ∧ Stays P (P.setDev s D') (fun d j => d = s → J j) := by
 have hst : Stays P (P.setDev s D') (fun d j => d = s → J j) := by
  refine ⟨rfl, fun d hd => ?_⟩
  show Dev.Same (P.dev d) (if d = s then D' else P.dev d) _
  by_cases e : d = s
  ·rw [if_pos e, e]; exact hsm.mono (fun j hj => hj rfl)
  ·rw [if_neg e]; exact Dev.Same.refl _ _
 have hI : PInv0 (P.setDev s D') := by
  refine ⟨fun d hd => ?_, fun d hd => ?_, ?_⟩
  ·show DevQ (if d = s then D' else P.dev d)
   split
   ·exact hq
   ·exact h.inv.dev d hd
  ·rw [(hst.same d hd).size, (hst.same d hd).sectors, (hst.same 0 (by decide)).size, (hst.same 0 (by decide)).sectors]; exact h.inv.same d hd
  ·have := h.inv.fit
   unfold Pr.Fit at this ⊢
   rw [(hst.same 0 (by decide)).size, (hst.same 0 (by decide)).sectors]; exact this
 exact ⟨⟨hI, fun side hsd => (h.slots side hsd).turn h.inv hI rfl rfl (fun d hd => ⟨_, hst.same d hd, fun k e => hJ _ (slotOf_lt _ _)⟩)⟩, hst⟩
end Go.Proofs.YtkjpdfomppjiiaaGreatDoor
/- A pair without faults, plainly: write, Format, Open, Replace. -/
namespace Go.Proofs.YtkjpdfomppjiiaaGreatDoor

namespace Tab
theorem bw_snoc (l : List Nat) (i : Nat) : bw (l ++ [i]) 0 (l ++ [i]).length = (l.length, i) :: bw l 0 l.length := by
 unfold bw
 rw [List.length_append, List.length_singleton, List.range_succ_eq_map, List.map_cons, List.map_map]
 refine List.cons_eq_cons.2 ⟨by simp, List.map_congr_left fun j hj => ?_⟩
 have hj := List.mem_range.1 hj
 simp only [Function.comp_apply]
 rw [show l.length + 1 - 1 - (j + 1) = l.length - 1 - j by omega, List.getElem?_append_left (by omega)]
theorem spareOf_snoc (l : List Nat) (i j : Nat) : spareOf (l ++ [i]) j = if i = j then some l.length else spareOf l j := by
 unfold spareOf
 rw [bw_snoc, List.find?_cons]
 by_cases h : i = j <;> simp [h]
theorem spareOf_some {l : List Nat} {j k : Nat} (h : spareOf l j = some k) : k < l.length ∧ l[k]? = some j := by
 unfold spareOf at h
 cases hf : (bw l 0 l.length).find? fun p => decide (p.2 = j) with
 | none => rw [hf] at h; cases h
 | some p =>
  rw [hf] at h
  injection h with h
  have h1 := List.mem_of_find?_eq_some hf
  have h2 := List.find?_some hf
  simp only [decide_eq_true_eq] at h2
  unfold bw at h1
  obtain ⟨q, hq, e⟩ := List.mem_map.1 h1
  have hq := List.mem_range.1 hq
  subst e
  simp only at h h2
  subst h
  refine ⟨by omega, ?_⟩
  rw [List.getElem?_eq_getElem (by omega)] at h2 ⊢
  simpa using h2
theorem at_in {t : Tab} {i : Nat} (h : i < t.blocks) : t.at_ (i : Int) = (match spareOf t.moved i with | some k => t.blocks + k | none => i, 0) := by
 unfold at_ isB
 rw [if_neg (by simp; exact h), Int.toNat_natCast]
 cases spareOf t.moved i <;> rfl
theorem at_inj {t : Tab} {i j : Nat} (hi : i < t.blocks) (hj : j < t.blocks) (h : (t.at_ (i : Int)).1 = (t.at_ (j : Int)).1) : i = j := by
 rw [at_in hi, at_in hj] at h
 simp only at h
 cases h1 : spareOf t.moved i with
 | none =>
  cases h2 : spareOf t.moved j with
  | none => rw [h1, h2] at h; exact h
  | some k => rw [h1, h2] at h; simp only at h; omega
 | some k =>
  cases h2 : spareOf t.moved j with
  | none => rw [h1, h2] at h; simp only at h; omega
  | some m =>
   rw [h1, h2] at h
   simp only at h
   have e : k = m := by omega
   subst e
   have a1 := (spareOf_some h1).2
   rw [(spareOf_some h2).2] at a1
   injection a1 with a1
   exact a1.symm
theorem at_lt {t : Tab} (ht : t.Ok) {i : Nat} (h : i < t.blocks) : (t.at_ (i : Int)).1 < t.blocks + t.spares := by
 rw [at_in h]
 simp only
 have := ht.len
 split
 ·rename_i k hk
  have := (spareOf_some hk).1
  show t.blocks + k < t.blocks + t.spares
  omega
 ·omega
theorem at_moved {t : Tab} {i j : Nat} (h : j < t.blocks) : ({ t with moved := t.moved ++ [i] } : Tab).at_ (j : Int) = if i = j then (t.blocks + t.moved.length, 0) else t.at_ (j : Int) := by
 rw [at_in (t := { t with moved := t.moved ++ [i] }) h, at_in h]
 simp only
 rw [spareOf_snoc]
 by_cases e : i = j
 ·rw [if_pos e, if_pos e]
 ·rw [if_neg e, if_neg e]
theorem at_moveds {t : Tab} {i j : Nat} (h : j < t.blocks) (hne : i ≠ j) : ∀ m, ({ t with moved := t.moved ++ List.replicate m i } : Tab).at_ (j : Int) = t.at_ (j : Int)
 | 0 => by rw [List.replicate_zero, List.append_nil]
 | m + 1 => by
  rw [List.replicate_succ', ← List.append_assoc]
  have h1 := at_moved (t := { t with moved := t.moved ++ List.replicate m i }) (i := i) h
  simp only at h1
  rw [h1, if_neg hne]
  exact at_moveds h hne m
theorem mv_ok {t : Tab} {i : Nat} (h : i < t.blocks) (hs : t.moved.length < t.spares) : (t.move (i : Int)) = ({ t with moved := t.moved ++ [i] }, 0) := by
 unfold move isB
 rw [if_neg (by simp; exact h), if_neg (by omega), Int.toNat_natCast]
theorem mv_full {t : Tab} {i : Nat} (h : i < t.blocks) (hs : ¬ t.moved.length < t.spares) : t.move (i : Int) = (zero, 9) := by
 unfold move isB
 rw [if_neg (by simp; exact h), if_pos (by omega)]
end Tab
theorem PInv0.sectors {P : Pr} (h : PInv0 P) : blocksN (P.dev 0).sectors (P.dev 0).size P.n + 4 + P.n = (P.dev 0).sectors := by
 have h1 := h.fit.2.2.1
 have h2 := h.fit.2.2.2
 unfold blocksN
 rw [if_pos ⟨h1, h2⟩]
 omega
theorem PI.at_lt {P : Pr} (h : PI P) {s : Nat} (hs : s < 2) {i : Nat} (hi : i < (P.tab s).blocks) : ((P.tab s).at_ (i : Int)).1 + 4 < (P.dev s).sectors := by
 have g := h.slots s hs
 have h1 := Tab.at_lt g.tok hi
 have h2 := h.inv.sectors
 rw [(h.inv.same s hs).2]
 rw [g.spares] at h1
 rw [g.blocks] at h1
 omega
theorem read_in {P : Pr} {s i : Nat} (hi : i < (P.tab s).blocks) : P.read s (i : Int) = (P.dev s).read ((((P.tab s).at_ (i : Int)).1 + 4 : Nat) : Int) := by
 unfold Pr.read Pr.sector
 rw [Tab.at_in hi]
 simp
theorem read_stays {P P' : Pr} {J : Nat → Nat → Prop} (h : PI P) (h' : PI P') (st : Stays P P' J) {s i : Nat} (hs : s < 2) (hi : i < (P.tab s).blocks) (hb : (P'.tab s).blocks = (P.tab s).blocks) (ha : (P'.tab s).at_ (i : Int) = (P.tab s).at_ (i : Int)) (hJ : J s (((P.tab s).at_ (i : Int)).1 + 4)) : P'.read s (i : Int) = P.read s (i : Int) := by
 rw [read_in hi, read_in (by rw [hb]; exact hi), ha]
 exact Dev.read_same (st.same s hs) (h.inv.dev s hs).q (h'.inv.dev s hs).q hJ
theorem Pr.setDev_at (P : Pr) (s : Nat) (D : Dev) : (P.setDev s D).dev s = D := by unfold Pr.setDev; simp
theorem write_good {P : Pr} {s i : Nat} {x : ByteArray} (h : PI P) (hs : s < 2) (hi : i < (P.tab s).blocks) (hx : x.size = (P.dev 0).size) (hb : (P.dev s).bad.getD (((P.tab s).at_ (i : Int)).1 + 4) false = false) (k : Nat) :
  ∃ P', Pr.write (k + 1) P s (i : Int) x = (0, P') ∧ PI P' ∧ P'.tab = P.tab ∧ Stays P P' (fun d j => d = s → j ≠ ((P.tab s).at_ (i : Int)).1 + 4) ∧ P'.read s (i : Int) = (x, 0) ∧ ∀ d, d < 2 → (P'.dev d).cache.length ≤ (P.dev d).cache.length + 1 := by
 have ha := h.at_lt hs hi
 obtain ⟨D', e, hq, hsm, hcur, hc⟩ := dwrite_inv (h.inv.dev s hs) (k := ((P.tab s).at_ (i : Int)).1 + 4) (by omega) ha hb (by rw [hx, (h.inv.same s hs).1])
 obtain ⟨h1, h2⟩ := h.setDev hs hq hsm (fun j hj => by omega)
 refine ⟨P.setDev s D', ?_, h1, rfl, h2, ?_, fun d hd => ?_⟩
 ·unfold Pr.write Pr.sector
  rw [if_neg (by rw [Tab.at_in hi]; simp)]
  simp only
  rw [e]
  simp
 ·rw [read_in (P := P.setDev s D') hi, Pr.setDev_at]
  show D'.read ((((P.tab s).at_ (i : Int)).1 + 4 : Nat) : Int) = _
  unfold Dev.read
  rw [if_neg (by rw [hq.q.ready]; simp), if_neg (by rw [Dev.isS_of (by rw [hsm.sectors]; exact ha)]; simp), Int.toNat_natCast, hcur]
  have hb2 : D'.bad.getD (((P.tab s).at_ (i : Int)).1 + 4) false = false := by
   have h3 := (Dev.write_quiet (h.inv.dev s hs).q ha hb (x := x) (by rw [hx, (h.inv.same s hs).1])).symm.trans e
   injection h3 with _ h3
   rw [← h3]; exact hb
  rw [hb2]; simp
 ·show ((if d = s then D' else P.dev d).cache).length ≤ _
  split
  ·rename_i e2; rw [e2, hc]; exact Nat.le_refl _
  ·omega
theorem write_bad {P : Pr} {s i : Nat} {x : ByteArray} (h : PI P) (hs : s < 2) (hi : i < (P.tab s).blocks) (hx : x.size = (P.dev 0).size) (hb : (P.dev s).bad.getD (((P.tab s).at_ (i : Int)).1 + 4) false = true) (k : Nat) :
  Pr.write (k + 1) P s (i : Int) x = if (P.move s (i : Int)).1 ≠ 0 then P.move s (i : Int) else Pr.write k (P.move s (i : Int)).2 s (i : Int) x := by
 have ha := h.at_lt hs hi
 have e := dwrite_bad (h.inv.dev s hs) ha hb (x := x) (by rw [hx, (h.inv.same s hs).1])
 conv => lhs; unfold Pr.write Pr.sector
 rw [if_neg (by rw [Tab.at_in hi]; simp)]
 simp only
 rw [e]
 simp only [ne_eq, not_true_eq_false, if_false]
 rw [Pr.setDev_self]
theorem read_bad {P : Pr} {s i : Nat} (h : PI P) (hs : s < 2) (hi : i < (P.tab s).blocks) (hb : (P.dev s).bad.getD (((P.tab s).at_ (i : Int)).1 + 4) false = true) : P.read s (i : Int) = (⟨#[]⟩, 7) := by
 rw [read_in hi]
 unfold Dev.read
 rw [if_neg (by rw [(h.inv.dev s hs).q.ready]; simp), if_neg (by rw [Dev.isS_of (h.at_lt hs hi)]; simp), Int.toNat_natCast, if_pos hb]
theorem read_ok {P : Pr} {s i : Nat} (h : PI P) (hs : s < 2) (hi : i < (P.tab s).blocks) (hb : (P.dev s).bad.getD (((P.tab s).at_ (i : Int)).1 + 4) false = false) : (P.read s (i : Int)).2 = 0 := by
 rw [read_in hi]
 unfold Dev.read
 rw [if_neg (by rw [(h.inv.dev s hs).q.ready]; simp), if_neg (by rw [Dev.isS_of (h.at_lt hs hi)]; simp), Int.toNat_natCast, if_neg (by rw [hb]; simp)]
def Tab.moves (t : Tab) (m i : Nat) : Tab := { t with moved := t.moved ++ List.replicate m i }
theorem Stays.trans {P Q R : Pr} {J : Nat → Nat → Prop} (h : Stays P Q J) (g : Stays Q R J) : Stays P R J := ⟨g.n.trans h.n, fun d hd => (h.same d hd).trans (g.same d hd)⟩
theorem Stays.mono {P Q : Pr} {J K : Nat → Nat → Prop} (h : Stays P Q J) (g : ∀ d j, K d j → J d j) : Stays P Q K := ⟨h.n, fun d hd => (h.same d hd).mono (g d)⟩
theorem write_inv : ∀ (k : Nat) (P : Pr) (s i : Nat) (x : ByteArray), PI P → s < 2 → i < (P.tab s).blocks → x.size = (P.dev 0).size → (P.tab s).spares - (P.tab s).moved.length < k →
  ∃ e P' m, Pr.write k P s (i : Int) x = (e, P') ∧ PI P' ∧ (P'.tab = fun j => if j = s then (P.tab s).moves m i else P.tab j) ∧ Stays P P' (fun d j => 4 ≤ j ∧ (d = s → j ≠ ((P'.tab s).at_ (i : Int)).1 + 4)) ∧
   (e = 0 ∧ P'.read s (i : Int) = (x, 0) ∨ e = 9 ∧ (P'.tab s).moved.length = (P'.tab s).spares ∧ (P.read s (i : Int)).2 = 7) ∧ ∀ d, d < 2 → (P'.dev d).cache.length ≤ (P.dev d).cache.length + 1
 | 0, _, _, _, _, _, _, _, _, hk => absurd hk (Nat.not_lt_zero _)
 | k + 1, P, s, i, x, h, hs, hi, hx, hk => by
  have htab : ∀ Q : Pr, Q.tab = P.tab → Q.tab = fun j => if j = s then (P.tab s).moves 0 i else P.tab j := by
   intro Q e
   rw [e]
   funext j
   unfold Tab.moves
   rw [List.replicate_zero, List.append_nil]
   split
   ·rename_i e; rw [e]
   ·rfl
  cases hb : (P.dev s).bad.getD (((P.tab s).at_ (i : Int)).1 + 4) false with
  | false =>
   obtain ⟨P', h1, h2, h3, h4, h5, h6⟩ := write_good h hs hi hx hb k
   exact ⟨0, P', 0, h1, h2, htab P' h3, h4.mono (fun d j hj e => by have := hj.2 e; rw [h3] at this; exact this), .inl ⟨rfl, h5⟩, h6⟩
  | true =>
   rw [write_bad h hs hi hx hb k]
   by_cases hm : (P.tab s).moved.length < (P.tab s).spares
   ·have hmv := Tab.mv_ok hi hm
    obtain ⟨P1, e1, hP1, ht1, hst1, hc1⟩ := move_inv (i := (i : Int)) h hs (by rw [hmv])
    rw [e1]
    simp only [ne_eq, not_true_eq_false, if_false]
    have hts : P1.tab s = (P.tab s).moves 1 i := by rw [ht1]; simp [Tab.moves]
    obtain ⟨e, P', m, w1, w2, w3, w4, w5, w6⟩ := write_inv k P1 s i x hP1 hs (by rw [hts]; exact hi) (by rw [(hst1.same 0 (by decide)).size]; exact hx) (by
     rw [hts]
     show (P.tab s).spares - ((P.tab s).moved ++ List.replicate 1 i).length < k
     simp; omega)
    have h7 : (P.read s (i : Int)).2 = 7 := by rw [read_bad h hs hi hb]
    refine ⟨e, P', m + 1, w1, w2, ?_, (hst1.mono (fun d j hj => hj.1)).trans w4, w5.imp id (fun h => ⟨h.1, h.2.1, h7⟩), fun d hd => ?_⟩
    ·rw [w3]
     funext j
     by_cases e : j = s
     ·rw [if_pos e, if_pos e, hts]
      unfold Tab.moves
      simp only [List.append_assoc]
      rw [List.replicate_append_replicate, Nat.add_comm]
     ·rw [if_neg e, if_neg e, ht1]; simp [e]
    ·have := w6 d hd
     rw [hc1 d hd] at this
     simp at this
     omega
   ·have hmv := Tab.mv_full hi hm
    have e1 : P.move s (i : Int) = (9, P) := by unfold Pr.move; rw [hmv]; simp
    rw [e1]
    simp only [ne_eq]
    have hlen := (h.slots s hs).tok.len
    exact ⟨9, P, 0, by simp, h, htab P rfl, ⟨rfl, fun d _ => Dev.Same.refl _ _⟩, .inr ⟨rfl, by omega, by rw [read_bad h hs hi hb]⟩, fun d _ => by omega⟩
def Empty (D : Dev) : Prop := ∀ j, j < 4 → openL (D.media.getD j ⟨#[]⟩).toList = none
theorem new_empty (n s : Nat) (h : 4 ≤ n) : Empty (Dev.new n s) := by
 intro j hj
 have e : (Dev.new n s).media.getD j ⟨#[]⟩ = ⟨Array.replicate s 0⟩ := by
  show (List.replicate n (⟨Array.replicate s 0⟩ : ByteArray)).getD j ⟨#[]⟩ = _
  rw [List.getD_eq_getElem?_getD, List.getElem?_replicate, if_pos (by omega)]
  rfl
 rw [e]
 have h2 := open_zeros s
 have h3 : (⟨Array.replicate s 0⟩ : ByteArray).toList = zerosL s := by
  rw [Lib.toList_data]
  simp [zerosL]
 rw [h3]; exact h2
theorem old_same {P P' : Pr} (h : PInv0 P) (h' : PInv0 P') {d : Nat} (hd : d < 2) {J : Nat → Prop} (hs : Dev.Same (P.dev d) (P'.dev d) J) {k : Nat} (hk : k < 4) (hJ : J k) : (P'.dev d).media.getD k ⟨#[]⟩ = (P.dev d).media.getD k ⟨#[]⟩ := by
 rw [← (h.dev d hd).cur_slot hk, ← (h'.dev d hd).cur_slot hk]
 exact hs.cur k (by have := (h.dev d hd).sec; omega) hJ
theorem tab0_ok {P : Pr} (h : P.Fit) : (tab0 P).Ok := ⟨h.blocks.2.2, h.2.1, Nat.zero_le _, fun x hx => (by cases hx)⟩
theorem format_inv {P : Pr} (h : PInv0 P) (he : ∀ d, d < 2 → Empty (P.dev d)) :
  ∃ P', (P.keep 0 (tab0 P)).1 = 0 ∧ ((P.keep 0 (tab0 P)).2.keep 1 (tab0 P)) = (0, P') ∧ PI P' ∧ (∀ s, s < 2 → P'.tab s = tab0 P) ∧ Stays P P' (fun _ j => 4 ≤ j) ∧ ∀ d, d < 2 → (P'.dev d).cache = [] := by
 have hok := tab0_ok h.fit
 obtain ⟨P1, e1, k1⟩ := keep_inv (t := tab0 P) h (s := 0) (by decide) hok rfl rfl (fun d hd => .inl (he d hd _ (slotOf_lt _ _)))
 have hs0 := k1.same 0 (by decide)
 obtain ⟨P2, e2, k2⟩ := keep_inv (t := tab0 P) k1.inv (s := 1) (by decide) hok (by rw [hs0.size, hs0.sectors, k1.n]; rfl) (by rw [k1.n]; rfl) (fun d hd => .inl (by
  rw [old_same h k1.inv hd (k1.same d hd) (slotOf_lt _ _) (slot_ne d 0 hd (by decide) _ _)]
  exact he d hd _ (slotOf_lt _ _)))
 refine ⟨P2, by rw [e1], by rw [e1]; exact e2, ⟨k2.inv, both (s := 1) (by decide) k2.slots (k2.other k1.inv (by decide) k1.slots)⟩, fun s hs => ?_, ⟨k2.n.trans k1.n, fun d hd => ((k1.same d hd).mono (fun j hj => Nat.ne_of_gt (Nat.lt_of_lt_of_le (slotOf_lt _ _) hj))).trans ((k2.same d hd).mono (fun j hj => Nat.ne_of_gt (Nat.lt_of_lt_of_le (slotOf_lt _ _) hj)))⟩, k2.cache⟩
 rw [k2.tab]
 simp only
 split
 ·rfl
 ·rw [k1.tab]; simp; omega
def openP (P : Pr) : Pr := ((newP P.n P.dev).setTab 0 (P.tab 0)).setTab 1 (P.tab 1)
theorem open_inv {P : Pr} (h : PI P) : PI (openP P) ∧ (openP P).dev = P.dev ∧ (openP P).n = P.n ∧ (∀ s, s < 2 → (openP P).tab s = P.tab s) ∧ (newP P.n P.dev).Fit ∧ (∀ s, s < 2 → findP (newP P.n P.dev) s = some (P.tab s)) := by
 have ht : ∀ s, s < 2 → (openP P).tab s = P.tab s := by
  intro s hs
  rcases (show s = 0 ∨ s = 1 by omega) with rfl | rfl <;> rfl
 refine ⟨⟨⟨h.inv.dev, h.inv.same, h.inv.fit⟩, fun s hs => ?_⟩, rfl, rfl, ht, h.inv.fit, fun s hs => ?_⟩
 ·have g := h.slots s hs
  refine ⟨?_, ?_, ?_, ?_, ?_⟩
  all_goals rw [ht s hs]
  ·exact g.tok
  ·exact g.blocks
  ·exact g.spares
  ·exact g.cur
  ·exact g.old
 ·exact find_cur h.inv hs (h.slots s hs)
end Go.Proofs.YtkjpdfomppjiiaaGreatDoor
/- remap.Open. -/
namespace Go.Proofs.YtkjpdfomppjiiaaGreatDoor
open Go.RowKit

theorem rFind_0c {W : World} {b : Nat} {gp : List Nat} {x : Nat → Nat} {fx : Nat → List Nat} {P : Pr} (h : IsPair W b gp x fx P) (hc : ∀ k, k < 2 → (P.dev k).cache.length < 1000000) (o : Option Tab) (ho : findP P 0 = o) :
  Calls Tryz.prog 77 #[.pointer (some ⟨b, 0, none⟩), .int .i64 0] W fun e w' => ∃ A c, e = .returned (.tuple #[tabV (o.getD Tab.zero) (.slice A (o.getD Tab.zero).moved.length c), .bool o.isSome]) ∧ Hid (IsMv w' (.slice A (o.getD Tab.zero).moved.length c) (o.getD Tab.zero).moved) ∧ Hid ((o.getD Tab.zero).Ok) ∧ Hid (∀ g, (Value.slice A (o.getD Tab.zero).moved.length c).ownBlock = some g → W.heap.size ≤ g) ∧ Hid (IsPair w' b gp x fx P) ∧ Hid (Mods (fx 0 ++ fx 1) W w') := by
 refine (rFind_0 h hc).mono ?_
 rw [ho]
 rintro e w' ⟨mv, rfl, h1, h2, h3, h4, h5⟩
 obtain ⟨A, c, e0, _⟩ := mv_shape h1.out
 subst e0
 exact ⟨A, c, rfl, h1, h2, h3, h4, h5⟩
theorem rFind_1c {W : World} {b : Nat} {gp : List Nat} {x : Nat → Nat} {fx : Nat → List Nat} {P : Pr} (h : IsPair W b gp x fx P) (hc : ∀ k, k < 2 → (P.dev k).cache.length < 1000000) (o : Option Tab) (ho : findP P 1 = o) :
  Calls Tryz.prog 77 #[.pointer (some ⟨b, 0, none⟩), .int .i64 1] W fun e w' => ∃ A c, e = .returned (.tuple #[tabV (o.getD Tab.zero) (.slice A (o.getD Tab.zero).moved.length c), .bool o.isSome]) ∧ Hid (IsMv w' (.slice A (o.getD Tab.zero).moved.length c) (o.getD Tab.zero).moved) ∧ Hid ((o.getD Tab.zero).Ok) ∧ Hid (∀ g, (Value.slice A (o.getD Tab.zero).moved.length c).ownBlock = some g → W.heap.size ≤ g) ∧ Hid (IsPair w' b gp x fx P) ∧ Hid (Mods (fx 0 ++ fx 1) W w') := by
 refine (rFind_1 h hc).mono ?_
 rw [ho]
 rintro e w' ⟨mv, rfl, h1, h2, h3, h4, h5⟩
 obtain ⟨A, c, e0, _⟩ := mv_shape h1.out
 subst e0
 exact ⟨A, c, rfl, h1, h2, h3, h4, h5⟩
theorem off_of {w : World} {b : Nat} {fp : List Nat} {D : Dev} (h : IsDev w b fp D) (ho : D.off = false) : Calls Tryz.prog 76 #[.pointer (some ⟨b, 0, none⟩)] w fun e w' => e = .returned (.bool false) ∧ w = w' := by
 have h2 := dOff_any h
 rw [ho] at h2; exact h2
set_option maxRecDepth 100000 in
set_option maxHeartbeats 3200000 in
theorem rOpen_any {W : World} {x : Nat → Nat} {fx : Nat → List Nat} {dev : Nat → Dev} (h : Devs W x fx dev) (n : Nat) (hf : (newP n dev).Fit) (hc : ∀ k, k < 2 → (dev k).cache.length < 1000000) (ho : ∀ k, k < 2 → (dev k).off = false)
  {t0 t1 : Tab} (h0 : findP (newP n dev) 0 = some t0) (h1 : findP (newP n dev) 1 = some t1) :
  Calls Tryz.prog 37 #[.pointer (some ⟨x 0, 0, none⟩), .pointer (some ⟨x 1, 0, none⟩), .int .i64 (n : Nat)] W fun e w' => ∃ b gp, e = .returned (.tuple #[.pointer (some ⟨b, 0, none⟩), .int .i64 0]) ∧ Hid (IsPair w' b gp x fx (((newP n dev).setTab 0 t0).setTab 1 t1)) ∧ Hid (Mods (fx 0 ++ fx 1) W w') ∧ Hid (∀ g ∈ gp, W.heap.size ≤ g) := by
 have cMade := Lib.hid (rMade_any h n hf)
 have HD := Lib.hid h
 obtain ⟨P0, hP0⟩ : ∃ P0, newP n dev = P0 := ⟨_, rfl⟩
 have hdev : P0.dev = dev := by rw [← hP0]; rfl
 rw [hP0] at cMade h0 h1 ⊢
 have hcP : ∀ k, k < 2 → (P0.dev k).cache.length < 1000000 := by rw [hdev]; exact hc
 have hoP : ∀ k, k < 2 → (P0.dev k).off = false := by rw [hdev]; exact ho
 have cF0 := Lib.hid (fun (w : World) (b : Nat) (gp : List Nat) (hp : IsPair w b gp x fx P0) => rFind_0c hp hcP (some t0) h0)
 have cF1 := Lib.hid (fun (w : World) (b : Nat) (gp : List Nat) (hp : IsPair w b gp x fx (P0.setTab 0 t0)) => rFind_1c hp hcP (some t1) h1)
 have cO0 := Lib.hid (fun (w : World) (b : Nat) (gp : List Nat) (hp : IsPair w b gp x fx P0) => off_of (hp.dev 0 (by decide)) (hoP 0 (by decide)))
 have cO1 := Lib.hid (fun (w : World) (b : Nat) (gp : List Nat) (hp : IsPair w b gp x fx P0) => off_of (hp.dev 1 (by decide)) (hoP 1 (by decide)))
 unfold tabV at cF0 cF1
 simp only [Option.getD_some, Option.isSome_some] at cF0 cF1
 clear h hf hc ho h0 h1 hP0 hdev hcP hoP
 go_enter Tryz.func37, Tryz.ntmps37
 go_wp2_with (first | (go_at_call 57; refine cMade.out.mono ?_; rintro e w1 ⟨b, gp, rfl, hp0, hm0, hgn0⟩) | (go_at_call 76; have HOFF2 := HOFF1; refine (cO1.out _ _ _ hp0.out).mono ?_; rintro e w' ⟨rfl, rfl⟩) | (go_at_call 76; refine (cO0.out _ _ _ hp0.out).mono ?_; rintro e w' ⟨rfl, rfl⟩; have HOFF1 : Hid True := Lib.hid trivial))
 refine wp_loop_rounds 3 ?_
 rw [rounds_succ]
 go_wp2_with (go_at_call 77; refine (cF0.out _ _ _ hp0.out).mono ?_; rintro e w2 ⟨A0, c0, rfl, hmv0, hok0, hnew0, hpf0, hmf0⟩)
 obtain ⟨w3, hwc0⟩ : ∃ w3, w2.alloc (.cells #[.int .i64 (t0.blocks : Nat), .int .i64 (t0.spares : Nat), .slice A0 t0.moved.length c0] 71) = w3 := ⟨_, rfl⟩
 have hba0 : Mods [] w2 w3 := by rw [← hwc0]; exact (Mods.refl _ _).alloc _
 have hzb0 : Blk w3 w2.heap.size 71 [.int .i64 (t0.blocks : Nat), .int .i64 (t0.spares : Nat), .slice A0 t0.moved.length c0] := by rw [← hwc0]; exact Blk.new w2 71 [.int .i64 (t0.blocks : Nat), .int .i64 (t0.spares : Nat), .slice A0 t0.moved.length c0]
 have hpc0 := hpf0.out.keep0 hba0
 have hpb0 := hpc0.pb
 have hbl0 := hpf0.out.pb.lt b (by obtain ⟨_, _, _, hg, _⟩ := hpf0.out.pb; rw [hg]; simp [pairFoot])
 have hbn0 : ¬ b = w2.heap.size := by omega
 obtain ⟨sb0, mm0, hin0, _, _⟩ := hpb0
 have z0 := hzb0.cell (i := 0) rfl
 have z1 := hzb0.cell (i := 1) rfl
 have z2 := hzb0.cell (i := 2) rfl
 have s0 := hin0.blk.cell (i := 4) rfl
 have s1 := hin0.blk.cell (i := 5) rfl
 have s2 := hin0.blk.cell (i := 6) rfl
 have f0 := hin0.blk.free 4
 have f1 := hin0.blk.free 5
 have f2 := hin0.blk.free 6
 obtain ⟨gp4, hput0, hmput0, hgput0⟩ := hpc0.putTab (s := 0) (by decide) (IsMv.keep hmv0.out hba0 (by simp)) hok0.out (fun g hg k hk hz => by
  have h1 := hnew0.out g hg
  have h2 := (hp0.out.dev k hk).lt g hz
  omega)
 have HPUT0 := Lib.hid (And.intro hput0 (And.intro hmput0 hgput0))
 have HBA0 := Lib.hid hba0
 rw [hwc0]
 clear hwc0 hba0 hzb0 hpc0 hin0 hput0 hmput0 hgput0 hbl0
 go_region_held3 (fun w' => w'.cell? ⟨w2.heap.size, 0, none⟩ = some (.int .i64 (t0.blocks : Nat)) ∧ w'.cell? ⟨w2.heap.size, 1, none⟩ = some (.int .i64 (t0.spares : Nat)) ∧ w'.cell? ⟨w2.heap.size, 2, none⟩ = some (.slice A0 t0.moved.length c0)) (go_keep) (fail)
 obtain ⟨w4, hwd0⟩ : ∃ w4, (((w3.setCell ⟨b, 4, none⟩ (.int .i64 (t0.blocks : Nat))).setCell ⟨b, 5, none⟩ (.int .i64 (t0.spares : Nat))).setCell ⟨b, 6, none⟩ (.slice A0 t0.moved.length c0)).drew = w4 := ⟨_, rfl⟩
 have HPD0 : Hid (IsPair w4 b gp4 x fx (P0.setTab 0 t0)) := Lib.hid (by rw [← hwd0]; exact HPUT0.out.1.keep0 (Mods.refl _ _).drew)
 have HMD0 : Hid (Mods [b] w3 w4) := Lib.hid (by rw [← hwd0]; exact HPUT0.out.2.1.drew)
 rw [hwd0]
 clear z0 z1 z2 s0 s1 s2 f0 f1 f2 hwd0
 go_wp2_with fail
 rw [rounds_succ]
 go_wp2_with (go_at_call 77; refine (cF1.out _ _ _ HPD0.out).mono ?_; rintro e w5 ⟨A1, c1, rfl, hmv1, hok1, hnew1, hpf1, hmf1⟩)
 obtain ⟨w6, hwc1⟩ : ∃ w6, w5.alloc (.cells #[.int .i64 (t1.blocks : Nat), .int .i64 (t1.spares : Nat), .slice A1 t1.moved.length c1] 71) = w6 := ⟨_, rfl⟩
 have hba1 : Mods [] w5 w6 := by rw [← hwc1]; exact (Mods.refl _ _).alloc _
 have hzb1 : Blk w6 w5.heap.size 71 [.int .i64 (t1.blocks : Nat), .int .i64 (t1.spares : Nat), .slice A1 t1.moved.length c1] := by rw [← hwc1]; exact Blk.new w5 71 [.int .i64 (t1.blocks : Nat), .int .i64 (t1.spares : Nat), .slice A1 t1.moved.length c1]
 have hpc1 := hpf1.out.keep0 hba1
 have hpb1 := hpc1.pb
 have hbl1 := hpf1.out.pb.lt b (by obtain ⟨_, _, _, hg, _⟩ := hpf1.out.pb; rw [hg]; simp [pairFoot])
 have hbn1 : ¬ b = w5.heap.size := by omega
 obtain ⟨sb1, mm1, hin1, _, _⟩ := hpb1
 have z0 := hzb1.cell (i := 0) rfl
 have z1 := hzb1.cell (i := 1) rfl
 have z2 := hzb1.cell (i := 2) rfl
 have s0 := hin1.blk.cell (i := 7) rfl
 have s1 := hin1.blk.cell (i := 8) rfl
 have s2 := hin1.blk.cell (i := 9) rfl
 have f0 := hin1.blk.free 7
 have f1 := hin1.blk.free 8
 have f2 := hin1.blk.free 9
 obtain ⟨gp7, hput1, hmput1, hgput1⟩ := hpc1.putTab (s := 1) (by decide) (IsMv.keep hmv1.out hba1 (by simp)) hok1.out (fun g hg k hk hz => by
  have h1 := hnew1.out g hg
  have h2 := (HPD0.out.dev k hk).lt g hz
  omega)
 have HPUT1 := Lib.hid (And.intro hput1 (And.intro hmput1 hgput1))
 have HBA1 := Lib.hid hba1
 rw [hwc1]
 clear hwc1 hba1 hzb1 hpc1 hin1 hput1 hmput1 hgput1 hbl1
 go_region_held3 (fun w' => w'.cell? ⟨w5.heap.size, 0, none⟩ = some (.int .i64 (t1.blocks : Nat)) ∧ w'.cell? ⟨w5.heap.size, 1, none⟩ = some (.int .i64 (t1.spares : Nat)) ∧ w'.cell? ⟨w5.heap.size, 2, none⟩ = some (.slice A1 t1.moved.length c1)) (go_keep) (fail)
 obtain ⟨w7, hwd1⟩ : ∃ w7, (((w6.setCell ⟨b, 7, none⟩ (.int .i64 (t1.blocks : Nat))).setCell ⟨b, 8, none⟩ (.int .i64 (t1.spares : Nat))).setCell ⟨b, 9, none⟩ (.slice A1 t1.moved.length c1)).drew = w7 := ⟨_, rfl⟩
 have HPD1 : Hid (IsPair w7 b gp7 x fx ((P0.setTab 0 t0).setTab 1 t1)) := Lib.hid (by rw [← hwd1]; exact HPUT1.out.1.keep0 (Mods.refl _ _).drew)
 have HMD1 : Hid (Mods [b] w6 w7) := Lib.hid (by rw [← hwd1]; exact HPUT1.out.2.1.drew)
 rw [hwd1]
 clear z0 z1 z2 s0 s1 s2 f0 f1 f2 hwd1
 go_wp2_with fail
 rw [rounds_succ]
 go_wp2_with fail
 go_ret2
 have hs0 := hm0.out.size
 have hsf0 := hmf0.out.size
 have hsb0 := HBA0.out.size
 have hsd0 := HMD0.out.size
 have hsf1 := hmf1.out.size
 have hbg : b ∈ gp := by
  obtain ⟨_, _, _, hg, _⟩ := hp0.out.pb
  rw [hg]; simp [pairFoot]
 have hbW := hgn0.out b hbg
 refine ⟨b, gp7, rfl, HPD1, Lib.hid ?_, Lib.hid (fun g hg => ?_)⟩
 ·have a1 : Mods (fx 0 ++ fx 1) W w2 := (hm0.out.mono (by simp)).trans hmf0.out (fun z hz => .inl hz)
  have a2 : Mods (fx 0 ++ fx 1) W w3 := a1.trans HBA0.out (by simp)
  have a3 : Mods (fx 0 ++ fx 1) W w4 := a2.trans HMD0.out (fun z hz => .inr (by rw [List.mem_singleton.1 hz]; exact hbW))
  have a4 : Mods (fx 0 ++ fx 1) W w5 := a3.trans hmf1.out (fun z hz => .inl hz)
  have a5 : Mods (fx 0 ++ fx 1) W w6 := a4.trans HBA1.out (by simp)
  exact a5.trans HMD1.out (fun z hz => .inr (by rw [List.mem_singleton.1 hz]; exact hbW))
 ·rcases HPUT1.out.2.2 g hg with h | h
  ·rcases HPUT0.out.2.2 g h with h | h
   ·exact hgn0.out g h
   ·have := hnew0.out g h; omega
  ·have := hnew1.out g h; omega
end Go.Proofs.YtkjpdfomppjiiaaGreatDoor
/- The laws' pair: twenty sectors of 128 bytes, four spares. -/
namespace Go.Proofs.YtkjpdfomppjiiaaGreatDoor
open Go.RowKit

structure Gd (P : Pr) : Prop where
 pi : PI P
 n : P.n = 4
 size : (P.dev 0).size = 128
 sec : (P.dev 0).sectors = 20
theorem Gd.blocks {P : Pr} (h : Gd P) {s : Nat} (hs : s < 2) : (P.tab s).blocks = 12 := by rw [(h.pi.slots s hs).blocks, h.sec, h.size, h.n]; decide
theorem Gd.spares {P : Pr} (h : Gd P) {s : Nat} (hs : s < 2) : (P.tab s).spares = 4 := by rw [(h.pi.slots s hs).spares, h.n]
theorem Gd.tok {P : Pr} (h : Gd P) {s : Nat} (hs : s < 2) : (P.tab s).Ok := (h.pi.slots s hs).tok
theorem Gd.len {P : Pr} (h : Gd P) {s : Nat} (hs : s < 2) : (P.tab s).moved.length ≤ 4 := by have := (h.tok hs).len; rw [h.spares hs] at this; exact this
theorem Gd.turn {P P' : Pr} (h : Gd P) (hp : PI P') {J : Nat → Nat → Prop} (st : Stays P P' J) : Gd P' :=
 ⟨hp, st.n.trans h.n, (st.same 0 (by decide)).size.trans h.size, (st.same 0 (by decide)).sectors.trans h.sec⟩
def Few (P : Pr) (n : Nat) : Prop := ∀ d, d < 2 → (P.dev d).cache.length ≤ n
theorem two_cases {s : Nat} (hs : s < 2) : s = 0 ∨ s = 1 := by omega

theorem rAlive_s {W : World} {b : Nat} {gp : List Nat} {x : Nat → Nat} {fx : Nat → List Nat} {P : Pr} (h : IsPair W b gp x fx P) {s : Nat} (hs : s < 2) :
  Calls Tryz.prog 56 #[.pointer (some ⟨b, 0, none⟩), .int .i64 (s : Nat)] W fun e w' => e = .returned (.bool (!(P.dev s).gone)) ∧ W = w' := by
 rcases two_cases hs with rfl | rfl
 ·exact rAlive_0 h
 ·exact rAlive_1 h
theorem rTable_s {W : World} {b : Nat} {gp : List Nat} {x : Nat → Nat} {fx : Nat → List Nat} {P : Pr} (h : IsPair W b gp x fx P) {s : Nat} (hs : s < 2) :
  Calls Tryz.prog 31 #[.pointer (some ⟨b, 0, none⟩), .int .i64 (s : Nat)] W fun e w' => ∃ A c, e = .returned (.agg #[.int .i64 ((P.tab s).blocks : Nat), .int .i64 ((P.tab s).spares : Nat), .slice A (P.tab s).moved.length c]) ∧ Hid (IsMv w' (.slice A (P.tab s).moved.length c) (P.tab s).moved) ∧ Hid (∀ g, (Value.slice A (P.tab s).moved.length c).ownBlock = some g → g ∈ gp ∧ ∀ k, k < 2 → g ∉ fx k) ∧ Hid (Mods [] W w') := by
 have key : Calls Tryz.prog 31 #[.pointer (some ⟨b, 0, none⟩), .int .i64 (s : Nat)] W fun e w' => ∃ mv, e = .returned (tabV (P.tab s) mv) ∧ IsMv w' mv (P.tab s).moved ∧ (∀ g, mv.ownBlock = some g → g ∈ gp ∧ ∀ k, k < 2 → g ∉ fx k) ∧ Mods [] W w' := by
  rcases two_cases hs with rfl | rfl
  ·exact rTable_0 h
  ·exact rTable_1 h
 refine key.mono fun e w' ⟨mv, h1, h2, h3, h4⟩ => ?_
 obtain ⟨A, c, rfl, _⟩ := owns_shapeD h2
 exact ⟨A, c, h1, h2, h3, h4⟩
theorem gRead {W : World} {b : Nat} {gp : List Nat} {x : Nat → Nat} {fx : Nat → List Nat} {P : Pr} (hp : IsPair W b gp x fx P) {s : Nat} (hs : s < 2) (i : Int) (hc : Few P 900000) :
  Calls Tryz.prog 137 #[.pointer (some ⟨b, 0, none⟩), .int .i64 (s : Nat), .int .i64 i] W fun e w' => e = .returned (.tuple #[.string (P.read s i).1, .int .i64 ((P.read s i).2 : Nat)]) ∧ Hid (IsPair w' b gp x fx P) ∧ Hid (Mods (fx 0 ++ fx 1) W w') := by
 have hc' := fun k hk => show (P.dev k).cache.length < 1000000 by have := hc k hk; omega
 rcases two_cases hs with rfl | rfl
 ·exact (rRead_0 hp (hc' _ (by decide)) i).mono fun e w' ⟨h1, h2, h3⟩ => ⟨h1, h2, h3.mono (fun k hk => List.mem_append_left _ hk)⟩
 ·exact (rRead_1 hp (hc' _ (by decide)) i).mono fun e w' ⟨h1, h2, h3⟩ => ⟨h1, h2, h3.mono (fun k hk => List.mem_append_right _ hk)⟩
end Go.Proofs.YtkjpdfomppjiiaaGreatDoor
/- A device's Stick: slices.IndexFunc and DeleteFunc at the cache's writes. -/

namespace Go.Proofs.YtkjpdfomppjiiaaGreatDoor
open Go.RowKit

theorem Gd.at_lt {P : Pr} (h : Gd P) {s i : Nat} (hs : s < 2) (hi : i < 12) : ((P.tab s).at_ (i : Int)).1 + 4 < 20 := by
 have h1 := h.pi.at_lt hs (i := i) (by rw [h.blocks hs]; exact hi)
 rw [(h.pi.inv.same s hs).2, h.sec] at h1
 exact h1
theorem open_read {P : Pr} {s : Nat} (hs : s < 2) (i : Int) : (openP P).read s i = P.read s i := by
 rcases two_cases hs with rfl | rfl <;> rfl
theorem dev_to {W w' : World} {b : Nat} {fp : List Nat} {D' : Dev} (h : IsDev w' b fp D') (hm : Mods fp W w') : DevTo W w' b fp fp D' := ⟨h, fun _ hx => .inl hx, hm⟩
structure Own (W w : World) (x : Nat → Nat) (fx : Nat → List Nat) (b : Nat) (gp : List Nat) (P : Pr) : Prop where
 pair : IsPair w b gp x fx P
 gd : Gd P
 newF : ∀ k, k < 2 → ∀ g ∈ fx k, W.heap.size ≤ g
 newG : ∀ g ∈ gp, W.heap.size ≤ g
 mods : Mods [] W w
theorem Own.still {W w w' : World} {x : Nat → Nat} {fx : Nat → List Nat} {b : Nat} {gp : List Nat} {P : Pr} (h : Own W w x fx b gp P) (hm : Mods [] w w') : Own W w' x fx b gp P :=
 ⟨h.pair.keep0 hm, h.gd, h.newF, h.newG, h.mods.trans hm (by simp)⟩
theorem Own.foot {W w : World} {x : Nat → Nat} {fx : Nat → List Nat} {b : Nat} {gp : List Nat} {P : Pr} (h : Own W w x fx b gp P) : ∀ k ∈ fx 0 ++ fx 1, W.heap.size ≤ k := by
 intro k hk
 rcases List.mem_append.1 hk with hk | hk
 ·exact h.newF 0 (by decide) k hk
 ·exact h.newF 1 (by decide) k hk
theorem Own.same {W w w' : World} {x : Nat → Nat} {fx : Nat → List Nat} {b : Nat} {gp : List Nat} {P : Pr} (h : Own W w x fx b gp P) (hp : IsPair w' b gp x fx P) (hm : Mods (fx 0 ++ fx 1) w w') : Own W w' x fx b gp P :=
 ⟨hp, h.gd, h.newF, h.newG, h.mods.trans hm (fun k hk => .inr (h.foot k hk))⟩
end Go.Proofs.YtkjpdfomppjiiaaGreatDoor
