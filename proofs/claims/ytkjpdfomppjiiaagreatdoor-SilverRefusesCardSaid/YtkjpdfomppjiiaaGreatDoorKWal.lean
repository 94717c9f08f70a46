/- The log: what Open goes through, plainly; its records in memory; Sync. -/
import Derived.Test.YtkjpdfomppjiiaaGreatDoorKI
import Derived.Test.YtkjpdfomppjiiaaGreatDoorKRec
import Derived.Deep.RegionHeld3
import Derived.BigQuiet
import Derived.Deep.CutRange
/- The log: its small methods; what nil ones answer. -/
namespace Go.Proofs.YtkjpdfomppjiiaaGreatDoor
open Go.RowKit

structure LogE where
 first : Nat
 count : Nat
 next : Nat
 chain : Nat
 have_ : Nat
def lgC (b tk : Nat) (L : LogE) : List Value := [.pointer (some ⟨b, 0, none⟩), .pointer (some ⟨tk, 0, none⟩), .int .i64 (L.first : Nat), .int .i64 (L.count : Nat), .int .u64 (L.next : Nat), .int .u32 (L.chain : Nat), .int .i64 (L.have_ : Nat)]
def LogE.block (L : LogE) (n : Nat) : Nat := L.first + n % L.count
structure LogE.Ok (L : LogE) : Prop where
 first : L.first ≤ 5000
 count1 : 2 ≤ L.count
 count2 : L.count ≤ 256
 next : L.next < 18446744073709551616
 chain : L.chain < 4294967296
 have_ : L.have_ ≤ L.count
section
variable {W w : World} {b tk lb : Nat} {L : LogE}
theorem lgLeft_any (hb : Blk w lb 178 (lgC b tk L)) (hL : L.Ok) : Calls Tryz.prog 86 #[.pointer (some ⟨lb, 0, none⟩)] w fun e w' => e = .returned (.int .i64 ((L.count - L.have_ : Nat) : Nat)) ∧ Hid (Mods [] w w') := by
 have c3 := hb.cell (i := 3) rfl
 have c6 := hb.cell (i := 6) rfl
 have h1 := hL.have_
 have h2 := hL.count2
 obtain ⟨m, hm⟩ : ∃ m : Nat, (L.count : Int) - (L.have_ : Int) = (m : Int) := ⟨L.count - L.have_, by omega⟩
 have hmm : L.count - L.have_ = m := by omega
 rw [hmm]
 have hw1 : IntKind.i64.wrap (m : Int) = (m : Int) := by rw [IntKind.wrap_i64]; omega
 have hw2 : wrap64 (m : Int) = (m : Int) := by unfold wrap64; omega
 clear hmm hL hb
 go_enter Tryz.func86, Tryz.ntmps86
 go_wp2_with fail
 go_region
 go_wp2_with fail
 go_ret
 exact ⟨rfl, Lib.hid ((Mods.refl _ _).drewN _)⟩
theorem rgBlock_any {f c s : Nat} (hf : f ≤ 5000) (hc0 : 0 < c) (hc : c ≤ 256) : Calls Tryz.prog 89 #[.agg #[.int .i64 (f : Nat), .int .i64 (c : Nat)], .int .u64 (s : Nat)] W fun e w' => e = .returned (.int .i64 ((f + s % c : Nat) : Nat)) ∧ Hid (Mods [] W w') := by
 obtain ⟨w1, hw1⟩ : ∃ w1, W.alloc (.cells #[.int .i64 (f : Nat), .int .i64 (c : Nat)] 98) = w1 := ⟨_, rfl⟩
 obtain ⟨g, hg⟩ : ∃ g, W.heap.size = g := ⟨_, rfl⟩
 have hb1 : Blk w1 g 98 [.int .i64 (f : Nat), .int .i64 (c : Nat)] := by rw [← hw1, ← hg]; exact Blk.new W 98 _
 have HM1 : Hid (Mods [] W w1) := Lib.hid (by rw [← hw1]; exact (Mods.refl _ _).alloc _)
 have c0 := hb1.cell (i := 0) rfl
 have c1 := hb1.cell (i := 1) rfl
 have hlt : s % c < c := Nat.mod_lt _ hc0
 obtain ⟨r, hr⟩ : ∃ r, s % c = r := ⟨_, rfl⟩
 rw [hr] at hlt ⊢
 have hri : (s : Int) % (c : Int) = (r : Int) := by rw [← hr]; rfl
 have hrt : (s : Int).tmod (c : Int) = (r : Int) := by rw [Int.tmod_eq_emod_of_nonneg (by omega)]; exact hri
 have hcw : IntKind.u64.wrap (c : Int) = (c : Int) := by rw [IntKind.wrap_u64]; omega
 have hrw : IntKind.i64.wrap (r : Int) = (r : Int) := by rw [IntKind.wrap_i64]; omega
 have hrw3 : wrap64 (r : Int) = (r : Int) := by unfold wrap64; omega
 have hrw2 : IntKind.u64.wrap (r : Int) = (r : Int) := by rw [IntKind.wrap_u64]; omega
 obtain ⟨m, hm⟩ : ∃ m : Nat, (f : Int) + (r : Int) = (m : Int) := ⟨f + r, by omega⟩
 have hmm : f + r = m := by omega
 rw [hmm]
 have hw2 : IntKind.i64.wrap (m : Int) = (m : Int) := by rw [IntKind.wrap_i64]; omega
 have hw3 : wrap64 (m : Int) = (m : Int) := by unfold wrap64; omega
 have hc00 : ¬ (c : Int) = 0 := by omega
 have hc01 : ¬ c = 0 := by omega
 clear hb1 hmm hr hlt hf hc
 go_enter Tryz.func89, Tryz.ntmps89
 go_wp2_with fail
 try rw [hw1, hg]
 clear hw1
 go_region
 go_wp2_with fail
 go_ret
 exact ⟨rfl, Lib.hid (HM1.out.drewN _)⟩
end
end Go.Proofs.YtkjpdfomppjiiaaGreatDoor
/- The log: how big a block is, how much room there is; a ring's check; a record is taken. -/
namespace Go.Proofs.YtkjpdfomppjiiaaGreatDoor
open Go.RowKit

section
variable {W w : World} {F : List Nat} {x : Nat → Nat} {b p tk lb : Nat} {M : Mi} {L : LogE} {B z c : Nat}
def ringE (B : Nat) (f k : Int) : Nat := if k < 2 ∨ 256 < k ∨ f < 0 ∨ (B : Int) < f ∨ (B : Int) - f < k then 2 else 0
set_option maxRecDepth 100000 in
theorem rgCheck_any (h : OwnM W F w b p x M) (hF : Fine B z c M.P) (hB : B ≤ 5000) (f k : Int) : Calls Tryz.prog 85 #[.agg #[.int .i64 f, .int .i64 k], .pointer (some ⟨b, 0, none⟩)] w fun e w' => e = .returned (.int .i64 (ringE B f k : Nat)) ∧ Hid (Mods [] w w') := by
 obtain ⟨w1, hw1⟩ : ∃ w1, w.alloc (.cells #[.int .i64 f, .int .i64 k] 98) = w1 := ⟨_, rfl⟩
 obtain ⟨g, hg⟩ : ∃ g, w.heap.size = g := ⟨_, rfl⟩
 have hb1 : Blk w1 g 98 [.int .i64 f, .int .i64 k] := by rw [← hw1, ← hg]; exact Blk.new w 98 _
 have hm1 : Mods [] w w1 := by rw [← hw1]; exact (Mods.refl _ _).alloc _
 have h1 := h.still hm1
 obtain ⟨tb, mb, gp, fx, hI, _⟩ := h1.ex
 have cP := Lib.hid (oPair h1)
 obtain ⟨T, hT⟩ : ∃ T, M.P.tab 0 = T := ⟨_, rfl⟩
 have hBT : T.blocks = B := by rw [← hT]; exact hF.blocks 0 (by decide)
 have cTb := rTable_s hI.pair (s := 0) (by decide)
 rw [hT] at cTb
 replace cTb := Lib.hid cTb
 have cBl := Lib.hid (fun (w : World) (A : Option Addr) (k : Nat) => show Calls Tryz.prog 32 #[.agg #[.int .i64 (T.blocks : Nat), .int .i64 (T.spares : Nat), .slice A T.moved.length k]] w fun e w' => e = .returned (.int .i64 (B : Nat)) ∧ Mods [] w w' from by
  have h1 := tBlocks_any (W := w) T (.slice A T.moved.length k)
  rw [hBT] at h1 ⊢; unfold tabV at h1; rw [hBT] at h1; exact h1)
 have HM1 := Lib.hid hm1
 have HB1 := Lib.hid hb1
 clear h hF h1 hI hm1 hb1 hT hBT
 go_enter Tryz.func85, Tryz.ntmps85
 go_upto_region 4 with (first | (go_at_call 21; refine cP.out.mono ?_; rintro e w2 ⟨rfl, rfl⟩) | (go_at_call 31; refine cTb.out.mono ?_; rintro e w2 ⟨A, ck, rfl, HV, _, HM2⟩) | (go_at_call 32; refine (cBl.out _ _ _).mono ?_; rintro e w3 ⟨rfl, hm3⟩; have HM3 := Lib.hid hm3; clear hm3))
 have hm := (HM1.out.trans HM2.out (by simp)).trans HM3.out (by simp)
 have hb3 := (HB1.out.keep HM2.out (by simp)).keep HM3.out (by simp)
 have c0 := hb3.cell (i := 0) rfl
 have c1 := hb3.cell (i := 1) rfl
 have HM := Lib.hid hm
 clear hm hb3 cP cTb cBl HB1 HM1 HM2 HM3 HV
 by_cases h1 : k < 2
 ·have e : (k < 2 ∨ 256 < k ∨ f < 0 ∨ (B : Int) < f ∨ (B : Int) - f < k) := .inl h1
  have HE := Lib.hid e
  clear e
  go_wp2_with fail
  go_ret
  unfold ringE
  rw [if_pos HE.out]
  exact ⟨rfl, HM⟩
 ·by_cases h2 : 256 < k
  ·have e : (k < 2 ∨ 256 < k ∨ f < 0 ∨ (B : Int) < f ∨ (B : Int) - f < k) := .inr (.inl h2)
   have HE := Lib.hid e
   clear e
   go_wp2_with fail
   go_ret
   unfold ringE
   rw [if_pos HE.out]
   exact ⟨rfl, HM⟩
  ·by_cases h3 : f < 0
   ·have e : (k < 2 ∨ 256 < k ∨ f < 0 ∨ (B : Int) < f ∨ (B : Int) - f < k) := .inr (.inr (.inl h3))
    have HE := Lib.hid e
    clear e
    go_wp2_with fail
    go_ret
    unfold ringE
    rw [if_pos HE.out]
    exact ⟨rfl, HM⟩
   ·by_cases h4 : (B : Int) < f
    ·have e : (k < 2 ∨ 256 < k ∨ f < 0 ∨ (B : Int) < f ∨ (B : Int) - f < k) := .inr (.inr (.inr (.inl h4)))
     have HE := Lib.hid e
     clear e
     go_wp2_with fail
     go_ret
     unfold ringE
     rw [if_pos HE.out]
     exact ⟨rfl, HM⟩
    ·obtain ⟨m, hm⟩ : ∃ m : Nat, (B : Int) - f = (m : Int) := ⟨B - f.toNat, by omega⟩
     have w1 : IntKind.i64.wrap (m : Int) = (m : Int) := by rw [IntKind.wrap_i64]; omega
     have w2 : wrap64 (m : Int) = (m : Int) := by unfold wrap64; omega
     by_cases h5 : (m : Int) < k
     ·have e : (k < 2 ∨ 256 < k ∨ f < 0 ∨ (B : Int) < f ∨ (B : Int) - f < k) := .inr (.inr (.inr (.inr (by rw [hm]; exact h5))))
      have HE := Lib.hid e
      clear e
      go_wp2_with fail
      go_ret
      unfold ringE
      rw [if_pos HE.out]
      exact ⟨rfl, HM⟩
     ·have HE : Hid (¬ (k < 2 ∨ 256 < k ∨ f < 0 ∨ (B : Int) < f ∨ (B : Int) - f < k)) := Lib.hid (by rw [hm]; intro h; rcases h with h | h | h | h | h; exact h1 h; exact h2 h; exact h3 h; exact h4 h; exact h5 h)
      go_wp2_with fail
      go_ret
      unfold ringE
      rw [if_neg HE.out]
      exact ⟨rfl, HM⟩
end
end Go.Proofs.YtkjpdfomppjiiaaGreatDoor
/- The log: a record is taken. -/
namespace Go.Proofs.YtkjpdfomppjiiaaGreatDoor
open Go.RowKit

def LogE.took (L : LogE) (us : List UpdE) : LogE := ⟨L.first, L.count, L.next + 1, crcOn 0 (payL L.next L.chain us), L.have_ + 1⟩
section
variable {W w : World} {b tk lb : Nat} {L : LogE}
set_option maxRecDepth 100000 in
set_option maxHeartbeats 3200000 in
theorem lgTake_any (hb : Blk w lb 178 (lgC b tk L)) (hT : Blk w tk 218 sumRow) (_hne : tk ≠ lb) (hL : L.Ok) (hn : L.next + 1 < 18446744073709551616) {A : Option Addr} {len cap : Nat} {us : List UpdE} (hr : Row w A (uRow us)) (hl : us.length = len) (hl2 : len ≤ 10000) (hd : ∀ u ∈ us, u.Ok) :
  Calls Tryz.prog 90 #[.pointer (some ⟨lb, 0, none⟩), .agg #[.int .u64 (L.next : Nat), .int .u32 (L.chain : Nat), .slice A len cap]] w fun e w' => e = .returned (.tuple #[]) ∧ Hid (Mods [lb] w w') ∧ Hid (Blk w' lb 178 (lgC b tk (L.took us))) := by
 obtain ⟨w1, hw1⟩ : ∃ w1, w.alloc (.cells #[.int .u64 (L.next : Nat), .int .u32 (L.chain : Nat), .slice A len cap] 180) = w1 := ⟨_, rfl⟩
 obtain ⟨g, hg⟩ : ∃ g, w.heap.size = g := ⟨_, rfl⟩
 have hm1 : Mods [] w w1 := by rw [← hw1]; exact (Mods.refl _ _).alloc _
 have HR1 : Hid (Blk w1 g 180 [.int .u64 (L.next : Nat), .int .u32 (L.chain : Nat), .slice A len cap]) := Lib.hid (by rw [← hw1, ← hg]; exact Blk.new w 180 _)
 have HM1 := Lib.hid hm1
 have HB1 := Lib.hid (hb.keep hm1 (by simp))
 have cL := Lib.hid (fun (w2 : World) (h : Mods [] w1 w2) => recLink_any (cap := cap) ((hT.keep hm1 (by simp)).keep h (by simp)) ((hr.keep0 hm1).keep0 h) hl hl2 hd hL.next hL.chain)
 have h1 := hL.have_
 have h2 := hL.count2
 obtain ⟨n, hn1⟩ : ∃ n : Nat, (L.next : Int) + 1 = (n : Int) := ⟨L.next + 1, by omega⟩
 have hn2 : L.next + 1 = n := by omega
 have hnw : IntKind.u64.wrap (n : Int) = (n : Int) := by rw [IntKind.wrap_u64]; omega
 obtain ⟨v, hv1⟩ : ∃ v : Nat, (L.have_ : Int) + 1 = (v : Int) := ⟨L.have_ + 1, by omega⟩
 have hv2 : L.have_ + 1 = v := by omega
 have hvw : IntKind.i64.wrap (v : Int) = (v : Int) := by rw [IntKind.wrap_i64]; omega
 have hvw2 : wrap64 (v : Int) = (v : Int) := by unfold wrap64; omega
 have HT : Hid (L.took us = ⟨L.first, L.count, n, crcOn 0 (payL L.next L.chain us), v⟩) := Lib.hid (by unfold LogE.took; rw [hn2, hv2])
 obtain ⟨ch, hch⟩ : ∃ ch, crcOn 0 (payL L.next L.chain us) = ch := ⟨_, rfl⟩
 rw [hch] at cL HT
 have r0 := HR1.out.cell (i := 0) rfl
 have r1 := HR1.out.cell (i := 1) rfl
 have r2 := HR1.out.cell (i := 2) rfl
 have l1 := HB1.out.cell (i := 1) rfl
 have l5 := HB1.out.cell (i := 5) rfl
 have f5 := HB1.out.free 5
 clear hb hT hr hm1 hn2 hv2 hch h1 h2 hL hn
 go_enter Tryz.func90, Tryz.ntmps90
 go_upto_region 1 with fail
 try rw [hw1, hg]
 clear hw1 hg
 go_region_with ((go_at_call 143; refine (cL.out _ ((Mods.refl _ _).drew)).mono ?_; rintro e w2 ⟨rfl, HM2⟩; have HM3 := Lib.hid (((Mods.refl [] w1).drew).trans HM2.out (by simp)); have HB2 := Lib.hid (HB1.out.keep HM3.out (by simp)); have k5 := HB2.out.cell (i := 5) rfl; have g5 := HB2.out.free 5))
 all_goals
  obtain ⟨w4, hw4⟩ : ∃ w4, w2.setCell ⟨lb, 5, none⟩ (.int .u32 (ch : Nat)) = w4 := ⟨_, rfl⟩
  have HB4 : Hid (Blk w4 lb 178 (lgC b tk ⟨L.first, L.count, L.next, ch, L.have_⟩)) := Lib.hid (by rw [← hw4]; exact HB2.out.set 5 _)
  have HM4 : Hid (Mods [lb] w w4) := Lib.hid (by rw [← hw4]; exact (((HM1.out.mono (L := []) (by simp)).trans (HM3.out.mono (by simp)) (fun k hk => .inl hk)).setCell (by simp) _))
  rw [hw4]
  clear hw4 HB2 HM3 k5 g5
  have q4 := HB4.out.cell (i := 4) rfl
  have q6 := HB4.out.cell (i := 6) rfl
  have f4 := HB4.out.free 4
  have f6 := HB4.out.free 6
  go_wp2_with fail
  go_end0
  refine ⟨rfl, Lib.hid ((HM4.out.setCell (by simp) _).setCell (by simp) _), Lib.hid ?_⟩
  rw [HT.out]
  exact (HB4.out.set 4 (.int .u64 (n : Nat))).set 6 (.int .i64 (v : Nat))
end
end Go.Proofs.YtkjpdfomppjiiaaGreatDoor
/- The log: is an image the next record's? -/
namespace Go.Proofs.YtkjpdfomppjiiaaGreatDoor
open Go.RowKit

theorem eqHead (k k' a a' g g' : Int) (w : World) : (Op.equalIn 10000 211 (.agg #[.int .u8 k, .int .i64 a, .int .u64 g]) (.agg #[.int .u8 k', .int .i64 a', .int .u64 g'])).run Tryz.prog w = .ok (decide (k = k' ∧ a = a' ∧ g = g')) w := by
 go_simp
 by_cases h1 : k = k' <;> by_cases h2 : a = a' <;> by_cases h3 : g = g' <;> simp [h1, h2, h3]
theorem eOpen_some {W : World} {sb : Nat} (hT : Blk W sb 218 sumRow) (x : ByteArray) {h : EHead} {l : List UInt8} (ho : openL x.toList = some (h, l)) :
  Calls Tryz.prog 122 #[.pointer (some ⟨sb, 0, none⟩), .string x] W fun e w' => ∃ p, e = .returned (.tuple #[.agg #[.int .u8 (h.kind : Nat), .int .i64 h.addr, .int .u64 (h.gen : Nat)], .string p, .int .i64 0]) ∧ Hid (p = bA l) ∧ Hid (Mods [] W w') := by
 refine (eOpen_any hT x).mono fun e w' ⟨hv, p, en, h1, h2, h3⟩ => ?_
 rw [ho] at h2
 obtain ⟨rfl, h4, rfl⟩ := h2
 exact ⟨p, h1, Lib.hid h4, Lib.hid h3⟩
theorem eOpen_none {W : World} {sb : Nat} (hT : Blk W sb 218 sumRow) (x : ByteArray) (ho : openL x.toList = none) :
  Calls Tryz.prog 122 #[.pointer (some ⟨sb, 0, none⟩), .string x] W fun e w' => ∃ en : Nat, e = .returned (.tuple #[.agg #[.int .u8 0, .int .i64 0, .int .u64 0], .string ⟨#[]⟩, .int .i64 (en : Nat)]) ∧ (en = 4 ∨ en = 5) ∧ Hid (Mods [] W w') := by
 refine (eOpen_any hT x).mono fun e w' ⟨hv, p, en, h1, h2, h3⟩ => ?_
 rw [ho] at h2
 obtain ⟨rfl, rfl, h5⟩ := h2
 exact ⟨en, h1, h5, Lib.hid h3⟩
section
variable {W w : World} {b tk lb : Nat} {L : LogE}
set_option maxRecDepth 100000 in
set_option maxHeartbeats 3200000 in
theorem lgIs_none (hb : Blk w lb 178 (lgC b tk L)) (hT : Blk w tk 218 sumRow) (y : ByteArray) (ho : openL y.toList = none) :
  Calls Tryz.prog 141 #[.pointer (some ⟨lb, 0, none⟩), .string y] w fun e w' => e = .returned (.tuple #[.agg #[.int .u64 0, .int .u32 0, .slice none 0 0], .bool false]) ∧ Hid (Mods [] w w') := by
 obtain ⟨w1, hw1⟩ : ∃ w1, w.alloc (.cells #[.int .u64 0, .int .u32 0, .slice none 0 0] 180) = w1 := ⟨_, rfl⟩
 obtain ⟨g, hg⟩ : ∃ g, w.heap.size = g := ⟨_, rfl⟩
 have hm1 : Mods [] w w1 := by rw [← hw1]; exact (Mods.refl _ _).alloc _
 have HR1 : Hid (Blk w1 g 180 [.int .u64 0, .int .u32 0, .slice none 0 0]) := Lib.hid (by rw [← hw1, ← hg]; exact Blk.new w 180 _)
 have HM1 := Lib.hid hm1
 have cO := Lib.hid (eOpen_none (hT.keep hm1 (by simp)) y ho)
 have l1 := (hb.keep hm1 (by simp)).cell (i := 1) rfl
 have hgw : w.heap.size ≤ g := by omega
 clear hb hT ho hm1
 go_enter Tryz.func141, Tryz.ntmps141
 go_upto_region 2 with (go_at_call 122; refine cO.out.mono ?_; rintro e w2 ⟨en, rfl, hen, HM2⟩)
 have HM3 := Lib.hid (((HM1.out.trans HM2.out (by simp))).alloc (.cells #[.int .u8 0, .int .i64 0, .int .u64 0] 211))
 have HR3 := Lib.hid ((HR1.out.keep HM2.out (by simp)).alloc (.cells #[.int .u8 0, .int .i64 0, .int .u64 0] 211))
 obtain ⟨w3, hw3⟩ : ∃ w3, w2.alloc (.cells #[.int .u8 0, .int .i64 0, .int .u64 0] 211) = w3 := ⟨_, rfl⟩
 rw [hw3] at HM3 HR3 ⊢
 have f0 := HR3.out.free 0
 have f1 := HR3.out.free 1
 have f2 := HR3.out.free 2
 have r0 := HR3.out.cell (i := 0) rfl
 have r1 := HR3.out.cell (i := 1) rfl
 have r2 := HR3.out.cell (i := 2) rfl
 clear hw3 l1 HM1 HM2 HR1 hw1
 rcases hen with rfl | rfl
 all_goals
  go_quiet (fail)
  go_wp2_with fail
  refine bodyPost_ret (results_ct rfl rfl (load_rec (((HR3.out.drewN nq).set 0 _ |>.set 1 _).set 2 _))) rfl ?_
  exact ⟨rfl, Lib.hid ((((HM3.out.drewN _).setNew hgw _ _).setNew hgw _ _).setNew hgw _ _)⟩
set_option maxRecDepth 100000 in
set_option maxHeartbeats 3200000 in
theorem lgIs_other (hb : Blk w lb 178 (lgC b tk L)) (hT : Blk w tk 218 sumRow) (hL : L.Ok) (y : ByteArray) {h : EHead} {l : List UInt8} (ho : openL y.toList = some (h, l)) (hne : ¬ (h.kind = 3 ∧ h.addr = (L.block L.next : Int) ∧ h.gen = L.next)) :
  Calls Tryz.prog 141 #[.pointer (some ⟨lb, 0, none⟩), .string y] w fun e w' => e = .returned (.tuple #[.agg #[.int .u64 0, .int .u32 0, .slice none 0 0], .bool false]) ∧ Hid (Mods [] w w') := by
 obtain ⟨w1, hw1⟩ : ∃ w1, w.alloc (.cells #[.int .u64 0, .int .u32 0, .slice none 0 0] 180) = w1 := ⟨_, rfl⟩
 obtain ⟨g, hg⟩ : ∃ g, w.heap.size = g := ⟨_, rfl⟩
 have hm1 : Mods [] w w1 := by rw [← hw1]; exact (Mods.refl _ _).alloc _
 have HR1 : Hid (Blk w1 g 180 [.int .u64 0, .int .u32 0, .slice none 0 0]) := Lib.hid (by rw [← hw1, ← hg]; exact Blk.new w 180 _)
 have HM1 := Lib.hid hm1
 have HB1 := Lib.hid (hb.keep hm1 (by simp))
 have cO := Lib.hid (eOpen_some (hT.keep hm1 (by simp)) y ho)
 have l1 := HB1.out.cell (i := 1) rfl
 have hgw : w.heap.size ≤ g := by omega
 obtain ⟨hk, ha, hgn⟩ := h
 have h1 := hL.first
 have h2 := hL.count1
 have h3 := hL.count2
 have cG := Lib.hid (fun W => rgBlock_any (W := W) (s := L.next) h1 (show 0 < L.count by omega) h3)
 obtain ⟨kb, hkb⟩ : ∃ kb, L.first + L.next % L.count = kb := ⟨_, rfl⟩
 rw [hkb] at cG
 have heq : ∀ w, (Op.equalIn 10000 211 (.agg #[.int .u8 (hk : Nat), .int .i64 ha, .int .u64 (hgn : Nat)]) (.agg #[.int .u8 3, .int .i64 (kb : Nat), .int .u64 (L.next : Nat)])).run Tryz.prog w = .ok false w := fun w => by
  rw [eqHead]
  rw [decide_eq_false]
  intro ⟨e1, e2, e3⟩
  refine hne ⟨by simp only; omega, ?_, by simp only; omega⟩
  unfold LogE.block
  rw [hkb]
  exact e2
 clear hb hT ho hm1 hne hL h1 h2 h3
 go_enter Tryz.func141, Tryz.ntmps141
 go_upto_region 2 with (go_at_call 122; refine cO.out.mono ?_; rintro e w2 ⟨pl, rfl, HPL, HM2⟩)
 obtain ⟨w3, hw3⟩ : ∃ w3, w2.alloc (.cells #[.int .u8 (hk : Nat), .int .i64 ha, .int .u64 (hgn : Nat)] 211) = w3 := ⟨_, rfl⟩
 obtain ⟨g3, hg3⟩ : ∃ g3, w2.heap.size = g3 := ⟨_, rfl⟩
 have HM3 : Hid (Mods [] w w3) := Lib.hid (by rw [← hw3]; exact (HM1.out.trans HM2.out (by simp)).alloc _)
 have HR3 : Hid (Blk w3 g 180 [.int .u64 0, .int .u32 0, .slice none 0 0]) := Lib.hid (by rw [← hw3]; exact (HR1.out.keep HM2.out (by simp)).alloc _)
 have HB3 : Hid (Blk w3 lb 178 (lgC b tk L)) := Lib.hid (by rw [← hw3]; exact (HB1.out.keep HM2.out (by simp)).alloc _)
 have HH3 : Hid (Blk w3 g3 211 [.int .u8 (hk : Nat), .int .i64 ha, .int .u64 (hgn : Nat)]) := Lib.hid (by rw [← hw3, ← hg3]; exact Blk.new w2 211 _)
 rw [hw3, hg3]
 clear hw3 l1 HM1 HM2 HR1 hw1 HB1 cO hg3
 have q0 := HH3.out.cell (i := 0) rfl
 have q1 := HH3.out.cell (i := 1) rfl
 have q2 := HH3.out.cell (i := 2) rfl
 have q3 := HB3.out.cell (i := 2) rfl
 have q4 := HB3.out.cell (i := 3) rfl
 have q5 := HB3.out.cell (i := 4) rfl
 go_region_held3 (fun w' => w'.cell? ⟨g3, 0, none⟩ = some (.int .u8 (hk : Nat)) ∧ w'.cell? ⟨g3, 1, none⟩ = some (.int .i64 ha) ∧ w'.cell? ⟨g3, 2, none⟩ = some (.int .u64 (hgn : Nat)) ∧ w'.cell? ⟨lb, 2, none⟩ = some (.int .i64 (L.first : Nat)) ∧ w'.cell? ⟨lb, 3, none⟩ = some (.int .i64 (L.count : Nat)) ∧ w'.cell? ⟨lb, 4, none⟩ = some (.int .u64 (L.next : Nat)))
  (first | go_keep | exact HD.out | fail)
  ((go_at_call 89; refine (cG.out _).mono ?_; rintro e w4 ⟨rfl, HM4⟩; have HM5 := Lib.hid (((Mods.refl [] w3).drew).trans HM4.out (by simp)); have HH4 := Lib.hid (HH3.out.keep HM5.out (by simp)); have HB4 := Lib.hid (HB3.out.keep HM5.out (by simp)); have HD := Lib.hid (And.intro (HH4.out.cell (i := 0) rfl) (And.intro (HH4.out.cell (i := 1) rfl) (And.intro (HH4.out.cell (i := 2) rfl) (And.intro (HB4.out.cell (i := 2) rfl) (And.intro (HB4.out.cell (i := 3) rfl) (HB4.out.cell (i := 4) rfl))))))))
 have HR4 := Lib.hid (HR3.out.keep HM5.out (by simp))
 have HMM := Lib.hid (HM3.out.trans HM5.out (by simp))
 have f0 := HR4.out.free 0
 have f1 := HR4.out.free 1
 have f2 := HR4.out.free 2
 have r0 := HR4.out.cell (i := 0) rfl
 have r1 := HR4.out.cell (i := 1) rfl
 have r2 := HR4.out.cell (i := 2) rfl
 clear q0 q1 q2 q3 q4 q5
 go_wp2_with fail
 refine bodyPost_ret (results_ct rfl rfl (load_rec ((HR4.out.set 0 _ |>.set 1 _).set 2 _))) rfl ?_
 exact ⟨rfl, Lib.hid (((HMM.out.setNew hgw _ _).setNew hgw _ _).setNew hgw _ _)⟩
set_option maxRecDepth 100000 in
set_option maxHeartbeats 3200000 in
theorem lgIs_yes (hb : Blk w lb 178 (lgC b tk L)) (hT : Blk w tk 218 sumRow) (hL : L.Ok) (y : ByteArray) {us : List UpdE} (hd : ∀ u ∈ us, u.Ok) (hus : us.length ≤ 10000) (ho : openL y.toList = some (⟨3, (L.block L.next : Int), L.next⟩, payL L.next L.chain us)) :
  Calls Tryz.prog 141 #[.pointer (some ⟨lb, 0, none⟩), .string y] w fun e w' => ∃ A cap, e = .returned (.tuple #[.agg #[.int .u64 (L.next : Nat), .int .u32 (L.chain : Nat), .slice A us.length cap], .bool true]) ∧ Hid (Row w' A (uRow us)) ∧ Hid (us.length ≤ cap ∧ cap ≤ maxLen) ∧ Hid (Mods [] w w') ∧ Hid (∀ a, A = some a → w.heap.size ≤ a.block) := by
 obtain ⟨w1, hw1⟩ : ∃ w1, w.alloc (.cells #[.int .u64 0, .int .u32 0, .slice none 0 0] 180) = w1 := ⟨_, rfl⟩
 obtain ⟨g, hg⟩ : ∃ g, w.heap.size = g := ⟨_, rfl⟩
 have hm1 : Mods [] w w1 := by rw [← hw1]; exact (Mods.refl _ _).alloc _
 have HR1 : Hid (Blk w1 g 180 [.int .u64 0, .int .u32 0, .slice none 0 0]) := Lib.hid (by rw [← hw1, ← hg]; exact Blk.new w 180 _)
 have HM1 := Lib.hid hm1
 have HB1 := Lib.hid (hb.keep hm1 (by simp))
 have cO := Lib.hid (eOpen_some (hT.keep hm1 (by simp)) y ho)
 have l1 := HB1.out.cell (i := 1) rfl
 have hgw : w.heap.size ≤ g := by omega
 have h1 := hL.first
 have h2 := hL.count1
 have h3 := hL.count2
 have cG := Lib.hid (fun W => rgBlock_any (W := W) (s := L.next) h1 (show 0 < L.count by omega) h3)
 obtain ⟨kb, hkb⟩ : ∃ kb, L.first + L.next % L.count = kb := ⟨_, rfl⟩
 rw [hkb] at cG
 have hkb2 : L.block L.next = kb := hkb
 rw [hkb2] at cO
 have heq : ∀ w, (Op.equalIn 10000 211 (.agg #[.int .u8 3, .int .i64 (kb : Nat), .int .u64 (L.next : Nat)]) (.agg #[.int .u8 3, .int .i64 (kb : Nat), .int .u64 (L.next : Nat)])).run Tryz.prog w = .ok true w := fun w => by
  rw [eqHead]
  rw [decide_eq_true ⟨rfl, rfl, rfl⟩]
 have cR := Lib.hid (fun (W : World) (s : ByteArray) (hs : s = bA (payL L.next L.chain us)) => recOpen_any (W := W) hd hL.next hL.chain s hs hus)
 obtain ⟨n, hn⟩ : ∃ n, us.length = n := ⟨_, rfl⟩
 rw [hn] at cR ⊢
 clear hb hT ho hm1 hL h1 h2 h3 hkb2 hus hn hd
 go_enter Tryz.func141, Tryz.ntmps141
 go_upto_region 2 with (go_at_call 122; refine cO.out.mono ?_; rintro e w2 ⟨pl, rfl, HPL, HM2⟩)
 obtain ⟨w3, hw3⟩ : ∃ w3, w2.alloc (.cells #[.int .u8 3, .int .i64 (kb : Nat), .int .u64 (L.next : Nat)] 211) = w3 := ⟨_, rfl⟩
 obtain ⟨g3, hg3⟩ : ∃ g3, w2.heap.size = g3 := ⟨_, rfl⟩
 have HM3 : Hid (Mods [] w w3) := Lib.hid (by rw [← hw3]; exact (HM1.out.trans HM2.out (by simp)).alloc _)
 have HR3 : Hid (Blk w3 g 180 [.int .u64 0, .int .u32 0, .slice none 0 0]) := Lib.hid (by rw [← hw3]; exact (HR1.out.keep HM2.out (by simp)).alloc _)
 have HB3 : Hid (Blk w3 lb 178 (lgC b tk L)) := Lib.hid (by rw [← hw3]; exact (HB1.out.keep HM2.out (by simp)).alloc _)
 have HH3 : Hid (Blk w3 g3 211 [.int .u8 3, .int .i64 (kb : Nat), .int .u64 (L.next : Nat)]) := Lib.hid (by rw [← hw3, ← hg3]; exact Blk.new w2 211 _)
 rw [hw3, hg3]
 clear hw3 l1 HM1 HM2 HR1 hw1 HB1 cO hg3
 have q0 := HH3.out.cell (i := 0) rfl
 have q1 := HH3.out.cell (i := 1) rfl
 have q2 := HH3.out.cell (i := 2) rfl
 have q3 := HB3.out.cell (i := 2) rfl
 have q4 := HB3.out.cell (i := 3) rfl
 have q5 := HB3.out.cell (i := 4) rfl
 go_region_held3 (fun w' => w'.cell? ⟨g3, 0, none⟩ = some (.int .u8 3) ∧ w'.cell? ⟨g3, 1, none⟩ = some (.int .i64 (kb : Nat)) ∧ w'.cell? ⟨g3, 2, none⟩ = some (.int .u64 (L.next : Nat)) ∧ w'.cell? ⟨lb, 2, none⟩ = some (.int .i64 (L.first : Nat)) ∧ w'.cell? ⟨lb, 3, none⟩ = some (.int .i64 (L.count : Nat)) ∧ w'.cell? ⟨lb, 4, none⟩ = some (.int .u64 (L.next : Nat)))
  (first | go_keep | exact HD.out | fail)
  ((go_at_call 89; refine (cG.out _).mono ?_; rintro e w4 ⟨rfl, HM4⟩; have HM5 := Lib.hid (((Mods.refl [] w3).drew).trans HM4.out (by simp)); have HH4 := Lib.hid (HH3.out.keep HM5.out (by simp)); have HB4 := Lib.hid (HB3.out.keep HM5.out (by simp)); have HD := Lib.hid (And.intro (HH4.out.cell (i := 0) rfl) (And.intro (HH4.out.cell (i := 1) rfl) (And.intro (HH4.out.cell (i := 2) rfl) (And.intro (HB4.out.cell (i := 2) rfl) (And.intro (HB4.out.cell (i := 3) rfl) (HB4.out.cell (i := 4) rfl))))))))
 have HR4 := Lib.hid (HR3.out.keep HM5.out (by simp))
 have HMM := Lib.hid (HM3.out.trans HM5.out (by simp))
 clear q0 q1 q2 q3 q4 q5 HR3 HB3 HM3 HM5 HH4 HD heq cG
 go_upto_region 5 with (go_at_call 193; refine (cR.out _ _ HPL.out).mono ?_; rintro e w6 ⟨A, cap, rfl, HA, HCAP, HM6, HNA⟩)
 obtain ⟨w7, hw7⟩ : ∃ w7, w6.alloc (.cells #[.int .u64 (L.next : Nat), .int .u32 (L.chain : Nat), .slice A n cap] 180) = w7 := ⟨_, rfl⟩
 obtain ⟨g7, hg7⟩ : ∃ g7, w6.heap.size = g7 := ⟨_, rfl⟩
 have hm7 : Mods [] w6 w7 := by rw [← hw7]; exact (Mods.refl _ _).alloc _
 have HM7 := Lib.hid ((HMM.out.trans HM6.out (by simp)).trans hm7 (by simp))
 have HR7 := Lib.hid ((HR4.out.keep HM6.out (by simp)).keep hm7 (by simp))
 have HB7 := Lib.hid ((HB4.out.keep HM6.out (by simp)).keep hm7 (by simp))
 have HG7 : Hid (Blk w7 g7 180 [.int .u64 (L.next : Nat), .int .u32 (L.chain : Nat), .slice A n cap]) := Lib.hid (by rw [← hw7, ← hg7]; exact Blk.new w6 180 _)
 have HA7 := Lib.hid (HA.out.keep0 hm7)
 have HNG : Hid (∀ a, A = some a → a.block ≠ g ∧ w.heap.size ≤ a.block) := Lib.hid (fun a ha => by
  have h1 := HNA.out a ha
  have h2 := HR4.out.lt
  exact ⟨by omega, by omega⟩)
 have hgne : ¬ g7 = g := by have := HR4.out.lt; have := HM6.out.size; omega
 have hgne2 : ¬ g = g7 := fun e => hgne e.symm
 rw [hw7, hg7]
 clear hw7 hg7 hm7 HMM HM6 HR4 HB4 HA HNA cR
 have r0 := HG7.out.cell (i := 0) rfl
 have r1 := HG7.out.cell (i := 1) rfl
 have r2 := HG7.out.cell (i := 2) rfl
 have l4 := HB7.out.cell (i := 4) rfl
 have l5 := HB7.out.cell (i := 5) rfl
 have z0 := HR7.out.cell (i := 0) rfl
 have z1 := HR7.out.cell (i := 1) rfl
 have z2 := HR7.out.cell (i := 2) rfl
 have f0 := HR7.out.free 0
 have f1 := HR7.out.free 1
 have f2 := HR7.out.free 2
 go_region
 go_wp2_with fail
 have hm8 : Mods [g] w7 ((((w7.setCell ⟨g, 0, none⟩ (.int .u64 (L.next : Nat))).setCell ⟨g, 1, none⟩ (.int .u32 (L.chain : Nat))).setCell ⟨g, 2, none⟩ (.slice A n cap)).drew) := ((((Mods.refl _ _).setCell (by simp) _).setCell (by simp) _).setCell (by simp) _).drew
 refine bodyPost_ret (results_ct rfl rfl (load_rec (((HR7.out.set 0 _ |>.set 1 _).set 2 _).keep (L := []) ((Mods.refl _ _).drew) (by simp)))) rfl ?_
 refine ⟨A, cap, rfl, Lib.hid (HA7.out.keep hm8 (fun a ha => ?_)), HCAP, Lib.hid (HM7.out.trans hm8 (fun k hk => .inr (by rw [List.mem_singleton.1 hk]; exact hgw))), Lib.hid (fun a ha => (HNG.out a ha).2)⟩
 simpa using (HNG.out a ha).1
end
end Go.Proofs.YtkjpdfomppjiiaaGreatDoor
/- The log: the next record is found, or isn't there. -/
namespace Go.Proofs.YtkjpdfomppjiiaaGreatDoor
open Go.RowKit

def NoRec (L : LogE) (y : ByteArray) : Prop := openL y.toList = none ∨ ∃ h l, openL y.toList = some (h, l) ∧ ¬ (h.kind = 3 ∧ h.addr = (L.block L.next : Int) ∧ h.gen = L.next)
def YesRec (L : LogE) (us : List UpdE) (y : ByteArray) : Prop := openL y.toList = some (⟨3, (L.block L.next : Int), L.next⟩, payL L.next L.chain us)
structure LgIn (W w : World) (F : List Nat) (x : Nat → Nat) (b p tk lb : Nat) (M : Mi) (L : LogE) : Prop where
 own : OwnM W F w b p x M
 sum : Blk w tk 218 sumRow
 lg : Blk w lb 178 (lgC b tk L)
 mem : tk ∈ F ∧ lb ∈ F
 old : W.heap.size ≤ lb
 ne : tk ≠ lb
def blkA (A : Option Addr) : List Nat := match A with
 | some a => [a.block]
 | none => []
section
variable {W w w' : World} {F : List Nat} {x : Nat → Nat} {b p tk lb : Nat} {M M' : Mi} {L : LogE} {B z c : Nat}
theorem LgIn.go (h : LgIn W w F x b p tk lb M L) (ho : OwnM W F w' b p x M') (hm : Minds F w w') : LgIn W w' F x b p tk lb M' L := ⟨ho, hm.blk h.sum h.mem.1, hm.blk h.lg h.mem.2, h.mem, h.old, h.ne⟩
theorem LgIn.calm (h : LgIn W w F x b p tk lb M L) (hm : Mods [] w w') : LgIn W w' F x b p tk lb M L := h.go (h.own.still hm) (Minds.of hm)
theorem LgIn.protect {G : List Nat} (h : LgIn W w F x b p tk lb M L) (hm : Mods [] w w') (hG : ∀ g ∈ G, w.heap.size ≤ g ∧ g < w'.heap.size) : LgIn W w' (G ++ F) x b p tk lb M L := by
 have hs := h.calm hm
 exact ⟨h.own.protect hm (fun k hk => by
  rcases List.mem_append.1 hk with hk | hk
  ·exact .inr (hG k hk)
  ·exact .inl hk), hs.sum, hs.lg, ⟨List.mem_append_right _ h.mem.1, List.mem_append_right _ h.mem.2⟩, h.old, h.ne⟩
theorem LgIn.less {G : List Nat} (h : LgIn W w G x b p tk lb M L) (hG : ∀ g ∈ F, g ∈ G) (hm : tk ∈ F ∧ lb ∈ F) : LgIn W w F x b p tk lb M L :=
 ⟨h.own.fewer hG, h.sum, h.lg, hm, h.old, h.ne⟩
theorem LgIn.aside {K : List Nat} (h : LgIn W w F x b p tk lb M L) (hm : Mods K w w') (hK : ∀ k ∈ K, k ∈ F ∧ W.heap.size ≤ k ∧ k ≠ tk ∧ k ≠ lb) : LgIn W w' F x b p tk lb M L :=
 ⟨h.own.aside hm (fun k hk => ⟨(hK k hk).1, (hK k hk).2.1⟩), h.sum.keep hm (fun hx => (hK _ hx).2.2.1 rfl), h.lg.keep hm (fun hx => (hK _ hx).2.2.2 rfl), h.mem, h.old, h.ne⟩
theorem Minds.row {A : Option Addr} {xs : List Value} (hm : Minds F w w') (hr : Row w A xs) (hA : ∀ a, A = some a → a.block ∈ F) : Row w' A xs := by
 obtain ⟨K, h1, h2⟩ := hm
 exact hr.keep h1 (fun a ha hx => h2 _ hx (hA a ha))
theorem lgIs_no (hb : Blk w lb 178 (lgC b tk L)) (hT : Blk w tk 218 sumRow) (hL : L.Ok) (y : ByteArray) (hn : NoRec L y) :
  Calls Tryz.prog 141 #[.pointer (some ⟨lb, 0, none⟩), .string y] w fun e w' => e = .returned (.tuple #[.agg #[.int .u64 0, .int .u32 0, .slice none 0 0], .bool false]) ∧ Hid (Mods [] w w') := by
 rcases hn with h | ⟨h, l, h1, h2⟩
 ·exact lgIs_none hb hT y h
 ·exact lgIs_other hb hT hL y h1 h2
theorem imgs_len (M : Mi) (i : Nat) : (M.imgs i).length ≤ 2 := by
 unfold Mi.imgs
 split <;> split <;> simp
set_option maxRecDepth 100000 in
set_option maxHeartbeats 3200000 in
theorem lgFind_no (h : LgIn W w F x b p tk lb M L) (hF : Fine B z c M.P) (hc : c ≤ 800000) (hL : L.Ok) (hi : L.block L.next < B) (hno : ∀ y ∈ M.imgs (L.block L.next), NoRec L y) :
  Calls Tryz.prog 87 #[.pointer (some ⟨lb, 0, none⟩)] w fun e w' => e = .returned (.tuple #[.agg #[.int .u64 0, .int .u32 0, .slice none 0 0], .string ⟨#[]⟩, .bool false, .int .i64 0]) ∧ Hid (LgIn W w' F x b p tk lb M L) ∧ Hid (Minds F w w') := by
 obtain ⟨w0, hw0⟩ : ∃ w0, w.alloc (.cells #[.int .u64 0, .int .u32 0, .slice none 0 0] 180) = w0 := ⟨_, rfl⟩
 obtain ⟨g, hg⟩ : ∃ g, w.heap.size = g := ⟨_, rfl⟩
 have hm0 : Mods [] w w0 := by rw [← hw0]; exact (Mods.refl _ _).alloc _
 have hR0 : Blk w0 g 180 [.int .u64 0, .int .u32 0, .slice none 0 0] := by rw [← hw0, ← hg]; exact Blk.new w 180 _
 have HL0 : Hid (LgIn W w0 ([g] ++ F) x b p tk lb M L) := Lib.hid (h.protect hm0 (fun k hk => by rw [List.mem_singleton.1 hk]; exact ⟨by omega, hR0.lt⟩))
 have HR0 := Lib.hid hR0
 have HM0 := Lib.hid hm0
 have HF := Lib.hid h.mem
 have HLT : Hid (∀ k ∈ F, k < g) := Lib.hid (fun k hk => by rw [← hg]; exact h.own.lt k hk)
 have hWg : W.heap.size ≤ g := by have := h.own.mods.size; omega
 obtain ⟨kb, hkb⟩ : ∃ kb, L.block L.next = kb := ⟨_, rfl⟩
 have h1 := hL.first
 have h2 := hL.count1
 have h3 := hL.count2
 have cG := Lib.hid (fun W => rgBlock_any (W := W) (s := L.next) h1 (show 0 < L.count by omega) h3)
 have hkb2 : L.first + L.next % L.count = kb := hkb
 rw [hkb2] at cG
 rw [hkb] at hi hno
 have cI := Lib.hid (fun (w2 : World) (hm : Mods [] w0 w2) => oImages (HL0.out.calm hm).own hF hc hi)
 have cN := Lib.hid (fun (w2 : World) (hl : LgIn W w2 ([g] ++ F) x b p tk lb M L) (y : ByteArray) (hn : NoRec L y) => lgIs_no hl.lg hl.sum hL y hn)
 have hil2 := imgs_len M kb
 generalize hims : M.imgs kb = ims at *
 have HNO := Lib.hid hno
 have q0 := HL0.out.lg.cell (i := 0) rfl
 have q1 := HL0.out.lg.cell (i := 2) rfl
 have q2 := HL0.out.lg.cell (i := 3) rfl
 have q3 := HL0.out.lg.cell (i := 4) rfl
 clear h hm0 hR0 hno h1 h2 h3 hkb hkb2 hims hL hi
 go_enter Tryz.func87, Tryz.ntmps87
 go_upto_region 1 with fail
 try rw [hw0, hg]
 clear hw0
 go_region_held3 (fun w' => w'.cell? ⟨lb, 0, none⟩ = some (.pointer (some ⟨b, 0, none⟩)) ∧ w'.cell? ⟨lb, 2, none⟩ = some (.int .i64 (L.first : Nat)) ∧ w'.cell? ⟨lb, 3, none⟩ = some (.int .i64 (L.count : Nat)) ∧ w'.cell? ⟨lb, 4, none⟩ = some (.int .u64 (L.next : Nat)))
  (first | go_keep | exact HD2.out | exact HD1.out | fail)
  ((first
   | (go_at_call 78; have zz := HD1; clear zz; refine (cI.out _ HM2.out).mono ?_; rintro e w3 ⟨IA, ik, il, rfl, HO3, HN3, HW3, HX3⟩; have HL3 := Lib.hid ((HL0.out.calm HM2.out).go HO3.out HN3.out); have HD2 := Lib.hid (And.intro (HL3.out.lg.cell (i := 0) rfl) (And.intro (HL3.out.lg.cell (i := 2) rfl) (And.intro (HL3.out.lg.cell (i := 3) rfl) (HL3.out.lg.cell (i := 4) rfl)))))
   | (go_at_call 89; refine (cG.out _).mono ?_; rintro e w2 ⟨rfl, HM1⟩; have HM2 := Lib.hid (((Mods.refl [] w0).drew).trans HM1.out (by simp)); have HL2 := Lib.hid (HL0.out.calm HM2.out); have HD1 := Lib.hid (And.intro (HL2.out.lg.cell (i := 0) rfl) (And.intro (HL2.out.lg.cell (i := 2) rfl) (And.intro (HL2.out.lg.cell (i := 3) rfl) (HL2.out.lg.cell (i := 4) rfl)))))
   | fail))
 obtain ⟨A2, cap2, hA2, hrw, _, hlen, _, _⟩ := row_of_owns HW3.out
 injection hA2 with hA2 hl2 hc2
 subst hA2
 have hiln : ims.length = il := by rw [← hlen, List.length_map]
 have hil3 : il ≤ 2 := by omega
 have HRW := Lib.hid hrw
 have HMM := Lib.hid ((Minds.of HM0.out).trans ((Minds.of (F := F) HM2.out).trans (HN3.out.mono (fun k hk => List.mem_append_right _ hk))))
 have HR3 := Lib.hid (HN3.out.blk (HR0.out.keep HM2.out (by simp)) (by simp))
 clear hrw hlen hl2 hc2 HW3 HX3 q0 q1 q2 q3 HO3 HM1 HM2 HN3 HD1 HD2 HL2 HL0 HR0 HM0 cI cG
 have HIL := Lib.hid hiln
 clear hiln
 go_wp2_with fail
 go_loopw [35] (fun iv wr => ∃ i : Nat, i ≤ il ∧ iv = .int .i64 (i : Nat) ∧ Mods [] w3 wr) (fun iv _ => il - (intOf iv).toNat)
 case atStart => exact ⟨0, by omega, rfl, Mods.refl _ _⟩
 case round =>
  obtain ⟨i, hi, rfl, hM⟩ := hrel
  have HM := Lib.hid hM
  clear hM
  by_cases hlt : i < il
  ·have hlti : (i : Int) < (il : Int) := by omega
   have hz : i < ims.length := by rw [HIL.out]; exact hlt
   obtain ⟨bz, oz, rfl, hcl⟩ := (HRW.out.keep0 HM.out).at (i := i) (u := .string ims[i]) (by rw [List.getElem?_map, List.getElem?_eq_getElem hz]; rfl)
   have hny := HNO.out _ (List.getElem_mem hz)
   generalize ims[i] = y at *
   have cY := Lib.hid (cN.out _ (HL3.out.calm HM.out) y hny)
   clear hny
   go_wp2_with (go_at_call 141; refine cY.out.mono ?_; rintro e w4 ⟨rfl, HM4⟩)
   go_roundw
   case rel => exact ⟨i + 1, by omega, by go_num, (HM.out.trans HM4.out (by simp)).alloc _⟩
   case measure => simp [intOf]; omega
  ·obtain rfl : i = il := by omega
   have HR4 := Lib.hid (HR3.out.keep HM.out (by simp))
   have z0 := HR4.out.cell (i := 0) rfl
   have z1 := HR4.out.cell (i := 1) rfl
   have z2 := HR4.out.cell (i := 2) rfl
   have f0 := HR4.out.free 0
   have f1 := HR4.out.free 1
   have f2 := HR4.out.free 2
   go_wp2_with fail
   have hm8 : Mods [g] wr (((wr.setCell ⟨g, 0, none⟩ (.int .u64 0)).setCell ⟨g, 1, none⟩ (.int .u32 0)).setCell ⟨g, 2, none⟩ (.slice none 0 0)) := (((Mods.refl _ _).setCell (by simp) _).setCell (by simp) _).setCell (by simp) _
   refine bodyPost_ret (results_cttt rfl rfl (load_rec ((HR4.out.set 0 _ |>.set 1 _).set 2 _))) rfl ?_
   have hne1 := HLT.out tk HF.out.1
   have hne2 := HLT.out lb HF.out.2
   refine ⟨rfl, Lib.hid (((HL3.out.calm HM.out).aside hm8 (fun k hk => ?_)).less (fun k hk => List.mem_append_right _ hk) HF.out), Lib.hid (((HMM.out.tr HM.out)).trans ⟨[g], hm8, fun k hk hx => ?_⟩)⟩
   ·rw [List.mem_singleton.1 hk]
    exact ⟨by simp, hWg, by omega, by omega⟩
   ·rw [List.mem_singleton.1 hk] at hx
    have := HLT.out g hx
    omega
end
end Go.Proofs.YtkjpdfomppjiiaaGreatDoor
/- The log: the next record is found. -/
namespace Go.Proofs.YtkjpdfomppjiiaaGreatDoor
open Go.RowKit

section
variable {W w w' : World} {F : List Nat} {x : Nat → Nat} {b p tk lb : Nat} {M M' : Mi} {L : LogE} {B z c : Nat}
set_option maxRecDepth 100000 in
set_option maxHeartbeats 3200000 in
theorem lgFind_yes (h : LgIn W w F x b p tk lb M L) (hF : Fine B z c M.P) (hc : c ≤ 800000) (hL : L.Ok) (hi : L.block L.next < B) {us : List UpdE} (hd : ∀ u ∈ us, u.Ok) (hus : us.length ≤ 10000) (hu0 : us ≠ []) {pre post : List ByteArray} {y0 : ByteArray} (him : M.imgs (L.block L.next) = pre ++ y0 :: post) (hno : ∀ y ∈ pre, NoRec L y) (hyes : YesRec L us y0) :
  Calls Tryz.prog 87 #[.pointer (some ⟨lb, 0, none⟩)] w fun e w' => ∃ A cap, e = .returned (.tuple #[.agg #[.int .u64 (L.next : Nat), .int .u32 (L.chain : Nat), .slice A us.length cap], .string y0, .bool true, .int .i64 0]) ∧ Hid (Row w' A (uRow us)) ∧ Hid (us.length ≤ cap ∧ cap ≤ maxLen) ∧ Hid (LgIn W w' (blkA A ++ F) x b p tk lb M L) ∧ Hid (Minds F w w') ∧ Hid (∀ a, A = some a → w.heap.size ≤ a.block) := by
 obtain ⟨w0, hw0⟩ : ∃ w0, w.alloc (.cells #[.int .u64 0, .int .u32 0, .slice none 0 0] 180) = w0 := ⟨_, rfl⟩
 obtain ⟨g, hg⟩ : ∃ g, w.heap.size = g := ⟨_, rfl⟩
 have hm0 : Mods [] w w0 := by rw [← hw0]; exact (Mods.refl _ _).alloc _
 have hR0 : Blk w0 g 180 [.int .u64 0, .int .u32 0, .slice none 0 0] := by rw [← hw0, ← hg]; exact Blk.new w 180 _
 have HL0 : Hid (LgIn W w0 ([g] ++ F) x b p tk lb M L) := Lib.hid (h.protect hm0 (fun k hk => by rw [List.mem_singleton.1 hk]; exact ⟨by omega, hR0.lt⟩))
 have HR0 := Lib.hid hR0
 have HM0 := Lib.hid hm0
 have HF := Lib.hid h.mem
 have HLT : Hid (∀ k ∈ F, k < g) := Lib.hid (fun k hk => by rw [← hg]; exact h.own.lt k hk)
 have hWg : W.heap.size ≤ g := by have := h.own.mods.size; omega
 obtain ⟨kb, hkb⟩ : ∃ kb, L.block L.next = kb := ⟨_, rfl⟩
 have h1 := hL.first
 have h2 := hL.count1
 have h3 := hL.count2
 have cG := Lib.hid (fun W => rgBlock_any (W := W) (s := L.next) h1 (show 0 < L.count by omega) h3)
 have hkb2 : L.first + L.next % L.count = kb := hkb
 rw [hkb2] at cG
 rw [hkb] at hi him
 have cI := Lib.hid (fun (w2 : World) (hm : Mods [] w0 w2) => oImages (HL0.out.calm hm).own hF hc hi)
 have cN := Lib.hid (fun (w2 : World) (hl : LgIn W w2 ([g] ++ F) x b p tk lb M L) (y : ByteArray) (hn : NoRec L y) => lgIs_no hl.lg hl.sum hL y hn)
 have hil2 := imgs_len M kb
 generalize hims : M.imgs kb = ims at *
 have cY0 := Lib.hid (fun (w2 : World) (hl : LgIn W w2 ([g] ++ F) x b p tk lb M L) => lgIs_yes hl.lg hl.sum hL y0 hd hus hyes)
 have HIMS := Lib.hid him
 obtain ⟨n, hn⟩ : ∃ n, us.length = n := ⟨_, rfl⟩
 rw [hn] at cY0 ⊢
 have HU0 : Hid (uRow us ≠ []) := Lib.hid (by
  cases us with
  | nil => exact absurd rfl hu0
  | cons u r => unfold uRow; simp [updC])
 obtain ⟨np, hnp⟩ : ∃ np, pre.length = np := ⟨_, rfl⟩
 have HNP := Lib.hid hnp
 clear hn hus hd hyes him hnp hu0
 have HNO := Lib.hid hno
 have q0 := HL0.out.lg.cell (i := 0) rfl
 have q1 := HL0.out.lg.cell (i := 2) rfl
 have q2 := HL0.out.lg.cell (i := 3) rfl
 have q3 := HL0.out.lg.cell (i := 4) rfl
 clear h hm0 hR0 hno h1 h2 h3 hkb hkb2 hims hL hi
 go_enter Tryz.func87, Tryz.ntmps87
 go_upto_region 1 with fail
 try rw [hw0, hg]
 clear hw0
 go_region_held3 (fun w' => w'.cell? ⟨lb, 0, none⟩ = some (.pointer (some ⟨b, 0, none⟩)) ∧ w'.cell? ⟨lb, 2, none⟩ = some (.int .i64 (L.first : Nat)) ∧ w'.cell? ⟨lb, 3, none⟩ = some (.int .i64 (L.count : Nat)) ∧ w'.cell? ⟨lb, 4, none⟩ = some (.int .u64 (L.next : Nat)))
  (first | go_keep | exact HD2.out | exact HD1.out | fail)
  ((first
   | (go_at_call 78; have zz := HD1; clear zz; refine (cI.out _ HM2.out).mono ?_; rintro e w3 ⟨IA, ik, il, rfl, HO3, HN3, HW3, HX3⟩; have HL3 := Lib.hid ((HL0.out.calm HM2.out).go HO3.out HN3.out); have HD2 := Lib.hid (And.intro (HL3.out.lg.cell (i := 0) rfl) (And.intro (HL3.out.lg.cell (i := 2) rfl) (And.intro (HL3.out.lg.cell (i := 3) rfl) (HL3.out.lg.cell (i := 4) rfl)))))
   | (go_at_call 89; refine (cG.out _).mono ?_; rintro e w2 ⟨rfl, HM1⟩; have HM2 := Lib.hid (((Mods.refl [] w0).drew).trans HM1.out (by simp)); have HL2 := Lib.hid (HL0.out.calm HM2.out); have HD1 := Lib.hid (And.intro (HL2.out.lg.cell (i := 0) rfl) (And.intro (HL2.out.lg.cell (i := 2) rfl) (And.intro (HL2.out.lg.cell (i := 3) rfl) (HL2.out.lg.cell (i := 4) rfl)))))
   | fail))
 obtain ⟨A2, cap2, hA2, hrw, _, hlen, _, _⟩ := row_of_owns HW3.out
 injection hA2 with hA2 hl2 hc2
 subst hA2
 have hiln : ims.length = il := by rw [← hlen, List.length_map]
 have hil3 : il ≤ 2 := by omega
 have HRW := Lib.hid hrw
 have HMM := Lib.hid ((Minds.of HM0.out).trans ((Minds.of (F := F) HM2.out).trans (HN3.out.mono (fun k hk => List.mem_append_right _ hk))))
 have HR3 := Lib.hid (HN3.out.blk (HR0.out.keep HM2.out (by simp)) (by simp))
 clear hrw hlen hl2 hc2 HW3 HX3 q0 q1 q2 q3 HO3 HM1 HM2 HN3 HD1 HD2 HL2 HL0 HR0 HM0 cI cG
 have HIL := Lib.hid hiln
 have hnpl : np < il := by rw [← hiln, HIMS.out, List.length_append, List.length_cons, HNP.out]; omega
 clear hiln
 go_wp2_with fail
 go_loopw [35] (fun iv wr => ∃ i : Nat, i ≤ np ∧ iv = .int .i64 (i : Nat) ∧ Mods [] w3 wr) (fun iv _ => il - (intOf iv).toNat)
 case atStart => exact ⟨0, by omega, rfl, Mods.refl _ _⟩
 case round =>
  obtain ⟨i, hi, rfl, hM⟩ := hrel
  have HM := Lib.hid hM
  clear hM
  have hlti : (i : Int) < (il : Int) := by omega
  have hz : i < ims.length := by rw [HIL.out]; omega
  obtain ⟨bz, oz, rfl, hcl⟩ := (HRW.out.keep0 HM.out).at (i := i) (u := .string ims[i]) (by rw [List.getElem?_map, List.getElem?_eq_getElem hz]; rfl)
  have hgy : (pre ++ y0 :: post)[i]? = some ims[i] := (congrArg (fun l : List ByteArray => l[i]?) HIMS.out).symm.trans (List.getElem?_eq_getElem hz)
  by_cases hlt : i < np
  ·have hny : NoRec L ims[i] := by
    refine HNO.out _ ?_
    rw [List.getElem?_append_left (by rw [HNP.out]; exact hlt)] at hgy
    exact List.mem_of_getElem? hgy
   generalize ims[i] = y at *
   have cY := Lib.hid (cN.out _ (HL3.out.calm HM.out) y hny)
   clear hny hgy
   go_wp2_with (go_at_call 141; refine cY.out.mono ?_; rintro e w4 ⟨rfl, HM4⟩)
   go_roundw
   case rel => exact ⟨i + 1, by omega, by go_num, (HM.out.trans HM4.out (by simp)).alloc _⟩
   case measure => simp [intOf]; omega
  ·obtain rfl : i = np := by omega
   have hy0 : ims[i] = y0 := by
    rw [List.getElem?_append_right (by rw [HNP.out]; exact Nat.le_refl _), HNP.out, Nat.sub_self] at hgy
    simp at hgy
    exact hgy.symm
   rw [hy0] at hcl
   have cY := Lib.hid (cY0.out _ (HL3.out.calm HM.out))
   clear hy0 hgy
   go_upto_region 9 with (go_at_call 141; refine cY.out.mono ?_; rintro e w4 ⟨A, cap, rfl, HA, HCAP, HM4, HNA⟩)
   obtain ⟨w5, hw5⟩ : ∃ w5, w4.alloc (.cells #[.int .u64 (L.next : Nat), .int .u32 (L.chain : Nat), .slice A n cap] 180) = w5 := ⟨_, rfl⟩
   obtain ⟨g5, hg5⟩ : ∃ g5, w4.heap.size = g5 := ⟨_, rfl⟩
   have hm5 : Mods [] w4 w5 := by rw [← hw5]; exact (Mods.refl _ _).alloc _
   have hm35 : Mods [] wr w5 := HM4.out.trans hm5 (by simp)
   have HG5 : Hid (Blk w5 g5 180 [.int .u64 (L.next : Nat), .int .u32 (L.chain : Nat), .slice A n cap]) := Lib.hid (by rw [← hw5, ← hg5]; exact Blk.new w4 180 _)
   have HR5 := Lib.hid ((HR3.out.keep HM.out (by simp)).keep hm35 (by simp))
   have HA5 := Lib.hid (HA.out.keep0 hm5)
   have HM5 := Lib.hid hm35
   have HL5 : Hid (LgIn W w5 (blkA A ++ ([g] ++ F)) x b p tk lb M L) := Lib.hid ((HL3.out.calm HM.out).protect hm35 (fun k hk => by
    cases A with
    | none => cases hk
    | some a =>
     have e := List.mem_singleton.1 hk
     subst e
     refine ⟨HNA.out a rfl, ?_⟩
     rcases HA.out with h | ⟨bb, off, h1, h2⟩
     ·exact absurd h HU0.out
     ·injection h1 with h1
      subst h1
      have h3 := HA5.out.lt HU0.out
      exact h3))
   have hgl : g < w3.heap.size := HR3.out.lt
   have hge : ¬ g5 = g := by have := HM.out.size; have := HM4.out.size; omega
   have hge2 : ¬ g = g5 := fun e => hge e.symm
   have HNG : Hid (∀ a, A = some a → a.block ≠ g ∧ w.heap.size ≤ a.block) := Lib.hid (fun a ha => by
    have h1 := HNA.out a ha
    have h2 := HM.out.size
    exact ⟨by omega, by omega⟩)
   rw [hw5, hg5]
   clear hw5 hg5 hm5 hm35 cY cN cY0 HA HM4 HNA hcl
   have r0 := HG5.out.cell (i := 0) rfl
   have r1 := HG5.out.cell (i := 1) rfl
   have r2 := HG5.out.cell (i := 2) rfl
   have z0 := HR5.out.cell (i := 0) rfl
   have z1 := HR5.out.cell (i := 1) rfl
   have z2 := HR5.out.cell (i := 2) rfl
   have f0 := HR5.out.free 0
   have f1 := HR5.out.free 1
   have f2 := HR5.out.free 2
   go_wp2_with fail
   have hm8 : Mods [g] w5 (((w5.setCell ⟨g, 0, none⟩ (.int .u64 (L.next : Nat))).setCell ⟨g, 1, none⟩ (.int .u32 (L.chain : Nat))).setCell ⟨g, 2, none⟩ (.slice A n cap)) := (((Mods.refl _ _).setCell (by simp) _).setCell (by simp) _).setCell (by simp) _
   refine bodyPost_ret (results_cttt rfl rfl (load_rec ((HR5.out.set 0 _ |>.set 1 _).set 2 _))) rfl ?_
   have hne1 := HLT.out tk HF.out.1
   have hne2 := HLT.out lb HF.out.2
   refine ⟨A, cap, rfl, Lib.hid (HA5.out.keep hm8 (fun a ha => by simpa using (HNG.out a ha).1)), HCAP, Lib.hid ((HL5.out.aside hm8 (fun k hk => ?_)).less (fun k hk => ?_) ⟨List.mem_append_right _ HF.out.1, List.mem_append_right _ HF.out.2⟩), Lib.hid (((HMM.out.tr HM.out).tr HM5.out).trans ⟨[g], hm8, fun k hk hx => ?_⟩), Lib.hid (fun a ha => by have := (HNG.out a ha).2; omega)⟩
   ·rw [List.mem_singleton.1 hk]
    exact ⟨by simp, hWg, by omega, by omega⟩
   ·rcases List.mem_append.1 hk with h | h
    ·exact List.mem_append_left _ h
    ·exact List.mem_append_right _ (List.mem_append_right _ h)
   ·rw [List.mem_singleton.1 hk] at hx
    have := HLT.out g hx
    omega
end
end Go.Proofs.YtkjpdfomppjiiaaGreatDoor
/- The log: a record is appended. -/

namespace Go.Proofs.YtkjpdfomppjiiaaGreatDoor
open Go.RowKit

def Opens (B z : Nat) : Mi → LogE → List (List UpdE) → Mi → LogE → Prop
 | M, L, [], M2, L2 => M2 = M ∧ L2 = L ∧ (L.have_ = L.count ∨ L.have_ < L.count ∧ ∃ c, Fine B z c M.P ∧ c ≤ 600000 ∧ ∀ y ∈ M.imgs (L.block L.next), NoRec L y)
 | M, L, us :: rs, M2, L2 => L.have_ < L.count ∧ L.next + 1 < 18446744073709551616 ∧ (∃ c pre y post, Fine B z c M.P ∧ c ≤ 600000 ∧ M.reps < 900000000 ∧ y.size = z ∧ M.imgs (L.block L.next) = pre ++ y :: post ∧ (∀ v ∈ pre, NoRec L v) ∧ YesRec L us y ∧ (∀ u ∈ us, u.Ok) ∧ us ≠ [] ∧ us.length ≤ 1000 ∧ Opens B z (M.heal (L.block L.next) y).2 (L.took us) rs M2 L2)
def RecRow (w : World) (F : List Nat) : LogE → List (List UpdE) → List Value → Prop
 | _, [], cs => cs = []
 | L, us :: rs, cs => ∃ A cap rest, cs = .int .u64 (L.next : Nat) :: .int .u32 (L.chain : Nat) :: .slice A us.length cap :: rest ∧ Row w A (uRow us) ∧ (∀ a, A = some a → a.block ∈ F) ∧ us.length ≤ cap ∧ cap ≤ maxLen ∧ RecRow w F (L.took us) rs rest
def LogE.tooks : LogE → List (List UpdE) → LogE
 | L, [] => L
 | L, us :: rs => (L.took us).tooks rs
theorem LogE.tooks_snoc : ∀ (L : LogE) (rs : List (List UpdE)) (us : List UpdE), L.tooks (rs ++ [us]) = (L.tooks rs).took us
 | _L, [], _us => rfl
 | L, v :: rs, us => LogE.tooks_snoc (L.took v) rs us
theorem RecRow.len {w : World} {F : List Nat} : ∀ {L : LogE} {rs : List (List UpdE)} {cs : List Value}, RecRow w F L rs cs → cs.length = 3 * rs.length
 | L, [], cs, h => by rw [show cs = [] from h]; rfl
 | L, us :: rs, cs, h => by
  obtain ⟨A, cap, rest, rfl, _, _, _, _, h6⟩ := h
  have := RecRow.len h6
  simp only [List.length_cons]
  omega
theorem RecRow.keep {w w' : World} {F G : List Nat} (hm : Minds F w w') (hs : ∀ g ∈ F, g ∈ G) : ∀ {L : LogE} {rs : List (List UpdE)} {cs : List Value}, RecRow w F L rs cs → RecRow w' G L rs cs
 | L, [], cs, h => h
 | L, us :: rs, cs, h => by
  obtain ⟨A, cap, rest, e, h1, h2, h3, h4, h6⟩ := h
  exact ⟨A, cap, rest, e, hm.row h1 h2, fun a ha => hs _ (h2 a ha), h3, h4, RecRow.keep hm hs h6⟩
theorem RecRow.snoc {w : World} {F : List Nat} {us : List UpdE} {A : Option Addr} {cap : Nat} (hr : Row w A (uRow us)) (hA : ∀ a, A = some a → a.block ∈ F) (h1 : us.length ≤ cap) (h2 : cap ≤ maxLen) :
  ∀ {L : LogE} {rs : List (List UpdE)} {cs : List Value}, RecRow w F L rs cs → RecRow w F L (rs ++ [us]) (cs ++ [.int .u64 ((L.tooks rs).next : Nat), .int .u32 ((L.tooks rs).chain : Nat), .slice A us.length cap])
 | L, [], cs, h => by
  rw [show cs = [] from h]
  exact ⟨A, cap, [], rfl, hr, hA, h1, h2, rfl⟩
 | L, v :: rs, cs, h => by
  obtain ⟨A', cap', rest, rfl, k1, k2, k3, k4, k6⟩ := h
  exact ⟨A', cap', _, rfl, k1, k2, k3, k4, RecRow.snoc hr hA h1 h2 k6⟩
theorem took_ok {L : LogE} {us : List UpdE} (h : L.Ok) (hh : L.have_ < L.count) (hn : L.next + 1 < 18446744073709551616) : (L.took us).Ok :=
 ⟨h.first, h.count1, h.count2, hn, crcOn_lt _ _, hh⟩
section
variable {W w w' : World} {F : List Nat} {x : Nat → Nat} {b p tk lb : Nat} {M M' : Mi} {L : LogE} {B z c : Nat}
structure OpIn (W w : World) (F K : List Nat) (x : Nat → Nat) (b p tk lb rb base : Nat) (M : Mi) (L0 L : LogE) (rs : List (List UpdE)) (v : Value) : Prop where
 lg : LgIn W w F x b p tk lb M L
 ring : Blk w rb 98 [.int .i64 (L0.first : Nat), .int .i64 (L0.count : Nat)]
 rmem : rb ∈ F ∧ rb ≠ lb
 row : ∃ cs, w.ownsRow base 180 3 v rs.length cs ∧ RecRow w K L0 rs cs
 kin : ∀ k ∈ K, k ∈ F ∧ k ≠ lb
 own : ∀ g, v.ownBlock = some g → g ∈ F ∧ g ∉ K ∧ g ≠ lb ∧ g ≠ tk ∧ g ≠ rb
 last : L0.tooks rs = L
 base : W.heap.size ≤ base ∧ base ≤ w.heap.size
theorem tooks_first : ∀ (rs : List (List UpdE)) (L : LogE), (L.tooks rs).first = L.first ∧ (L.tooks rs).count = L.count ∧ (L.tooks rs).have_ = L.have_ + rs.length
 | [], L => ⟨rfl, rfl, rfl⟩
 | us :: rs, L => by
  obtain ⟨h1, h2, h3⟩ := tooks_first rs (L.took us)
  refine ⟨h1, h2, ?_⟩
  show ((L.took us).tooks rs).have_ = _
  rw [h3]
  show L.have_ + 1 + rs.length = L.have_ + (rs.length + 1)
  omega
theorem OpIn.calm {K : List Nat} {rb base : Nat} {L0 : LogE} {rs : List (List UpdE)} {v : Value} (h : OpIn W w F K x b p tk lb rb base M L0 L rs v) (hm : Mods [] w w') : OpIn W w' F K x b p tk lb rb base M L0 L rs v := by
 obtain ⟨cs, h1, h2⟩ := h.row
 exact ⟨h.lg.calm hm, h.ring.keep hm (by simp), h.rmem, ⟨cs, owns_keepL h1 hm, RecRow.keep (Minds.of hm) (fun _ h => h) h2⟩, h.kin, h.own, h.last, ⟨h.base.1, Nat.le_trans h.base.2 hm.size⟩⟩
theorem OpIn.turn {G K : List Nat} {rb base : Nat} {L0 : LogE} {rs : List (List UpdE)} {v : Value} (h : OpIn W w F K x b p tk lb rb base M L0 L rs v) (hl : LgIn W w' G x b p tk lb M' L) (hm : Minds F w w') (hG : ∀ g ∈ F, g ∈ G) : OpIn W w' G K x b p tk lb rb base M' L0 L rs v := by
 obtain ⟨cs, h1, h2⟩ := h.row
 refine ⟨hl, hm.blk h.ring h.rmem.1, ⟨hG _ h.rmem.1, h.rmem.2⟩, ⟨cs, ?_, RecRow.keep (hm.mono (fun k hk => (h.kin k hk).1)) (fun _ h => h) h2⟩, fun k hk => ⟨hG _ (h.kin k hk).1, (h.kin k hk).2⟩, fun g hg => ⟨hG _ (h.own g hg).1, (h.own g hg).2⟩, h.last, ⟨h.base.1, Nat.le_trans h.base.2 hm.size⟩⟩
 obtain ⟨N, k1, k2⟩ := hm
 exact owns_keepF h1 k1 (fun g hg hx => k2 g hx (h.own g hg).1)
theorem OwnM.mix {G N : List Nat} (h : OwnM W F w b p x M) (hm : Mods N w w') (hL : ∀ k ∈ N, k ∈ F ∧ W.heap.size ≤ k) (hG : ∀ g ∈ G, g ∈ F ∨ w.heap.size ≤ g ∧ g < w'.heap.size) : OwnM W G w' b p x M := by
 obtain ⟨tb, mb, gp, fx, hI, hf⟩ := h.foot_lt
 have hno : ∀ g, g = b ∨ g = tb ∨ g = mb ∨ g ∈ gp ∨ g ∈ fx 0 ∨ g ∈ fx 1 → g ∉ N := fun g hg hx => (hf g hg).2.1 (hL g hx).1
 refine ⟨⟨tb, mb, gp, fx, hI.keep hm ⟨hno _ (.inl rfl), hno _ (.inr (.inl rfl)), hno _ (.inr (.inr (.inl rfl)))⟩ (fun g hg => hno _ (.inr (.inr (.inr (.inl hg))))) (fun k hk g hg => hno _ ?_), fun g hg => ⟨(hf g hg).1, fun hx => ?_⟩⟩, h.mods.trans hm (fun k hk => .inr (hL k hk).2), fun g hg => ?_⟩
 ·rcases two_cases hk with rfl | rfl
  ·exact .inr (.inr (.inr (.inr (.inl hg))))
  ·exact .inr (.inr (.inr (.inr (.inr hg))))
 ·rcases hG g hx with h1 | h1
  ·exact (hf g hg).2.1 h1
  ·have := (hf g hg).2.2; omega
 ·rcases hG g hg with h1 | h1
  ·exact Nat.lt_of_lt_of_le (h.lt g h1) hm.size
  ·exact h1.2
theorem OpIn.add {K : List Nat} {rb base : Nat} {L0 : LogE} {rs : List (List UpdE)} {v : Value} (h : OpIn W w F K x b p tk lb rb base M L0 L rs v) {us : List UpdE} {A : Option Addr} {cap : Nat} (hr : Row w A (uRow us)) (h1 : us.length ≤ cap) (h2 : cap ≤ maxLen)
  (hA : ∀ a, A = some a → a.block ∈ F ∧ a.block ≠ lb ∧ ∀ g, v.ownBlock = some g → g ≠ a.block)
  {w1 w2 : World} {g k2 : Nat} {cs : List Value} (hrow : w.ownsRow base 180 3 v rs.length cs) (hrec : RecRow w K L0 rs cs) (hm1 : Mods (match v.ownBlock with | some g => [g] | none => []) w w1) (hown : w1.ownsRow base 180 3 (.slice (some ⟨g, 0, none⟩) (rs.length + 1) k2) (rs.length + 1) (cs ++ [.int .u64 (L.next : Nat), .int .u32 (L.chain : Nat), .slice A us.length cap]))
  (hg : v.ownBlock = some g ∨ w.heap.size ≤ g) (hgl : g < w1.heap.size) (hm2 : Mods [lb] w1 w2) (hlg : Blk w2 lb 178 (lgC b tk (L.took us))) :
  OpIn W w2 (g :: F) (blkA A ++ K) x b p tk lb rb base M L0 (L.took us) (rs ++ [us]) (.slice (some ⟨g, 0, none⟩) (rs.length + 1) k2) := by
 have hlt := h.lg.own.lt
 have hgn : g ∉ blkA A ++ K ∧ g ≠ lb ∧ g ≠ tk ∧ g ≠ rb := by
  rcases hg with hg | hg
  ·obtain ⟨o1, o2, o3, o4, o5⟩ := h.own g hg
   refine ⟨fun hx => ?_, o3, o4, o5⟩
   rcases List.mem_append.1 hx with hx | hx
   ·cases A with
    | none => cases hx
    | some a => exact (hA a rfl).2.2 g hg (List.mem_singleton.1 hx)
   ·exact o2 hx
  ·have e1 := hlt lb h.lg.mem.2
   have e2 := hlt tk h.lg.mem.1
   have e3 := hlt rb h.rmem.1
   refine ⟨fun hx => ?_, by omega, by omega, by omega⟩
   rcases List.mem_append.1 hx with hx | hx
   ·cases A with
    | none => cases hx
    | some a =>
     have := hlt _ (hA a rfl).1
     rw [List.mem_singleton.1 hx] at hg
     omega
   ·have := hlt g (h.kin g hx).1
    omega
 obtain ⟨N, hN, hm1⟩ : ∃ N, (∀ k ∈ N, v.ownBlock = some k) ∧ Mods N w w1 := by
  cases hv : v.ownBlock with
  | none => rw [hv] at hm1; exact ⟨[], by simp, hm1⟩
  | some g0 => rw [hv] at hm1; exact ⟨[g0], fun k hk => by rw [List.mem_singleton.1 hk], hm1⟩
 have hNo : ∀ k ∈ N, k ∈ F ∧ k ∉ K ∧ k ≠ lb ∧ k ≠ tk ∧ k ≠ rb := fun k hk => h.own k (hN k hk)
 have hNW : ∀ k ∈ N, W.heap.size ≤ k := fun k hk => Nat.le_trans h.base.1 (hrow.lt k (hN k hk)).1
 have o1 : OwnM W (g :: F) w1 b p x M := h.lg.own.mix hm1 (fun k hk => ⟨(hNo k hk).1, hNW k hk⟩) (fun k hk => by
  rcases List.mem_cons.1 hk with rfl | hk
  ·rcases hg with hg | hg
   ·exact .inl (h.own _ hg).1
   ·exact .inr ⟨hg, hgl⟩
  ·exact .inl hk)
 have o2 : OwnM W (g :: F) w2 b p x M := o1.aside hm2 (fun k hk => by rw [List.mem_singleton.1 hk]; exact ⟨List.mem_cons_of_mem _ h.lg.mem.2, h.lg.old⟩)
 have mK1 : Minds K w w1 := ⟨N, hm1, fun k hk => (hNo k hk).2.1⟩
 have mK2 : Minds K w1 w2 := ⟨[lb], hm2, fun k hk hx => by rw [List.mem_singleton.1 hk] at hx; exact (h.kin _ hx).2 rfl⟩
 have hr2 : Row w2 A (uRow us) := (hr.keep hm1 (fun a ha hx => (hA a ha).2.2 _ (hN _ hx) rfl)).keep hm2 (fun a ha => by simpa using (hA a ha).2.1)
 have hL := h.last
 refine ⟨⟨o2, (h.lg.sum.keep hm1 (fun hx => (hNo _ hx).2.2.2.1 rfl)).keep hm2 (by simpa using h.lg.ne), hlg, ⟨List.mem_cons_of_mem _ h.lg.mem.1, List.mem_cons_of_mem _ h.lg.mem.2⟩, h.lg.old, h.lg.ne⟩, (h.ring.keep hm1 (fun hx => (hNo _ hx).2.2.2.2 rfl)).keep hm2 (by simpa using h.rmem.2), ⟨List.mem_cons_of_mem _ h.rmem.1, h.rmem.2⟩, ⟨_, by rw [List.length_append]; exact owns_keepF hown hm2 (fun k hk => by
   have e : g = k := by simpa [Value.ownBlock] using hk
   rw [← e]
   simpa using hgn.2.1), ?_⟩, fun k hk => ?_, fun k hk => ?_, ?_, ⟨h.base.1, Nat.le_trans h.base.2 (Nat.le_trans hm1.size hm2.size)⟩⟩
 ·rw [← hL]
  exact RecRow.snoc hr2 (fun a ha => by subst ha; exact List.mem_append_left _ (by simp [blkA])) h1 h2 (RecRow.keep (mK1.trans mK2) (fun k hk => List.mem_append_right _ hk) hrec)
 ·rcases List.mem_append.1 hk with hk | hk
  ·cases A with
   | none => cases hk
   | some a =>
    rw [List.mem_singleton.1 hk]
    exact ⟨List.mem_cons_of_mem _ (hA a rfl).1, (hA a rfl).2.1⟩
  ·exact ⟨List.mem_cons_of_mem _ (h.kin k hk).1, (h.kin k hk).2⟩
 ·have e : g = k := by simpa [Value.ownBlock] using hk
  subst e
  exact ⟨by simp, hgn⟩
 ·rw [LogE.tooks_snoc, hL]
end
end Go.Proofs.YtkjpdfomppjiiaaGreatDoor
