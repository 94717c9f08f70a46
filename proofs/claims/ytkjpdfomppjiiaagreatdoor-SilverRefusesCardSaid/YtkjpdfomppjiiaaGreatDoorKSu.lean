/- The newest of some superblocks. -/
import Derived.Test.YtkjpdfomppjiiaaGreatDoorKH
import Derived.Test.YtkjpdfomppjiiaaGreatDoorKI
import Derived.Shelf.SlIter.Collect
import Derived.RangeFuncBox
import Derived.RangeFuncLeaves
import Derived.WalkKit
import Derived.OwnWalkIn
import Derived.TacticsInMore
import Derived.RegionIn
import Derived.LoopNIn
import Derived.LoopIn
import Derived.Test.YtkjpdfomppjiiaaGreatDoorKLf
import Derived.Test.YtkjpdfomppjiiaaGreatDoorKWalo
/- What is known of a block, and a superblock, as bytes: plainly. -/
namespace Go.Proofs.YtkjpdfomppjiiaaGreatDoor

def ptrW : List Nat := [4, 8, 4]
def ptNums (q : PtrE) : List Nat := [q.addr.toNat, q.gen, q.sum]
def ptL (q : PtrE) : List UInt8 := leW ptrW (ptNums q)
structure PtrE.Ok (q : PtrE) : Prop where
 addr0 : 0 ≤ q.addr
 addr : q.addr ≤ 2147483647
 gen : q.gen < 18446744073709551616
 sum : q.sum < 4294967296
theorem ptL_len (q : PtrE) : (ptL q).length = 16 := leW_len rfl
theorem fits3 {a b c : Nat} {x y z : Nat} (ha : 1 ≤ a ∧ a ≤ 8) (hb : 1 ≤ b ∧ b ≤ 8) (hc : 1 ≤ c ∧ c ≤ 8) (hx : x < 256 ^ a) (hy : y < 256 ^ b) (hz : z < 256 ^ c) : FitsW [a, b, c] [x, y, z] := by
 refine ⟨rfl, fun i w n hw hn => ?_⟩
 rcases i with _ | _ | _ | i
 ·cases hw; cases hn; exact ⟨ha.1, ha.2, hx⟩
 ·cases hw; cases hn; exact ⟨hb.1, hb.2, hy⟩
 ·cases hw; cases hn; exact ⟨hc.1, hc.2, hz⟩
 ·cases hw
theorem ptr_fits {q : PtrE} (h : q.Ok) : FitsW ptrW (ptNums q) := by
 have h0 := h.addr0
 have h1 := h.addr
 exact fits3 (by decide) (by decide) (by decide) (by omega) h.gen h.sum
structure SupE where
 gen : Nat
 root : PtrE
 height : Nat
 seq : Nat
 chain : Nat
def supW : List Nat := [1, 8, 4]
def supL (b : SupE) : List UInt8 := ptL b.root ++ leW supW [b.height, b.seq, b.chain]
theorem supL_len (b : SupE) : (supL b).length = 29 := by
 unfold supL
 rw [List.length_append, ptL_len, leW_len (ws := supW) (ns := [b.height, b.seq, b.chain]) rfl]
 rfl
def SupE.right (b : SupE) : Bool := decide (1 ≤ b.gen) && decide (b.root.gen ≤ b.gen) && decide (1 ≤ b.height) && decide (b.height ≤ 32)
structure SupE.Ok (b : SupE) : Prop where
 root : b.root.Ok
 gen : b.gen < 18446744073709551616
 right : b.right = true
 seq : b.seq < 18446744073709551616
 chain : b.chain < 4294967296
theorem SupE.Ok.h {b : SupE} (h : b.Ok) : 1 ≤ b.gen ∧ b.root.gen ≤ b.gen ∧ 1 ≤ b.height ∧ b.height ≤ 32 := by
 have := h.right
 unfold SupE.right at this
 simpa [and_assoc] using this
theorem sup_fits {b : SupE} (h : b.Ok) : FitsW supW [b.height, b.seq, b.chain] := by
 have := h.h
 exact fits3 (by decide) (by decide) (by decide) (by omega) h.seq h.chain
def supHead (b : SupE) : EHead := ⟨1, ((b.gen % 2 : Nat) : Int), b.gen⟩
theorem supHead_right (b : SupE) : (supHead b).right = true := by
 unfold EHead.right placedE supHead
 have : b.gen % 2 < 2 := Nat.mod_lt _ (by decide)
 simp only [Bool.and_eq_true, decide_eq_true_eq]
 omega
def supImg (size : Nat) (b : SupE) : List UInt8 := sealL size (supHead b) (supL b)
def supZero : SupE := ⟨0, ⟨0, 0, 0⟩, 0, 0, 0⟩
end Go.Proofs.YtkjpdfomppjiiaaGreatDoor
/- What is known of a block, as bytes and back; plans. -/
namespace Go.Proofs.YtkjpdfomppjiiaaGreatDoor
open Go.RowKit

theorem pWidths_ex (W : World) : Calls Tryz.prog 231 #[] W fun e w' => ∃ b, e = .returned (.slice (some ⟨b, 0, none⟩) 3 3) ∧ Row w' (some ⟨b, 0, none⟩) (intsRow ptrW) ∧ Mods [] W w' := by
 go_enter Tryz.func231, Tryz.ntmps231
 go_wp2_with fail
 go_ret
 refine ⟨W.heap.size, rfl, .inr ⟨W.heap.size, 0, rfl, fun i u hi => ?_⟩, (Mods.refl _ _).alloc _⟩
 rw [Nat.zero_add]
 exact (Blk.new W 3 (intsRow ptrW)).cell hi
theorem suWidths_ex (W : World) : Calls Tryz.prog 191 #[] W fun e w' => ∃ b, e = .returned (.slice (some ⟨b, 0, none⟩) 3 3) ∧ Row w' (some ⟨b, 0, none⟩) (intsRow supW) ∧ Mods [] W w' := by
 go_enter Tryz.func191, Tryz.ntmps191
 go_wp2_with fail
 go_ret
 refine ⟨W.heap.size, rfl, .inr ⟨W.heap.size, 0, rfl, fun i u hi => ?_⟩, (Mods.refl _ _).alloc _⟩
 rw [Nat.zero_add]
 exact (Blk.new W 3 (intsRow supW)).cell hi
set_option maxRecDepth 100000 in
set_option maxHeartbeats 3200000 in
theorem pText_any {W : World} {q : PtrE} (h : q.Ok) :
  Calls Tryz.prog 225 #[ptrV q] W fun e w' => ∃ z, e = .returned (.tuple #[.string z, .bool true]) ∧ Hid (z = bA (ptL q)) ∧ z.size = 16 ∧ Hid (Mods [] W w') := by
 obtain ⟨a, ha⟩ : ∃ a : Nat, q.addr = (a : Int) := ⟨q.addr.toNat, by have := h.addr0; omega⟩
 have cPl := Lib.hid (fun W => ePlaced_any (W := W) (a : Int))
 rw [show placedE (a : Int) = true from by have := h.addr; unfold placedE; simp; omega] at cPl
 obtain ⟨n, hn, hn1⟩ : ∃ n, q.gen = n ∧ n < 18446744073709551616 := ⟨_, rfl, h.gen⟩
 obtain ⟨s, hs, hs1⟩ : ∃ s, q.sum = s ∧ s < 4294967296 := ⟨_, rfl, h.sum⟩
 have hf := ptr_fits h
 have ha1 : a ≤ 2147483647 := by have := h.addr; omega
 have hnum : ptNums q = [a, n, s] := by unfold ptNums; rw [ha, hn, hs, Int.toNat_natCast]
 have hq : ptrV q = .agg #[.int .i64 (a : Nat), .int .u64 (n : Nat), .int .u32 (s : Nat)] := by unfold ptrV; rw [ha, hn, hs]
 unfold ptL
 rw [hnum] at hf ⊢
 rw [hq]
 have HF := Lib.hid hf
 clear hf hnum hq h ha hn hs
 obtain ⟨w1, hw1⟩ : ∃ w1, W.alloc (.cells #[.int .i64 (a : Nat), .int .u64 (n : Nat), .int .u32 (s : Nat)] 79) = w1 := ⟨_, rfl⟩
 obtain ⟨g, hg⟩ : ∃ g, W.heap.size = g := ⟨_, rfl⟩
 have hb1 : Blk w1 g 79 [.int .i64 (a : Nat), .int .u64 (n : Nat), .int .u32 (s : Nat)] := by rw [← hw1, ← hg]; exact Blk.new W 79 _
 have hm1 : Mods [] W w1 := by rw [← hw1]; exact (Mods.refl _ _).alloc _
 have HM1 := Lib.hid hm1
 have q0 := hb1.cell (i := 0) rfl
 have q1 := hb1.cell (i := 1) rfl
 have q2 := hb1.cell (i := 2) rfl
 have HC : Hid (∀ w', Mods [] w1 w' → w'.cell? ⟨g, 0, none⟩ = some (.int .i64 (a : Nat)) ∧ w'.cell? ⟨g, 1, none⟩ = some (.int .u64 (n : Nat)) ∧ w'.cell? ⟨g, 2, none⟩ = some (.int .u32 (s : Nat))) := Lib.hid (fun w' hm => by
  have hb := hb1.keep hm (by simp)
  exact ⟨hb.cell (i := 0) rfl, hb.cell (i := 1) rfl, hb.cell (i := 2) rfl⟩)
 have wa : IntKind.u64.wrap (a : Int) = (a : Int) := by rw [IntKind.wrap_u64]; omega
 have ws : IntKind.u64.wrap (s : Int) = (s : Int) := by rw [IntKind.wrap_u64]; omega
 clear hb1 hm1
 go_enter Tryz.func225, Tryz.ntmps225
 go_upto_region 1 with fail
 try rw [hw1, hg]
 clear hw1 hg
 go_upto_region 3 with (go_at_call 211; refine (cPl.out _).mono ?_; rintro e w' ⟨rfl, rfl⟩)
 clear cPl
 go_region_held3 (fun w' => w'.cell? ⟨g, 0, none⟩ = some (.int .i64 (a : Nat)) ∧ w'.cell? ⟨g, 1, none⟩ = some (.int .u64 (n : Nat)) ∧ w'.cell? ⟨g, 2, none⟩ = some (.int .u32 (s : Nat)))
  (first | exact HC.out _ hM6' | exact HC.out _ hM5' | go_keep | fail)
  (first | (go_at_call 231; refine (pWidths_ex _).mono ?_; rintro e w5 ⟨b5, rfl, hR, hM5⟩; have hM5' : Mods [] w1 w5 := by (first | exact ((Mods.refl _ _).drew).tr hM5 | exact (((Mods.refl _ _).alloc _).drew).tr hM5 | exact (((Mods.refl _ _).drew).alloc _).tr hM5)) | (go_at_call 163; refine (lWrite_ex (ws := ptrW) (ns := [a, n, s]) (by first | exact hR | exact hR.keep0 ((Mods.refl _ _).alloc _)) (by first | exact Row.new w5 42 (u64sRow [a, n, s]) | exact (Row.new w1 42 (u64sRow [a, n, s])).keep0 (((Mods.refl _ _).drew).tr hM5)) (n := 3) rfl (by decide) (by decide) HF.out).mono ?_; rintro e w6 ⟨q, rfl, HQ, hq1, hM6⟩; replace hq1 : q.size = 16 := hq1; have hM6' : Mods [] w1 w6 := by (first | exact hM5'.tr hM6 | exact (hM5'.alloc _).tr hM6)) | fail)
 all_goals
  have HM6 := Lib.hid hM6'
  clear hR hM5 hM6 hM5' hM6'
  go_wp2_with fail
  go_ret2
  exact ⟨_, rfl, HQ, hq1, Lib.hid (HM1.out.trans HM6.out (by simp))⟩
structure PlanE where
 fan : Int
 buf : Int
 leaf : Int
def planV (p : PlanE) : Value := .agg #[.int .i64 p.fan, .int .i64 p.buf, .int .i64 p.leaf]
def PlanE.right (p : PlanE) : Bool := decide (3 ≤ p.fan) && decide (p.fan ≤ 16) && decide (p.fan ≤ p.buf) && decide (p.buf ≤ 64) && decide (2 ≤ p.leaf) && decide (p.leaf ≤ 64)
def PlanE.node (p : PlanE) : Int := if p.right then 1 + p.fan * 33 + p.buf * 51 else 0
def PlanE.leafB (p : PlanE) : Int := if p.right then p.leaf * 50 else 0
theorem plRight_any {W : World} (p : PlanE) : Calls Tryz.prog 165 #[planV p] W fun e w' => e = .returned (.bool p.right) ∧ Mods [] W w' := by
 unfold planV
 go_enter Tryz.func165, Tryz.ntmps165
 go_wp2_with fail
 all_goals go_ret
 all_goals refine ⟨?_, (Mods.refl _ _).alloc _⟩
 all_goals simp [PlanE.right, *]
 all_goals (intros; omega)
theorem PlanE.right_is {p : PlanE} (h : p.right = true) : 3 ≤ p.fan ∧ p.fan ≤ 16 ∧ p.fan ≤ p.buf ∧ p.buf ≤ 64 ∧ 2 ≤ p.leaf ∧ p.leaf ≤ 64 := by
 unfold PlanE.right at h
 simpa [and_assoc] using h
theorem plNode_any {W : World} (p : PlanE) : Calls Tryz.prog 166 #[planV p] W fun e w' => e = .returned (.int .i64 p.node) ∧ Mods [] W w' := by
 have cR := Lib.hid (fun W => plRight_any (W := W) p)
 unfold PlanE.node
 cases hr : p.right with
 | false =>
  rw [hr] at cR
  unfold planV at cR ⊢
  clear hr
  go_enter Tryz.func166, Tryz.ntmps166
  go_wp2_with (go_at_call 165; refine (cR.out _).mono ?_; rintro e w1 ⟨rfl, hm1⟩)
  go_ret
  exact ⟨by simp, ((Mods.refl _ _).alloc _).tr hm1⟩
 | true =>
  rw [hr] at cR
  obtain ⟨h1, h2, h3, h4, h5, h6⟩ := PlanE.right_is hr
  obtain ⟨fan, buf, leaf⟩ := p
  unfold planV at cR ⊢
  simp only at h1 h2 h3 h4 cR ⊢
  have e1 : IntKind.i64.wrap (fan * 33) = fan * 33 := by rw [IntKind.wrap_i64]; omega
  have e2 : IntKind.i64.wrap (1 + fan * 33) = 1 + fan * 33 := by rw [IntKind.wrap_i64]; omega
  have e3 : IntKind.i64.wrap (buf * 51) = buf * 51 := by rw [IntKind.wrap_i64]; omega
  have e4 : IntKind.i64.wrap (1 + fan * 33 + buf * 51) = 1 + fan * 33 + buf * 51 := by rw [IntKind.wrap_i64]; omega
  obtain ⟨w0, hw0⟩ : ∃ w0, W.alloc (.cells #[.int .i64 fan, .int .i64 buf, .int .i64 leaf] 41) = w0 := ⟨_, rfl⟩
  obtain ⟨g, hg⟩ : ∃ g, W.heap.size = g := ⟨_, rfl⟩
  have hb : Blk w0 g 41 [.int .i64 fan, .int .i64 buf, .int .i64 leaf] := by rw [← hw0, ← hg]; exact Blk.new W 41 _
  have hm0 : Mods [] W w0 := by rw [← hw0]; exact (Mods.refl _ _).alloc _
  have HB := Lib.hid (And.intro hb hm0)
  have q0 := hb.cell (i := 0) rfl
  have q1 := hb.cell (i := 1) rfl
  have q2 := hb.cell (i := 2) rfl
  clear hr h1 h2 h3 h4 h5 h6 hb hm0
  go_enter Tryz.func166, Tryz.ntmps166
  go_upto_region 1 with fail
  try rw [hw0, hg]
  clear hw0 hg
  go_wp2_with (go_at_call 165; refine (cR.out _).mono ?_; rintro e w1 ⟨rfl, hm1⟩; have hb := HB.out.1.keep hm1 (by simp); have q0 := hb.cell (i := 0) rfl; have q1 := hb.cell (i := 1) rfl; have q2 := hb.cell (i := 2) rfl)
  go_ret
  exact ⟨by simp [*], HB.out.2.tr hm1⟩
theorem plLeaf_any {W : World} (p : PlanE) : Calls Tryz.prog 167 #[planV p] W fun e w' => e = .returned (.int .i64 p.leafB) ∧ Mods [] W w' := by
 have cR := Lib.hid (fun W => plRight_any (W := W) p)
 unfold PlanE.leafB
 cases hr : p.right with
 | false =>
  rw [hr] at cR
  unfold planV at cR ⊢
  clear hr
  go_enter Tryz.func167, Tryz.ntmps167
  go_wp2_with (go_at_call 165; refine (cR.out _).mono ?_; rintro e w1 ⟨rfl, hm1⟩)
  go_ret
  exact ⟨by simp, ((Mods.refl _ _).alloc _).tr hm1⟩
 | true =>
  rw [hr] at cR
  obtain ⟨h1, h2, h3, h4, h5, h6⟩ := PlanE.right_is hr
  obtain ⟨fan, buf, leaf⟩ := p
  unfold planV at cR ⊢
  simp only at h5 h6 cR ⊢
  have e1 : IntKind.i64.wrap (leaf * 50) = leaf * 50 := by rw [IntKind.wrap_i64]; omega
  obtain ⟨w0, hw0⟩ : ∃ w0, W.alloc (.cells #[.int .i64 fan, .int .i64 buf, .int .i64 leaf] 41) = w0 := ⟨_, rfl⟩
  obtain ⟨g, hg⟩ : ∃ g, W.heap.size = g := ⟨_, rfl⟩
  have hb : Blk w0 g 41 [.int .i64 fan, .int .i64 buf, .int .i64 leaf] := by rw [← hw0, ← hg]; exact Blk.new W 41 _
  have hm0 : Mods [] W w0 := by rw [← hw0]; exact (Mods.refl _ _).alloc _
  have HB := Lib.hid (And.intro hb hm0)
  have q0 := hb.cell (i := 0) rfl
  have q1 := hb.cell (i := 1) rfl
  have q2 := hb.cell (i := 2) rfl
  clear hr h1 h2 h3 h4 h5 h6 hb hm0
  go_enter Tryz.func167, Tryz.ntmps167
  go_upto_region 1 with fail
  try rw [hw0, hg]
  clear hw0 hg
  go_wp2_with (go_at_call 165; refine (cR.out _).mono ?_; rintro e w1 ⟨rfl, hm1⟩; have hb := HB.out.1.keep hm1 (by simp); have q0 := hb.cell (i := 0) rfl; have q1 := hb.cell (i := 1) rfl; have q2 := hb.cell (i := 2) rfl)
  go_ret
  exact ⟨by simp [*], HB.out.2.tr hm1⟩
def roomE (n : Int) : Int := if sizedE n then n - 24 else 0
def PlanE.chk (p : PlanE) (size : Int) : Nat := if p.right = false ∨ roomE size = 0 then 2 else if roomE size < p.node ∨ roomE size < p.leafB then 20 else 0
set_option maxHeartbeats 1600000 in
theorem plCheck_any {W : World} (p : PlanE) (size : Int) : Calls Tryz.prog 112 #[planV p, .int .i64 size] W fun e w' => e = .returned (.int .i64 (p.chk size : Nat)) ∧ Mods [] W w' := by
 have cM := Lib.hid (fun W => eRoom_any (W := W) size)
 have cR := Lib.hid (fun W => plRight_any (W := W) p)
 have cN := Lib.hid (fun W => plNode_any (W := W) p)
 have cL := Lib.hid (fun W => plLeaf_any (W := W) p)
 unfold PlanE.chk
 obtain ⟨r, hr⟩ : ∃ r, p.right = r := ⟨_, rfl⟩
 obtain ⟨nn, hn⟩ : ∃ nn, p.node = nn := ⟨_, rfl⟩
 obtain ⟨ll, hl⟩ : ∃ ll, p.leafB = ll := ⟨_, rfl⟩
 obtain ⟨m, hm⟩ : ∃ m, roomE size = m := ⟨_, rfl⟩
 rw [show (if sizedE size then size - 24 else 0) = m from hm] at cM
 rw [hr] at cR ⊢
 rw [hn] at cN ⊢
 rw [hl] at cL ⊢
 rw [hm]
 obtain ⟨ans, hans⟩ : ∃ ans, (if r = false ∨ m = 0 then 2 else if m < nn ∨ m < ll then 20 else 0) = ans := ⟨_, rfl⟩
 rw [hans]
 have HA := Lib.hid hans
 clear hr hn hl hm hans
 unfold planV at cR cN cL ⊢
 obtain ⟨fan, buf, leaf⟩ := p
 simp only at cR cN cL ⊢
 obtain ⟨w0, hw0⟩ : ∃ w0, W.alloc (.cells #[.int .i64 fan, .int .i64 buf, .int .i64 leaf] 41) = w0 := ⟨_, rfl⟩
 obtain ⟨g, hg⟩ : ∃ g, W.heap.size = g := ⟨_, rfl⟩
 have hb : Blk w0 g 41 [.int .i64 fan, .int .i64 buf, .int .i64 leaf] := by rw [← hw0, ← hg]; exact Blk.new W 41 _
 have hm0 : Mods [] W w0 := by rw [← hw0]; exact (Mods.refl _ _).alloc _
 have HB := Lib.hid (And.intro hb hm0)
 have q0 := hb.cell (i := 0) rfl
 have q1 := hb.cell (i := 1) rfl
 have q2 := hb.cell (i := 2) rfl
 clear hb hm0
 go_enter Tryz.func112, Tryz.ntmps112
 go_upto_region 1 with fail
 try rw [hw0, hg]
 clear hw0 hg
 cases r with
 | false =>
  go_wp2_with (first | (go_at_call 159; refine (cM.out _).mono ?_; rintro e w1 ⟨rfl, rfl⟩) | (go_at_call 165; refine (cR.out _).mono ?_; rintro e w1 ⟨rfl, hm1⟩))
  go_ret
  exact ⟨by rw [← HA.out]; simp, HB.out.2.tr hm1⟩
 | true =>
  by_cases h0 : m = 0
  ·subst h0
   go_wp2_with (first | (go_at_call 159; refine (cM.out _).mono ?_; rintro e w1 ⟨rfl, rfl⟩) | (go_at_call 165; refine (cR.out _).mono ?_; rintro e w1 ⟨rfl, hm1⟩))
   go_ret
   exact ⟨by rw [← HA.out]; simp, HB.out.2.tr hm1⟩
  ·by_cases h1 : m < nn
   ·go_wp2_with (first | (go_at_call 159; refine (cM.out _).mono ?_; rintro e w1 ⟨rfl, rfl⟩) | (go_at_call 166; refine (cN.out _).mono ?_; rintro e w2 ⟨rfl, hm2⟩) | (go_at_call 165; refine (cR.out _).mono ?_; rintro e w1 ⟨rfl, hm1⟩; have hb := HB.out.1.keep hm1 (by simp); have q0 := hb.cell (i := 0) rfl; have q1 := hb.cell (i := 1) rfl; have q2 := hb.cell (i := 2) rfl))
    go_ret
    exact ⟨by rw [← HA.out]; simp [h0, h1], (HB.out.2.tr hm1).tr hm2⟩
   ·by_cases h2 : m < ll
    ·go_wp2_with (first | (go_at_call 159; refine (cM.out _).mono ?_; rintro e w1 ⟨rfl, rfl⟩) | (go_at_call 167; refine (cL.out _).mono ?_; rintro e w3 ⟨rfl, hm3⟩) | (go_at_call 166; refine (cN.out _).mono ?_; rintro e w2 ⟨rfl, hm2⟩; have hb := HB.out.1.keep (hm1.tr hm2) (by simp); have q0 := hb.cell (i := 0) rfl; have q1 := hb.cell (i := 1) rfl; have q2 := hb.cell (i := 2) rfl) | (go_at_call 165; refine (cR.out _).mono ?_; rintro e w1 ⟨rfl, hm1⟩; have hb := HB.out.1.keep hm1 (by simp); have q0 := hb.cell (i := 0) rfl; have q1 := hb.cell (i := 1) rfl; have q2 := hb.cell (i := 2) rfl))
     go_ret
     exact ⟨by rw [← HA.out]; simp [h0, h2], ((HB.out.2.tr hm1).tr hm2).tr hm3⟩
    ·go_wp2_with (first | (go_at_call 159; refine (cM.out _).mono ?_; rintro e w1 ⟨rfl, rfl⟩) | (go_at_call 167; refine (cL.out _).mono ?_; rintro e w3 ⟨rfl, hm3⟩) | (go_at_call 166; refine (cN.out _).mono ?_; rintro e w2 ⟨rfl, hm2⟩; have hb := HB.out.1.keep (hm1.tr hm2) (by simp); have q0 := hb.cell (i := 0) rfl; have q1 := hb.cell (i := 1) rfl; have q2 := hb.cell (i := 2) rfl) | (go_at_call 165; refine (cR.out _).mono ?_; rintro e w1 ⟨rfl, hm1⟩; have hb := HB.out.1.keep hm1 (by simp); have q0 := hb.cell (i := 0) rfl; have q1 := hb.cell (i := 1) rfl; have q2 := hb.cell (i := 2) rfl))
     go_ret
     exact ⟨by rw [← HA.out, if_neg (by simp [h0]), if_neg (by omega)]; rfl, ((HB.out.2.tr hm1).tr hm2).tr hm3⟩
end Go.Proofs.YtkjpdfomppjiiaaGreatDoor
/- Superblocks: their images, and back. -/
namespace Go.Proofs.YtkjpdfomppjiiaaGreatDoor
open Go.RowKit

def supV (b : SupE) : Value := .agg #[.int .u64 (b.gen : Nat), .int .i64 b.root.addr, .int .u64 (b.root.gen : Nat), .int .u32 (b.root.sum : Nat), .int .i64 (b.height : Nat), .int .u64 (b.seq : Nat), .int .u32 (b.chain : Nat)]
def supC (b : SupE) : List Value := [.int .u64 (b.gen : Nat), .int .i64 b.root.addr, .int .u64 (b.root.gen : Nat), .int .u32 (b.root.sum : Nat), .int .i64 (b.height : Nat), .int .u64 (b.seq : Nat), .int .u32 (b.chain : Nat)]
theorem load_sup {w : World} {b : Nat} {a0 a1 a2 a3 a4 a5 a6 : Value} (h : Blk w b 81 [a0, a1, a2, a3, a4, a5, a6]) : (loadVar 81 ⟨b, 0, none⟩).run Tryz.prog w = .ok (.agg #[a0, a1, a2, a3, a4, a5, a6]) w := by
 have c0 := h.cell (i := 0) (v := a0) rfl
 have c1 := h.cell (i := 1) (v := a1) rfl
 have c2 := h.cell (i := 2) (v := a2) rfl
 have c3 := h.cell (i := 3) (v := a3) rfl
 have c4 := h.cell (i := 4) (v := a4) rfl
 have c5 := h.cell (i := 5) (v := a5) rfl
 have c6 := h.cell (i := 6) (v := a6) rfl
 go_simp
theorem seven_sets {w : World} {b : Nat} {t : TypeId} {x0 x1 x2 x3 x4 x5 x6 : Value} (h : Blk w b t [x0, x1, x2, x3, x4, x5, x6]) (a0 a1 a2 a3 a4 a5 a6 : Value) :
  Blk (((((((w.setCell ⟨b, 0, none⟩ a0).setCell ⟨b, 1, none⟩ a1).setCell ⟨b, 2, none⟩ a2).setCell ⟨b, 3, none⟩ a3).setCell ⟨b, 4, none⟩ a4).setCell ⟨b, 5, none⟩ a5).setCell ⟨b, 6, none⟩ a6) b t [a0, a1, a2, a3, a4, a5, a6] ∧ Mods [b] w (((((((w.setCell ⟨b, 0, none⟩ a0).setCell ⟨b, 1, none⟩ a1).setCell ⟨b, 2, none⟩ a2).setCell ⟨b, 3, none⟩ a3).setCell ⟨b, 4, none⟩ a4).setCell ⟨b, 5, none⟩ a5).setCell ⟨b, 6, none⟩ a6) :=
 ⟨((((((h.set 0 a0).set 1 a1).set 2 a2).set 3 a3).set 4 a4).set 5 a5).set 6 a6, (((((((Mods.refl _ _).setCell (.inl (by simp)) _).setCell (.inl (by simp)) _).setCell (.inl (by simp)) _).setCell (.inl (by simp)) _).setCell (.inl (by simp)) _).setCell (.inl (by simp)) _).setCell (.inl (by simp)) _⟩
theorem suSlot_any {W : World} (s : Nat) : Calls Tryz.prog 80 #[.int .u64 (s : Nat)] W fun e w' => e = .returned (.int .i64 ((s % 2 : Nat) : Nat)) ∧ W = w' := by
 have hlt : s % 2 < 2 := Nat.mod_lt _ (by decide)
 obtain ⟨r, hr⟩ : ∃ r, s % 2 = r := ⟨_, rfl⟩
 rw [hr] at hlt ⊢
 have hri : (s : Int) % 2 = (r : Int) := by omega
 have hrt : (s : Int).tmod 2 = (r : Int) := by rw [Int.tmod_eq_emod_of_nonneg (by omega)]; exact hri
 have hrw : IntKind.i64.wrap (r : Int) = (r : Int) := by rw [IntKind.wrap_i64]; omega
 have hrw3 : wrap64 (r : Int) = (r : Int) := by unfold wrap64; omega
 have hrw2 : IntKind.u64.wrap (r : Int) = (r : Int) := by rw [IntKind.wrap_u64]; omega
 clear hlt
 go_enter Tryz.func80, Tryz.ntmps80
 go_wp2_with fail
 go_ret
 exact ⟨rfl, rfl⟩
theorem suRight_any {W : World} (b : SupE) : Calls Tryz.prog 139 #[supV b] W fun e w' => e = .returned (.bool b.right) ∧ Mods [] W w' := by
 obtain ⟨g, ⟨ra, rg, rs⟩, h, s, c⟩ := b
 unfold supV
 go_enter Tryz.func139, Tryz.ntmps139
 go_wp2_with fail
 all_goals go_ret
 all_goals refine ⟨?_, (Mods.refl _ _).alloc _⟩
 all_goals simp [SupE.right, *]
 all_goals (first | (intros; omega) | (rw [Bool.eq_iff_iff]; simp only [Bool.and_eq_true, decide_eq_true_eq]; omega))
theorem SupE.Ok.size {b : SupE} (_h : b.Ok) {z : ByteArray} (hz : z = bA (supL b)) : z.size = 29 := by rw [hz, bA_size, supL_len]
set_option maxRecDepth 100000 in
set_option maxHeartbeats 3200000 in
theorem suPay_any {W : World} {b : SupE} (hb : b.Ok) :
  Calls Tryz.prog 182 #[supV b] W fun e w' => ∃ z, e = .returned (.tuple #[.string z, .bool true]) ∧ Hid (z = bA (supL b)) ∧ Hid (Mods [] W w') := by
 have cT := Lib.hid (fun W => pText_any (W := W) hb.root)
 have cR := Lib.hid (fun W => suRight_any (W := W) b)
 rw [hb.right] at cR
 have HF := Lib.hid (sup_fits hb)
 have hh : b.height ≤ 32 := hb.h.2.2.2
 have hs := hb.seq
 have hc := hb.chain
 unfold supL
 obtain ⟨p, hp⟩ : ∃ p, ptL b.root = p := ⟨_, rfl⟩
 rw [hp] at cT ⊢
 obtain ⟨gn, ⟨ra, rg, rs⟩, h, s, c⟩ := b
 unfold supV at cR ⊢
 unfold ptrV at cT
 simp only at cT cR HF hh hs hc ⊢
 obtain ⟨w1, hw1⟩ : ∃ w1, W.alloc (.cells #[.int .u64 (gn : Nat), .int .i64 ra, .int .u64 (rg : Nat), .int .u32 (rs : Nat), .int .i64 (h : Nat), .int .u64 (s : Nat), .int .u32 (c : Nat)] 81) = w1 := ⟨_, rfl⟩
 obtain ⟨g, hg⟩ : ∃ g, W.heap.size = g := ⟨_, rfl⟩
 have hb1 : Blk w1 g 81 [.int .u64 (gn : Nat), .int .i64 ra, .int .u64 (rg : Nat), .int .u32 (rs : Nat), .int .i64 (h : Nat), .int .u64 (s : Nat), .int .u32 (c : Nat)] := by rw [← hw1, ← hg]; exact Blk.new W 81 _
 have hm1 : Mods [] W w1 := by rw [← hw1]; exact (Mods.refl _ _).alloc _
 have HB1 := Lib.hid hb1
 have HM1 := Lib.hid hm1
 have q0 := hb1.cell (i := 0) rfl
 have q1 := hb1.cell (i := 1) rfl
 have q2 := hb1.cell (i := 2) rfl
 have q3 := hb1.cell (i := 3) rfl
 have q4 := hb1.cell (i := 4) rfl
 have q5 := hb1.cell (i := 5) rfl
 have q6 := hb1.cell (i := 6) rfl
 have wh : IntKind.u64.wrap (h : Int) = (h : Int) := by rw [IntKind.wrap_u64]; omega
 have wc : IntKind.u64.wrap (c : Int) = (c : Int) := by rw [IntKind.wrap_u64]; omega
 have HP := Lib.hid hp
 clear hb hb1 hm1 hs hc hp
 go_enter Tryz.func182, Tryz.ntmps182
 go_upto_region 1 with fail
 try rw [hw1, hg]
 clear hw1 hg
 go_upto_region 2 with (go_at_call 225; refine (cT.out _).mono ?_; rintro e w2 ⟨t, rfl, HT, ht, HM2⟩)
 have hb2 := HB1.out.keep HM2.out (by simp)
 clear q0 q1 q2 q3 q4 q5 q6 cT
 have q0 := hb2.cell (i := 0) rfl
 have q1 := hb2.cell (i := 1) rfl
 have q2 := hb2.cell (i := 2) rfl
 have q3 := hb2.cell (i := 3) rfl
 have q4 := hb2.cell (i := 4) rfl
 have q5 := hb2.cell (i := 5) rfl
 have q6 := hb2.cell (i := 6) rfl
 clear hb2
 go_upto_region 4 with (go_at_call 139; refine (cR.out _).mono ?_; rintro e w3 ⟨rfl, hm3⟩)
 clear q0 q1 q2 q3 q4 q5 q6 cR
 have HM3 := Lib.hid (HM2.out.tr hm3)
 clear hm3
 have HC : Hid (∀ w', Mods [] w3 w' → w'.cell? ⟨g, 4, none⟩ = some (.int .i64 (h : Nat)) ∧ w'.cell? ⟨g, 5, none⟩ = some (.int .u64 (s : Nat)) ∧ w'.cell? ⟨g, 6, none⟩ = some (.int .u32 (c : Nat))) := Lib.hid (fun w' hm => by
  have hb := (HB1.out.keep HM3.out (by simp)).keep hm (by simp)
  exact ⟨hb.cell (i := 4) rfl, hb.cell (i := 5) rfl, hb.cell (i := 6) rfl⟩)
 obtain ⟨q4, q5, q6⟩ := HC.out w3 (Mods.refl _ _)
 go_region_held3 (fun w' => w'.cell? ⟨g, 4, none⟩ = some (.int .i64 (h : Nat)) ∧ w'.cell? ⟨g, 5, none⟩ = some (.int .u64 (s : Nat)) ∧ w'.cell? ⟨g, 6, none⟩ = some (.int .u32 (c : Nat)))
  (first | exact HC.out _ hM6' | exact HC.out _ hM5' | go_keep | fail)
  (first | (go_at_call 191; refine (suWidths_ex _).mono ?_; rintro e w5 ⟨b5, rfl, hR, hM5⟩; have hM5' : Mods [] w3 w5 := by (first | exact ((Mods.refl _ _).drew).tr hM5 | exact (((Mods.refl _ _).alloc _).drew).tr hM5 | exact (((Mods.refl _ _).drew).alloc _).tr hM5)) | (go_at_call 163; refine (lWrite_ex (ws := supW) (ns := [h, s, c]) (by first | exact hR | exact hR.keep0 ((Mods.refl _ _).alloc _)) (by first | exact Row.new w5 42 (u64sRow [h, s, c]) | exact (Row.new w3 42 (u64sRow [h, s, c])).keep0 (((Mods.refl _ _).drew).tr hM5)) (n := 3) rfl (by decide) (by decide) HF.out).mono ?_; rintro e w6 ⟨q, rfl, HQ, hq1, hM6⟩; replace hq1 : q.size = 13 := hq1; have hM6' : Mods [] w3 w6 := by (first | exact hM5'.tr hM6 | exact (hM5'.alloc _).tr hM6)) | fail)
 all_goals
  have HM6 := Lib.hid hM6'
  clear hR hM5 hM6 hM5' hM6'
  have hbig : ¬ 9223372036854775807 < t.size + q.size := by omega
  go_wp2_with fail
  go_ret2
  refine ⟨_, rfl, Lib.hid ?_, Lib.hid ((HM1.out.trans HM3.out (by simp)).trans HM6.out (by simp))⟩
  rw [HT.out, HQ.out, bA_app]
set_option maxRecDepth 100000 in
set_option maxHeartbeats 3200000 in
theorem suImage_any {W : World} {sb : Nat} (hT : Blk W sb 218 sumRow) {b : SupE} (hb : b.Ok) (size : Nat) (hs0 : 128 ≤ size) (hs : size ≤ 1024) :
  Calls Tryz.prog 129 #[supV b, .pointer (some ⟨sb, 0, none⟩), .int .i64 (size : Nat)] W fun e w' => e = .returned (.tuple #[.string (bA (supImg size b)), .int .i64 0]) ∧ Hid (Mods [] W w') := by
 have cP := Lib.hid (fun W => suPay_any (W := W) hb)
 obtain ⟨z, hz⟩ : ∃ z, bA (supL b) = z := ⟨_, rfl⟩
 have hzs : z.size = 29 := by rw [← hz, bA_size, supL_len]
 have hzl : z.toList = supL b := by rw [← hz, bA_list]
 have cE := Lib.hid (fun (w : World) (hT : Blk w sb 218 sumRow) => eSeal_any hT size (supHead b) z hs0 hs (supHead_right b) hb.gen (by omega))
 rw [hzl] at cE
 have cS := Lib.hid (fun W => suSlot_any (W := W) b.gen)
 rw [headV_nat (supHead b) (a := b.gen % 2) rfl, show (supHead b).kind = 1 from rfl, show (supHead b).gen = b.gen from rfl] at cE
 unfold supImg
 rw [hz] at cP
 obtain ⟨r, hr⟩ : ∃ r, b.gen % 2 = r := ⟨_, rfl⟩
 rw [hr] at cE cS
 obtain ⟨img, hi⟩ : ∃ img, bA (sealL size (supHead b) (supL b)) = img := ⟨_, rfl⟩
 rw [hi] at cE ⊢
 clear hzl hi hr hz hb hzs
 obtain ⟨gn, ⟨ra, rg, rs⟩, h, s, c⟩ := b
 unfold supV at cP ⊢
 simp only at cP cE cS ⊢
 obtain ⟨w1, hw1⟩ : ∃ w1, W.alloc (.cells #[.int .u64 (gn : Nat), .int .i64 ra, .int .u64 (rg : Nat), .int .u32 (rs : Nat), .int .i64 (h : Nat), .int .u64 (s : Nat), .int .u32 (c : Nat)] 81) = w1 := ⟨_, rfl⟩
 obtain ⟨g, hg⟩ : ∃ g, W.heap.size = g := ⟨_, rfl⟩
 have hb1 : Blk w1 g 81 [.int .u64 (gn : Nat), .int .i64 ra, .int .u64 (rg : Nat), .int .u32 (rs : Nat), .int .i64 (h : Nat), .int .u64 (s : Nat), .int .u32 (c : Nat)] := by rw [← hw1, ← hg]; exact Blk.new W 81 _
 have hm1 : Mods [] W w1 := by rw [← hw1]; exact (Mods.refl _ _).alloc _
 have HM1 := Lib.hid hm1
 have HT := Lib.hid (hT.keep hm1 (by simp))
 have HB1 := Lib.hid hb1
 have q0 := hb1.cell (i := 0) rfl
 have q1 := hb1.cell (i := 1) rfl
 have q2 := hb1.cell (i := 2) rfl
 have q3 := hb1.cell (i := 3) rfl
 have q4 := hb1.cell (i := 4) rfl
 have q5 := hb1.cell (i := 5) rfl
 have q6 := hb1.cell (i := 6) rfl
 clear hT hb1 hm1
 go_enter Tryz.func129, Tryz.ntmps129
 go_upto_region 1 with fail
 try rw [hw1, hg]
 clear hw1 hg
 go_upto_region 6 with (go_at_call 182; refine (cP.out _).mono ?_; rintro e w2 ⟨z2, rfl, HZ, HM2⟩; obtain rfl := HZ.out)
 clear q0 q1 q2 q3 q4 q5 q6
 have q0 := (HB1.out.keep HM2.out (by simp)).cell (i := 0) rfl
 have HC : Hid (∀ w', Mods [] w2 w' → w'.cell? ⟨g, 0, none⟩ = some (.int .u64 (gn : Nat)) ∧ Blk w' sb 218 sumRow) := Lib.hid (fun w' hm => ⟨((HB1.out.keep HM2.out (by simp)).keep hm (by simp)).cell (i := 0) rfl, (HT.out.keep HM2.out (by simp)).keep hm (by simp)⟩)
 clear cP
 go_cut [10, 11, 12] from 22 to 35 (fun iv _ ev wx => iv = .string img ∧ ev = .int .i64 0 ∧ Hid (Mods [] w2 wx))
 case first =>
  go_region_held3 (fun w' => w'.cell? ⟨g, 0, none⟩ = some (.int .u64 (gn : Nat)))
   (first | go_keep | exact (HC.out _ HM5.out).1 | exact (HC.out _ (HM5.out.alloc _)).1 | exact (HC.out _ (HM5.out.set3 (Nat.le_refl _) _ _ _)).1 | exact (HC.out _ (HM5.out.set3 HM5.out.size _ _ _)).1 | fail)
   (first | (go_at_call 80; refine (cS.out _).mono ?_; rintro e w4 ⟨rfl, hw4⟩; subst hw4) | (go_at_call 103; refine (cE.out _ (HC.out _ (by first | exact (Mods.refl _ _).drew | exact Mods.refl _ _ | exact ((Mods.refl _ _).alloc _).drew | exact (Mods.refl _ _).alloc _ | exact ((Mods.refl _ _).drew).alloc _)).2).mono ?_; rintro e w5 ⟨a0, a1, a2, rfl, hm5⟩; have HM5 : Hid (Mods [] w2 w5) := (by first | exact Lib.hid (((Mods.refl _ _).drew).tr hm5) | exact Lib.hid hm5 | exact Lib.hid ((((Mods.refl _ _).alloc _).drew).tr hm5) | exact Lib.hid (((Mods.refl _ _).alloc _).tr hm5) | exact Lib.hid ((((Mods.refl _ _).drew).alloc _).tr hm5)); (first | (have hz : Blk w5 w2.heap.size 79 [.int .i64 0, .int .u64 0, .int .u32 0] := Blk.newD hm5) | (have hz : Blk w5 w2.heap.size 79 [.int .i64 0, .int .u64 0, .int .u32 0] := Blk.newK hm5) | skip); (first | (have z0 := hz.cell (i := 0) rfl; have z1 := hz.cell (i := 1) rfl; have z2 := hz.cell (i := 2) rfl; have f0 := hz.free 0; have f1 := hz.free 1; have f2 := hz.free 2) | skip)) | fail)
  all_goals go_wp2_with fail
  all_goals go_meet
  all_goals
   first
    | exact ⟨rfl, rfl, Lib.hid (HM5.out.alloc _)⟩
    | exact ⟨rfl, rfl, Lib.hid (HM5.out.set3 HM5.out.size _ _ _)⟩
    | exact ⟨rfl, rfl, Lib.hid (HM5.out.set3 (Nat.le_refl _) _ _ _)⟩
 case rest =>
  obtain ⟨rfl, rfl, HMX⟩ := hcut
  go_wp2_with fail
  go_ret2
  exact ⟨rfl, Lib.hid ((HM1.out.trans HM2.out (by simp)).trans HMX.out (by simp))⟩
end Go.Proofs.YtkjpdfomppjiiaaGreatDoor
/- slices.Sorted(slices.Values(l)) of no numbers. The walks of AppendSeq and Collect follow the kit's worked proof of the same functions at strings. -/
namespace Go.Proofs.YtkjpdfomppjiiaaGreatDoor
open Go.RowKit Go.Maps Go.Sort Go.Shelf

def rfPartsJ : Code → Option (Code × Code)
 | .rangeFunc _ _ a c => some (a, c)
 | .seq x y => match rfPartsJ x with
  | some r => some r
  | none => rfPartsJ y
 | .block _ c => rfPartsJ c
 | .scope c => rfPartsJ c
 | _ => none
noncomputable def apAssignJ : Code := ((Tryz.f256.body.bind rfPartsJ).map (·.1)).getD .skip
noncomputable def apBodyJ : Code := ((Tryz.f256.body.bind rfPartsJ).map (·.2)).getD .skip
noncomputable def apRecJ (fn : FuncId) (sv : Value) (Bs D : Nat) (st : LoopState) (pend : Option Code) : Loop :=
 { state := st, pending := pend, fn, tmps := #[.slice none 0 0, sv, .pointer (some ⟨Bs, 0, none⟩), undef, .slice none 0 0, undef, sv, undef, undef, undef, undef, undef, undef], params := #[7], assign := apAssignJ, body := apBodyJ, defers := D }
def SeqNJ (F : Fence) (n : Nat) (g : Nat) (lb : Array Value) (w : World) : Prop :=
 ∀ (l : Nat) (W : World), Below w.heap.size w W → CallsIn F n Tryz.prog g (#[.func (.yield l) #[] #[]] ++ lb) W fun e W' => (∃ v, e = .returned v) ∧ Mods [] W W'
set_option maxRecDepth 100000 in
set_option maxHeartbeats 2000000 in
theorem appendSeqJ_none (F : Fence) (n : Nat) (h11 : F.fn 256) (hro : F.round = none) (hn : 2 ≤ n) (g : Nat) (lb : Array Value) (hFg : F.fn g) (eg : ∀ args w, (callFunc g args).run Tryz.prog w = .ok (.enter g args) w)
  (w : World) (hseq : SeqNJ F (n - 1) g lb w) :
  CallsIn F n Tryz.prog 256 #[.slice none 0 0, .func (.func g) #[] lb] w fun e w' => e = .returned (.slice none 0 0) ∧ Below w.heap.size w w' := by
 have h1 : 1 ≤ n := by omega
 refine callsIn_of_wp_marks Tryz.func256 rfl h11 ?_ hro
 simp only [Tryz.ntmps256, List.size_toArray, List.length_cons, List.length_nil, Nat.reduceAdd, Nat.reduceSub, Array.replicate_succ, Array.replicate_zero, List.push_toArray, List.append_toArray, List.nil_append, List.cons_append]
 gi_wp2
 refine wpIn_rangeFunc ?_
 intro fn hfn
 rw [hro]
 obtain ⟨W0, hW0⟩ : ∃ W0, w.alloc (.cells #[.slice none 0 0] 69) = W0 := ⟨_, rfl⟩
 have hs0 : W0.heap.size = w.heap.size + 1 := by rw [← hW0]; simp
 have hv0 : W0.heap[w.heap.size]? = some (.cells #[.slice none 0 0] 69 (0, 0)) := by rw [← hW0]; exact World.alloc_heap_new w _
 have hb0 : Below w.heap.size w W0 := by rw [← hW0]; exact (Below.refl _ w).alloc (Nat.le_refl _) _
 rw [hW0]
 obtain ⟨W1, hW1⟩ : ∃ W1, (W0.alloc (.deferred (some []))).alloc (.loop (apRecJ fn (.func (.func g) #[] lb) w.heap.size W0.heap.size .ready none)) = W1 := ⟨_, rfl⟩
 have hold : ∀ k, k < W0.heap.size → W1.heap[k]? = W0.heap[k]? := fun k hk => by
  rw [← hW1]; exact (Below.heap_alloc _ _ k (by simp; omega)).trans (Below.heap_alloc _ _ k hk)
 have hb1 : Below w.heap.size w W1 := by rw [← hW1]; exact (hb0.alloc hb0.size _).alloc (by have := hb0.size; simp; omega) _
 have hs1 : W1.heap.size = W0.heap.size + 2 := by rw [← hW1]; simp
 have hL1 : W1.heap[W0.heap.size + 1]? = some (.loop (apRecJ fn (.func (.func g) #[] lb) w.heap.size W0.heap.size .ready none)) := by rw [← hW1]; have := World.alloc_heap_new (W0.alloc (.deferred (some []))) (.loop (apRecJ fn (.func (.func g) #[] lb) w.heap.size W0.heap.size .ready none)); rwa [World.size_alloc] at this
 have hK1 : W1.heap[W0.heap.size]? = some (.deferred (some [])) := by rw [← hW1]; exact (Below.heap_alloc _ _ _ (by simp)).trans (World.alloc_heap_new W0 _)
 have hB1 := (hold w.heap.size (by omega)).trans hv0
 refine ⟨W0.heap.size + 1, [{ target := .collected W0.heap.size, args := #[] }], W1, { target := .fn (.func g) lb, args := #[.func (.yield (W0.heap.size + 1)) #[] #[]] }, W1, g,
  #[.func (.yield (W0.heap.size + 1)) #[] #[]] ++ lb, W1, ?_, ?_, ?_, ?_, fun _ => h1, ?_⟩
 ·rw [← hW1]; exact run_enterLoop_outer _ _ _ _ _
 ·simp [resolve, go_sem]
 ·intro f' hf'; simp [Target.leads] at hf'; subst hf'; exact hFg
 ·simp [invoke, go_sem, eg]
 ·refine (hseq (W0.heap.size + 1) W1 hb1).mono ?_
  rintro e W2 ⟨⟨v0, rfl⟩, hm2⟩
  have hL2 := hm2.keep hL1 (by simp)
  have hK2 := hm2.keep hK1 (by simp)
  have hB2 := hm2.keep hB1 (by simp)
  have hb2 : Below w.heap.size w W2 := ((Mods.of_below hb1 []).trans hm2 (by simp)).below
  have hend := run_endLoop (P := Tryz.prog) hL2 (by simp [apRecJ])
  obtain ⟨W3, hW3⟩ : ∃ W3, W2.putObj (W0.heap.size + 1) (.loop { apRecJ fn (.func (.func g) #[] lb) w.heap.size W0.heap.size .ready none with state := .exhausted }) = W3 := ⟨_, rfl⟩
  rw [hW3] at hend
  have hg3 : W2.grownBy W3 (some (W0.heap.size + 1)) := by rw [← hW3]; exact grownBy_putObj_a _ _ _
  have hv3 : W3.heap[w.heap.size]? = some (.cells #[.slice none 0 0] 69 (0, 0)) := by rw [← hW3]; exact (World.putObj_heap_other (by omega)).trans hB2
  have hK3 : W3.heap[W0.heap.size]? = some (.deferred (some [])) := by rw [← hW3]; exact (World.putObj_heap_other (by omega)).trans hK2
  have hb3 : Below w.heap.size w W3 := hb2.grown hg3 hb2.size (fun k e => by cases e; omega)
  obtain ⟨hc3, hf3⟩ := cell_of_box_a hv3
  clear hW3
  refine ⟨none, W3, hend, ?_⟩
  gi_wp2
  rw [← hs0]
  refine ⟨by simp, .inl ⟨_, _, rfl, run_takeDeferred hK3, ?_⟩⟩
  exact ⟨_, results_tmp rfl _ _ _, rfl, hb3.grown (grownBy_putObj_a _ _ _) hb3.size (fun k e => by cases e; omega)⟩
theorem collectJ_none (F : Fence) (n : Nat) (h8 : F.fn 222) (h11 : F.fn 256) (hro : F.round = none) (hn : 3 ≤ n) (g : Nat) (lb : Array Value) (hFg : F.fn g) (eg : ∀ args w, (callFunc g args).run Tryz.prog w = .ok (.enter g args) w)
  (w : World) (hseq : SeqNJ F (n - 1 - 1) g lb w) :
  CallsIn F n Tryz.prog 222 #[.func (.func g) #[] lb] w fun e w' => e = .returned (.slice none 0 0) ∧ Below w.heap.size w w' := by
 have h1 : 1 ≤ n := by omega
 refine callsIn_of_wp Tryz.func222 rfl h8 ?_ hro
 simp only [Tryz.ntmps222, List.size_toArray, List.length_cons, List.length_nil, Nat.reduceAdd, Nat.reduceSub, Array.replicate_succ, Array.replicate_zero, List.push_toArray, List.append_toArray, List.nil_append, List.cons_append]
 gi_wp2_with (gi_at_call 256; refine (appendSeqJ_none F (n - 1) h11 hro (by omega) g lb hFg eg _ hseq).mono ?_; rintro e w' ⟨rfl, hb⟩)
 go_ret
 exact ⟨rfl, hb⟩
set_option maxRecDepth 100000 in
set_option maxHeartbeats 1000000 in
theorem valsI1_none (F : Fence) (n : Nat) (h62 : F.fn 224) (hro : F.round = none) (Bs : Nat) (w : World) (hBs : w.cell? ⟨Bs, 0, none⟩ = some (.slice none 0 0)) :
  SeqNJ F n 224 #[.pointer (some ⟨Bs, 0, none⟩)] w := by
 intro l W hW
 have hBs' := (hW.cell (p := ⟨Bs, 0, none⟩) (World.block_lt_of_cell? w _ hBs)).trans hBs
 refine callsIn_of_wp Tryz.func224 rfl h62 ?_ hro
 simp only [Tryz.ntmps224, List.size_toArray, List.length_cons, List.length_nil, Nat.reduceAdd, Nat.reduceSub, Array.replicate_succ, Array.replicate_zero, List.push_toArray, List.append_toArray, List.nil_append, List.cons_append]
 clear hW hBs
 gi_wp2
 gi_loopw [7] (fun iv wr => iv = .int .i64 0 ∧ wr = W) (fun _ _ => 0)
 case atStart => exact ⟨rfl, rfl⟩
 case round =>
  obtain ⟨rfl, rfl⟩ := hrel
  gi_wp2
  go_end0
  exact ⟨⟨_, rfl⟩, Mods.refl _ _⟩
set_option maxHeartbeats 400000 in
theorem valsI_any (A : Option Addr) (n c : Nat) (w : World) :
  Calls Tryz.prog 179 #[.slice A n c] w fun e w' => e = .returned (.func (.func 224) #[] #[.pointer (some ⟨w.heap.size, 0, none⟩)]) ∧ w' = w.alloc (.cells #[.slice A n c] 69) := by
 go_enter Tryz.func179, Tryz.ntmps179
 go_wp2
 go_ret
 exact ⟨rfl, rfl⟩
set_option maxRecDepth 100000 in
theorem bLen64_0J {w : World} : Calls Tryz.prog 300 #[.int .u64 0] w fun e w' => e = .returned (.int .i64 0) ∧ w = w' := by
 go_enter Tryz.func300, Tryz.ntmps300
 go_wp2_with fail
 go_ret
 exact ⟨by kernel_rfl, rfl⟩
theorem bLen_0J {w : World} : Calls Tryz.prog 258 #[.int .u64 0] w fun e w' => e = .returned (.int .i64 0) ∧ w = w' := by
 go_enter Tryz.func258, Tryz.ntmps258
 go_wp2_with (go_at_call 300; refine bLen64_0J.mono ?_; rintro e w' ⟨rfl, rfl⟩)
 go_ret
 exact ⟨rfl, rfl⟩
theorem insI_0 {w : World} : Calls Tryz.prog 290 #[.slice none 0 0, .int .i64 0, .int .i64 0] w fun e w' => e = .returned (.tuple #[]) ∧ w = w' := by
 go_enter Tryz.func290, Tryz.ntmps290
 go_wp2_with fail
 refine wp_loop_rounds 1 ?_
 rw [rounds_succ]
 go_wp2_with fail
 go_end0
 exact ⟨rfl, rfl⟩
theorem pdqI_0 {w : World} : Calls Tryz.prog 257 #[.slice none 0 0, .int .i64 0, .int .i64 0, .int .i64 0] w fun e w' => e = .returned (.tuple #[]) ∧ w = w' := by
 go_enter Tryz.func257, Tryz.ntmps257
 go_wp2_with fail
 refine wp_loop_rounds 1 ?_
 rw [rounds_succ]
 go_wp2_with (go_at_call 290; refine insI_0.mono ?_; rintro e w' ⟨rfl, rfl⟩)
 first | refine bodyPost_ret (results_none rfl _ _ _) rfl ?_ | (simp only [Exit.inBlock, Exit.then]; refine bodyPost_ret (results_none rfl _ _ _) rfl ?_)
 exact ⟨rfl, rfl⟩
theorem sortI_0 {w : World} : Calls Tryz.prog 223 #[.slice none 0 0] w fun e w' => e = .returned (.tuple #[]) ∧ w = w' := by
 go_enter Tryz.func223, Tryz.ntmps223
 go_wp2_with (first | (go_at_call 258; refine bLen_0J.mono ?_; rintro e w' ⟨rfl, rfl⟩) | (go_at_call 257; refine pdqI_0.mono ?_; rintro e w' ⟨rfl, rfl⟩))
 go_end0
 exact ⟨rfl, rfl⟩
theorem sortedI_0 {w : World} {Bs : Nat} (hBs : w.cell? ⟨Bs, 0, none⟩ = some (.slice none 0 0)) :
  Calls Tryz.prog 178 #[.func (.func 224) #[] #[.pointer (some ⟨Bs, 0, none⟩)]] w fun e w' => e = .returned (.slice none 0 0) ∧ Mods [] w w' := by
 have cC := callsIn_wide.1 (collectJ_none Fence.wide 3 trivial trivial rfl (by omega) 224 #[.pointer (some ⟨Bs, 0, none⟩)] trivial (enters_of Tryz.func224 (by kernel_rfl) rfl) w (valsI1_none Fence.wide (3 - 1 - 1) trivial rfl Bs w hBs))
 have cC2 := Lib.hid cC
 clear cC hBs
 go_enter Tryz.func178, Tryz.ntmps178
 go_wp2_with (first | (go_at_call 222; refine cC2.out.mono ?_; rintro e w1 ⟨rfl, hb⟩; have HB := Lib.hid hb; clear hb) | (go_at_call 223; refine sortI_0.mono ?_; rintro e w' ⟨rfl, rfl⟩))
 go_ret
 exact ⟨rfl, Mods.of_below HB.out []⟩
end Go.Proofs.YtkjpdfomppjiiaaGreatDoor
/- A tree of one leaf in memory: made, opened, copied. -/
namespace Go.Proofs.YtkjpdfomppjiiaaGreatDoor
open Go.RowKit

def ldF (sb : Nat) : Value := .func (.func 35) #[.pointer (some ⟨sb, 0, none⟩)] #[]
def treeC (p : PlanE) (sb v h : Nat) (gv : Value) (fl le : Nat) : List Value := [.int .i64 p.fan, .int .i64 p.buf, .int .i64 p.leaf, ldF sb, vP v, .int .i64 (h : Nat), gv, .int .i64 (fl : Nat), .int .i64 (le : Nat)]
theorem Blk.newS {w : World} {k : Nat} (t : TypeId) (l : List Value) (hk : w.heap.size = k) : Blk (w.alloc (.cells l.toArray t (0, 0))) k t l := by
 rw [← hk]; exact Blk.new w t l
set_option maxHeartbeats 1600000 in
theorem trNew_any {W : World} (p : PlanE) (sb : Nat) :
  Calls Tryz.prog 34 #[planV p, .func (.func 35) #[.pointer (some ⟨sb, 0, none⟩)] #[]] W fun e w' => ∃ tb v, e = .returned (.pointer (some ⟨tb, 0, none⟩)) ∧ Hid (Blk w' tb 153 (treeC p sb v 1 nilS 0 0)) ∧ Hid (Blk w' v 151 (vC false ⟨0, 0, 0⟩ true nilS nilS nilS nilS)) ∧ Hid (Mods [] W w') ∧ Hid (W.heap.size ≤ v ∧ v < tb) := by
 obtain ⟨fan, buf, leaf⟩ := p
 unfold planV treeC vC ldF vP nilS
 obtain ⟨w1, hw1⟩ : ∃ w1, W.alloc (.cells #[.int .i64 fan, .int .i64 buf, .int .i64 leaf] 41) = w1 := ⟨_, rfl⟩
 obtain ⟨g, hg⟩ : ∃ g, W.heap.size = g := ⟨_, rfl⟩
 have hb1 : Blk w1 g 41 [.int .i64 fan, .int .i64 buf, .int .i64 leaf] := by rw [← hw1, ← hg]; exact Blk.new W 41 _
 have HM1 : Hid (Mods [] W w1) := Lib.hid (by rw [← hw1]; exact (Mods.refl _ _).alloc _)
 have HS1 : Hid (W.heap.size ≤ w1.heap.size) := Lib.hid HM1.out.size
 have q0 := hb1.cell (i := 0) rfl
 have q1 := hb1.cell (i := 1) rfl
 have q2 := hb1.cell (i := 2) rfl
 clear hb1
 go_enter Tryz.func34, Tryz.ntmps34
 go_upto_region 1 with fail
 try rw [hw1, hg]
 clear hw1 hg
 go_wp2_with fail
 go_ret
 refine ⟨w1.heap.size + 1, w1.heap.size, by simp, Lib.hid ?_, Lib.hid ?_, Lib.hid ((HM1.out.alloc _).alloc _), Lib.hid ⟨HS1.out, Nat.lt_succ_self _⟩⟩
 ·exact Blk.newS 153 _ (by simp)
 ·exact (Blk.new w1 151 _).alloc _
set_option maxHeartbeats 1600000 in
theorem trOpen_any {W : World} (p : PlanE) (sb : Nat) (q : PtrE) (h : Nat) (h1 : 1 ≤ h) (h2 : h ≤ 32) :
  Calls Tryz.prog 39 #[planV p, .func (.func 35) #[.pointer (some ⟨sb, 0, none⟩)] #[], ptrV q, .int .i64 (h : Nat)] W fun e w' => ∃ tb v, e = .returned (.tuple #[.pointer (some ⟨tb, 0, none⟩), .int .i64 0]) ∧ Hid (Blk w' tb 153 (treeC p sb v h nilS 0 0)) ∧ Hid (Blk w' v 151 (vC true q false nilS nilS nilS nilS)) ∧ Hid (Mods [] W w') ∧ Hid (W.heap.size ≤ v ∧ v < tb) := by
 obtain ⟨fan, buf, leaf⟩ := p
 obtain ⟨qa, qg, qs⟩ := q
 unfold planV treeC vC ldF vP nilS ptrV
 obtain ⟨w1, hw1⟩ : ∃ w1, (W.alloc (.cells #[.int .i64 fan, .int .i64 buf, .int .i64 leaf] 41)).alloc (.cells #[.int .i64 qa, .int .u64 (qg : Nat), .int .u32 (qs : Nat)] 79) = w1 := ⟨_, rfl⟩
 obtain ⟨g, hg⟩ : ∃ g, W.heap.size = g := ⟨_, rfl⟩
 have hb1 : Blk w1 g 41 [.int .i64 fan, .int .i64 buf, .int .i64 leaf] := by rw [← hw1, ← hg]; exact (Blk.new W 41 _).alloc _
 have hb2 : Blk w1 (g + 1) 79 [.int .i64 qa, .int .u64 (qg : Nat), .int .u32 (qs : Nat)] := by rw [← hw1]; exact Blk.newS 79 _ (by rw [World.size_alloc, hg])
 have HM1 : Hid (Mods [] W w1) := Lib.hid (by rw [← hw1]; exact ((Mods.refl _ _).alloc _).alloc _)
 have HS1 : Hid (W.heap.size ≤ w1.heap.size) := Lib.hid HM1.out.size
 have q0 := hb1.cell (i := 0) rfl
 have q1 := hb1.cell (i := 1) rfl
 have q2 := hb1.cell (i := 2) rfl
 have r0 := hb2.cell (i := 0) rfl
 have r1 := hb2.cell (i := 1) rfl
 have r2 := hb2.cell (i := 2) rfl
 have hh1 : ¬ (h : Int) < 1 := by omega
 have hh2 : ¬ (32 : Int) < (h : Int) := by omega
 clear hb1 hb2 h1 h2
 go_enter Tryz.func39, Tryz.ntmps39
 go_upto_region 1 with fail
 try rw [hw1, hg]
 clear hw1 hg
 go_wp2_with fail
 go_ret2
 refine ⟨w1.heap.size + 1, rfl, w1.heap.size, Lib.hid ?_, Lib.hid ?_, Lib.hid ((HM1.out.alloc _).alloc _), Lib.hid ⟨HS1.out, Nat.lt_succ_self _⟩⟩
 ·exact Blk.newS 153 _ (by simp)
 ·exact (Blk.new w1 151 _).alloc _
theorem trHeight_any {W : World} {tb v h fl le sb : Nat} {p : PlanE} {gv : Value} (hb : Blk W tb 153 (treeC p sb v h gv fl le)) :
  Calls Tryz.prog 128 #[.pointer (some ⟨tb, 0, none⟩)] W fun e w' => e = .returned (.int .i64 (h : Nat)) ∧ W = w' := by
 have c5 := hb.cell (i := 5) rfl
 clear hb
 go_enter Tryz.func128, Tryz.ntmps128
 go_wp2_with fail
 go_ret
 exact ⟨rfl, rfl⟩
set_option maxRecDepth 100000 in
set_option maxHeartbeats 3200000 in
theorem vxCopied_leaf {W : World} {v n c : Nat} {kn ld : Bool} {q : PtrE} {A : Option Addr} (hb : Blk W v 151 (vC kn q ld (.slice A n c) nilS nilS nilS)) :
  Calls Tryz.prog 175 #[.pointer (some ⟨v, 0, none⟩)] W fun e w' => ∃ v2, e = .returned (.pointer (some ⟨v2, 0, none⟩)) ∧ Hid (Blk w' v2 151 (vC kn q ld (.slice A n c) nilS nilS nilS)) ∧ Hid (Mods [] W w') ∧ Hid (W.heap.size ≤ v2) := by
 obtain ⟨qa, qg, qs⟩ := q
 unfold vC nilS at *
 have c0 := hb.cell (i := 0) rfl
 have c1 := hb.cell (i := 1) rfl
 have c2 := hb.cell (i := 2) rfl
 have c3 := hb.cell (i := 3) rfl
 have c4 := hb.cell (i := 4) rfl
 have c5 := hb.cell (i := 5) rfl
 have c6 := hb.cell (i := 6) rfl
 have c7 := hb.cell (i := 7) rfl
 have c8 := hb.cell (i := 8) rfl
 have HB := Lib.hid hb
 have hne : v ≠ W.heap.size := by have := hb.lt; omega
 clear hb
 go_enter Tryz.func175, Tryz.ntmps175
 go_upto_region 2 with fail
 obtain ⟨w1, hw1⟩ : ∃ w1, W.alloc (.cells #[.bool kn, .int .i64 qa, .int .u64 (qg : Nat), .int .u32 (qs : Nat), .bool ld, .slice A n c, .slice none 0 0, .slice none 0 0, .slice none 0 0] 151) = w1 := ⟨_, rfl⟩
 obtain ⟨v2, hv2⟩ : ∃ v2, W.heap.size = v2 := ⟨_, rfl⟩
 have HB2 : Hid (Blk w1 v2 151 [.bool kn, .int .i64 qa, .int .u64 (qg : Nat), .int .u32 (qs : Nat), .bool ld, .slice A n c, .slice none 0 0, .slice none 0 0, .slice none 0 0]) := Lib.hid (by rw [← hw1, ← hv2]; exact Blk.new W 151 _)
 have hm1 : Mods [] W w1 := by rw [← hw1]; exact (Mods.refl _ _).alloc _
 have HM1 := Lib.hid hm1
 have hb1 := HB.out.keep hm1 (by simp)
 have d8 := hb1.cell (i := 8) rfl
 have e8 := HB2.out.cell (i := 8) rfl
 have f8 := HB2.out.free 8
 have HV2 := Lib.hid hv2
 rw [hw1, hv2]
 rw [hv2] at hne
 clear hw1 hv2 hb1 hm1 c0 c1 c2 c3 c4 c5 c6 c7 c8
 go_wp2_with fail
 refine wp_loop_rounds 1 ?_
 rw [rounds_succ]
 go_wp2_with fail
 go_ret
 refine ⟨_, rfl, Lib.hid (HB2.out.set 8 _), Lib.hid (HM1.out.trans (((Mods.refl _ _).setCell (.inl (by simp)) _) : Mods [v2] w1 _) (fun k hk => .inr (by rw [List.mem_singleton.1 hk, HV2.out]; exact Nat.le_refl _))), Lib.hid (by rw [HV2.out]; exact Nat.le_refl _)⟩
set_option maxRecDepth 100000 in
set_option maxHeartbeats 3200000 in
theorem trCopy_one {W : World} {tb v h fl le sb n c : Nat} {p : PlanE} {kn ld : Bool} {q : PtrE} {A : Option Addr} (ht : Blk W tb 153 (treeC p sb v h nilS fl le)) (hv : Blk W v 151 (vC kn q ld (.slice A n c) nilS nilS nilS)) :
  Calls Tryz.prog 125 #[.pointer (some ⟨tb, 0, none⟩)] W fun e w' => ∃ tb2 v2, e = .returned (.pointer (some ⟨tb2, 0, none⟩)) ∧ Hid (Blk w' tb2 153 (treeC p sb v2 h nilS fl le)) ∧ Hid (Blk w' v2 151 (vC kn q ld (.slice A n c) nilS nilS nilS)) ∧ Hid (Mods [] W w') ∧ Hid (W.heap.size ≤ tb2 ∧ tb2 < v2) := by
 have cC := Lib.hid (fun (w : World) (hm : Mods [] W w) => vxCopied_leaf (hv.keep hm (by simp)))
 have cN := Lib.hid (fun w => Tryz.slices_Clone_int_nil 0 0 w)
 obtain ⟨fan, buf, leaf⟩ := p
 unfold treeC ldF vP nilS at *
 simp only at *
 have c0 := ht.cell (i := 0) rfl
 have c1 := ht.cell (i := 1) rfl
 have c2 := ht.cell (i := 2) rfl
 have c3 := ht.cell (i := 3) rfl
 have c4 := ht.cell (i := 4) rfl
 have c5 := ht.cell (i := 5) rfl
 have c6 := ht.cell (i := 6) rfl
 have c7 := ht.cell (i := 7) rfl
 have c8 := ht.cell (i := 8) rfl
 have HT := Lib.hid ht
 have hne : tb ≠ W.heap.size := by have := ht.lt; omega
 clear ht hv
 have hsf : ∀ (w : World) (a : Addr), (store a (.func (.func 35) #[.pointer (some ⟨sb, 0, none⟩)] #[]) .plain).run Tryz.prog w = stored Tryz.prog w a (.func (.func 35) #[.pointer (some ⟨sb, 0, none⟩)] #[]) .plain := fun w a => run_store Tryz.prog w a _ .plain rfl
 go_enter Tryz.func125, Tryz.ntmps125
 go_upto_region 4 with fail
 obtain ⟨w1, hw1⟩ : ∃ w1, W.alloc (.cells #[.int .i64 fan, .int .i64 buf, .int .i64 leaf, .func (.func 35) #[.pointer (some ⟨sb, 0, none⟩)] #[], .pointer (some ⟨v, 0, none⟩), .int .i64 (h : Nat), .slice none 0 0, .int .i64 (fl : Nat), .int .i64 (le : Nat)] 153) = w1 := ⟨_, rfl⟩
 obtain ⟨t2, ht2⟩ : ∃ t2, W.heap.size = t2 := ⟨_, rfl⟩
 have HB2 : Hid (Blk w1 t2 153 [.int .i64 fan, .int .i64 buf, .int .i64 leaf, .func (.func 35) #[.pointer (some ⟨sb, 0, none⟩)] #[], .pointer (some ⟨v, 0, none⟩), .int .i64 (h : Nat), .slice none 0 0, .int .i64 (fl : Nat), .int .i64 (le : Nat)]) := Lib.hid (by rw [← hw1, ← ht2]; exact Blk.new W 153 _)
 have hm1 : Mods [] W w1 := by rw [← hw1]; exact (Mods.refl _ _).alloc _
 have HM1 := Lib.hid hm1
 have hb1 := HT.out.keep hm1 (by simp)
 have d4 := hb1.cell (i := 4) rfl
 have HV2 := Lib.hid ht2
 rw [hw1, ht2]
 rw [ht2] at hne
 clear hw1 ht2 hb1 hm1 c0 c1 c2 c3 c4 c5 c6 c7 c8
 go_upto_region 5 with (go_at_call 175; refine (cC.out _ HM1.out).mono ?_; rintro e w2 ⟨v2, rfl, HV, HM2, HL2⟩; have e4 := (HB2.out.keep HM2.out (by simp)).cell (i := 4) rfl; have f4 := (HB2.out.keep HM2.out (by simp)).free 4)
 have hb3 := (HB2.out.keep HM2.out (by simp)).set 4 (.pointer (some ⟨v2, 0, none⟩))
 obtain ⟨w3, hw3⟩ : ∃ w3, w2.setCell ⟨t2, 4, none⟩ (.pointer (some ⟨v2, 0, none⟩)) = w3 := ⟨_, rfl⟩
 have HM3 : Hid (Mods [t2] w2 w3) := Lib.hid (by rw [← hw3]; exact (Mods.refl _ _).setCell (.inl (by simp)) _)
 rw [hw3] at hb3 ⊢
 have ht3 := ((HT.out.keep HM1.out (by simp)).keep HM2.out (by simp)).keep HM3.out (by simpa using hne)
 have d6 := ht3.cell (i := 6) rfl
 have e6 := hb3.cell (i := 6) rfl
 have f6 := hb3.free 6
 have HB3 := Lib.hid hb3
 clear hw3 hb3 ht3 e4 f4 d4 cC
 go_wp2_with (go_at_call 176; refine (cN.out _).mono ?_; rintro e w4 ⟨rfl, h4⟩; subst w4)
 go_ret
 have h1 := HL2.out
 have h2 := HB2.out.lt
 have hm34 : Mods [t2] w3 (w3.setCell ⟨t2, 6, none⟩ (.slice none 0 0)) := (Mods.refl _ _).setCell (.inl (by simp)) _
 have hne2 : v2 ≠ t2 := by omega
 refine ⟨t2, v2, rfl, Lib.hid (HB3.out.set 6 _), Lib.hid ((HV.out.keep HM3.out (by simpa using hne2)).keep hm34 (by simpa using hne2)), Lib.hid ((HM1.out.trans HM2.out (by simp)).trans (HM3.out.trans hm34 (by simp)) (fun k hk => .inr (by rw [List.mem_singleton.1 hk, HV2.out]; exact Nat.le_refl _))), Lib.hid ⟨by rw [HV2.out]; exact Nat.le_refl _, by omega⟩⟩
end Go.Proofs.YtkjpdfomppjiiaaGreatDoor
/- A mirror both of whose copies are alike (any size), and a log in a ring of its blocks: plainly. -/
namespace Go.Proofs.YtkjpdfomppjiiaaGreatDoor

structure WS (B z n c : Nat) (M : Mi) (rd : Nat → ByteArray) : Prop where
 gm : Gm B z n c M
 sound : Sound M.P
 both : ∀ (s i : Nat), s < 2 → i < B → M.P.read s (i : Int) = (rd i, 0)
 size : ∀ i, i < B → (rd i).size = z
 still : Still B n M.P
section
variable {B z n c : Nat} {M : Mi} {rd : Nat → ByteArray}
theorem WS.fresh (h : Gfresh B z n M) : WS B z n 0 M (fun _ => bA (zerosL z)) :=
 ⟨h.gm, h.sound, h.zero, fun _ _ => by rw [bA_size]; unfold zerosL; rw [List.length_replicate], h.tab⟩
theorem WS.mono {c' : Nat} (h : WS B z n c M rd) (hc : c ≤ c') : WS B z n c' M rd := ⟨h.gm.mono hc, h.sound, h.both, h.size, h.still⟩
theorem WS.write (h : WS B z n c M rd) {i : Nat} (hi : i < B) {X : ByteArray} (hX : X.size = z) : (M.write i X).1 = 0 ∧ WS B z n (c + 2) (M.write i X).2 (updR rd i X) ∧ (M.write i X).2.reps = M.reps ∧ (M.bl = [] → (M.write i X).2.bl = []) := by
 obtain ⟨M', e, g, s, r, t, x, o, b⟩ := h.gm.write_ok h.sound hi hX
 rw [e]
 refine ⟨rfl, ⟨g, s, fun d j hd hj => ?_, fun j hj => ?_, fun d hd => by rw [t]; exact h.still d hd⟩, r, b⟩
 ·unfold updR
  by_cases hji : j = i
  ·subst hji; rw [if_pos rfl]; exact x d hd
  ·rw [if_neg hji]; exact (o d j hd hj hji).trans (h.both d j hd hj)
 ·unfold updR
  split
  ·exact hX
  ·exact h.size j hj
theorem WS.flush (h : WS B z n c M rd) : (M.flush).1 = 0 ∧ WS B z n 0 (M.flush).2 rd ∧ (M.flush).2.reps = M.reps ∧ (M.flush).2.bl = M.bl := by
 obtain ⟨M', e, g, a, r, b, t, o, f⟩ := h.gm.flush
 rw [e]
 exact ⟨rfl, ⟨⟨g.pi, g.nn, g.size, g.blocks, fun d hd => by rw [f d hd]; exact Nat.le_refl _, g.bad⟩, h.sound.alike a, fun d j hd hj => (o d j hd hj).trans (h.both d j hd hj), h.size, fun d hd => by rw [t]; exact h.still d hd⟩, r, b⟩
theorem WS.openM (h : WS B z n c M rd) : WS B z n c (openM M) rd :=
 ⟨h.gm.openM, openM_sound h.sound, fun d j hd hj => (openM_read h.gm hd _).trans (h.both d j hd hj), h.size, fun s hs => ((open_inv h.gm.pi).2.2.2.1 s hs).trans (h.still s hs)⟩
theorem WS.heal (h : WS B z n c M rd) {i : Nat} (hi : i < B) : M.heal i (rd i) = (0, M) := by
 unfold Mi.heal Mi.healS
 simp only
 rw [if_pos (h.both 0 i (by decide) hi)]
 simp only
 rw [if_pos (h.both 1 i (by decide) hi)]
 rfl
theorem WS.imgs (h : WS B z n c M rd) {i : Nat} (hi : i < B) : M.imgs i = [rd i, rd i] := by
 unfold Mi.imgs
 rw [h.both 0 i (by decide) hi, h.both 1 i (by decide) hi]
 rfl
theorem WS.fine (h : WS B z n c M rd) : Fine B z c M.P := h.gm.fine
end
def RecsG (B : Nat) (rd : Nat → ByteArray) : LogE → List (List UpdE) → Prop
 | _, [] => True
 | L, us :: rs => YesRec L us (rd (L.block L.next)) ∧ (∀ u ∈ us, u.Ok) ∧ us ≠ [] ∧ us.length ≤ 1000 ∧ L.have_ < L.count ∧ L.next + 1 < 18446744073709551616 ∧ L.block L.next < B ∧ RecsG B rd (L.took us) rs
theorem RecsG.opens {B z n c : Nat} {M : Mi} {rd : Nat → ByteArray} (h : WS B z n c M rd) (hc : c ≤ 600000) (hr : M.reps < 900000000) : ∀ (rs : List (List UpdE)) (L : LogE), RecsG B rd L rs →
  ((L.tooks rs).have_ = (L.tooks rs).count ∨ (L.tooks rs).have_ < (L.tooks rs).count ∧ (L.tooks rs).block (L.tooks rs).next < B ∧ NoRec (L.tooks rs) (rd ((L.tooks rs).block (L.tooks rs).next))) → Opens B z M L rs M (L.tooks rs)
 | [], L, _, he => by
  refine ⟨rfl, rfl, ?_⟩
  rcases he with he | ⟨h1, h2, h3⟩
  ·exact .inl he
  ·refine .inr ⟨h1, c, h.fine, hc, fun y hy => ?_⟩
   change y ∈ M.imgs (L.block L.next) at hy
   rw [h.imgs (i := L.block L.next) h2] at hy
   rcases List.mem_cons.1 hy with rfl | hy
   ·exact h3
   ·rw [List.mem_singleton.1 hy]; exact h3
 | us :: rs, L, ⟨k1, k2, k3, k4, k5, k6, k7, k8⟩, he => by
  refine ⟨k5, k6, c, [], rd (L.block L.next), [rd (L.block L.next)], h.fine, hc, hr, h.size _ k7, h.imgs k7, fun v hv => (by cases hv), k1, k2, k3, k4, ?_⟩
  rw [h.heal k7]
  exact RecsG.opens h hc hr rs (L.took us) k8 he
theorem RecsG.other {B : Nat} {rd : Nat → ByteArray} {i : Nat} {X : ByteArray} : ∀ (rs : List (List UpdE)) (L : LogE), RecsG B rd L rs → (∀ j, j < rs.length → L.block (L.next + j) ≠ i) → RecsG B (updR rd i X) L rs
 | [], L, _, _ => trivial
 | us :: rs, L, ⟨k1, k2, k3, k4, k5, k6, k7, k8⟩, hn => by
  refine ⟨?_, k2, k3, k4, k5, k6, k7, RecsG.other rs (L.took us) k8 (fun j hj => ?_)⟩
  ·have := hn 0 (by simp)
   unfold updR
   rw [if_neg (by simpa using this)]
   exact k1
  ·have := hn (j + 1) (by simp; omega)
   show L.block (L.next + 1 + j) ≠ i
   rw [show L.next + 1 + j = L.next + (j + 1) by omega]
   exact this
theorem RecsG.snoc {B : Nat} {rd : Nat → ByteArray} {us : List UpdE} : ∀ (rs : List (List UpdE)) (L : LogE), RecsG B rd L rs → YesRec (L.tooks rs) us (rd ((L.tooks rs).block (L.tooks rs).next)) → (∀ u ∈ us, u.Ok) → us ≠ [] → us.length ≤ 1000 → (L.tooks rs).have_ < (L.tooks rs).count → (L.tooks rs).next + 1 < 18446744073709551616 → (L.tooks rs).block (L.tooks rs).next < B → RecsG B rd L (rs ++ [us])
 | [], _L, _, h1, h2, h3, h4, h5, h6, h7 => ⟨h1, h2, h3, h4, h5, h6, h7, trivial⟩
 | v :: rs, L, ⟨k1, k2, k3, k4, k5, k6, k7, k8⟩, h1, h2, h3, h4, h5, h6, h7 => ⟨k1, k2, k3, k4, k5, k6, k7, RecsG.snoc rs (L.took v) k8 h1 h2 h3 h4 h5 h6 h7⟩
def BelowG (f k : Nat) (rd : Nat → ByteArray) (n : Nat) : Prop := ∀ i, f ≤ i → i < f + k → openL (rd i).toList = none ∨ ∃ h l, openL (rd i).toList = some (h, l) ∧ h.gen < n
section
variable {B f k : Nat} {rd : Nat → ByteArray} {L0 L : LogE} {rs : List (List UpdE)}
theorem ring_in (h1 : L.first = f) (h2 : L.count = k) (hk : 0 < k) (j : Nat) : f ≤ L.block j ∧ L.block j < f + k := by
 unfold LogE.block
 rw [h1, h2]
 have := Nat.mod_lt j hk
 omega
theorem BelowG.no (h : BelowG f k rd L.next) (h1 : L.first = f) (h2 : L.count = k) (hk : 0 < k) : NoRec L (rd (L.block L.next)) := by
 obtain ⟨a, b⟩ := ring_in h1 h2 hk L.next
 rcases h _ a b with h | ⟨hd, l, h1, h2⟩
 ·exact .inl h
 ·exact .inr ⟨hd, l, h1, fun ⟨_, _, h3⟩ => by omega⟩
theorem BelowG.mono {n m : Nat} (h : BelowG f k rd n) (hm : n ≤ m) : BelowG f k rd m := fun i hi hj => by
 rcases h i hi hj with h | ⟨hd, l, h1, h2⟩
 ·exact .inl h
 ·exact .inr ⟨hd, l, h1, by omega⟩
theorem BelowG.zero {z : Nat} (n : Nat) : BelowG f k (fun _ => bA (zerosL z)) n := fun i _ _ => .inl (by rw [bA_list]; exact open_zeros z)
theorem BelowG.upd {us : List UpdE} {X : ByteArray} (h : BelowG f k rd L.next) (hX : YesRec L us X) (i : Nat) : BelowG f k (updR rd i X) (L.next + 1) := fun j hj hj2 => by
 unfold updR
 by_cases hji : j = i
 ·rw [if_pos hji]
  exact .inr ⟨_, _, hX, by show L.next < L.next + 1; omega⟩
 ·rw [if_neg hji]
  exact h.mono (by omega) j hj hj2
theorem BelowG.out {n i : Nat} {X : ByteArray} (h : BelowG f k rd n) (hi : ¬ (f ≤ i ∧ i < f + k)) : BelowG f k (updR rd i X) n := fun j hj hj2 => by
 unfold updR
 rw [if_neg (fun e => hi (by omega))]
 exact h j hj hj2
structure LS (B f k : Nat) (rd : Nat → ByteArray) (L0 L : LogE) (rs : List (List UpdE)) : Prop where
 ok0 : L0.Ok
 have0 : L0.have_ = 0
 first : L0.first = f
 count : L0.count = k
 fits : f + k ≤ B
 last : L0.tooks rs = L
 recs : RecsG B rd L0 rs
 below : BelowG f k rd L.next
 ok : L.Ok
theorem LS.pos (h : LS B f k rd L0 L rs) : 0 < k := by have := h.ok0.count1; rw [h.count] at this; omega
theorem LS.facts (h : LS B f k rd L0 L rs) : L.first = f ∧ L.count = k ∧ L.have_ = rs.length ∧ L.next = L0.next + rs.length ∧ L.block L.next < B := by
 obtain ⟨h1, h2, h3⟩ := tooks_first rs L0
 have h4 := tooks_more rs L0
 rw [h.last] at h1 h2 h3 h4
 rw [h.have0] at h3
 have e1 := h1.trans h.first
 have e2 := h2.trans h.count
 refine ⟨e1, e2, by omega, h4, ?_⟩
 have := (ring_in e1 e2 h.pos L.next).2
 have := h.fits
 omega
theorem LS.opens (h : LS B f k rd L0 L rs) {z n c : Nat} {M : Mi} (hw : WS B z n c M rd) (hc : c ≤ 600000) (hr : M.reps < 900000000) : Opens B z M L0 rs M L := by
 obtain ⟨h1, h2, h3, h4, h5⟩ := h.facts
 have key := RecsG.opens hw hc hr rs L0 h.recs
 rw [h.last] at key
 refine key ?_
 have := h.ok.have_
 by_cases he : L.have_ = L.count
 ·exact .inl he
 ·exact .inr ⟨by omega, h5, h.below.no h1 h2 h.pos⟩
theorem LS.append (h : LS B f k rd L0 L rs) {us : List UpdE} {X : ByteArray} (hX : YesRec L us X) (h1 : ∀ u ∈ us, u.Ok) (h2 : us ≠ []) (h3 : us.length ≤ 1000) (h4 : L.have_ < L.count) (h5 : L.next + 1 < 18446744073709551616) : LS B f k (updR rd (L.block L.next) X) L0 (L.took us) (rs ++ [us]) := by
 obtain ⟨f1, f2, f3, f4, f5⟩ := h.facts
 refine ⟨h.ok0, h.have0, h.first, h.count, h.fits, by rw [LogE.tooks_snoc, h.last], ?_, h.below.upd hX _, took_ok h.ok h4 h5⟩
 refine RecsG.snoc rs L0 (RecsG.other rs L0 h.recs (fun j hj => ?_)) ?_ h1 h2 h3 ?_ ?_ ?_
 ·have e : L.block L.next = L0.block (L0.next + rs.length) := by
   unfold LogE.block
   rw [f1, f2, f4, h.first, h.count]
  rw [e]
  unfold LogE.block
  rw [h.count]
  exact block_ne (by omega) (by omega)
 all_goals rw [h.last]
 ·unfold updR; rw [if_pos rfl]; exact hX
 ·exact h4
 ·exact h5
 ·exact f5
theorem LS.out (h : LS B f k rd L0 L rs) {i : Nat} {X : ByteArray} (hi : ¬ (f ≤ i ∧ i < f + k)) : LS B f k (updR rd i X) L0 L rs :=
 ⟨h.ok0, h.have0, h.first, h.count, h.fits, h.last, RecsG.other rs L0 h.recs (fun j _ e => hi (by have := ring_in h.first h.count h.pos (L0.next + j); omega)), h.below.out hi, h.ok⟩
theorem LS.zero {s c : Nat} (hf : f ≤ 5000) (hk : 2 ≤ k) (hk2 : k ≤ 256) (hB : f + k ≤ B) (hs : s < 18446744073709551616) (hc : c < 4294967296) (hz : BelowG f k rd s) : LS B f k rd ⟨f, k, s, c, 0⟩ ⟨f, k, s, c, 0⟩ [] :=
 have ok : LogE.Ok ⟨f, k, s, c, 0⟩ := ⟨hf, hk, hk2, hs, hc, Nat.zero_le _⟩
 ⟨ok, rfl, rfl, rfl, hB, rfl, trivial, hz, ok⟩
end
end Go.Proofs.YtkjpdfomppjiiaaGreatDoor
/- Bytes as what is known of a block, and as a superblock. -/
namespace Go.Proofs.YtkjpdfomppjiiaaGreatDoor
open Go.RowKit

theorem read3_any {W : World} {A : Option Addr} {cp : Nat} {ws : List Nat} (hA : Row W A (intsRow ws)) (h3 : ws.length = 3) (hw : WidthsOk ws) (s : ByteArray) (hs : ws.sum ≤ s.size) (hm : s.size ≤ 1000000) {x y z : Nat} (hU : unW ws s.toList = [x, y, z]) :
  Calls Tryz.prog 190 #[.slice A 3 cp, .string s] W fun e w' => ∃ gu cap rest, e = .returned (.tuple #[.slice (some ⟨gu, 0, none⟩) 3 cap, .string rest, .bool true]) ∧ Hid (Row w' (some ⟨gu, 0, none⟩) (u64sRow [x, y, z])) ∧ W.heap.size ≤ gu ∧ Mods [] W w' ∧ rest.toList = s.toList.drop ws.sum := by
 refine (lRead_anyC (A := A) (ws := ws) (c := cp) hA h3 (by decide) (by decide) hw s hs hm).mono ?_
 rintro e w4 ⟨u, rest, rfl, hu, hm4, hr⟩
 rw [hU] at hu
 obtain ⟨A2, cap, rfl, hc⟩ := owns_shapeD hu
 obtain ⟨gu, rfl, _⟩ := hc 0 (.int .u64 (x : Nat)) rfl
 exact ⟨gu, cap, rest, rfl, Lib.hid (own_row hu), (owns_ltF hu rfl).1, hm4, hr⟩
theorem bA_eq {s : ByteArray} {l : List UInt8} (h : s.toList = l) : s = bA l := by rw [← h, bA_of]
set_option maxRecDepth 100000 in
set_option maxHeartbeats 3200000 in
theorem pParse_any {W : World} {q : PtrE} (h : q.Ok) (s : ByteArray) (r : List UInt8) (hs : s = bA (ptL q ++ r)) (hr : r.length ≤ 900000) :
  Calls Tryz.prog 189 #[.string s] W fun e w' => ∃ z, e = .returned (.tuple #[ptrV q, .string z, .bool true]) ∧ Hid (z = bA r) ∧ Hid (Mods [] W w') := by
 obtain ⟨a, ha⟩ : ∃ a : Nat, q.addr = (a : Int) := ⟨q.addr.toNat, by have := h.addr0; omega⟩
 obtain ⟨n, hn, hn1⟩ : ∃ n, q.gen = n ∧ n < 18446744073709551616 := ⟨_, rfl, h.gen⟩
 obtain ⟨c, hc, hc1⟩ : ∃ c, q.sum = c ∧ c < 4294967296 := ⟨_, rfl, h.sum⟩
 have ha1 : a ≤ 2147483647 := by have := h.addr; omega
 have hU : unW ptrW s.toList = [a, n, c] := by
  rw [hs, bA_list]
  have := unW_leW (ptr_fits h) r
  unfold ptL
  rw [this]
  unfold ptNums
  rw [ha, hn, hc, Int.toNat_natCast]
 have hsz : s.size = 16 + r.length := by rw [hs, bA_size, List.length_append, ptL_len]
 have hdrop : s.toList.drop 16 = r := by rw [hs, bA_list, List.drop_append_of_le_length (by rw [ptL_len]; exact Nat.le_refl _), List.drop_of_length_le (by rw [ptL_len]; exact Nat.le_refl _), List.nil_append]
 have HU := Lib.hid hU
 have HSZ := Lib.hid hsz
 have HDR := Lib.hid hdrop
 have hq : ptrV q = .agg #[.int .i64 (a : Nat), .int .u64 (n : Nat), .int .u32 (c : Nat)] := by unfold ptrV; rw [ha, hn, hc]
 rw [hq]
 have wa : IntKind.i64.wrap (a : Int) = (a : Int) := by rw [IntKind.wrap_i64]; omega
 have wc : IntKind.u32.wrap (c : Int) = (c : Int) := by rw [IntKind.wrap_u32]; omega
 have hbig : ¬ (2147483647 : Int) < (a : Int) := by omega
 have hbig2 : ¬ 2147483647 < a := by omega
 have HRL := Lib.hid hr
 clear hU hsz hdrop hq h ha hn hc hs hr
 obtain ⟨w1, hw1⟩ : ∃ w1, W.alloc (.cells #[.int .i64 0, .int .u64 0, .int .u32 0] 79) = w1 := ⟨_, rfl⟩
 obtain ⟨g, hg⟩ : ∃ g, W.heap.size = g := ⟨_, rfl⟩
 have hb1 : Blk w1 g 79 [.int .i64 0, .int .u64 0, .int .u32 0] := by rw [← hw1, ← hg]; exact Blk.new W 79 _
 have hm1 : Mods [] W w1 := by rw [← hw1]; exact (Mods.refl _ _).alloc _
 have HM1 := Lib.hid hm1
 have HB1 := Lib.hid hb1
 have HG := Lib.hid hg
 clear hb1 hm1
 go_enter Tryz.func189, Tryz.ntmps189
 go_upto_region 1 with fail
 try rw [hw1, hg]
 clear hw1 hg
 go_upto_region 2 with (first | (go_at_call 231; refine (pWidths_ex _).mono ?_; rintro e w2 ⟨b2, rfl, hR2, hM2⟩) | (go_at_call 190; refine (read3_any (by first | exact hR2 | exact hR2.drewN _) rfl (by unfold WidthsOk ptrW; decide) s (by rw [HSZ.out]; show 16 ≤ _; omega) (by have := HSZ.out; have := HRL.out; omega) HU.out).mono ?_; rintro e w3 ⟨gu, capu, rest, rfl, HROW, hgu, hM3, hrest⟩))
 have HM3 : Hid (Mods [] w1 w3) := Lib.hid (hM2.tr hM3)
 have hre : rest = bA r := by rw [← HDR.out]; exact bA_eq hrest
 have HRE := Lib.hid hre
 have hlt := (HB1.out.keep hM2 (by simp)).lt
 have hne : gu ≠ g := by omega
 have hne2 : g ≠ gu := by omega
 have d0 := HROW.out.c (i := 0) rfl
 have d1 := HROW.out.c (i := 1) rfl
 have d2 := HROW.out.c (i := 2) rfl
 have hb3 := HB1.out.keep HM3.out (by simp)
 have z0 := hb3.cell (i := 0) rfl
 have z1 := hb3.cell (i := 1) rfl
 have z2 := hb3.cell (i := 2) rfl
 have f0 := hb3.free 0
 have f1 := hb3.free 1
 have f2 := hb3.free 2
 have HB3 := Lib.hid hb3
 clear hR2 hM2 hM3 hrest hre hgu hlt hb3
 go_upto_region 4 with fail
 go_region_held3 (fun w' => w'.cell? ⟨gu, 0, none⟩ = some (.int .u64 (a : Nat)) ∧ w'.cell? ⟨gu, 1, none⟩ = some (.int .u64 (n : Nat)) ∧ w'.cell? ⟨gu, 2, none⟩ = some (.int .u64 (c : Nat))) (go_keep) (fail)
 obtain ⟨k1, k2⟩ := three_sets HB3.out (.int .i64 (a : Nat)) (.int .u64 (n : Nat)) (.int .u32 (c : Nat))
 obtain ⟨w5, hw5⟩ : ∃ w5, (((w3.setCell ⟨g, 0, none⟩ (.int .i64 (a : Nat))).setCell ⟨g, 1, none⟩ (.int .u64 (n : Nat))).setCell ⟨g, 2, none⟩ (.int .u32 (c : Nat))).drew = w5 := ⟨_, rfl⟩
 have hb5 : Blk w5 g 79 [.int .i64 (a : Nat), .int .u64 (n : Nat), .int .u32 (c : Nat)] := by rw [← hw5]; exact k1
 have hm5 : Mods [g] w3 w5 := by rw [← hw5]; exact k2.drew
 rw [hw5]
 clear hw5 k1 k2
 go_wp2_with fail
 refine bodyPost_ret (results_ctt rfl rfl (load_ptr hb5)) rfl ?_
 exact ⟨rest, rfl, HRE, Lib.hid ((HM1.out.trans HM3.out (by simp)).trans hm5 (fun k hk => .inr (by rw [List.mem_singleton.1 hk, HG.out]; exact Nat.le_refl _)))⟩
end Go.Proofs.YtkjpdfomppjiiaaGreatDoor
/- A superblock's image is opened. -/
namespace Go.Proofs.YtkjpdfomppjiiaaGreatDoor
open Go.RowKit

set_option maxRecDepth 100000 in
set_option maxHeartbeats 3200000 in
theorem suParse_any {W : World} {b : SupE} (hb : b.Ok) (s : ByteArray) (hs : s = bA (supL b)) :
  Calls Tryz.prog 138 #[.string s] W fun e w' => e = .returned (.tuple #[supV { b with gen := 0 }, .bool true]) ∧ Hid (Mods [] W w') := by
 have cP := Lib.hid (fun W => pParse_any (W := W) hb.root s (leW supW [b.height, b.seq, b.chain]) hs (by rw [leW_len (ws := supW) (ns := [b.height, b.seq, b.chain]) rfl]; decide))
 obtain ⟨t, ht⟩ : ∃ t, bA (leW supW [b.height, b.seq, b.chain]) = t := ⟨_, rfl⟩
 have htl : t.toList = leW supW [b.height, b.seq, b.chain] := by rw [← ht, bA_list]
 have hts : t.size = 13 := by rw [← ht, bA_size, leW_len (ws := supW) (ns := [b.height, b.seq, b.chain]) rfl]; rfl
 have hU : unW supW t.toList = [b.height, b.seq, b.chain] := by
  have := unW_leW (sup_fits hb) []
  rw [List.append_nil] at this
  rw [htl]; exact this
 have hd : t.toList.drop supW.sum = [] := List.drop_of_length_le (by rw [htl, leW_len (ws := supW) (ns := [b.height, b.seq, b.chain]) rfl]; decide)
 rw [ht] at cP
 have hh := hb.h
 have hc := hb.chain
 have HU := Lib.hid hU
 have HTS := Lib.hid hts
 have HD := Lib.hid hd
 clear hs ht htl hts hU hd hb
 obtain ⟨gn, ⟨ra, rg, rs⟩, h, sq, c⟩ := b
 unfold supV
 unfold ptrV at cP
 simp only at cP HU hh hc ⊢
 have wh : IntKind.i64.wrap (h : Int) = (h : Int) := by rw [IntKind.wrap_i64]; omega
 have wc : IntKind.u32.wrap (c : Int) = (c : Int) := by rw [IntKind.wrap_u32]; omega
 obtain ⟨w1, hw1⟩ : ∃ w1, W.alloc (.cells #[.int .u64 0, .int .i64 0, .int .u64 0, .int .u32 0, .int .i64 0, .int .u64 0, .int .u32 0] 81) = w1 := ⟨_, rfl⟩
 obtain ⟨r, hr⟩ : ∃ r, W.heap.size = r := ⟨_, rfl⟩
 have hm1 : Mods [] W w1 := by rw [← hw1]; exact (Mods.refl _ _).alloc _
 have hbr : Blk w1 r 81 [.int .u64 0, .int .i64 0, .int .u64 0, .int .u32 0, .int .i64 0, .int .u64 0, .int .u32 0] := by rw [← hw1, ← hr]; exact Blk.new W 81 _
 have HM1 := Lib.hid hm1
 have HBR := Lib.hid hbr
 have HR := Lib.hid hr
 clear hm1 hbr hh hc
 go_enter Tryz.func138, Tryz.ntmps138
 go_upto_region 1 with fail
 try rw [hw1, hr]
 clear hw1 hr
 go_upto_region 2 with (go_at_call 189; refine (cP.out _).mono ?_; rintro e w2 ⟨z, rfl, HZ, HM2⟩; obtain rfl := HZ.out)
 obtain ⟨w3, hw3⟩ : ∃ w3, w2.alloc (.cells #[.int .i64 ra, .int .u64 (rg : Nat), .int .u32 (rs : Nat)] 79) = w3 := ⟨_, rfl⟩
 obtain ⟨r4, hr4⟩ : ∃ r4, w2.heap.size = r4 := ⟨_, rfl⟩
 have hm3 : Mods [] w2 w3 := by rw [← hw3]; exact (Mods.refl _ _).alloc _
 have HB3 : Hid (Blk w3 r4 79 [.int .i64 ra, .int .u64 (rg : Nat), .int .u32 (rs : Nat)]) := Lib.hid (by rw [← hw3, ← hr4]; exact Blk.new w2 79 _)
 have HM3 : Hid (Mods [] w1 w3) := Lib.hid (HM2.out.tr hm3)
 have HR4 : Hid (r < r4) := Lib.hid (by have h1 := HBR.out.lt; have h2 := HM2.out.size; omega)
 rw [hw3, hr4]
 clear hw3 hr4 hm3 cP
 go_upto_region 3 with (first | (go_at_call 191; refine (suWidths_ex _).mono ?_; rintro e w4 ⟨b4, rfl, hR4, hM4⟩) | (go_at_call 190; refine (read3_any (by first | exact hR4 | exact hR4.drewN _) rfl (by unfold WidthsOk supW; decide) z (by rw [HTS.out]; decide) (by rw [HTS.out]; decide) HU.out).mono ?_; rintro e w5 ⟨gu, capu, rest, rfl, HROW, hgu, hM5, hrest⟩; rw [HD.out] at hrest; obtain rfl : rest = ⟨#[]⟩ := bA_eq hrest))
 have HM5 : Hid (Mods [] w3 w5) := Lib.hid (hM4.tr hM5)
 have hne1 : gu ≠ r := by have h1 := HBR.out.lt; have h2 := HM3.out.size; have h3 := hM4.size; omega
 have hne2 : gu ≠ r4 := by have h1 := HB3.out.lt; have h3 := hM4.size; omega
 have hne3 : r ≠ r4 := by have := HR4.out; omega
 have hne1' : r ≠ gu := fun e => hne1 e.symm
 have hne2' : r4 ≠ gu := fun e => hne2 e.symm
 have hne3' : r4 ≠ r := fun e => hne3 e.symm
 have d0 := HROW.out.c (i := 0) rfl
 have d1 := HROW.out.c (i := 1) rfl
 have d2 := HROW.out.c (i := 2) rfl
 have hb5 := HB3.out.keep HM5.out (by simp)
 have k0 := hb5.cell (i := 0) rfl
 have k1 := hb5.cell (i := 1) rfl
 have k2 := hb5.cell (i := 2) rfl
 have hr5 := (HBR.out.keep HM3.out (by simp)).keep HM5.out (by simp)
 have z0 := hr5.cell (i := 0) rfl
 have z1 := hr5.cell (i := 1) rfl
 have z2 := hr5.cell (i := 2) rfl
 have z3 := hr5.cell (i := 3) rfl
 have z4 := hr5.cell (i := 4) rfl
 have z5 := hr5.cell (i := 5) rfl
 have z6 := hr5.cell (i := 6) rfl
 have f0 := hr5.free 0
 have f1 := hr5.free 1
 have f2 := hr5.free 2
 have f3 := hr5.free 3
 have f4 := hr5.free 4
 have f5 := hr5.free 5
 have f6 := hr5.free 6
 have HR5 := Lib.hid hr5
 clear hR4 hM4 hM5 hrest hgu hb5 hr5
 go_upto_region 5 with fail
 go_region
 obtain ⟨y1, y2⟩ := seven_sets HR5.out (.int .u64 0) (.int .i64 ra) (.int .u64 (rg : Nat)) (.int .u32 (rs : Nat)) (.int .i64 (h : Nat)) (.int .u64 (sq : Nat)) (.int .u32 (c : Nat))
 obtain ⟨w6, hw6⟩ : ∃ w6, (((((((w5.setCell ⟨r, 0, none⟩ (.int .u64 0)).setCell ⟨r, 1, none⟩ (.int .i64 ra)).setCell ⟨r, 2, none⟩ (.int .u64 (rg : Nat))).setCell ⟨r, 3, none⟩ (.int .u32 (rs : Nat))).setCell ⟨r, 4, none⟩ (.int .i64 (h : Nat))).setCell ⟨r, 5, none⟩ (.int .u64 (sq : Nat))).setCell ⟨r, 6, none⟩ (.int .u32 (c : Nat))).drew = w6 := ⟨_, rfl⟩
 have hb6 : Blk w6 r 81 [.int .u64 0, .int .i64 ra, .int .u64 (rg : Nat), .int .u32 (rs : Nat), .int .i64 (h : Nat), .int .u64 (sq : Nat), .int .u32 (c : Nat)] := by rw [← hw6]; exact y1.keep ((Mods.refl [] _).drew) (by simp)
 have hm6 : Mods [r] w5 w6 := by rw [← hw6]; exact y2.drew
 rw [hw6]
 clear hw6 y1 y2
 go_wp2_with fail
 refine bodyPost_ret (results_ct rfl rfl (load_sup hb6)) rfl ?_
 exact ⟨rfl, Lib.hid (((HM1.out.trans HM3.out (by simp)).trans HM5.out (by simp)).trans hm6 (fun k hk => .inr (by rw [List.mem_singleton.1 hk, HR.out]; exact Nat.le_refl _)))⟩
set_option maxRecDepth 100000 in
set_option maxHeartbeats 3200000 in
theorem suOpen_yes {W : World} {sb : Nat} (hT : Blk W sb 218 sumRow) {b : SupE} (hb : b.Ok) (x : ByteArray) (hx : openL x.toList = some (supHead b, supL b)) :
  Calls Tryz.prog 79 #[.pointer (some ⟨sb, 0, none⟩), .string x] W fun e w' => e = .returned (.tuple #[supV b, .int .i64 0]) ∧ Hid (Mods [] W w') := by
 have cE := Lib.hid (fun (w' : World) (hm : Mods [] W w') => show Calls Tryz.prog 122 #[.pointer (some ⟨sb, 0, none⟩), .string x] w' fun e w'' => e = .returned (.tuple #[.agg #[.int .u8 1, .int .i64 ((b.gen % 2 : Nat) : Nat), .int .u64 (b.gen : Nat)], .string (bA (supL b)), .int .i64 0]) ∧ Mods [] w' w'' from
  (eOpen_any (hT.keep hm (by simp)) x).mono fun e w'' ⟨hv, p, en, h1, h2, h3⟩ => by
   rw [hx] at h2
   obtain ⟨rfl, rfl, rfl⟩ := h2
   exact ⟨h1, h3⟩)
 obtain ⟨t, ht⟩ : ∃ t, bA (supL b) = t := ⟨_, rfl⟩
 rw [ht] at cE
 have cP := Lib.hid (fun W => suParse_any (W := W) hb t ht.symm)
 have cR := Lib.hid (fun W => suRight_any (W := W) b)
 rw [hb.right] at cR
 have cS := Lib.hid (fun W => suSlot_any (W := W) b.gen)
 obtain ⟨sl, hsl⟩ : ∃ sl, b.gen % 2 = sl := ⟨_, rfl⟩
 rw [hsl] at cE cS
 clear hx ht hb hsl hT
 obtain ⟨gn, ⟨ra, rg, rs⟩, h, sq, c⟩ := b
 unfold supV at *
 simp only at *
 obtain ⟨w1, hw1⟩ : ∃ w1, W.alloc (.cells #[.int .u64 0, .int .i64 0, .int .u64 0, .int .u32 0, .int .i64 0, .int .u64 0, .int .u32 0] 81) = w1 := ⟨_, rfl⟩
 obtain ⟨r, hr⟩ : ∃ r, W.heap.size = r := ⟨_, rfl⟩
 have hm1 : Mods [] W w1 := by rw [← hw1]; exact (Mods.refl _ _).alloc _
 have hbr : Blk w1 r 81 [.int .u64 0, .int .i64 0, .int .u64 0, .int .u32 0, .int .i64 0, .int .u64 0, .int .u32 0] := by rw [← hw1, ← hr]; exact Blk.new W 81 _
 have HM1 := Lib.hid hm1
 have HBR := Lib.hid hbr
 have HR := Lib.hid hr
 clear hm1 hbr
 go_enter Tryz.func79, Tryz.ntmps79
 go_upto_region 1 with fail
 try rw [hw1, hr]
 clear hw1 hr
 go_upto_region 2 with (go_at_call 122; refine (cE.out _ HM1.out).mono ?_; rintro e w2 ⟨rfl, hm2⟩; have HM2 := Lib.hid hm2; clear hm2)
 obtain ⟨w3, hw3⟩ : ∃ w3, w2.alloc (.cells #[.int .u8 1, .int .i64 (sl : Nat), .int .u64 (gn : Nat)] 211) = w3 := ⟨_, rfl⟩
 obtain ⟨r6, hr6⟩ : ∃ r6, w2.heap.size = r6 := ⟨_, rfl⟩
 have hm3 : Mods [] w2 w3 := by rw [← hw3]; exact (Mods.refl _ _).alloc _
 have HB3 : Hid (Blk w3 r6 211 [.int .u8 1, .int .i64 (sl : Nat), .int .u64 (gn : Nat)]) := Lib.hid (by rw [← hw3, ← hr6]; exact Blk.new w2 211 _)
 have HM3 : Hid (Mods [] w1 w3) := Lib.hid (HM2.out.tr hm3)
 rw [hw3, hr6]
 clear hw3 hr6 hm3 cE
 go_upto_region 5 with (go_at_call 138; refine (cP.out _).mono ?_; rintro e w4 ⟨rfl, HM4⟩)
 obtain ⟨w5, hw5⟩ : ∃ w5, w4.alloc (.cells #[.int .u64 0, .int .i64 ra, .int .u64 (rg : Nat), .int .u32 (rs : Nat), .int .i64 (h : Nat), .int .u64 (sq : Nat), .int .u32 (c : Nat)] 81) = w5 := ⟨_, rfl⟩
 obtain ⟨r9, hr9⟩ : ∃ r9, w4.heap.size = r9 := ⟨_, rfl⟩
 have hm5 : Mods [] w4 w5 := by rw [← hw5]; exact (Mods.refl _ _).alloc _
 have hb5 : Blk w5 r9 81 [.int .u64 0, .int .i64 ra, .int .u64 (rg : Nat), .int .u32 (rs : Nat), .int .i64 (h : Nat), .int .u64 (sq : Nat), .int .u32 (c : Nat)] := by rw [← hw5, ← hr9]; exact Blk.new w4 81 _
 have h35 := HM4.out.tr hm5
 have hh5 := HB3.out.keep h35 (by simp)
 have g2 := hh5.cell (i := 2) rfl
 have y0 := hb5.cell (i := 0) rfl
 have f0 := hb5.free 0
 have hr69 : r6 ≠ r9 := by have h1 := HB3.out.lt; have h2 := HM4.out.size; omega
 have HB5 := Lib.hid hb5
 have HH5 := Lib.hid hh5
 have HM5 : Hid (Mods [] w1 w5) := Lib.hid (HM3.out.tr h35)
 have hrr9 : r ≠ r9 := by have h1 := HBR.out.lt; have h2 := HM3.out.size; have h3 := HM4.out.size; omega
 have HR9 := Lib.hid hr9
 rw [hw5, hr9]
 clear hw5 hr9 hm5 hb5 hh5 h35 cP
 go_upto_region 6 with fail
 obtain ⟨w6, hw6⟩ : ∃ w6, w5.setCell ⟨r9, 0, none⟩ (.int .u64 (gn : Nat)) = w6 := ⟨_, rfl⟩
 have hb6 : Blk w6 r9 81 [.int .u64 (gn : Nat), .int .i64 ra, .int .u64 (rg : Nat), .int .u32 (rs : Nat), .int .i64 (h : Nat), .int .u64 (sq : Nat), .int .u32 (c : Nat)] := by rw [← hw6]; exact HB5.out.set 0 _
 have hm6 : Mods [r9] w5 w6 := by rw [← hw6]; exact (Mods.refl _ _).setCell (.inl (by simp)) _
 have hh6 := HH5.out.keep hm6 (by simpa using hr69)
 have hr6 := (HBR.out.keep HM5.out (by simp)).keep hm6 (by simpa using hrr9)
 have HC : Hid (∀ w', Mods [] w6 w' → w'.cell? ⟨r9, 0, none⟩ = some (.int .u64 (gn : Nat)) ∧ w'.cell? ⟨r9, 1, none⟩ = some (.int .i64 ra) ∧ w'.cell? ⟨r9, 2, none⟩ = some (.int .u64 (rg : Nat)) ∧ w'.cell? ⟨r9, 3, none⟩ = some (.int .u32 (rs : Nat)) ∧ w'.cell? ⟨r9, 4, none⟩ = some (.int .i64 (h : Nat)) ∧ w'.cell? ⟨r9, 5, none⟩ = some (.int .u64 (sq : Nat)) ∧ w'.cell? ⟨r9, 6, none⟩ = some (.int .u32 (c : Nat)) ∧ w'.cell? ⟨r6, 0, none⟩ = some (.int .u8 1) ∧ w'.cell? ⟨r6, 1, none⟩ = some (.int .i64 (sl : Nat)) ∧ w'.cell? ⟨r6, 2, none⟩ = some (.int .u64 (gn : Nat))) := Lib.hid (fun w' hm => by
  have u := hb6.keep hm (by simp)
  have v := hh6.keep hm (by simp)
  exact ⟨u.cell (i := 0) rfl, u.cell (i := 1) rfl, u.cell (i := 2) rfl, u.cell (i := 3) rfl, u.cell (i := 4) rfl, u.cell (i := 5) rfl, u.cell (i := 6) rfl, v.cell (i := 0) rfl, v.cell (i := 1) rfl, v.cell (i := 2) rfl⟩)
 obtain ⟨q0, q1, q2, q3, q4, q5, q6, p0, p1, p2⟩ := HC.out w6 (Mods.refl _ _)
 have HBR6 := Lib.hid hr6
 have HM6 : Hid (Mods [] w1 w6) := Lib.hid (HM5.out.trans hm6 (fun k hk => .inr (by rw [List.mem_singleton.1 hk]; have h2 := HR9.out; have h4 := HM3.out.size; have h5 := HM4.out.size; omega)))
 rw [hw6]
 clear hw6 hb6 hm6 hh6 hr6 g2 y0 f0
 go_region_held3 (fun w' => w'.cell? ⟨r9, 0, none⟩ = some (.int .u64 (gn : Nat)) ∧ w'.cell? ⟨r9, 1, none⟩ = some (.int .i64 ra) ∧ w'.cell? ⟨r9, 2, none⟩ = some (.int .u64 (rg : Nat)) ∧ w'.cell? ⟨r9, 3, none⟩ = some (.int .u32 (rs : Nat)) ∧ w'.cell? ⟨r9, 4, none⟩ = some (.int .i64 (h : Nat)) ∧ w'.cell? ⟨r9, 5, none⟩ = some (.int .u64 (sq : Nat)) ∧ w'.cell? ⟨r9, 6, none⟩ = some (.int .u32 (c : Nat)) ∧ w'.cell? ⟨r6, 0, none⟩ = some (.int .u8 1) ∧ w'.cell? ⟨r6, 1, none⟩ = some (.int .i64 (sl : Nat)) ∧ w'.cell? ⟨r6, 2, none⟩ = some (.int .u64 (gn : Nat)))
  (first | exact HC.out _ HM7.out | go_keep | fail)
  (first | (go_at_call 80; refine (cS.out _).mono ?_; rintro e w8 ⟨rfl, hw8⟩; subst hw8) | (go_at_call 139; refine (cR.out _).mono ?_; rintro e w7 ⟨rfl, hm7⟩; have HM7 : Hid (Mods [] w6 w7) := Lib.hid (((Mods.refl _ _).drew).tr hm7)) | fail)
 obtain ⟨q0, q1, q2, q3, q4, q5, q6, p0, p1, p2⟩ := HC.out w7 HM7.out
 have hr7 := HBR6.out.keep HM7.out (by simp)
 have z0 := hr7.cell (i := 0) rfl
 have z1 := hr7.cell (i := 1) rfl
 have z2 := hr7.cell (i := 2) rfl
 have z3 := hr7.cell (i := 3) rfl
 have z4 := hr7.cell (i := 4) rfl
 have z5 := hr7.cell (i := 5) rfl
 have z6 := hr7.cell (i := 6) rfl
 have f0 := hr7.free 0
 have f1 := hr7.free 1
 have f2 := hr7.free 2
 have f3 := hr7.free 3
 have f4 := hr7.free 4
 have f5 := hr7.free 5
 have f6 := hr7.free 6
 obtain ⟨y1, y2⟩ := seven_sets hr7 (.int .u64 (gn : Nat)) (.int .i64 ra) (.int .u64 (rg : Nat)) (.int .u32 (rs : Nat)) (.int .i64 (h : Nat)) (.int .u64 (sq : Nat)) (.int .u32 (c : Nat))
 have HY1 := Lib.hid y1
 have HY2 := Lib.hid y2
 clear y1 y2 cR cS hr7
 go_wp2_with fail
 refine bodyPost_ret (results_ct rfl rfl (load_sup HY1.out)) rfl ?_
 exact ⟨rfl, Lib.hid (((HM1.out.trans HM6.out (by simp)).trans HM7.out (by simp)).trans HY2.out (fun k hk => .inr (by rw [List.mem_singleton.1 hk, HR.out]; exact Nat.le_refl _)))⟩
set_option maxRecDepth 100000 in
set_option maxHeartbeats 1600000 in
theorem suOpen_no {W : World} {sb : Nat} (hT : Blk W sb 218 sumRow) (x : ByteArray) (hx : openL x.toList = none) :
  Calls Tryz.prog 79 #[.pointer (some ⟨sb, 0, none⟩), .string x] W fun e w' => ∃ en : Int, e = .returned (.tuple #[supV supZero, .int .i64 en]) ∧ ¬ en = 0 ∧ Hid (Mods [] W w') := by
 have cE := Lib.hid (fun (w' : World) (hm : Mods [] W w') => show Calls Tryz.prog 122 #[.pointer (some ⟨sb, 0, none⟩), .string x] w' fun e w'' => ∃ en : Int, e = .returned (.tuple #[.agg #[.int .u8 0, .int .i64 0, .int .u64 0], .string ⟨#[]⟩, .int .i64 en]) ∧ ¬ en = 0 ∧ Mods [] w' w'' from
  (eOpen_any (hT.keep hm (by simp)) x).mono fun e w'' ⟨hv, p, en, h1, h2, h3⟩ => by
   rw [hx] at h2
   obtain ⟨rfl, rfl, h4⟩ := h2
   exact ⟨(en : Int), h1, by omega, h3⟩)
 clear hx hT
 have hsz : supV supZero = .agg #[.int .u64 0, .int .i64 0, .int .u64 0, .int .u32 0, .int .i64 0, .int .u64 0, .int .u32 0] := rfl
 rw [hsz]
 clear hsz
 obtain ⟨w1, hw1⟩ : ∃ w1, W.alloc (.cells #[.int .u64 0, .int .i64 0, .int .u64 0, .int .u32 0, .int .i64 0, .int .u64 0, .int .u32 0] 81) = w1 := ⟨_, rfl⟩
 obtain ⟨r, hr⟩ : ∃ r, W.heap.size = r := ⟨_, rfl⟩
 have hm1 : Mods [] W w1 := by rw [← hw1]; exact (Mods.refl _ _).alloc _
 have hbr : Blk w1 r 81 [.int .u64 0, .int .i64 0, .int .u64 0, .int .u32 0, .int .i64 0, .int .u64 0, .int .u32 0] := by rw [← hw1, ← hr]; exact Blk.new W 81 _
 have HM1 := Lib.hid hm1
 have HBR := Lib.hid hbr
 have HR := Lib.hid hr
 clear hm1 hbr
 go_enter Tryz.func79, Tryz.ntmps79
 go_upto_region 1 with fail
 try rw [hw1, hr]
 clear hw1 hr
 go_upto_region 3 with (go_at_call 122; refine (cE.out _ HM1.out).mono ?_; rintro e w2 ⟨en, rfl, hen, hm2⟩; have HM2 := Lib.hid hm2; clear hm2)
 obtain ⟨w3, hw3⟩ : ∃ w3, w2.alloc (.cells #[.int .u8 0, .int .i64 0, .int .u64 0] 211) = w3 := ⟨_, rfl⟩
 have hm3 : Mods [] w2 w3 := by rw [← hw3]; exact (Mods.refl _ _).alloc _
 have hr3 := (HBR.out.keep HM2.out (by simp)).keep hm3 (by simp)
 have HM3 : Hid (Mods [] W w3) := Lib.hid ((HM1.out.tr HM2.out).tr hm3)
 have HE := Lib.hid hen
 have z0 := hr3.cell (i := 0) rfl
 have z1 := hr3.cell (i := 1) rfl
 have z2 := hr3.cell (i := 2) rfl
 have z3 := hr3.cell (i := 3) rfl
 have z4 := hr3.cell (i := 4) rfl
 have z5 := hr3.cell (i := 5) rfl
 have z6 := hr3.cell (i := 6) rfl
 have f0 := hr3.free 0
 have f1 := hr3.free 1
 have f2 := hr3.free 2
 have f3 := hr3.free 3
 have f4 := hr3.free 4
 have f5 := hr3.free 5
 have f6 := hr3.free 6
 obtain ⟨y1, y2⟩ := seven_sets hr3 (.int .u64 0) (.int .i64 0) (.int .u64 0) (.int .u32 0) (.int .i64 0) (.int .u64 0) (.int .u32 0)
 have HY1 := Lib.hid y1
 have HY2 := Lib.hid y2
 rw [hw3]
 clear y1 y2 hr3 cE hw3 hm3
 go_wp2_with fail
 refine bodyPost_ret (results_ct rfl rfl (load_sup HY1.out)) rfl ?_
 exact ⟨en, rfl, HE.out, Lib.hid (HM3.out.trans HY2.out (fun k hk => .inr (by rw [List.mem_singleton.1 hk, HR.out]; exact Nat.le_refl _)))⟩
end Go.Proofs.YtkjpdfomppjiiaaGreatDoor
namespace Go.Proofs.YtkjpdfomppjiiaaGreatDoor
open Go.RowKit

def newer (b c : SupE) : SupE := if b.gen < c.gen then c else b
def bestS (bs : List SupE) : SupE := bs.foldl newer supZero
def imgRow (z : Nat) (bs : List SupE) : List Value := bs.map fun b => Value.string (bA (supImg z b))
theorem open_img {b : SupE} (h : b.Ok) {z : Nat} (hz0 : 128 ≤ z) (hz : z ≤ 1024) : openL (bA (supImg z b)).toList = some (supHead b, supL b) := by
 rw [bA_list]
 exact open_seal (by unfold sizedE; simp; omega) (supHead_right b) h.gen (by rw [supL_len]; omega)
theorem bestS_take {bs : List SupE} {i : Nat} {b : SupE} (h : bs[i]? = some b) : bestS (bs.take (i + 1)) = newer (bestS (bs.take i)) b := by
 unfold bestS
 rw [List.take_add_one, h, List.foldl_append]
 rfl
set_option maxRecDepth 100000 in
set_option maxHeartbeats 3200000 in
theorem suNew_any {W : World} {sb z n cp : Nat} {A : Option Addr} {bs : List SupE} (hT : Blk W sb 218 sumRow) (hz0 : 128 ≤ z) (hz : z ≤ 1024) (hr : Row W A (imgRow z bs)) (hn : bs.length = n) (hn1 : n ≤ 100) (hok : ∀ b ∈ bs, b.Ok) :
  Calls Tryz.prog 81 #[.pointer (some ⟨sb, 0, none⟩), .slice A n cp] W fun e w' => e = .returned (.tuple #[supV (bestS bs), .bool (decide (0 < (bestS bs).gen))]) ∧ Hid (Mods [] W w') := by
 obtain ⟨b0, hb0⟩ : ∃ b0, bestS bs = b0 := ⟨_, rfl⟩
 rw [hb0]
 have HB0 := Lib.hid hb0
 clear hb0
 obtain ⟨Bg, ⟨Ba, Bgn, Bsm⟩, Bh, Bsq, Bch⟩ := b0
 unfold supV
 simp only
 obtain ⟨w1, hw1⟩ : ∃ w1, W.alloc (.cells #[.int .u64 0, .int .i64 0, .int .u64 0, .int .u32 0, .int .i64 0, .int .u64 0, .int .u32 0] 81) = w1 := ⟨_, rfl⟩
 obtain ⟨r, hr1⟩ : ∃ r, W.heap.size = r := ⟨_, rfl⟩
 have hm1 : Mods [] W w1 := by rw [← hw1]; exact (Mods.refl _ _).alloc _
 have hbr : Blk w1 r 81 [.int .u64 0, .int .i64 0, .int .u64 0, .int .u32 0, .int .i64 0, .int .u64 0, .int .u32 0] := by rw [← hw1, ← hr1]; exact Blk.new W 81 _
 have HM1 := Lib.hid hm1
 have HBR := Lib.hid hbr
 have HR := Lib.hid hr1
 have HT := Lib.hid hT
 have HROW := Lib.hid hr
 have HN := Lib.hid hn
 have HOK := Lib.hid hok
 clear hm1 hbr hT hr hn hok
 go_enter Tryz.func81, Tryz.ntmps81
 go_upto_region 1 with fail
 try rw [hw1, hr1]
 clear hw1 hr1
 go_upto_region 2 with fail
 obtain ⟨w2, hw2⟩ : ∃ w2, w1.alloc (.cells #[.int .u64 0, .int .i64 0, .int .u64 0, .int .u32 0, .int .i64 0, .int .u64 0, .int .u32 0] 81) = w2 := ⟨_, rfl⟩
 obtain ⟨r6, hr6⟩ : ∃ r6, w1.heap.size = r6 := ⟨_, rfl⟩
 have HB2 : Hid (Blk w2 r6 81 (supC (bestS []))) := Lib.hid (by rw [← hw2, ← hr6]; exact Blk.new w1 81 _)
 have hm2 : Mods [] w1 w2 := by rw [← hw2]; exact (Mods.refl _ _).alloc _
 have HBR2 := Lib.hid (HBR.out.keep hm2 (by simp))
 have HM2 := Lib.hid hm2
 have hrr6 : r ≠ r6 := by have := HBR.out.lt; omega
 have HW6 : Hid (w1.heap.size ≤ r6) := Lib.hid (by omega)
 rw [hw2, hr6]
 clear hw2 hr6 hm2
 go_wp2_with fail
 go_loopw [13] (fun iv wr => ∃ i : Nat, i ≤ n ∧ iv = .int .i64 (i : Nat) ∧ Blk wr r6 81 (supC (bestS (bs.take i))) ∧ Mods [r6] w2 wr) (fun iv _ => n - (intOf iv).toNat)
 case atStart => exact ⟨0, Nat.zero_le _, rfl, by rw [List.take_zero]; exact HB2.out, Mods.refl _ _⟩
 case round =>
  obtain ⟨i, hi, rfl, hblk, hm⟩ := hrel
  have HBK := Lib.hid hblk
  have HM := Lib.hid hm
  clear hblk hm
  obtain ⟨b, hb⟩ : ∃ b, bestS (bs.take i) = b := ⟨_, rfl⟩
  rw [hb] at HBK
  have HBB := Lib.hid hb
  clear hb
  have hmW : Mods [] W wr := ((HM1.out.trans HM2.out (by simp)).trans HM.out (fun k hk => .inr (by rw [List.mem_singleton.1 hk]; have h1 := HW6.out; have h2 := HM1.out.size; omega)))
  have HMW := Lib.hid hmW
  clear hmW
  by_cases hlt : i < n
  ·have hz' : i < bs.length := by rw [HN.out]; exact hlt
   obtain ⟨c, hc⟩ : ∃ c, bs[i] = c := ⟨_, rfl⟩
   have hci : bs[i]? = some c := by rw [List.getElem?_eq_getElem hz', hc]
   have hcok := HOK.out c (by rw [← hc]; exact List.getElem_mem hz')
   have hrow : (imgRow z bs)[i]? = some (.string (bA (supImg z c))) := by unfold imgRow; rw [List.getElem?_map, hci]; rfl
   have HROW0 := HROW.out.keep0 HMW.out
   obtain ⟨ob, off, hA, hcell⟩ := HROW0.at hrow
   have cO := Lib.hid (suOpen_yes (HT.out.keep HMW.out (by simp)) hcok (bA (supImg z c)) (open_img hcok hz0 hz))
   obtain ⟨x, hx⟩ : ∃ x, bA (supImg z c) = x := ⟨_, rfl⟩
   rw [hx] at cO hcell
   have HT2 := Lib.hid (bestS_take hci)
   rw [HBB.out] at HT2
   have HA := Lib.hid hA
   have hk6 := HBK.out
   clear hz' hc hci hcok hrow hx HROW0 HROW
   obtain ⟨cg, ⟨ca, cgn, csm⟩, ch, csq, cch⟩ := c
   obtain ⟨bg, ⟨ba, bgn, bsm⟩, bh, bsq, bch⟩ := b
   unfold supV at cO
   unfold supC at hk6
   simp only at cO hk6
   have k0 := hk6.cell (i := 0) rfl
   have HK6 := Lib.hid hk6
   subst hA
   clear hk6
   go_upto_region 6 with (go_at_call 79; refine cO.out.mono ?_; rintro e w3 ⟨rfl, HM3⟩)
   obtain ⟨w4, hw4⟩ : ∃ w4, w3.alloc (.cells #[.int .u64 (cg : Nat), .int .i64 ca, .int .u64 (cgn : Nat), .int .u32 (csm : Nat), .int .i64 (ch : Nat), .int .u64 (csq : Nat), .int .u32 (cch : Nat)] 81) = w4 := ⟨_, rfl⟩
   obtain ⟨r9, hr9⟩ : ∃ r9, w3.heap.size = r9 := ⟨_, rfl⟩
   have hm4 : Mods [] w3 w4 := by rw [← hw4]; exact (Mods.refl _ _).alloc _
   have hb9 : Blk w4 r9 81 [.int .u64 (cg : Nat), .int .i64 ca, .int .u64 (cgn : Nat), .int .u32 (csm : Nat), .int .i64 (ch : Nat), .int .u64 (csq : Nat), .int .u32 (cch : Nat)] := by rw [← hw4, ← hr9]; exact Blk.new w3 81 _
   have h64 := (HK6.out.keep HM3.out (by simp)).keep hm4 (by simp)
   have H64 := Lib.hid h64
   have H9 := Lib.hid hb9
   have HM4 := Lib.hid (HM3.out.tr hm4)
   have e0 := hb9.cell (i := 0) rfl
   have j0 := h64.cell (i := 0) rfl
   rw [hw4, hr9]
   clear hw4 hr9 hm4 hb9 h64 k0 cO
   by_cases hg : bg < cg
   ·have hd : decide ((bg : Int) < (cg : Int)) = true := decide_eq_true (by omega)
    go_upto_region 7 with fail
    have hb9 := H9.out
    have h64 := H64.out
    have e1 := hb9.cell (i := 1) rfl
    have e2 := hb9.cell (i := 2) rfl
    have e3 := hb9.cell (i := 3) rfl
    have e4 := hb9.cell (i := 4) rfl
    have e5 := hb9.cell (i := 5) rfl
    have e6 := hb9.cell (i := 6) rfl
    have j1 := h64.cell (i := 1) rfl
    have j2 := h64.cell (i := 2) rfl
    have j3 := h64.cell (i := 3) rfl
    have j4 := h64.cell (i := 4) rfl
    have j5 := h64.cell (i := 5) rfl
    have j6 := h64.cell (i := 6) rfl
    have f0 := h64.free 0
    have f1 := h64.free 1
    have f2 := h64.free 2
    have f3 := h64.free 3
    have f4 := h64.free 4
    have f5 := h64.free 5
    have f6 := h64.free 6
    obtain ⟨y1, y2⟩ := seven_sets h64 (.int .u64 (cg : Nat)) (.int .i64 ca) (.int .u64 (cgn : Nat)) (.int .u32 (csm : Nat)) (.int .i64 (ch : Nat)) (.int .u64 (csq : Nat)) (.int .u32 (cch : Nat))
    have HY1 := Lib.hid y1
    have HY2 := Lib.hid y2
    clear hb9 h64 y1 y2
    go_wp2_with fail
    go_roundw
    case rel =>
     refine ⟨i + 1, by omega, by go_num, ?_, HM.out.trans ((HM4.out.mono (by simp)).trans HY2.out (fun k hk => .inl hk)) (fun k hk => .inl hk)⟩
     rw [HT2.out]
     unfold newer
     rw [if_pos hg]
     exact HY1.out
    case measure => simp [intOf]; omega
   ·have hd : decide ((bg : Int) < (cg : Int)) = false := decide_eq_false (by omega)
    go_wp2_with fail
    go_roundw
    case rel =>
     refine ⟨i + 1, by omega, by go_num, ?_, HM.out.trans HM4.out (by simp)⟩
     rw [HT2.out]
     unfold newer
     rw [if_neg hg]
     exact H64.out
    case measure => simp [intOf]; omega
  ·obtain rfl : i = n := by omega
   have htk : bs.take i = bs := List.take_of_length_le (by rw [HN.out]; exact Nat.le_refl _)
   rw [htk] at HBB
   have hbe : b = ⟨Bg, ⟨Ba, Bgn, Bsm⟩, Bh, Bsq, Bch⟩ := HBB.out.symm.trans HB0.out
   have hk6 := HBK.out
   rw [hbe] at hk6
   unfold supC at hk6
   simp only at hk6
   have hrW := (HBR2.out.keep HM.out (by simpa using hrr6))
   have hrr6' : r6 ≠ r := fun e => hrr6 e.symm
   have HRW := Lib.hid hrW
   have HK6 := Lib.hid hk6
   have HBE := Lib.hid hbe
   clear hk6 hrW hbe htk
   go_upto_region 9 with fail
   have hrW := HRW.out
   have hk6 := HK6.out
   have e0 := hk6.cell (i := 0) rfl
   have e1 := hk6.cell (i := 1) rfl
   have e2 := hk6.cell (i := 2) rfl
   have e3 := hk6.cell (i := 3) rfl
   have e4 := hk6.cell (i := 4) rfl
   have e5 := hk6.cell (i := 5) rfl
   have e6 := hk6.cell (i := 6) rfl
   have j0 := hrW.cell (i := 0) rfl
   have j1 := hrW.cell (i := 1) rfl
   have j2 := hrW.cell (i := 2) rfl
   have j3 := hrW.cell (i := 3) rfl
   have j4 := hrW.cell (i := 4) rfl
   have j5 := hrW.cell (i := 5) rfl
   have j6 := hrW.cell (i := 6) rfl
   have f0 := hrW.free 0
   have f1 := hrW.free 1
   have f2 := hrW.free 2
   have f3 := hrW.free 3
   have f4 := hrW.free 4
   have f5 := hrW.free 5
   have f6 := hrW.free 6
   clear hrW hk6
   go_region
   obtain ⟨y1, y2⟩ := seven_sets HRW.out (.int .u64 (Bg : Nat)) (.int .i64 Ba) (.int .u64 (Bgn : Nat)) (.int .u32 (Bsm : Nat)) (.int .i64 (Bh : Nat)) (.int .u64 (Bsq : Nat)) (.int .u32 (Bch : Nat))
   obtain ⟨w6, hw6⟩ : ∃ w6, (((((((wr.setCell ⟨r, 0, none⟩ (.int .u64 (Bg : Nat))).setCell ⟨r, 1, none⟩ (.int .i64 Ba)).setCell ⟨r, 2, none⟩ (.int .u64 (Bgn : Nat))).setCell ⟨r, 3, none⟩ (.int .u32 (Bsm : Nat))).setCell ⟨r, 4, none⟩ (.int .i64 (Bh : Nat))).setCell ⟨r, 5, none⟩ (.int .u64 (Bsq : Nat))).setCell ⟨r, 6, none⟩ (.int .u32 (Bch : Nat))).drew = w6 := ⟨_, rfl⟩
   have hb6 : Blk w6 r 81 [.int .u64 (Bg : Nat), .int .i64 Ba, .int .u64 (Bgn : Nat), .int .u32 (Bsm : Nat), .int .i64 (Bh : Nat), .int .u64 (Bsq : Nat), .int .u32 (Bch : Nat)] := by rw [← hw6]; exact y1.keep ((Mods.refl [] _).drew) (by simp)
   have hm6 : Mods [r] wr w6 := by rw [← hw6]; exact y2.drew
   rw [hw6]
   clear hw6 y1 y2 e0 e1 e2 e3 e4 e5 e6 j0 j1 j2 j3 j4 j5 j6 f0 f1 f2 f3 f4 f5 f6
   go_wp2_with fail
   refine bodyPost_ret (results_ct rfl rfl (load_sup hb6)) rfl ?_
   refine ⟨rfl, Lib.hid (HMW.out.trans hm6 (fun k hk => .inr (by rw [List.mem_singleton.1 hk, HR.out]; exact Nat.le_refl _)))⟩
end Go.Proofs.YtkjpdfomppjiiaaGreatDoor
