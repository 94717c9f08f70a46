/- table.New, Blocks. -/
import Derived.Test.YtkjpdfomppjiiaaGreatDoorKA
import Derived.Test.YtkjpdfomppjiiaaGreatDoorProg
import Derived.Laws.StructEq
import Derived.Deep.RegionWith
import Derived.Deep.AppendLies
import Derived.RangeFuncNested
import Derived.RangeFuncBound
import Derived.RangeFuncCalls
import Derived.RangeFuncLeaves
import Derived.Shelf.Abstract
import Derived.Shelf.RegionOpen
import Derived.WalkKit
import Derived.OwnWalkIn
import Derived.TacticsInMore
import Derived.LoopNIn
import Derived.LoopIn
import Derived.Shelf.Strings.Builder1
import Derived.Shelf.Strings.Builder2
import Derived.Shelf.Small.Wraps
import Derived.Shelf.Strings.BuilderF
import Derived.Shelf.Strings.Prefix
import Derived.Shelf.Bits.Mul64
import Derived.Shelf.Strings.Repeat
import Derived.Ground.Names2Prog
import Derived.Shelf.Slices.Clone
import Derived.Ground.SlgnProg
import Derived.Shelf.SlicesE.Clone
/- A device as it lies in memory, and its small methods. -/
namespace Go.Proofs.YtkjpdfomppjiiaaGreatDoor
open Go.RowKit

def devCells (D : Dev) (mb bb : Nat) (cv : Value) (c0 c1 c2 : Int) : List Value :=
 [.int .i64 (D.sectors : Nat), .int .i64 (D.size : Nat), .slice (some ⟨mb, 0, none⟩) D.sectors D.sectors, .slice (some ⟨bb, 0, none⟩) D.sectors D.sectors, cv, .int .i64 (D.fuse : Nat), .int .i64 (D.lose : Nat), .int .i64 (D.stray : Nat), .int .i64 D.strays, .bool D.off, .bool D.gone, .int .i64 c0, .int .i64 c1, .int .i64 c2]
def wcells (x : Nat × ByteArray) : List Value := [.int .i64 (x.1 : Nat), .string x.2]
def wRow (c : List (Nat × ByteArray)) : List Value := c.flatMap wcells
structure DevIn (w : World) (b mb bb : Nat) (cv : Value) (c0 c1 c2 : Int) (D : Dev) : Prop where
 ok : D.Ok
 fuse : D.fuse ≤ 9223372036854775807
 lose : D.lose ≤ 9223372036854775807
 stray : D.stray ≤ 9223372036854775807
 dev : Blk w b 106 (devCells D mb bb cv c0 c1 c2)
 media : Blk w mb 9 (D.media.map Value.string)
 bad : Blk w bb 4 (D.bad.map Value.bool)
 cache : w.ownsRow 0 309 2 cv D.cache.length (wRow D.cache)
def IsDev (w : World) (b : Nat) (fp : List Nat) (D : Dev) : Prop :=
 ∃ mb bb cv c0 c1 c2, DevIn w b mb bb cv c0 c1 c2 D ∧ fp = b :: mb :: bb :: cv.ownBlock.toList ∧ fp.Nodup
theorem owns_keepF {w w1 : World} {base n s : Nat} {e : TypeId} {v : Value} {xs : List Value} (h : w.ownsRow base e s v n xs) {L : List Nat} (hm : Mods L w w1) (hL : ∀ g, v.ownBlock = some g → g ∉ L) : w1.ownsRow base e s v n xs := by
 refine ⟨h.1, ?_⟩
 rcases h.2 with h | ⟨g, cap, cur, h1, h2, h3, h4⟩
 ·exact .inl h
 ·exact .inr ⟨g, cap, cur, h1, h2, hm.keep h3 (hL g (by rw [h1]; rfl)), h4⟩
theorem owns_ltF {w : World} {base n s : Nat} {e : TypeId} {v : Value} {xs : List Value} (h : w.ownsRow base e s v n xs) {g : Nat} (hg : v.ownBlock = some g) : base ≤ g ∧ g < w.heap.size := by
 rcases h.2 with ⟨rfl, _⟩ | ⟨g1, c1, cur1, rfl, hb, k1, _⟩
 ·cases hg
 ·simp only [Value.ownBlock, Option.some.injEq] at hg
  subst hg
  exact ⟨hb, lt_of_block k1⟩
theorem IsDev.keep {w w1 : World} {b : Nat} {fp : List Nat} {D : Dev} (h : IsDev w b fp D) {L : List Nat} (hm : Mods L w w1) (hL : ∀ x ∈ fp, x ∉ L) : IsDev w1 b fp D := by
 obtain ⟨mb, bb, cv, c0, c1, c2, hi, rfl, hn⟩ := h
 exact ⟨mb, bb, cv, c0, c1, c2, ⟨hi.ok, hi.fuse, hi.lose, hi.stray, hi.dev.keep hm (hL _ (by simp)), hi.media.keep hm (hL _ (by simp)), hi.bad.keep hm (hL _ (by simp)), owns_keepF hi.cache hm (fun g hg => hL g (by simp [hg]))⟩, rfl, hn⟩
theorem IsDev.lt {w : World} {b : Nat} {fp : List Nat} {D : Dev} (h : IsDev w b fp D) : ∀ x ∈ fp, x < w.heap.size := by
 obtain ⟨mb, bb, cv, c0, c1, c2, hi, rfl, hn⟩ := h
 intro x hx
 simp only [List.mem_cons, Option.mem_toList] at hx
 rcases hx with rfl | rfl | rfl | hx
 ·exact hi.dev.lt
 ·exact hi.media.lt
 ·exact hi.bad.lt
 ·exact (owns_ltF hi.cache hx).2
theorem IsDev.head {w : World} {b : Nat} {fp : List Nat} {D : Dev} (h : IsDev w b fp D) : b ∈ fp := by
 obtain ⟨mb, bb, cv, c0, c1, c2, hi, rfl, hn⟩ := h
 simp
theorem IsDev.ok {w : World} {b : Nat} {fp : List Nat} {D : Dev} (h : IsDev w b fp D) : D.Ok := by
 obtain ⟨mb, bb, cv, c0, c1, c2, hi, _⟩ := h
 exact hi.ok
theorem DevIn.turn {w w1 : World} {b mb bb : Nat} {cv : Value} {c0 c1 c2 d0 d1 d2 : Int} {D D1 : Dev} (h : DevIn w b mb bb cv c0 c1 c2 D) (hn : (b :: mb :: bb :: cv.ownBlock.toList).Nodup) (hm : Mods [b] w w1)
  (hB : Blk w1 b 106 (devCells D1 mb bb cv d0 d1 d2)) (ho : D1.Ok) (h1 : D1.fuse ≤ 9223372036854775807) (h2 : D1.lose ≤ 9223372036854775807) (h3 : D1.stray ≤ 9223372036854775807) (e1 : D1.media = D.media) (e2 : D1.bad = D.bad) (e3 : D1.cache = D.cache) : DevIn w1 b mb bb cv d0 d1 d2 D1 := by
 have hb := (List.nodup_cons.1 hn).1
 simp only [List.mem_cons, Option.mem_toList, not_or] at hb
 refine ⟨ho, h1, h2, h3, hB, ?_, ?_, ?_⟩
 ·rw [e1]; exact h.media.keep hm (by simp; exact fun e => hb.1 e.symm)
 ·rw [e2]; exact h.bad.keep hm (by simp; exact fun e => hb.2.1 e.symm)
 ·rw [e3]; exact owns_keepF h.cache hm (fun g hg => by simp; rintro rfl; exact hb.2.2 hg)

theorem dRight_any {W : World} (n s : Int) : Calls Tryz.prog 45 #[.agg #[.int .i64 n, .int .i64 s]] W fun e w' => e = .returned (.bool (Dev.right n s)) ∧ Mods [] W w' := by
 go_enter Tryz.func45, Tryz.ntmps45
 go_wp2_with fail
 all_goals go_ret
 all_goals refine ⟨?_, (Mods.refl _ _).alloc _⟩
 all_goals simp [Dev.right, *]
 all_goals first | rfl | (intros; omega)
theorem dIs_any {W : World} {b : Nat} {fp : List Nat} {D : Dev} (h : IsDev W b fp D) (i : Int) : Calls Tryz.prog 185 #[.pointer (some ⟨b, 0, none⟩), .int .i64 i] W fun e w' => e = .returned (.bool (D.isS i)) ∧ W = w' := by
 obtain ⟨mb, bb, cv, c0, c1, c2, hi, _⟩ := h
 have d1 := hi.dev.cell (i := 2) rfl
 have hl : D.media.length = D.sectors := hi.ok.media
 clear hi
 go_enter Tryz.func185, Tryz.ntmps185
 go_wp2_with fail
 all_goals go_ret
 all_goals refine ⟨?_, rfl⟩
 all_goals simp [Dev.isS, *]
 all_goals (intros; omega)
theorem dReady_any {W : World} {b : Nat} {fp : List Nat} {D : Dev} (h : IsDev W b fp D) : Calls Tryz.prog 184 #[.pointer (some ⟨b, 0, none⟩)] W fun e w' => e = .returned (.int .i64 (D.ready : Nat)) ∧ W = w' := by
 obtain ⟨mb, bb, cv, c0, c1, c2, hi, _⟩ := h
 have d1 := hi.dev.cell (i := 9) rfl
 have d2 := hi.dev.cell (i := 10) rfl
 clear hi
 unfold Dev.ready
 cases ho : D.off <;> cases hg : D.gone
 all_goals
  rw [ho] at d1
  rw [hg] at d2
  go_enter Tryz.func184, Tryz.ntmps184
  go_wp2_with fail
  go_ret
  exact ⟨rfl, rfl⟩
theorem dDue_any {W : World} {b j n : Nat} {t : TypeId} {l : List Value} (h : Blk W b t l) (hj : l[j]? = some (.int .i64 (n : Nat))) (hn : n ≤ 9223372036854775807) :
  Calls Tryz.prog 216 #[.pointer (some ⟨b, j, none⟩)] W fun e w' => e = .returned (.bool (decide (n = 1))) ∧ Blk w' b t (l.set j (.int .i64 (n - 1 : Nat))) ∧ Mods [b] W w' := by
 have c := h.cell hj
 have f := h.free j
 have H := Lib.hid h
 have HJ := Lib.hid hj
 clear h hj
 by_cases h0 : n = 0
 ·subst h0
  go_enter Tryz.func216, Tryz.ntmps216
  go_wp2_with fail
  go_ret
  refine ⟨rfl, ?_, Mods.refl _ _⟩
  have hs : l.set j (.int .i64 (0 - 1 : Nat)) = l := by
   obtain ⟨hl, he⟩ := List.getElem?_eq_some_iff.1 HJ.out
   rw [show (.int .i64 ((0 - 1 : Nat) : Int) : Value) = l[j] from he.symm]
   exact List.set_getElem_self hl
  rw [hs]; exact H.out
 ·obtain ⟨y, hy⟩ : ∃ y : Nat, n - 1 = y := ⟨_, rfl⟩
  have hw : IntKind.i64.wrap ((n : Int) - 1) = (y : Int) := by rw [IntKind.wrap_i64]; omega
  have hd : decide (n = 1) = decide (y = 0) := by rw [decide_eq_decide]; omega
  rw [hy, hd]
  clear hy hd
  go_enter Tryz.func216, Tryz.ntmps216
  go_wp2_with fail
  go_ret
  refine ⟨?_, H.out.set j _, (Mods.refl _ _).setCell (.inl (by simp)) _⟩
  simp
  rw [show ((y : Int) == 0) = decide ((y : Int) = 0) from rfl, decide_eq_decide]; omega
theorem dBurn_any {W : World} {b : Nat} {fp : List Nat} {D : Dev} (h : IsDev W b fp D) : Calls Tryz.prog 210 #[.pointer (some ⟨b, 0, none⟩)] W fun e w' => e = .returned (.int .i64 (D.burn.1 : Nat)) ∧ IsDev w' b fp D.burn.2 ∧ Mods [b] W w' := by
 have HD := Lib.hid h
 obtain ⟨mb, bb, cv, c0, c1, c2, hi, hfp, hnd⟩ := h
 have d5 := hi.dev.cell (i := 5) rfl
 have f5 := hi.dev.free 5
 have f9 := hi.dev.free 9
 have d9 := hi.dev.cell (i := 9) rfl
 have hf := hi.fuse
 have HI := Lib.hid hi
 have HN := Lib.hid hnd
 subst hfp
 clear hi hnd
 unfold Dev.burn
 by_cases h0 : D.fuse = 0
 ·rw [h0] at d5
  rw [if_pos h0]
  go_enter Tryz.func210, Tryz.ntmps210
  go_wp2_with fail
  go_ret
  exact ⟨rfl, HD.out, Mods.refl _ _⟩
 ·by_cases h1 : D.fuse = 1
  ·rw [h1] at d5
   rw [if_neg h0, if_pos h1]
   go_enter Tryz.func210, Tryz.ntmps210
   go_wp2_with fail
   go_ret
   have hm : Mods [b] W ((W.setCell ⟨b, 5, none⟩ (.int .i64 0)).setCell ⟨b, 9, none⟩ (.bool true)) := ((Mods.refl _ _).setCell (.inl (by simp)) _).setCell (.inl (by simp)) _
   refine ⟨rfl, ⟨mb, bb, cv, c0, c1, c2, HI.out.turn HN.out hm ((HI.out.dev.set 5 _).set 9 _) ⟨HI.out.ok.media, HI.out.ok.bad, HI.out.ok.sec, HI.out.ok.size0, HI.out.ok.size1, HI.out.ok.each, HI.out.ok.cache⟩ (by simp) HI.out.lose HI.out.stray rfl rfl rfl, rfl, HN.out⟩, hm⟩
  ·obtain ⟨y, hy⟩ : ∃ y : Nat, D.fuse - 1 = y := ⟨_, rfl⟩
   have hw : IntKind.i64.wrap ((D.fuse : Int) - 1) = (y : Int) := by rw [IntKind.wrap_i64]; omega
   have hy0 : 0 < y := by omega
   rw [if_neg h0, if_neg h1, hy]
   go_enter Tryz.func210, Tryz.ntmps210
   go_wp2_with fail
   go_ret
   have hm : Mods [b] W (W.setCell ⟨b, 5, none⟩ (.int .i64 (y : Nat))) := (Mods.refl _ _).setCell (.inl (by simp)) _
   refine ⟨rfl, ⟨mb, bb, cv, c0, c1, c2, HI.out.turn HN.out hm (HI.out.dev.set 5 _) ⟨HI.out.ok.media, HI.out.ok.bad, HI.out.ok.sec, HI.out.ok.size0, HI.out.ok.size1, HI.out.ok.each, HI.out.ok.cache⟩ (by show y ≤ _; omega) HI.out.lose HI.out.stray rfl rfl rfl, rfl, HN.out⟩, hm⟩
end Go.Proofs.YtkjpdfomppjiiaaGreatDoor
/- A device's Write. -/
namespace Go.Proofs.YtkjpdfomppjiiaaGreatDoor
open Go.RowKit

namespace Dev
theorem write_ready {D : Dev} {i : Int} {s : ByteArray} (h : D.ready ≠ 0) : D.write i s = (D.ready, D) := by unfold write; rw [if_pos h]
theorem write_is {D : Dev} {i : Int} {s : ByteArray} (h : D.ready = 0) (h1 : D.isS i = false) : D.write i s = (3, D) := by unfold write; rw [if_neg (by rw [h]; simp), if_pos h1]
theorem write_size {D : Dev} {i : Int} {s : ByteArray} (h : D.ready = 0) (h1 : D.isS i = true) (h2 : s.size ≠ D.size) : D.write i s = (2, D) := by unfold write; rw [if_neg (by rw [h]; simp), if_neg (by rw [h1]; simp), if_pos h2]
theorem write_burn {D : Dev} {i : Int} {s : ByteArray} (h : D.ready = 0) (h1 : D.isS i = true) (h2 : s.size = D.size) (h3 : D.burn.1 ≠ 0) : D.write i s = D.burn := by unfold write; rw [if_neg (by rw [h]; simp), if_neg (by rw [h1]; simp), if_neg (by simpa using h2), if_pos h3]
theorem write_bad {D : Dev} {i : Int} {s : ByteArray} (h : D.ready = 0) (h1 : D.isS i = true) (h2 : s.size = D.size) (h3 : D.burn.1 = 0) (h4 : D.bad.getD i.toNat false = true) : D.write i s = (7, D.burn.2) := by unfold write; rw [if_neg (by rw [h]; simp), if_neg (by rw [h1]; simp), if_neg (by simpa using h2), if_neg (by simpa using h3), if_pos h4]
theorem write_put {D : Dev} {i : Int} {s : ByteArray} (h : D.ready = 0) (h1 : D.isS i = true) (h2 : s.size = D.size) (h3 : D.burn.1 = 0) (h4 : D.bad.getD i.toNat false = false) : D.write i s = (0, D.burn.2.put i.toNat s) := by unfold write; rw [if_neg (by rw [h]; simp), if_neg (by rw [h1]; simp), if_neg (by simpa using h2), if_neg (by simpa using h3), if_neg (by rw [h4]; simp)]
theorem burn_same (D : Dev) : D.burn.2.sectors = D.sectors ∧ D.burn.2.size = D.size ∧ D.burn.2.media = D.media ∧ D.burn.2.bad = D.bad ∧ D.burn.2.cache = D.cache ∧ D.burn.2.lose = D.lose ∧ D.burn.2.stray = D.stray ∧ D.burn.2.strays = D.strays := by
 unfold burn
 split
 ·simp
 ·split <;> simp
theorem isS_nat {D : Dev} {i : Int} (h : D.isS i = true) : ∃ k : Nat, i = (k : Int) ∧ k < D.sectors := by
 unfold isS at h
 simp only [Bool.and_eq_true, decide_eq_true_eq] at h
 exact ⟨i.toNat, by omega, by omega⟩
end Dev
theorem info_write : (Tryz.prog.info? 309).map (fun i => (i.zero, i.size, i.bytes)) = some (some (.agg #[.int .i64 0, .string ⟨#[]⟩]), 2, 24) := by kernel_rfl
theorem wRow_app (A B : List (Nat × ByteArray)) : wRow (A ++ B) = wRow A ++ wRow B := by unfold wRow; simp
theorem DevIn.appended {w w8 : World} {b mb bb : Nat} {cv v1 : Value} {c0 c1 c2 : Int} {D : Dev} (hin : DevIn w b mb bb cv c0 c1 c2 D) (hn : (b :: mb :: bb :: cv.ownBlock.toList).Nodup) {k : Nat} (hk : k < D.sectors) {s : ByteArray} (hs : s.size = D.size)
  (hown : w8.ownsRow 0 309 2 v1 (D.cache.length + 1) (wRow D.cache ++ wcells (k, s))) {g : Nat} (hv : v1.ownBlock = some g) (hat : cv.ownBlock = some g ∨ w.heap.size ≤ g) (hm : Mods cv.ownBlock.toList w w8) :
  DevIn (w8.setCell ⟨b, 4, none⟩ v1) b mb bb v1 c0 c1 c2 { D with cache := D.cache ++ [(k, s)] } ∧ (b :: mb :: bb :: v1.ownBlock.toList).Nodup ∧ (∀ x ∈ v1.ownBlock.toList, x ∈ cv.ownBlock.toList ∨ w.heap.size ≤ x) ∧ Mods (b :: cv.ownBlock.toList) w (w8.setCell ⟨b, 4, none⟩ v1) := by
 have hb := hin.dev.lt
 have hmb := hin.media.lt
 have hbb := hin.bad.lt
 simp only [List.nodup_cons, List.mem_cons, Option.mem_toList, not_or] at hn
 obtain ⟨⟨n1, n2, n3⟩, ⟨n4, n5⟩, n6, _⟩ := hn
 have gb : g ≠ b := by rintro rfl; rcases hat with h | h; exact n3 h; omega
 have gm : g ≠ mb := by rintro rfl; rcases hat with h | h; exact n5 h; omega
 have gbb : g ≠ bb := by rintro rfl; rcases hat with h | h; exact n6 h; omega
 have hm1 : Mods [b] w8 (w8.setCell ⟨b, 4, none⟩ v1) := (Mods.refl _ _).setCell (.inl (by simp)) _
 refine ⟨⟨⟨hin.ok.media, hin.ok.bad, hin.ok.sec, hin.ok.size0, hin.ok.size1, hin.ok.each, ?_⟩, hin.fuse, hin.lose, hin.stray, ?_, ?_, ?_, ?_⟩, ?_, ?_, ?_⟩
 ·intro x hx
  rcases List.mem_append.1 hx with hx | hx
  ·exact hin.ok.cache x hx
  ·rw [List.mem_singleton.1 hx]; exact ⟨hk, hs⟩
 ·exact (hin.dev.keep hm (by simpa using n3)).set 4 v1
 ·exact (hin.media.keep hm (by simpa using n5)).keep hm1 (by simp; exact fun e => n1 e.symm)
 ·exact (hin.bad.keep hm (by simpa using n6)).keep hm1 (by simp; exact fun e => n2 e.symm)
 ·rw [List.length_append, wRow_app]
  have h := owns_keepF hown hm1 (fun q hq => by rw [hv] at hq; injection hq with hq; simp; rw [← hq]; exact gb)
  simpa [wRow] using h
 ·rw [hv]
  simp only [List.nodup_cons, List.mem_cons, Option.mem_toList, not_or]
  refine ⟨⟨n1, n2, ?_⟩, ⟨n4, ?_⟩, ?_, ?_⟩
  ·simpa using fun e => gb e
  ·simpa using fun e => gm e
  ·simpa using fun e => gbb e
  ·simp
 ·intro x hx
  rw [hv] at hx
  simp at hx
  subst hx
  rcases hat with h | h
  ·exact .inl (by simpa using h)
  ·exact .inr h
 ·exact (hm.mono (fun q hq => by simp at hq ⊢; exact .inr hq)).setCell (.inl (by simp)) _
def Due (b : Nat) (w2 w : World) (j : Nat) (l : List Value) (n : Nat) : Prop := Blk w b 106 l ∧ l[j]? = some (.int .i64 (n : Nat)) ∧ n ≤ 9223372036854775807 ∧ Mods [b] w2 w
theorem due_both {b : Nat} {w2 : World} {L0 : List Value} {n6 n7 : Nat} (h6 : L0[6]? = some (.int .i64 (n6 : Nat))) (h7 : L0[7]? = some (.int .i64 (n7 : Nat))) (l6 : n6 ≤ 9223372036854775807) (l7 : n7 ≤ 9223372036854775807)
  (w : World) (j : Nat) (l : List Value) (n : Nat) (h : Hid (Due b w2 w j l n)) : Calls Tryz.prog 216 #[.pointer (some ⟨b, j, none⟩)] w fun e w' => e = .returned (.bool (decide (n = 1))) ∧ Hid (Blk w' b 106 (l.set j (.int .i64 (n - 1 : Nat))) ∧ Mods [b] w2 w') ∧
   (j = 6 → l = L0 → Hid (Due b w2 w' 7 (L0.set 6 (.int .i64 (n - 1 : Nat))) n7)) ∧ (j = 7 → l = L0 → Hid (Due b w2 w' 6 (L0.set 7 (.int .i64 (n - 1 : Nat))) n6)) := by
 obtain ⟨k1, k2, k3, k4⟩ := h.out
 refine (dDue_any k1 k2 k3).mono fun e w' ⟨g1, g2, g3⟩ => ?_
 have g4 := k4.trans g3 (by simp)
 refine ⟨g1, ⟨g2, g4⟩, ?_, ?_⟩
 ·rintro rfl rfl
  exact ⟨g2, by rw [List.getElem?_set_ne (by omega)]; exact h7, l7, g4⟩
 ·rintro rfl rfl
  exact ⟨g2, by rw [List.getElem?_set_ne (by omega)]; exact h6, l6, g4⟩
set_option maxRecDepth 100000 in
set_option maxHeartbeats 3200000 in
theorem dWrite_any {W : World} {b : Nat} {fp : List Nat} {D : Dev} (h : IsDev W b fp D) (hc : D.cache.length < 1000000) (i : Int) (s : ByteArray) :
  Calls Tryz.prog 164 #[.pointer (some ⟨b, 0, none⟩), .int .i64 i, .string s] W fun e w' => e = .returned (.int .i64 ((D.write i s).1 : Nat)) ∧ (∃ fp', IsDev w' b fp' (D.write i s).2 ∧ ∀ x ∈ fp', x ∈ fp ∨ W.heap.size ≤ x) ∧ Mods fp W w' := by
 have HD := Lib.hid h
 have hbm := h.head
 have HC := Lib.hid hc
 clear h hc
 go_enter Tryz.func164, Tryz.ntmps164
 go_wp2_with fail
 refine (dReady_any HD.out).mono ?_
 rintro x w' ⟨rfl, rfl⟩
 by_cases hr : D.ready = 0
 ·have hrr := Lib.hid hr
  rw [hr]
  clear hr
  go_wp2_with fail
  refine (dIs_any HD.out i).mono ?_
  rintro x w' ⟨rfl, rfl⟩
  cases his : D.isS i with
  | false =>
   have hi' := Lib.hid his
   clear his
   go_wp2_with fail
   go_ret
   rw [Dev.write_is hrr.out hi'.out]
   exact ⟨rfl, ⟨fp, HD.out, fun x hx => .inl hx⟩, Mods.refl _ _⟩
  | true =>
   obtain ⟨k, rfl, hk⟩ := Dev.isS_nat his
   have hi' := Lib.hid his
   clear his
   have d1 : W.cell? ⟨b, 1, none⟩ = some (.int .i64 (D.size : Nat)) := by
    obtain ⟨mb, bb, cv, c0, c1, c2, hin, _⟩ := HD.out
    exact hin.dev.cell (i := 1) rfl
   by_cases hs : s.size = D.size
   ·have hss := Lib.hid hs
    have hsi : (s.size : Int) = (D.size : Int) := by rw [hs]
    clear hs
    go_wp2_with fail
    refine (dBurn_any HD.out).mono ?_
    rintro x w1 ⟨rfl, hD1, hm1⟩
    have HM1 := Lib.hid hm1
    clear d1 hsi hm1
    by_cases hb : D.burn.1 = 0
    ·have hbb := Lib.hid hb
     rw [hb]
     clear hb
     obtain ⟨mb, bb, cv, c0, c1, c2, hin, hfp, hnd⟩ := hD1
     obtain ⟨D1, hD1e⟩ : ∃ D1, D.burn.2 = D1 := ⟨_, rfl⟩
     have HS := Lib.hid (Dev.burn_same D)
     have HE := Lib.hid hD1e
     rw [hD1e] at hin HS
     have hk1 : k < D1.sectors := by rw [HS.out.1]; exact hk
     obtain ⟨bd, hbd⟩ : ∃ bd, D.bad[k]? = some bd := ⟨_, List.getElem?_eq_getElem (by rw [HD.out.ok.bad]; exact hk)⟩
     have d3 := hin.dev.cell (i := 3) rfl
     have e3 := hin.bad.cell (i := k) (v := .bool bd) (by rw [HS.out.2.2.2.1, List.getElem?_map, hbd]; rfl)
     have hgd : D.bad.getD k false = bd := by rw [List.getD_eq_getElem?_getD, hbd]; rfl
     have HGD := Lib.hid hgd
     have HIN := Lib.hid hin
     have HND := Lib.hid hnd
     have HFP := Lib.hid hfp
     clear hD1e hin hbd hgd hnd hfp
     cases bd with
     | true =>
      go_wp2_with fail
      go_ret
      rw [Dev.write_bad hrr.out hi'.out hss.out hbb.out HGD.out, HE.out]
      exact ⟨rfl, ⟨fp, ⟨mb, bb, cv, c0, c1, c2, HIN.out, HFP.out, HND.out⟩, fun x hx => .inl hx⟩, HM1.out.mono (by simpa using hbm)⟩
     | false =>
      have d12 := HIN.out.dev.cell (i := 12) rfl
      have f12 := HIN.out.dev.free 12
      go_wp2_with fail
      go_region
      obtain ⟨c1', hc1'⟩ : ∃ y, wrap64 (c1 + 1) = y := ⟨_, rfl⟩
      rw [hc1']
      obtain ⟨w2, hw2⟩ : ∃ w2, (w1.setCell ⟨b, 12, none⟩ (.int .i64 c1')).drew = w2 := ⟨_, rfl⟩
      have hm2 : Mods [b] w1 w2 := by rw [← hw2]; exact ((Mods.refl _ _).setCell (.inl (by simp)) _).drewN 1
      have hB2 : Blk w2 b 106 (devCells D1 mb bb cv c0 c1' c2) := by rw [← hw2]; exact (HIN.out.dev.set 12 _).drewN 1
      have hn' : (b :: mb :: bb :: cv.ownBlock.toList).Nodup := HFP.out ▸ HND.out
      have HN3 := Lib.hid hn'
      have HIN2 := Lib.hid (HIN.out.turn hn' hm2 hB2 HIN.out.ok HIN.out.fuse HIN.out.lose HIN.out.stray rfl rfl rfl)
      have HM2 : Hid (Mods [b] W w2) := HM1.out.trans hm2 (by simp)
      rw [hw2]
      have hll := Lib.hid HIN2.out.lose
      have hls := Lib.hid HIN2.out.stray
      obtain ⟨L0, hL0⟩ : ∃ L0, devCells D1 mb bb cv c0 c1' c2 = L0 := ⟨_, rfl⟩
      have HL0 := Lib.hid hL0
      have g6 : L0[6]? = some (.int .i64 (D1.lose : Nat)) := by rw [← hL0]; rfl
      have g7 : L0[7]? = some (.int .i64 (D1.stray : Nat)) := by rw [← hL0]; rfl
      have A6 : Hid (Due b w2 w2.drew 6 L0 D1.lose) := ⟨by rw [← hL0]; exact hB2, g6, hll.out, (Mods.refl _ _).drew⟩
      have A7 : Hid (Due b w2 w2.drew 7 L0 D1.stray) := ⟨by rw [← hL0]; exact hB2, g7, hls.out, (Mods.refl _ _).drew⟩
      have G := Lib.hid (due_both (b := b) (w2 := w2) g6 g7 hll.out hls.out)
      clear hc1' hw2 hm2 hB2 hn' HIN d3 e3 d12 f12 hL0 hll hls g6 g7
      go_wp2_with fail
      go_region_with ((go_at_call 216; refine (G.out _ _ ?_ ?_ ?_).mono ?_; (any_goals (first | exact A6 | exact A7 | exact hA trivial trivial | exact hC trivial trivial)); rintro x w6 ⟨rfl, HB6, hA, hC⟩))
      all_goals
       obtain ⟨D2, hD2⟩ : ∃ D2 : Dev, { D1 with lose := D1.lose - 1, stray := D1.stray - 1 } = D2 := ⟨_, rfl⟩
       have hB6' : Blk w6 b 106 (devCells D2 mb bb cv c0 c1' c2) := by rw [← hD2]; have h := HB6.out.1; rw [← HL0.out] at h; exact h
       have hm6' : Mods [b] w2 w6 := HB6.out.2
       have hin3 : DevIn w6 b mb bb cv c0 c1' c2 D2 := HIN2.out.turn HN3.out hm6' hB6' (by rw [← hD2]; exact ⟨HIN2.out.ok.media, HIN2.out.ok.bad, HIN2.out.ok.sec, HIN2.out.ok.size0, HIN2.out.ok.size1, HIN2.out.ok.each, HIN2.out.ok.cache⟩) (by rw [← hD2]; exact HIN2.out.fuse) (by rw [← hD2]; have := HIN2.out.lose; show D1.lose - 1 ≤ _; omega) (by rw [← hD2]; have := HIN2.out.stray; show D1.stray - 1 ≤ _; omega) (by rw [← hD2]) (by rw [← hD2]) (by rw [← hD2])
       have HIN3 := Lib.hid hin3
       have HD2 := Lib.hid hD2
       have HM6 : Hid (Mods fp W w6) := (HM2.out.trans hm6' (by simp)).mono (by simpa using hbm)
       have hn3 : b ∉ cv.ownBlock.toList := fun hx => by have := HN3.out; simp at this; exact this.1.2.2 (by simpa using hx)
       have hcl : D2.cache.length < 1000000 := by rw [← hD2]; show D1.cache.length < _; rw [HS.out.2.2.2.2.1]; exact HC.out
       have hss3 : Hid (s.size = D2.size) := by rw [← hD2]; show s.size = D1.size; rw [HS.out.2.1]; exact hss.out
       have hk2 : k < D2.sectors := by rw [← hD2]; exact hk1
       have HSS : Hid (D1.isS D1.strays = D2.isS D1.strays ∧ D1.bad = D2.bad ∧ D1.cache = D2.cache) := by rw [← hD2]; exact ⟨rfl, rfl, rfl⟩
       obtain ⟨i0, hi0, hz0, hz1, hz2⟩ := info_parts info_write
       clear hB6' hm6' hin3 HB6 HIN2 HM2 hD2 G A6 A7 hA hC HL0
       obtain ⟨lb, hlb⟩ : ∃ lb, decide (D1.lose = 1) = lb := ⟨_, rfl⟩
       obtain ⟨sb, hsb⟩ : ∃ sb, decide (D1.stray = 1) = sb := ⟨_, rfl⟩
       rw [hlb, hsb]
       have HLB := Lib.hid hlb
       have HSB := Lib.hid hsb
       clear hlb hsb
       have c4 := HIN3.out.dev.cell (i := 4) rfl
       have c8 := HIN3.out.dev.cell (i := 8) rfl
       have c3 := HIN3.out.dev.cell (i := 3) rfl
       have f4 := HIN3.out.dev.free 4
       cases sb
       ·cases lb
        ·have h1 : ¬ D1.stray = 1 := of_decide_eq_false HSB.out
         have h2 : ¬ D1.lose = 1 := of_decide_eq_false HLB.out
         have HH := Lib.hid (And.intro h1 h2)
         clear h1 h2
         go_wp2_with (at_builtin; refine wpList_append_lies _ rfl (.tmp 86) (.tmp 90) 103 rfl 0 309 i0 (.agg #[.int .i64 0, .string ⟨#[]⟩]) 2 24 Tryz.underlying103 hi0 hz0 hz1 hz2 rfl (by decide) _ _ _ rfl (HIN3.out.cache.alloc _) ⟨w6.heap.size, 0, none⟩ 1 1 (wcells (k, s)) rfl rfl (fun j u hj => by rw [addr_add0]; exact (Blk.new w6 309 (wcells (k, s))).cell hj) (by simp [wcells, Value.oneCell']) (by decide) (by unfold maxLen; omega) (by omega) (by simp) (w6.heap.size + 1) (by simp) ?_; intro g cap w8 hown8 hg8 hat8 _; have hm8 : Mods cv.ownBlock.toList w6 w8 := ((Mods.refl _ _).alloc _).grown hg8 (fun q hq => .inl (by have hq2 : cv.ownBlock = some q := hq; simp [hq2])); have d3' := (HIN3.out.dev.keep hm8 (by simpa using hn3)).cell (i := 4) rfl; have f4' := (HIN3.out.dev.keep hm8 (by simpa using hn3)).free 4)
         obtain ⟨r1, r2, r3, r4⟩ := HIN3.out.appended HN3.out (g := g) (k := k) hk2 hss3.out hown8 rfl (hat8.imp id (fun e => by have e2 : g = w6.heap.size + 1 := e; omega)) hm8
         have HR := Lib.hid (And.intro r1 (And.intro r2 (And.intro r3 r4)))
         clear r1 r2 r3 r4 hown8 hg8 hat8 hm8
         go_wp2_with fail
         go_ret
         have hput : D.write k s = (0, { D2 with cache := D2.cache ++ [(k, s)] }) := by rw [Dev.write_put hrr.out hi'.out hss.out hbb.out HGD.out, HE.out]; unfold Dev.put; rw [if_neg HH.out.1, if_neg HH.out.2, ← HD2.out]; rfl
         rw [hput]
         refine ⟨rfl, ⟨_, ⟨mb, bb, _, c0, c1', c2, HR.out.1, rfl, HR.out.2.1⟩, fun x hx => ?_⟩, (HM6.out.trans HR.out.2.2.2 (fun q hq => .inl (by rw [HFP.out]; simp at hq ⊢; rcases hq with hq | hq <;> simp [hq]))).mono (fun q hq => hq)⟩
         rw [HFP.out]
         simp only [List.mem_cons] at hx ⊢
         rcases hx with hx | hx | hx | hx
         ·simp [hx]
         ·simp [hx]
         ·simp [hx]
         ·rcases HR.out.2.2.1 x hx with h | h
          ·exact .inl (.inr (.inr (.inr h)))
          ·right; have := HM6.out.size; omega
        ·have h1 : ¬ D1.stray = 1 := of_decide_eq_false HSB.out
         have h2 : D1.lose = 1 := of_decide_eq_true HLB.out
         have HH := Lib.hid (And.intro h1 h2)
         clear h1 h2
         go_wp2_with fail
         go_ret
         have hput : D.write k s = (0, D2) := by rw [Dev.write_put hrr.out hi'.out hss.out hbb.out HGD.out, HE.out]; unfold Dev.put; rw [if_neg HH.out.1, if_pos HH.out.2, ← HD2.out]
         rw [hput]
         exact ⟨rfl, ⟨fp, ⟨mb, bb, cv, c0, c1', c2, HIN3.out, HFP.out, HND.out⟩, fun x hx => .inl hx⟩, HM6.out⟩
       ·have h1 : D1.stray = 1 := of_decide_eq_true HSB.out
        cases lb
        ·have h2 : ¬ D1.lose = 1 := of_decide_eq_false HLB.out
         have HH := Lib.hid (And.intro h1 h2)
         clear h1 h2
         obtain ⟨tt, htt⟩ : ∃ tt, D1.strays = tt := ⟨_, rfl⟩
         have htt2 : D2.strays = tt := by rw [← HD2.out]; exact htt
         rw [htt2] at c8
         have hId := Lib.hid (show IsDev w6 b fp D2 from ⟨mb, bb, cv, c0, c1', c2, HIN3.out, HFP.out, HND.out⟩)
         cases his2 : D2.isS tt with
         | false =>
          have his3 := Lib.hid (show D1.isS D1.strays = false by rw [HSS.out.1, htt]; exact his2)
          have hci := Lib.hid (dIs_any hId.out tt)
          rw [his2] at hci
          clear his2 htt htt2
          go_wp2_with fail
          refine hci.out.mono ?_
          rintro x w' ⟨rfl, rfl⟩
          go_wp2_with fail
          go_ret
          have hput : D.write k s = (0, D2) := by rw [Dev.write_put hrr.out hi'.out hss.out hbb.out HGD.out, HE.out]; unfold Dev.put; rw [if_pos HH.out.1, if_pos (.inr (.inl his3.out)), ← HD2.out]
          rw [hput]
          exact ⟨rfl, ⟨fp, ⟨mb, bb, cv, c0, c1', c2, HIN3.out, HFP.out, HND.out⟩, fun x hx => .inl hx⟩, HM6.out⟩
         | true =>
          obtain ⟨k3, rfl, hk3⟩ := Dev.isS_nat his2
          have his3 := Lib.hid (show D1.isS D1.strays = true by rw [HSS.out.1, htt]; exact his2)
          have hci := Lib.hid (dIs_any hId.out (k3 : Int))
          rw [his2] at hci
          have HT := Lib.hid htt
          obtain ⟨bd, hbd⟩ : ∃ bd, D2.bad[k3]? = some bd := ⟨_, List.getElem?_eq_getElem (by rw [HIN3.out.ok.bad]; exact hk3)⟩
          have e3 := HIN3.out.bad.cell (i := k3) (v := .bool bd) (by rw [List.getElem?_map, hbd]; rfl)
          have hbd2 : D1.bad.getD D1.strays.toNat false = bd := by rw [HSS.out.2.1, htt, Int.toNat_natCast, List.getD_eq_getElem?_getD, hbd]; rfl
          have HBD := Lib.hid hbd2
          clear his2 htt htt2 hbd hbd2
          go_wp2_with fail
          refine hci.out.mono ?_
          rintro x w' ⟨rfl, rfl⟩
          cases bd with
          | true =>
           go_wp2_with fail
           go_ret
           have hput : D.write k s = (0, D2) := by rw [Dev.write_put hrr.out hi'.out hss.out hbb.out HGD.out, HE.out]; unfold Dev.put; rw [if_pos HH.out.1, if_pos (.inr (.inr HBD.out)), ← HD2.out]
           rw [hput]
           exact ⟨rfl, ⟨fp, ⟨mb, bb, cv, c0, c1', c2, HIN3.out, HFP.out, HND.out⟩, fun x hx => .inl hx⟩, HM6.out⟩
          | false =>
           have HK3 : Hid (D1.strays.toNat = k3 ∧ D1.isS D1.strays = true ∧ D1.bad.getD k3 false = false) := ⟨by rw [HT.out, Int.toNat_natCast], his3.out, by have h := HBD.out; rw [HT.out, Int.toNat_natCast] at h; exact h⟩
           go_wp2_with (at_builtin; refine wpList_append_lies _ rfl (.tmp 86) (.tmp 90) 103 rfl 0 309 i0 (.agg #[.int .i64 0, .string ⟨#[]⟩]) 2 24 Tryz.underlying103 hi0 hz0 hz1 hz2 rfl (by decide) _ _ _ rfl (HIN3.out.cache.alloc _) ⟨w6.heap.size, 0, none⟩ 1 1 (wcells (k3, s)) rfl rfl (fun j u hj => by rw [addr_add0]; exact (Blk.new w6 309 (wcells (k3, s))).cell hj) (by simp [wcells, Value.oneCell']) (by decide) (by unfold maxLen; omega) (by omega) (by simp) (w6.heap.size + 1) (by simp) ?_; intro g cap w8 hown8 hg8 hat8 _; have hm8 : Mods cv.ownBlock.toList w6 w8 := ((Mods.refl _ _).alloc _).grown hg8 (fun q hq => .inl (by have hq2 : cv.ownBlock = some q := hq; simp [hq2])); have d3' := (HIN3.out.dev.keep hm8 (by simpa using hn3)).cell (i := 4) rfl; have f4' := (HIN3.out.dev.keep hm8 (by simpa using hn3)).free 4)
           obtain ⟨r1, r2, r3, r4⟩ := HIN3.out.appended HN3.out (g := g) (k := k3) hk3 hss3.out hown8 rfl (hat8.imp id (fun e => by have e2 : g = w6.heap.size + 1 := e; omega)) hm8
           have HR := Lib.hid (And.intro r1 (And.intro r2 (And.intro r3 r4)))
           clear r1 r2 r3 r4 hown8 hg8 hat8 hm8
           go_wp2_with fail
           go_ret
           have hput : D.write k s = (0, { D2 with cache := D2.cache ++ [(k3, s)] }) := by rw [Dev.write_put hrr.out hi'.out hss.out hbb.out HGD.out, HE.out]; unfold Dev.put; rw [if_pos HH.out.1, if_neg (by rw [HK3.out.1]; rintro (h | h | h); exact HH.out.2 h; exact absurd (HK3.out.2.1.symm.trans h) (by simp); exact absurd (HK3.out.2.2.symm.trans h) (by simp)), ← HD2.out, HK3.out.1]
           rw [hput]
           refine ⟨rfl, ⟨_, ⟨mb, bb, _, c0, c1', c2, HR.out.1, rfl, HR.out.2.1⟩, fun x hx => ?_⟩, (HM6.out.trans HR.out.2.2.2 (fun q hq => .inl (by rw [HFP.out]; simp at hq ⊢; rcases hq with hq | hq <;> simp [hq]))).mono (fun q hq => hq)⟩
           rw [HFP.out]
           simp only [List.mem_cons] at hx ⊢
           rcases hx with hx | hx | hx | hx
           ·simp [hx]
           ·simp [hx]
           ·simp [hx]
           ·rcases HR.out.2.2.1 x hx with h | h
            ·exact .inl (.inr (.inr (.inr h)))
            ·right; have := HM6.out.size; omega
        ·have h2 : D1.lose = 1 := of_decide_eq_true HLB.out
         have HH := Lib.hid (And.intro h1 h2)
         clear h1 h2
         go_wp2_with fail
         go_ret
         have hput : D.write k s = (0, D2) := by rw [Dev.write_put hrr.out hi'.out hss.out hbb.out HGD.out, HE.out]; unfold Dev.put; rw [if_pos HH.out.1, if_pos (.inl HH.out.2), ← HD2.out]
         rw [hput]
         exact ⟨rfl, ⟨fp, ⟨mb, bb, cv, c0, c1', c2, HIN3.out, HFP.out, HND.out⟩, fun x hx => .inl hx⟩, HM6.out⟩
    ·have hbb := Lib.hid hb
     go_wp2_with fail
     go_ret
     rw [Dev.write_burn hrr.out hi'.out hss.out hbb.out]
     exact ⟨rfl, ⟨fp, hD1, fun x hx => .inl hx⟩, HM1.out.mono (by simpa using hbm)⟩
   ·have hss := Lib.hid hs
    have hsi : ¬ (s.size : Int) = (D.size : Int) := by omega
    clear hs
    go_wp2_with fail
    go_ret
    rw [Dev.write_size hrr.out hi'.out hss.out]
    exact ⟨rfl, ⟨fp, HD.out, fun x hx => .inl hx⟩, Mods.refl _ _⟩
 ·have hrr := Lib.hid hr
  go_wp2_with fail
  go_ret
  rw [Dev.write_ready hrr.out]
  exact ⟨rfl, ⟨fp, HD.out, fun x hx => .inl hx⟩, Mods.refl _ _⟩
end Go.Proofs.YtkjpdfomppjiiaaGreatDoor
/- A device's Flush. -/
namespace Go.Proofs.YtkjpdfomppjiiaaGreatDoor
open Go.RowKit

theorem owns_shapeD {w : World} {base n s : Nat} {e : TypeId} {u : Value} {xs : List Value} (h : w.ownsRow base e s u n xs) : ∃ A cap, u = .slice A n cap ∧ (∀ i x, xs[i]? = some x → ∃ g, A = some ⟨g, 0, none⟩ ∧ w.cell? ⟨g, i, none⟩ = some x) := by
 have hc := fun g hg => h.cells (g := g) hg
 obtain ⟨k1, k2⟩ := h
 rcases k2 with ⟨rfl, rfl⟩ | ⟨g, cap, cur, rfl, hb, _, hn, _⟩
 ·obtain rfl : xs = [] := List.eq_nil_of_length_eq_zero (by simpa using k1)
  exact ⟨none, 0, rfl, fun i x hi => by cases hi⟩
 ·refine ⟨_, cap, rfl, fun i x hi => ⟨g, rfl, ?_⟩⟩
  have := hc g rfl i x hi
  rw [addr_add0] at this
  exact this
theorem wRow_at {c : List (Nat × ByteArray)} {i : Nat} {x : Nat × ByteArray} (h : c[i]? = some x) : (wRow c)[i * 2]? = some (.int .i64 (x.1 : Nat)) ∧ (wRow c)[i * 2 + 1]? = some (.string x.2) := by
 have hg : ∀ (c : List (Nat × ByteArray)) (i : Nat), c[i]? = some x → (wRow c)[i * 2]? = some (.int .i64 (x.1 : Nat)) ∧ (wRow c)[i * 2 + 1]? = some (.string x.2) := by
  intro c
  induction c with
  | nil => intro i h; cases h
  | cons y c ih =>
   intro i h
   cases i with
   | zero => cases h; exact ⟨rfl, rfl⟩
   | succ i =>
    have h2 := ih i (by simpa using h)
    have e1 : (i + 1) * 2 = i * 2 + 2 := by omega
    rw [e1]
    exact h2
 exact hg c i h
namespace Dev
theorem settle_len : ∀ (c : List (Nat × ByteArray)) (m : List ByteArray), (settleAll m c).length = m.length
 | [], _ => rfl
 | x :: c, m => by
  show (settleAll (m.set x.1 x.2) c).length = _
  rw [settle_len c]; simp
theorem settle_each {z : Nat} : ∀ (c : List (Nat × ByteArray)) (m : List ByteArray), (∀ s ∈ m, s.size = z) → (∀ x ∈ c, x.2.size = z) → ∀ s ∈ settleAll m c, s.size = z
 | [], _, h, _ => h
 | x :: c, m, h, hc => by
  show ∀ s ∈ settleAll (m.set x.1 x.2) c, s.size = z
  refine settle_each c _ (fun s hs => ?_) (fun y hy => hc y (by simp [hy]))
  rcases List.mem_or_eq_of_mem_set hs with h1 | h1
  ·exact h s h1
  ·rw [h1]; exact hc x (by simp)
theorem settle_snoc (c : List (Nat × ByteArray)) (x : Nat × ByteArray) (m : List ByteArray) : settleAll m (c ++ [x]) = (settleAll m c).set x.1 x.2 := by
 unfold settleAll; rw [List.foldl_append]; rfl
theorem flush_ready {D : Dev} (h : D.ready ≠ 0) : D.flush = (D.ready, D) := by unfold flush; rw [if_pos h]
theorem flush_burn {D : Dev} (h : D.ready = 0) (h3 : D.burn.1 ≠ 0) : D.flush = D.burn := by unfold flush; rw [if_neg (by rw [h]; simp), if_pos h3]
theorem flush_ok {D : Dev} (h : D.ready = 0) (h3 : D.burn.1 = 0) : D.flush = (0, { D.burn.2 with media := settleAll D.media D.cache, cache := [] }) := by unfold flush; rw [if_neg (by rw [h]; simp), if_neg (by simpa using h3)]
end Dev
set_option maxRecDepth 100000 in
set_option maxHeartbeats 3200000 in
theorem dFlush_any {W : World} {b : Nat} {fp : List Nat} {D : Dev} (h : IsDev W b fp D) (hc : D.cache.length < 1000000) :
  Calls Tryz.prog 156 #[.pointer (some ⟨b, 0, none⟩)] W fun e w' => e = .returned (.int .i64 (D.flush.1 : Nat)) ∧ (∃ fp', IsDev w' b fp' D.flush.2 ∧ ∀ x ∈ fp', x ∈ fp ∨ W.heap.size ≤ x) ∧ Mods fp W w' := by
 have HD := Lib.hid h
 have hbm := h.head
 have HC := Lib.hid hc
 clear h hc
 go_enter Tryz.func156, Tryz.ntmps156
 go_wp2_with fail
 refine (dReady_any HD.out).mono ?_
 rintro x w' ⟨rfl, rfl⟩
 by_cases hr : D.ready = 0
 ·have hrr := Lib.hid hr
  rw [hr]
  clear hr
  go_wp2_with fail
  refine (dBurn_any HD.out).mono ?_
  rintro x w1 ⟨rfl, hD1, hm1⟩
  have HM1 := Lib.hid hm1
  clear hm1
  by_cases hb : D.burn.1 = 0
  ·have hbb := Lib.hid hb
   rw [hb]
   clear hb
   obtain ⟨mb, bb, cv, c0, c1, c2, hin, hfp, hnd⟩ := hD1
   obtain ⟨D1, hD1e⟩ : ∃ D1, D.burn.2 = D1 := ⟨_, rfl⟩
   have HS := Lib.hid (Dev.burn_same D)
   have HE := Lib.hid hD1e
   rw [hD1e] at hin HS
   obtain ⟨A, cap, rfl, _⟩ := owns_shapeD hin.cache
   obtain ⟨n, hn⟩ : ∃ n, D1.cache.length = n := ⟨_, rfl⟩
   have hn1 : n < 1000000 := by rw [← hn, HS.out.2.2.2.2.1]; exact HC.out
   have c4 := hin.dev.cell (i := 4) rfl
   rw [hn] at c4
   have hn' : (b :: mb :: bb :: (Value.slice A D1.cache.length cap).ownBlock.toList).Nodup := hfp ▸ hnd
   simp only [List.nodup_cons, List.mem_cons, Option.mem_toList, not_or] at hn'
   obtain ⟨⟨n1, n2, n3⟩, ⟨n4, n5⟩, n6, _⟩ := hn'
   have HIN := Lib.hid hin
   have HFP := Lib.hid hfp
   have HN := Lib.hid hn
   have HNN := Lib.hid (And.intro n1 (And.intro n2 (And.intro n3 (And.intro n4 (And.intro n5 n6)))))
   clear hD1e hin hnd hfp hn n1 n2 n3 n4 n5 n6
   go_wp2_with fail
   go_loopw [6, 22] (fun _ iv wr => ∃ j : Nat, j ≤ n ∧ iv = .int .i64 j ∧ Blk wr mb 9 ((Dev.settleAll D1.media (D1.cache.take j)).map Value.string) ∧ Mods [mb] w1 wr) (fun _ iv _ => n - (intOf iv).toNat)
   case atStart => exact ⟨0, Nat.zero_le _, rfl, by simpa [Dev.settleAll] using HIN.out.media, Mods.refl _ _⟩
   case round =>
    obtain ⟨j, hj, rfl, hB, hm⟩ := hrel
    by_cases hjl : j < n
    ·obtain ⟨x, hx⟩ : ∃ x, D1.cache[j]? = some x := ⟨_, List.getElem?_eq_getElem (by rw [HN.out]; exact hjl)⟩
     obtain ⟨A2, cap2, hA2, hcells⟩ := owns_shapeD (owns_keepF HIN.out.cache hm (fun g hg => by simp; rintro rfl; exact HNN.out.2.2.2.2.1 hg))
     injection hA2 with hA2 _ hcap2
     subst hA2 hcap2
     obtain ⟨g, hg, c0'⟩ := hcells _ _ (wRow_at hx).1
     obtain ⟨_, hg', c1'⟩ := hcells _ _ (wRow_at hx).2
     subst hg
     injection hg' with hg'; injection hg' with hg'
     subst hg'
     obtain ⟨x1, x2⟩ := x
     have hx1 := HIN.out.ok.cache _ (List.mem_of_getElem? hx)
     have hlen : (Dev.settleAll D1.media (D1.cache.take j)).length = D1.sectors := by rw [Dev.settle_len]; exact HIN.out.ok.media
     obtain ⟨o, ho⟩ : ∃ o, (Dev.settleAll D1.media (D1.cache.take j))[x1]? = some o := ⟨_, List.getElem?_eq_getElem (by rw [hlen]; exact hx1.1)⟩
     have hx1' : x1 < D1.sectors := hx1.1
     have ht : D1.cache.take (j + 1) = D1.cache.take j ++ [(x1, x2)] := by rw [List.take_add_one, hx]; rfl
     have HT := Lib.hid ht
     have HB := Lib.hid hB
     have HM := Lib.hid hm
     simp only at c0' c1'
     have hd := HIN.out.dev.keep hm (by simp; exact HNN.out.1)
     obtain ⟨wa, hwa⟩ : ∃ wa, wr.alloc (.cells #[.int .i64 (x1 : Nat), .string x2] 309) = wa := ⟨_, rfl⟩
     have hma : Mods [mb] w1 wa := by rw [← hwa]; exact hm.alloc _
     have hBa : Blk wa mb 9 ((Dev.settleAll D1.media (D1.cache.take j)).map Value.string) := by rw [← hwa]; exact hB.alloc _
     have hNa : Blk wa wr.heap.size 309 [.int .i64 (x1 : Nat), .string x2] := by rw [← hwa]; exact Blk.new wr 309 _
     have d2 := ((HIN.out.dev.keep hma (by simp; exact HNN.out.1)).cell (i := 2) rfl)
     have t0 := hBa.cell (i := x1) (v := .string o) (by rw [List.getElem?_map, ho]; rfl)
     have t1 := hBa.free x1
     have a0 := hNa.cell (i := 0) rfl
     have a1 := hNa.cell (i := 1) rfl
     have HBa := Lib.hid hBa
     have HMa := Lib.hid hma
     have hwa' := Lib.hid hwa
     clear hB hm hx ht ho hlen hcells hx1 hd hwa hma hBa hNa HB HM
     go_wp2_with fail
     rw [hwa'.out]
     clear c0' c1' hwa'
     go_region
     obtain ⟨wb, hwb⟩ : ∃ wb, (wa.setCell ⟨mb, x1, none⟩ (.string x2)).drew = wb := ⟨_, rfl⟩
     have HR : Hid (Blk wb mb 9 ((Dev.settleAll D1.media (D1.cache.take (j + 1))).map Value.string) ∧ Mods [mb] w1 wb) := by
      rw [← hwb, HT.out, Dev.settle_snoc, List.map_set]
      exact ⟨(HBa.out.set x1 _).drewN 1, (HMa.out.setCell (.inl (by simp)) _).drewN 1⟩
     rw [hwb]
     clear hwb HBa HMa HT d2 t0 t1 a0 a1
     go_wp2_with fail
     go_roundw
     case rel => exact ⟨j + 1, by omega, by simp, HR.out.1, HR.out.2⟩
     case measure => simp [intOf]; omega
    ·obtain rfl : j = n := by omega
     rw [List.take_of_length_le (Nat.le_of_eq HN.out)] at hB
     have HB := Lib.hid hB
     have HM := Lib.hid hm
     have hd := HIN.out.dev.keep hm (by simp; exact HNN.out.1)
     have f4 := hd.free 4
     have d4 := hd.cell (i := 4) rfl
     have d13 := hd.cell (i := 13) rfl
     have f13 := hd.free 13
     have HDD := Lib.hid hd
     clear hB hm hd c4
     go_wp2_with fail
     go_region
     go_wp2_with fail
     go_ret
     obtain ⟨c2', hc2'⟩ : ∃ y, wrap64 (c2 + 1) = y := ⟨_, rfl⟩
     rw [hc2']
     obtain ⟨w9, hw9⟩ : ∃ w9, ((wr.setCell ⟨b, 4, none⟩ (.slice none 0 0)).setCell ⟨b, 13, none⟩ (.int .i64 c2')).drew = w9 := ⟨_, rfl⟩
     have hm9 : Mods [b] wr w9 := by rw [← hw9]; exact (((Mods.refl _ _).setCell (.inl (by simp)) _).setCell (.inl (by simp)) _).drewN 1
     have hB9 : Blk w9 b 106 (devCells { D1 with media := Dev.settleAll D1.media D1.cache, cache := [] } mb bb (.slice none 0 0) c0 c1 c2') := by rw [← hw9]; exact ((HDD.out.set 4 _).set 13 _).drewN 1
     rw [hw9, Dev.flush_ok hrr.out hbb.out, HE.out, ← HS.out.2.2.1, ← HS.out.2.2.2.2.1]
     obtain ⟨n1, n2, n3, n4, n5, n6⟩ := HNN.out
     refine ⟨rfl, ⟨[b, mb, bb], ⟨mb, bb, .slice none 0 0, c0, c1, c2', ⟨⟨?_, HIN.out.ok.bad, HIN.out.ok.sec, HIN.out.ok.size0, HIN.out.ok.size1, ?_, ?_⟩, HIN.out.fuse, HIN.out.lose, HIN.out.stray, hB9, ?_, ?_, ?_⟩, rfl, ?_⟩, ?_⟩, ?_⟩
     ·show (Dev.settleAll D1.media D1.cache).length = _
      rw [Dev.settle_len]; exact HIN.out.ok.media
     ·exact Dev.settle_each _ _ HIN.out.ok.each (fun x hx => (HIN.out.ok.cache x hx).2)
     ·intro x hx; cases hx
     ·exact HB.out.keep hm9 (by simp; exact fun e => n1 e.symm)
     ·exact (HIN.out.bad.keep HM.out (by simp; exact fun e => n4 e.symm)).keep hm9 (by simp; exact fun e => n2 e.symm)
     ·exact World.ownsRow_nil _ _ _ _
     ·simp [n1, n2, n4]
     ·intro x hx
      rw [HFP.out]
      simp only [List.mem_cons, List.not_mem_nil, or_false] at hx ⊢
      rcases hx with hx | hx | hx <;> simp [hx]
     ·have h1 : Mods [b, mb] W w9 := ((HM1.out.mono (by simp)).trans (HM.out.mono (L1 := [b, mb]) (by simp)) (fun q hq => .inl hq)).trans (hm9.mono (L1 := [b, mb]) (by simp)) (fun q hq => .inl hq)
      exact h1.mono (fun q hq => by rw [HFP.out]; simp at hq ⊢; rcases hq with hq | hq <;> simp [hq])
  ·have hbb := Lib.hid hb
   go_wp2_with fail
   go_ret
   rw [Dev.flush_burn hrr.out hbb.out]
   exact ⟨rfl, ⟨fp, hD1, fun x hx => .inl hx⟩, HM1.out.mono (by simpa using hbm)⟩
 ·have hrr := Lib.hid hr
  go_wp2_with fail
  go_ret
  rw [Dev.flush_ready hrr.out]
  exact ⟨rfl, ⟨fp, HD.out, fun x hx => .inl hx⟩, Mods.refl _ _⟩
end Go.Proofs.YtkjpdfomppjiiaaGreatDoor
/- slices.Backward over a device's cache: the iterator's contract. -/
namespace Go.Proofs.YtkjpdfomppjiiaaGreatDoor
open Go.RowKit Go.Shelf

attribute [local go_sem] Oper.semAt_some

def bw {α : Type} (c : List α) (d : α) (k : Nat) : List (Nat × α) := (List.range k).map fun j => (c.length - 1 - j, c[c.length - 1 - j]?.getD d)
theorem bw_succ {α : Type} (c : List α) (d : α) (k : Nat) : bw c d (k + 1) = bw c d k ++ [(c.length - 1 - k, c[c.length - 1 - k]?.getD d)] := by simp [bw, List.range_succ]
theorem bw_length {α : Type} (c : List α) (d : α) (k : Nat) : (bw c d k).length = k := by simp [bw]
abbrev W0 : Nat × ByteArray := (0, ⟨#[]⟩)
def WRows (n₀ : Nat) (W : World) (sv : Value) (c : List (Nat × ByteArray)) : Prop :=
 (sv = .slice none 0 0 ∧ c = []) ∨ ∃ g cap, sv = .slice (some ⟨g, 0, none⟩) c.length cap ∧ g < n₀ ∧ ∀ j x, c[j]? = some x → W.cell? ⟨g, j * 2, none⟩ = some (.int .i64 (x.1 : Nat)) ∧ W.cell? ⟨g, j * 2 + 1, none⟩ = some (.string x.2)
theorem WRows.below {n₀ : Nat} {A B : World} (h : Below n₀ A B) {sv : Value} {c : List (Nat × ByteArray)} : WRows n₀ A sv c → WRows n₀ B sv c
 | .inl e => .inl e
 | .inr ⟨g, cap, e, hg, hc⟩ => .inr ⟨g, cap, e, hg, fun j x hj => ⟨(h.cell (p := ⟨g, j * 2, none⟩) hg).trans (hc j x hj).1, (h.cell (p := ⟨g, j * 2 + 1, none⟩) hg).trans (hc j x hj).2⟩⟩
abbrev encW (x : Nat × (Nat × ByteArray)) : Array Value := #[.int .i64 (x.1 : Nat), .agg #[.int .i64 (x.2.1 : Nat), .string x.2.2]]

set_option maxRecDepth 100000 in
set_option maxHeartbeats 2000000 in
theorem backW1_in (F : Fence) (n : Nat) (h8 : F.fn 228) (hro : F.round = none) (hn : 1 ≤ n) (l Bs n₀ g cap : Nat) (c : List (Nat × ByteArray)) (len : Nat) (hlen : c.length = len) (hsm : len < 1000000) (hg : g < n₀) (J Jx : List (Nat × (Nat × ByteArray)) → World → Prop)
  (hY : ∀ pre x W, J pre W → pre.length < len → YieldAt F (n - 1) Tryz.prog l (encW x) W fun e W' =>
   (e = .returned (.bool true) ∧ J (pre ++ [x]) W' ∧ Below n₀ W W') ∨ (e = .returned (.bool false) ∧ Jx (pre ++ [x]) W'))
  (W : World) (hb : Bs < n₀) (hBs : W.cell? ⟨Bs, 0, none⟩ = some (.slice (some ⟨g, 0, none⟩) len cap)) (hc : ∀ j x, c[j]? = some x → W.cell? ⟨g, j * 2, none⟩ = some (.int .i64 (x.1 : Nat)) ∧ W.cell? ⟨g, j * 2 + 1, none⟩ = some (.string x.2)) (h0 : J [] W) :
  CallsIn F n Tryz.prog 228 #[.func (.yield l) #[] #[], .pointer (some ⟨Bs, 0, none⟩)] W fun e W' => (∃ v, e = .returned v) ∧
   ((∃ ys, ys = bw c W0 len ∧ J ys W') ∨ (∃ pre, (∃ k, k ≤ len ∧ pre = bw c W0 k) ∧ Jx pre W')) := by
 have HC := Lib.hid hc
 have HL := Lib.hid hlen
 clear hc hlen
 have hwl : IntKind.i64.wrap ((len : Int) - 1) = (len : Int) - 1 := by rw [IntKind.wrap_i64]; omega
 refine callsIn_of_wp Tryz.func228 rfl h8 ?_ hro
 simp only [Tryz.ntmps228, List.size_toArray, List.length_cons, List.length_nil, Nat.reduceAdd, Nat.reduceSub, Array.replicate_succ, Array.replicate_zero, List.push_toArray, List.append_toArray, List.nil_append, List.cons_append]
 gi_wp2
 gi_loopw [3] (fun i wr => ∃ k : Nat, k ≤ len ∧ i = .int .i64 ((len : Int) - 1 - k) ∧ J (bw c W0 k) wr ∧ Below n₀ W wr)
  (fun i _ => (intOf i + 1).toNat)
 case atStart => exact ⟨0, Nat.zero_le _, by simp, h0, Below.refl _ _⟩
 case round =>
  obtain ⟨k, hk, rfl, hJs, hnx⟩ := hrel
  by_cases hlt : k < len
  ·obtain ⟨q, hq⟩ : ∃ q : Nat, (len : Int) - 1 - k = (q : Int) := ⟨len - 1 - k, by omega⟩
   have hq2 : len - 1 - k = q := by omega
   obtain ⟨x, hx⟩ : ∃ x, c[q]? = some x := ⟨_, List.getElem?_eq_getElem (by rw [HL.out]; omega)⟩
   have hb1 := (hnx.cell (p := ⟨Bs, 0, none⟩) hb).trans hBs
   have hc0 := (hnx.cell (p := ⟨g, q * 2, none⟩) hg).trans (HC.out q x hx).1
   have hc1 := (hnx.cell (p := ⟨g, q * 2 + 1, none⟩) hg).trans (HC.out q x hx).2
   have hbs : bw c W0 (k + 1) = bw c W0 k ++ [(q, x)] := by rw [bw_succ, HL.out, hq2, hx]; rfl
   have hw2 : IntKind.i64.wrap ((q : Int) - 1) = (q : Int) - 1 := by rw [IntKind.wrap_i64]; omega
   have hql : q < len := by omega
   have HBS := Lib.hid hbs
   have HQ := Lib.hid (And.intro hq hq2)
   obtain ⟨fn, tmps, assign, body, hy, hR⟩ := hY _ (q, x) wr hJs (by rw [bw_length]; exact hlt)
   rw [hq]
   clear hbs hq hq2 hx
   dsimp only [encW] at hy
   gi_wp2
   refine hR.mono ?_
   rintro e W3 (⟨rfl, hJ3, hk3⟩ | ⟨rfl, hJx3⟩)
   ·gi_wp2
    go_roundw
    case rel => exact ⟨k + 1, by omega, by have := HQ.out.1; simp; omega, by rw [HBS.out]; exact hJ3, hnx.trans hk3⟩
    case measure => simp [intOf]
   ·gi_wp2
    refine bodyPost_ret (results_none rfl _ _ _) rfl ?_
    exact ⟨⟨_, rfl⟩, .inr ⟨_, ⟨k + 1, by omega, HBS.out.symm⟩, hJx3⟩⟩
  ·obtain rfl : k = len := by omega
   have hm1 : (k : Int) - 1 - k = -1 := by omega
   rw [hm1]
   gi_wp2
   go_end0
   exact ⟨⟨_, rfl⟩, .inl ⟨_, rfl, hJs⟩⟩
set_option maxRecDepth 100000 in
set_option maxHeartbeats 1000000 in
theorem backW1_nil_in (F : Fence) (n : Nat) (h8 : F.fn 228) (hro : F.round = none) (l Bs : Nat) (J : List (Nat × (Nat × ByteArray)) → World → Prop) (W : World) (hBs : W.cell? ⟨Bs, 0, none⟩ = some (.slice none 0 0)) (h0 : J [] W) :
  CallsIn F n Tryz.prog 228 #[.func (.yield l) #[] #[], .pointer (some ⟨Bs, 0, none⟩)] W fun e W' => (∃ v, e = .returned v) ∧ J [] W' := by
 refine callsIn_of_wp Tryz.func228 rfl h8 ?_ hro
 simp only [Tryz.ntmps228, List.size_toArray, List.length_cons, List.length_nil, Nat.reduceAdd, Nat.reduceSub, Array.replicate_succ, Array.replicate_zero, List.push_toArray, List.append_toArray, List.nil_append, List.cons_append]
 gi_wp2
 gi_loopw [3] (fun i wr => i = .int .i64 (-1) ∧ J [] wr) (fun _ _ => 0)
 case atStart => exact ⟨rfl, h0⟩
 case round =>
  obtain ⟨rfl, hJs⟩ := hrel
  gi_wp2
  go_end0
  exact ⟨⟨_, rfl⟩, hJs⟩
set_option maxHeartbeats 1000000 in
theorem backW_in (F : Fence) (n : Nat) (h6 : F.fn 186) (hro : F.round = none) (a : Option Addr) (len cap : Nat) (w : World) :
  CallsIn F n Tryz.prog 186 #[.slice a len cap] w fun e w' => e = .returned (.func (.func 228) #[] #[.pointer (some ⟨w.heap.size, 0, none⟩)]) ∧ w' = w.alloc (.cells #[.slice a len cap] 103) := by
 refine callsIn_of_wp Tryz.func186 rfl h6 ?_ hro
 simp only [Tryz.ntmps186, List.size_toArray, List.length_cons, List.length_nil, Nat.reduceAdd, Nat.reduceSub, Array.replicate_succ, Array.replicate_zero, List.push_toArray, List.append_toArray, List.nil_append, List.cons_append]
 gi_wp2
 go_ret
 exact ⟨rfl, rfl⟩
theorem backW_stops (F : Fence) (n : Nat) (h8 : F.fn 228) (hro : F.round = none) (hn : 1 ≤ n) (Bs n₀ : Nat) (sv : Value) (c : List (Nat × ByteArray)) (hsm : c.length < 1000000) (w : World) (hb : Bs < n₀) (hn₀ : n₀ ≤ w.heap.size)
  (hc : w.cell? ⟨Bs, 0, none⟩ = some sv) (hI : WRows n₀ w sv c) :
  SeqStopsK F n Tryz.prog 228 #[.pointer (some ⟨Bs, 0, none⟩)] encW (Below n₀) (fun ys => ys = bw c W0 c.length) (fun pre => ∃ k, k ≤ c.length ∧ pre = bw c W0 k) c.length w := fun l J Jx W hW _ _ hY h0 => by
 have hc' := (hW.cell (p := ⟨Bs, 0, none⟩) (by show Bs < _; omega)).trans hc
 rcases hI.below (hW.mono hn₀) with ⟨rfl, rfl⟩ | ⟨g, cap, rfl, hg, hcs⟩
 ·exact (backW1_nil_in F n h8 hro l Bs J W hc' h0).mono fun e W' ⟨he, hj⟩ => ⟨he, .inl ⟨_, rfl, hj⟩⟩
 ·exact backW1_in F n h8 hro hn l Bs n₀ g cap c c.length rfl hsm hg J Jx hY W hb hc' hcs h0
end Go.Proofs.YtkjpdfomppjiiaaGreatDoor
/- A device's Read. -/
namespace Go.Proofs.YtkjpdfomppjiiaaGreatDoor
open Go.RowKit Go.Shelf

attribute [local go_sem] Oper.semAt_some

namespace Dev
theorem read_ready {D : Dev} {i : Int} (h : D.ready ≠ 0) : D.read i = (⟨#[]⟩, D.ready) := by unfold read; rw [if_pos h]
theorem read_is {D : Dev} {i : Int} (h : D.ready = 0) (h1 : D.isS i = false) : D.read i = (⟨#[]⟩, 3) := by unfold read; rw [if_neg (by rw [h]; simp), if_pos h1]
theorem read_bad {D : Dev} {i : Int} (h : D.ready = 0) (h1 : D.isS i = true) (h2 : D.bad.getD i.toNat false = true) : D.read i = (⟨#[]⟩, 7) := by unfold read; rw [if_neg (by rw [h]; simp), if_neg (by rw [h1]; simp), if_pos h2]
theorem read_ok {D : Dev} {i : Int} (h : D.ready = 0) (h1 : D.isS i = true) (h2 : D.bad.getD i.toNat false = false) : D.read i = (D.cur i.toNat, 0) := by unfold read; rw [if_neg (by rw [h]; simp), if_neg (by rw [h1]; simp), if_neg (by rw [h2]; simp)]
end Dev
theorem results_cc {fn : Func} {p q : Tmp} {ty ty2 : TypeId} (h : fn.results = #[.cell p ty, .cell q ty2]) {tmps : Array Value} {P : Program} {w : World} {ad ad2 : Addr} {v v2 : Value} (hp : tmps.getD p undef = .pointer (some ad)) (hq : tmps.getD q undef = .pointer (some ad2)) (hl : (loadVar ty ad).run P w = .ok v w) (hl2 : (loadVar ty2 ad2).run P w = .ok v2 w) :
  (results fn tmps).run P w = .ok (.tuple #[v, v2]) w := by
 have e : (results fn tmps).run P w = ((asAddr (tmps.getD p undef)).run P w).andThen fun ad w1 => ((loadVar ty ad).run P w1).andThen fun v w2 => ((asAddr (tmps.getD q undef)).run P w2).andThen fun ad2 w3 => ((loadVar ty2 ad2).run P w3).andThen fun v2 w4 => .ok (.tuple #[v, v2]) w4 := by
  simp only [results, h]
  simp [Sem.run_bind, Result.andThen]
 rw [e, hp, hq]
 simp only [asAddr, Sem.run_pure, Result.andThen_ok, hl, hl2]
theorem load_str1 {w : World} {r : Nat} {v : ByteArray} (h : w.cell? ⟨r, 0, none⟩ = some (.string v)) : (loadVar 9 ⟨r, 0, none⟩).run Tryz.prog w = .ok (.string v) w := by go_simp
theorem load_err1 {w : World} {r : Nat} {x : Int} (h : w.cell? ⟨r, 0, none⟩ = some (.int .i64 x)) : (loadVar 28 ⟨r, 0, none⟩).run Tryz.prog w = .ok (.int .i64 x) w := by go_simp
theorem two_sets {w : World} {r q : Nat} {t u : TypeId} {a c : Value} (h1 : Blk w r t [a]) (h2 : Blk w q u [c]) (hne : r ≠ q) (x y : Value) :
  ((w.setCell ⟨r, 0, none⟩ x).setCell ⟨q, 0, none⟩ y).cell? ⟨r, 0, none⟩ = some x ∧ ((w.setCell ⟨r, 0, none⟩ x).setCell ⟨q, 0, none⟩ y).cell? ⟨q, 0, none⟩ = some y :=
 ⟨((h1.set 0 x).setOther (p := ⟨q, 0, none⟩) hne y).cell (i := 0) rfl, ((h2.setOther (p := ⟨r, 0, none⟩) hne.symm x).set 0 y).cell (i := 0) rfl⟩
set_option maxRecDepth 100000 in
set_option maxHeartbeats 1600000 in
theorem dRead_early {W : World} {b : Nat} {fp : List Nat} {D : Dev} (h : IsDev W b fp D) (i : Int) (hE : D.ready ≠ 0 ∨ D.isS i = false ∨ D.bad.getD i.toNat false = true) :
  Calls Tryz.prog 135 #[.pointer (some ⟨b, 0, none⟩), .int .i64 i] W fun e w' => e = .returned (.tuple #[.string (D.read i).1, .int .i64 ((D.read i).2 : Nat)]) ∧ Mods [] W w' := by
 have HD := Lib.hid h
 have hE' := Lib.hid hE
 clear h hE
 go_enter Tryz.func135, Tryz.ntmps135
 go_wp2_with fail
 obtain ⟨w1, hw1⟩ : ∃ w1, ((W.alloc (.cells #[.int .i64 i] 3)).alloc (.cells #[.string ⟨#[]⟩] 9)).alloc (.cells #[.int .i64 0] 28) = w1 := ⟨_, rfl⟩
 have hm1 : Mods [] W w1 := by rw [← hw1]; exact (((Mods.refl _ _).alloc _).alloc _).alloc _
 have hb0 : Blk w1 W.heap.size 3 [.int .i64 i] := by rw [← hw1]; exact ((Blk.new W 3 [.int .i64 i]).alloc _).alloc _
 have hb1 : Blk w1 (W.heap.size + 1) 9 [.string ⟨#[]⟩] := by
  have h := (Blk.new (W.alloc (.cells #[.int .i64 i] 3)) 9 [.string ⟨#[]⟩]).alloc (.cells #[.int .i64 0] 28)
  have e : (W.alloc (.cells #[.int .i64 i] 3)).heap.size = W.heap.size + 1 := by simp
  rw [e] at h
  rw [← hw1]; exact h
 have hb2 : Blk w1 (W.heap.size + 2) 28 [.int .i64 0] := by
  have h := Blk.new ((W.alloc (.cells #[.int .i64 i] 3)).alloc (.cells #[.string ⟨#[]⟩] 9)) 28 [.int .i64 0]
  have e : ((W.alloc (.cells #[.int .i64 i] 3)).alloc (.cells #[.string ⟨#[]⟩] 9)).heap.size = W.heap.size + 2 := by simp
  rw [e] at h
  rw [← hw1]; exact h
 have HD1 := Lib.hid (HD.out.keep hm1 (by simp))
 have q0 := hb0.cell (i := 0) rfl
 have q1 := hb1.cell (i := 0) rfl
 have q2 := hb2.cell (i := 0) rfl
 have f1 := hb1.free 0
 have f2 := hb2.free 0
 have HM1 := Lib.hid hm1
 have HB1 := Lib.hid hb1
 have HB2 := Lib.hid hb2
 rw [hw1]
 clear hw1 hm1 hb0 hb1 hb2
 refine (dReady_any HD1.out).mono ?_
 rintro x w' ⟨rfl, rfl⟩
 by_cases hr : D.ready = 0
 ·have hrr := Lib.hid hr
  rw [hr]
  clear hr
  go_wp2_with fail
  refine (dIs_any HD1.out i).mono ?_
  rintro x w' ⟨rfl, rfl⟩
  cases his : D.isS i with
  | false =>
   have hi' := Lib.hid his
   clear his
   go_wp2_with fail
   obtain ⟨k1, k2⟩ := two_sets HB1.out HB2.out (by omega) (.string ⟨#[]⟩) (.int .i64 3)
   refine bodyPost_ret (results_cc rfl rfl rfl (load_str1 k1) (load_err1 k2)) rfl ?_
   rw [Dev.read_is hrr.out hi'.out]
   exact ⟨rfl, (HM1.out.setCell (.inr (show W.heap.size ≤ W.heap.size + 1 by omega)) _).setCell (.inr (show W.heap.size ≤ W.heap.size + 2 by omega)) _⟩
  | true =>
   obtain ⟨k, rfl, hk⟩ := Dev.isS_nat his
   have hi' := Lib.hid his
   have hbd : D.bad.getD k false = true := by
    rcases hE'.out with h | h | h
    ·exact absurd hrr.out h
    ·rw [his] at h; cases h
    ·exact h
   obtain ⟨mb, bb, cv, c0, c1, c2, hin, _⟩ := HD1.out
   have d3 := hin.dev.cell (i := 3) rfl
   have e3 := hin.bad.cell (i := k) (v := .bool true) (by
    have hl : k < D.bad.length := by rw [hin.ok.bad]; exact hk
    rw [List.getElem?_map, List.getElem?_eq_getElem hl]
    rw [List.getD_eq_getElem?_getD, List.getElem?_eq_getElem hl] at hbd
    simpa using hbd)
   have HBD := Lib.hid hbd
   clear his hin hbd
   go_wp2_with fail
   go_quiet (fail)
   obtain ⟨wq, hwq⟩ : ∃ wq, w1.drewN nq = wq := ⟨_, rfl⟩
   have q1' : wq.cell? ⟨W.heap.size + 1, 0, none⟩ = some (.string ⟨#[]⟩) := by rw [← hwq]; exact q1
   have q2' : wq.cell? ⟨W.heap.size + 2, 0, none⟩ = some (.int .i64 0) := by rw [← hwq]; exact q2
   have f1' : wq.frozen? ⟨W.heap.size + 1, 0, none⟩ = false := by rw [← hwq]; exact f1
   have f2' : wq.frozen? ⟨W.heap.size + 2, 0, none⟩ = false := by rw [← hwq]; exact f2
   have HBq1 : Hid (Blk wq (W.heap.size + 1) 9 [.string ⟨#[]⟩]) := by rw [← hwq]; exact HB1.out
   have HBq2 : Hid (Blk wq (W.heap.size + 2) 28 [.int .i64 0]) := by rw [← hwq]; exact HB2.out
   replace HM1 := Lib.hid (HM1.out.drewN nq)
   rw [hwq] at HM1 ⊢
   clear q0 q1 q2 f1 f2 d3 e3
   go_wp2_with fail
   obtain ⟨k1, k2⟩ := two_sets HBq1.out HBq2.out (by omega) (.string ⟨#[]⟩) (.int .i64 7)
   refine bodyPost_ret (results_cc rfl rfl rfl (load_str1 k1) (load_err1 k2)) rfl ?_
   rw [Dev.read_bad hrr.out hi'.out HBD.out]
   exact ⟨rfl, (HM1.out.setCell (.inr (show W.heap.size ≤ W.heap.size + 1 by omega)) _).setCell (.inr (show W.heap.size ≤ W.heap.size + 2 by omega)) _⟩
 ·have hrr := Lib.hid hr
  obtain ⟨e0, he0⟩ : ∃ e0, D.ready = e0 := ⟨_, rfl⟩
  have HR0 := Lib.hid he0
  rw [he0] at hr ⊢
  clear he0
  go_wp2_with fail
  obtain ⟨k1, k2⟩ := two_sets HB1.out HB2.out (by omega) (.string ⟨#[]⟩) (.int .i64 (e0 : Nat))
  refine bodyPost_ret (results_cc rfl rfl rfl (load_str1 k1) (load_err1 k2)) rfl ?_
  rw [Dev.read_ready hrr.out, HR0.out]
  exact ⟨rfl, (HM1.out.setCell (.inr (show W.heap.size ≤ W.heap.size + 1 by omega)) _).setCell (.inr (show W.heap.size ≤ W.heap.size + 2 by omega)) _⟩
theorem bw_snd {α : Type} (c : List α) (d : α) {k : Nat} (hk : k ≤ c.length) : (bw c d k).map (·.2) = c.reverse.take k := by
 apply List.ext_getElem
 ·simp [bw, hk]
 ·intro i h1 h2
  have hi : i < k := by simpa [bw] using h1
  have hc : c.length - 1 - i < c.length := by omega
  simp [bw, hc]
theorem late_none {c : List (Nat × ByteArray)} {k : Nat} (h : ∀ p ∈ bw c W0 c.length, p.2.1 ≠ k) : Dev.late c k = none := by
 have hs := bw_snd c W0 (Nat.le_refl c.length)
 rw [List.take_of_length_le (by simp)] at hs
 unfold Dev.late
 rw [← hs, List.find?_eq_none.2]
 ·rfl
 ·intro x hx
  obtain ⟨p, hp, rfl⟩ := List.mem_map.1 hx
  simpa using h p hp
theorem late_stop {c : List (Nat × ByteArray)} {k kk : Nat} (hk : kk ≤ c.length) {ini : List (Nat × (Nat × ByteArray))} {last : Nat × (Nat × ByteArray)} (e : bw c W0 kk = ini ++ [last]) (h : ∀ p ∈ ini, p.2.1 ≠ k) (hl : last.2.1 = k) : Dev.late c k = some last.2.2 := by
 have hs := bw_snd c W0 hk
 rw [e, List.map_append, List.map_singleton] at hs
 unfold Dev.late
 rw [← List.take_append_drop kk c.reverse, ← hs, List.find?_append, List.find?_append, List.find?_eq_none.2]
 ·simp [hl]
 ·intro x hx
  obtain ⟨p, hp, rfl⟩ := List.mem_map.1 hx
  simpa using h p hp
theorem below_mods {n₀ : Nat} {w w1 : World} (h : Below n₀ w w1) : Mods ((List.range w.heap.size).filter fun x => decide (n₀ ≤ x)) w w1 :=
 ⟨h.os, h.tape, h.output, h.size, fun k hk hn => h.block k (by
  rcases Nat.lt_or_ge k n₀ with h1 | h1
  ·exact h1
  ·exact absurd (List.mem_filter.2 ⟨List.mem_range.2 hk, by simpa using h1⟩) hn)⟩
set_option maxRecDepth 100000 in
set_option maxHeartbeats 3200000 in
theorem dRead_last {W : World} {b : Nat} {fp : List Nat} {D : Dev} (h : IsDev W b fp D) (hc : D.cache.length < 1000000) (k : Nat) (hk : k < D.sectors) (h0 : D.ready = 0) (hbd : D.bad.getD k false = false) :
  Calls Tryz.prog 135 #[.pointer (some ⟨b, 0, none⟩), .int .i64 (k : Nat)] W fun e w' => e = .returned (.tuple #[.string (D.cur k), .int .i64 0]) ∧ IsDev w' b fp D ∧ Mods [b] W w' := by
 have HD := Lib.hid h
 have HH := Lib.hid (And.intro h0 (And.intro hbd hc))
 have hisS := Lib.hid (show D.isS (k : Int) = true by unfold Dev.isS; simp; omega)
 clear h h0 hbd hc
 refine (callsIn_wide (n := 6)).1 ?_
 refine callsIn_of_wp_marks Tryz.func135 rfl trivial ?_ rfl
 simp only [Tryz.ntmps135, List.size_toArray, List.length_cons, List.length_nil, Nat.reduceAdd, Nat.reduceSub, Array.replicate_succ, Array.replicate_zero, List.push_toArray, List.append_toArray, List.nil_append, List.cons_append]
 refine wpIn_wide.2 ?_
 go_wp2_with fail
 obtain ⟨w1, hw1⟩ : ∃ w1, ((W.alloc (.cells #[.int .i64 (k : Nat)] 3)).alloc (.cells #[.string ⟨#[]⟩] 9)).alloc (.cells #[.int .i64 0] 28) = w1 := ⟨_, rfl⟩
 have hm1 : Mods [] W w1 := by rw [← hw1]; exact (((Mods.refl _ _).alloc _).alloc _).alloc _
 have hb0 : Blk w1 W.heap.size 3 [.int .i64 (k : Nat)] := by rw [← hw1]; exact ((Blk.new W 3 [.int .i64 (k : Nat)]).alloc _).alloc _
 have hb1 : Blk w1 (W.heap.size + 1) 9 [.string ⟨#[]⟩] := by
  have h := (Blk.new (W.alloc (.cells #[.int .i64 (k : Nat)] 3)) 9 [.string ⟨#[]⟩]).alloc (.cells #[.int .i64 0] 28)
  have e : (W.alloc (.cells #[.int .i64 (k : Nat)] 3)).heap.size = W.heap.size + 1 := by simp
  rw [e] at h
  rw [← hw1]; exact h
 have hb2 : Blk w1 (W.heap.size + 2) 28 [.int .i64 0] := by
  have h := Blk.new ((W.alloc (.cells #[.int .i64 (k : Nat)] 3)).alloc (.cells #[.string ⟨#[]⟩] 9)) 28 [.int .i64 0]
  have e : ((W.alloc (.cells #[.int .i64 (k : Nat)] 3)).alloc (.cells #[.string ⟨#[]⟩] 9)).heap.size = W.heap.size + 2 := by simp
  rw [e] at h
  rw [← hw1]; exact h
 have HD1 := Lib.hid (HD.out.keep hm1 (by simp))
 have q0 := hb0.cell (i := 0) rfl
 have q1 := hb1.cell (i := 0) rfl
 have q2 := hb2.cell (i := 0) rfl
 have f1 := hb1.free 0
 have f2 := hb2.free 0
 have HM1 := Lib.hid hm1
 have HB0 := Lib.hid hb0
 have HB1 := Lib.hid hb1
 have HB2 := Lib.hid hb2
 rw [hw1]
 clear hw1 hm1 hb0 hb1 hb2
 refine (dReady_any HD1.out).mono ?_
 rintro x w' ⟨rfl, rfl⟩
 rw [HH.out.1]
 go_wp2_with fail
 refine (dIs_any HD1.out (k : Int)).mono ?_
 rintro x w' ⟨rfl, rfl⟩
 rw [hisS.out]
 obtain ⟨mb, bb, cv, c0, c1, c2, hin, hfp, hnd⟩ := HD1.out
 have d3 := hin.dev.cell (i := 3) rfl
 have e3 := hin.bad.cell (i := k) (v := .bool false) (by
  have hl : k < D.bad.length := by rw [hin.ok.bad]; exact hk
  have hbd := HH.out.2.1
  rw [List.getElem?_map, List.getElem?_eq_getElem hl]
  rw [List.getD_eq_getElem?_getD, List.getElem?_eq_getElem hl] at hbd
  simpa using hbd)
 have HIN := Lib.hid hin
 have HFP := Lib.hid (And.intro hfp hnd)
 clear hin hfp hnd
 go_wp2_with fail
 go_quiet (fail)
 obtain ⟨wq, hwq⟩ : ∃ wq, w1.drewN nq = wq := ⟨_, rfl⟩
 have HBq0 : Hid (Blk wq W.heap.size 3 [.int .i64 (k : Nat)]) := by rw [← hwq]; exact HB0.out
 have HBq1 : Hid (Blk wq (W.heap.size + 1) 9 [.string ⟨#[]⟩]) := by rw [← hwq]; exact HB1.out
 have HBq2 : Hid (Blk wq (W.heap.size + 2) 28 [.int .i64 0]) := by rw [← hwq]; exact HB2.out
 have HINq : Hid (DevIn wq b mb bb cv c0 c1 c2 D) := by rw [← hwq]; exact ⟨HIN.out.ok, HIN.out.fuse, HIN.out.lose, HIN.out.stray, HIN.out.dev, HIN.out.media, HIN.out.bad, owns_keepF HIN.out.cache ((Mods.refl [] w1).drewN nq) (by simp)⟩
 replace HM1 := Lib.hid (HM1.out.drewN nq)
 rw [hwq] at HM1 ⊢
 clear q0 q1 q2 f1 f2 d3 e3 HB0 HB1 HB2 HIN HD1 hwq
 have d11 := HINq.out.dev.cell (i := 11) rfl
 have f11 := HINq.out.dev.free 11
 go_wp2_with fail
 go_region
 obtain ⟨c0', hc0'⟩ : ∃ y, wrap64 (c0 + 1) = y := ⟨_, rfl⟩
 rw [hc0']
 obtain ⟨w2, hw2⟩ : ∃ w2, (wq.setCell ⟨b, 11, none⟩ (.int .i64 c0')).drew = w2 := ⟨_, rfl⟩
 have hm2 : Mods [b] wq w2 := by rw [← hw2]; exact ((Mods.refl _ _).setCell (.inl (by simp)) _).drewN 1
 have hbW : b < W.heap.size := HD.out.lt _ HD.out.head
 have hn' : (b :: mb :: bb :: cv.ownBlock.toList).Nodup := HFP.out.1 ▸ HFP.out.2
 have HIN2 := Lib.hid (HINq.out.turn hn' hm2 (by rw [← hw2]; exact (HINq.out.dev.set 11 _).drewN 1) HINq.out.ok HINq.out.fuse HINq.out.lose HINq.out.stray rfl rfl rfl)
 replace HBq0 := Lib.hid (HBq0.out.keep hm2 (by simp; omega))
 replace HBq1 := Lib.hid (HBq1.out.keep hm2 (by simp; omega))
 replace HBq2 := Lib.hid (HBq2.out.keep hm2 (by simp; omega))
 have HM2 : Hid (Mods [b] W w2) := (HM1.out.mono (by simp)).trans hm2 (fun q hq => .inl hq)
 rw [hw2]
 clear hw2 hm2 hn' HINq HM1 hc0' d11 f11
 obtain ⟨A, cap, rfl, hcells⟩ := owns_shapeD HIN2.out.cache
 obtain ⟨n, hn⟩ : ∃ n, D.cache.length = n := ⟨_, rfl⟩
 have d4 := HIN2.out.dev.cell (i := 4) rfl
 rw [hn] at d4
 have HN := Lib.hid hn
 have HCE := Lib.hid hcells
 clear hn hcells
 go_wp2_with fail
 refine (callsIn_wide.1 (backW_in Fence.wide 6 trivial rfl A n cap w2)).mono ?_
 rintro x w' ⟨rfl, rfl⟩
 go_wp2_with fail
 obtain ⟨wl, hwl⟩ : ∃ wl, w2.alloc (.cells #[.slice A n cap] 103) = wl := ⟨_, rfl⟩
 have hml : Mods [] w2 wl := by rw [← hwl]; exact (Mods.refl _ _).alloc _
 have hbs : Blk wl w2.heap.size 103 [.slice A n cap] := by rw [← hwl]; exact Blk.new w2 103 _
 have hsl : W.heap.size + 3 ≤ wl.heap.size := by have := HBq2.out.lt; have := hml.size; omega
 have hbsl := hbs.lt
 have HINl := Lib.hid (show IsDev wl b fp D from IsDev.keep ⟨mb, bb, _, c0', c1, c2, HIN2.out, HFP.out.1, HFP.out.2⟩ hml (by simp))
 have HINd := Lib.hid (HIN2.out)
 replace HBq0 := Lib.hid (HBq0.out.keep hml (by simp))
 replace HBq1 := Lib.hid (HBq1.out.keep hml (by simp))
 replace HBq2 := Lib.hid (HBq2.out.keep hml (by simp))
 replace HM2 := Lib.hid (HM2.out.trans hml (by simp))
 have hR : WRows wl.heap.size wl (.slice A n cap) D.cache := by
  have hown := owns_keepF HIN2.out.cache hml (by simp)
  rcases hown.2 with ⟨h1, h2⟩ | ⟨g, cp, cur, h1, h2, h3, h4⟩
  ·rw [HN.out] at h1 h2
   exact .inl ⟨h1, List.eq_nil_of_length_eq_zero (by rw [HN.out]; exact h2)⟩
  ·injection h1 with h1 _ h1c
   subst h1
   have hg := fun (j : Nat) (x : Nat × ByteArray) (hx : D.cache[j]? = some x) => hown.cells (g := g) rfl (j * 2) _ (wRow_at hx).1
   have hg1 := fun (j : Nat) (x : Nat × ByteArray) (hx : D.cache[j]? = some x) => hown.cells (g := g) rfl (j * 2 + 1) _ (wRow_at hx).2
   refine .inr ⟨g, cap, by rw [HN.out], lt_of_block h3, fun j x hx => ?_⟩
   have k0 := hg j x hx
   have k1 := hg1 j x hx
   rw [addr_add0] at k0 k1
   exact ⟨k0, k1⟩
 rw [hwl]
 refine (wpIn_wide (n := 6)).1 ?_
 refine wpIn_rangeFunc_ownH rfl (by decide) (gf := 228) (lb := #[.pointer (some ⟨w2.heap.size, 0, none⟩)]) rfl trivial (enters_of Tryz.func228 (by kernel_rfl) rfl)
  (backW_stops Fence.wide 5 trivial rfl (by decide) w2.heap.size wl.heap.size _ D.cache HH.out.2.2 wl hbsl (Nat.le_refl _) (hbs.cell (i := 0) rfl) hR) belowK_t (belowK_b (Nat.le_refl _)) (Below.refl _ _) (fun _ => rfl)
  (fun pre W' => (∀ p ∈ pre, p.2.1 ≠ k) ∧ Below wl.heap.size wl W')
  (fun c pre W' => (c = .ret ∧ ∃ ini last, pre = ini ++ [last] ∧ (∀ p ∈ ini, p.2.1 ≠ k) ∧ last.2.1 = k ∧ W'.cell? ⟨W.heap.size + 1, 0, none⟩ = some (.string last.2.2) ∧ W'.cell? ⟨W.heap.size + 2, 0, none⟩ = some (.int .i64 0)) ∧ Below W.heap.size wl W')
  (OwnFrom.and (Own.from (fun s A B row hs hg hr => hs) _) (ownFrom_below (Nat.le_refl _) (Nat.le_refl _)))
  (fun c => OwnFrom.and (Own.from (fun s A B row hs hg hr => by obtain ⟨hc, ini, last, e1, e2, e3, e4, e5⟩ := hs; exact ⟨hc, ini, last, e1, e2, e3, cell_kept e4 hg hr, cell_kept e5 hg hr⟩) _) (ownFrom_below (by omega) (by omega)))
  ⟨by simp, Below.refl _ _⟩
  (fun x a' W' => ∃ Bx, wl.heap.size ≤ Bx ∧ (W'.cell? ⟨Bx, 0, none⟩ = some (.int .i64 (x.2.1 : Nat)) ∧ W'.cell? ⟨Bx, 1, none⟩ = some (.string x.2.2)) ∧ a' = { tmps := #[.pointer (some ⟨b, 0, none⟩), .int .i64 (k : Nat), undef, .pointer (some ⟨W.heap.size, 0, none⟩), .pointer (some ⟨W.heap.size + 1, 0, none⟩), .pointer (some ⟨W.heap.size + 1 + 1, 0, none⟩), .int .i64 0, undef, .pointer (some ⟨Bx, 0, none⟩), .pointer (some ⟨b, 0, none⟩), .int .i64 0, .int .i64 0, .bool false, undef, .bool false, .pointer (some ⟨b, 0, none⟩), .int .i64 (k : Nat), .bool true, .bool false, .bool false, .pointer (some ⟨b, 0, none⟩), .pointer (some ⟨b, 0, none⟩), .pointer (some ⟨b, 3, none⟩), .slice (some ⟨bb, 0, none⟩) D.sectors D.sectors, .int .i64 (k : Nat), .pointer (some ⟨bb, k, none⟩), .bool false, .pointer (some ⟨b, 0, none⟩), .pointer (some ⟨b, 0, none⟩), .pointer (some ⟨b, 11, none⟩), .pointer (some ⟨b, 11, none⟩), .int .i64 c0, .int .i64 c0', .pointer (some ⟨b, 0, none⟩), .pointer (some ⟨b, 11, none⟩), .pointer (some ⟨b, 11, none⟩), .pointer (some ⟨b, 0, none⟩), .pointer (some ⟨b, 0, none⟩), .pointer (some ⟨b, 4, none⟩), .slice A n cap, .func (.func 228) #[] #[.pointer (some ⟨w2.heap.size, 0, none⟩)], .int .i64 (x.1 : Nat), .agg #[.int .i64 (x.2.1 : Nat), .string x.2.2], undef, undef, undef, undef, undef, undef, undef, undef, undef, undef, undef, undef, undef], defers := [] })
  (fun x a' => fun s A B row hs hg hr => by
   obtain ⟨Bx, h1, ⟨h2, h3⟩, h4⟩ := hs
   exact ⟨Bx, h1, ⟨cell_kept h2 hg (fun r e => (hr r e).2), cell_kept h3 hg (fun r e => (hr r e).2)⟩, h4⟩) ?assign ?body ?done ?stop
 case assign =>
  rintro l pre x W' K ⟨hp, hB⟩ hK
  gi_wp2
  exact hK _ _ ((KeepsOthers.alloc _ _).from _) ((Below.refl _ W').alloc hB.size _) ⟨hp, hB.alloc hB.size _⟩ ⟨W'.heap.size, hB.size, ⟨(Blk.new W' 309 [.int .i64 (x.2.1 : Nat), .string x.2.2]).cell (i := 0) rfl, (Blk.new W' 309 [.int .i64 (x.2.1 : Nat), .string x.2.2]).cell (i := 1) rfl⟩, rfl⟩
 case body =>
  rintro l pre x a' W' hl ⟨r, hr⟩ ⟨hp, hB⟩ ⟨Bx, h1, ⟨h2, h3⟩, rfl⟩ _
  have hmb := Mods.of_below hB []
  have b0 := HBq0.out.keep hmb (by simp)
  have b1 := HBq1.out.keep hmb (by simp)
  have b2 := HBq2.out.keep hmb (by simp)
  have q0 := b0.cell (i := 0) rfl
  have q1 := b1.cell (i := 0) rfl
  have q2 := b2.cell (i := 0) rfl
  have g1 := b1.free 0
  have g2 := b2.free 0
  have HB1 := Lib.hid b1
  have HB2 := Lib.hid b2
  have HBB := Lib.hid hB
  have HP := Lib.hid hp
  clear hmb b0 b1 b2 hB hp hr
  obtain ⟨x0, x1, x2⟩ := x
  simp only at h2 h3
  by_cases hx : x1 = k
  ·subst hx
   gi_wp2
   obtain ⟨k1, k2⟩ := two_sets HB1.out HB2.out (by omega) (.string x2) (.int .i64 0)
   exact ⟨((KeepsOthers.setCell _ _ _).trans (KeepsOthers.setCell _ _ _)).from _, ⟨rfl, pre, (x0, x1, x2), rfl, HP.out, rfl, k1, k2⟩, ((HBB.out.mono (by omega)).setCell (p := ⟨W.heap.size + 1, 0, none⟩) (show W.heap.size ≤ W.heap.size + 1 by omega) _).setCell (p := ⟨W.heap.size + 2, 0, none⟩) (show W.heap.size ≤ W.heap.size + 2 by omega) _⟩
  ·have hx2 : ¬ ((x1 : Nat) : Int) = ((k : Nat) : Int) := by omega
   gi_wp2
   exact ⟨KeepsFrom.refl _ _, Below.refl _ _, fun p hp' => (List.mem_append.1 hp').elim (HP.out p) (fun e => by simp at e; subst e; exact hx), HBB.out⟩
 case done =>
  rintro DD ys W' hD rfl ⟨hp, hB⟩ hK
  have hmb := Mods.of_below hB []
  have b0 := HBq0.out.keep hmb (by simp)
  have b1 := HBq1.out.keep hmb (by simp)
  have b2 := HBq2.out.keep hmb (by simp)
  have q0 := b0.cell (i := 0) rfl
  have q1 := b1.cell (i := 0) rfl
  have q2 := b2.cell (i := 0) rfl
  have g1 := b1.free 0
  have g2 := b2.free 0
  obtain ⟨s, hs⟩ : ∃ s, D.media[k]? = some s := ⟨_, List.getElem?_eq_getElem (by rw [HIN2.out.ok.media]; exact hk)⟩
  have d1 := ((HIN2.out.dev.keep hml (by simp)).keep hmb (by simp)).cell (i := 2) rfl
  have m1 := ((HIN2.out.media.keep hml (by simp)).keep hmb (by simp)).cell (i := k) (v := .string s) (by rw [List.getElem?_map, hs]; rfl)
  have HB1 := Lib.hid b1
  have HB2 := Lib.hid b2
  have hcur : D.cur k = s := by
   unfold Dev.cur
   rw [late_none hp, Option.getD_none, List.getD_eq_getElem?_getD, hs]; rfl
  have HCU := Lib.hid hcur
  have HMB := Lib.hid hmb
  have HK := Lib.hid hK
  have HHD := Lib.hid hD
  have HBB := Lib.hid hB
  clear hmb b0 b1 b2 hs hcur hp hB hK hD
  go_wp2_with fail
  go_region
  go_wp2_with fail
  obtain ⟨k1, k2⟩ := two_sets HB1.out HB2.out (by omega) (.string s) (.int .i64 0)
  have hb1 : Below W.heap.size wl ((W'.setCell ⟨W.heap.size + 1, 0, none⟩ (.string s)).setCell ⟨W.heap.size + 2, 0, none⟩ (.int .i64 0)) := ((HBB.out.mono (by omega)).setCell (p := ⟨W.heap.size + 1, 0, none⟩) (show W.heap.size ≤ W.heap.size + 1 by omega) _).setCell (p := ⟨W.heap.size + 2, 0, none⟩) (show W.heap.size ≤ W.heap.size + 2 by omega) _
  have hK2 := ((KeepsOthers.setCell W' ⟨W.heap.size + 1, 0, none⟩ (.string s)).trans (KeepsOthers.setCell _ ⟨W.heap.size + 2, 0, none⟩ (.int .i64 0))).same DD _ HK.out rfl
  obtain ⟨wf, hwf⟩ : ∃ wf, ((W'.setCell ⟨W.heap.size + 1, 0, none⟩ (.string s)).setCell ⟨W.heap.size + 2, 0, none⟩ (.int .i64 0)).drew = wf := ⟨_, rfl⟩
  have hK3 : wf.heap[DD]? = some (.deferred (some [])) := by rw [← hwf]; exact hK2
  have k3 : wf.cell? ⟨W.heap.size + 1, 0, none⟩ = some (.string s) := by rw [← hwf]; exact k1
  have k4 : wf.cell? ⟨W.heap.size + 2, 0, none⟩ = some (.int .i64 0) := by rw [← hwf]; exact k2
  have hb3 : Below W.heap.size wl wf := by rw [← hwf]; exact hb1.drew
  rw [show W.heap.size + 1 + 1 = W.heap.size + 2 from rfl, hwf]
  refine ⟨by simp, .inl ⟨_, _, rfl, run_takeDeferred hK3, ?_⟩⟩
  have c4 := cell_kept k3 (grownBy_putObj' _ DD (.deferred none)) (fun r e => by cases e; exact ⟨_, hK3, rfl⟩)
  have c5 := cell_kept k4 (grownBy_putObj' _ DD (.deferred none)) (fun r e => by cases e; exact ⟨_, hK3, rfl⟩)
  refine ⟨_, results_cc rfl rfl rfl (load_str1 c4) (load_err1 c5), ?_⟩
  rw [HCU.out]
  have hb2 : Below W.heap.size wl (wf.putObj DD (.deferred none)) := hb3.trans (belowK_b (w := wl) (by omega) wf DD _ _ HHD.out hK3 rfl rfl)
  have hm3 := below_mods hb2
  refine ⟨rfl, HINl.out.keep hm3 (fun x hx => ?_), HM2.out.trans hm3 (fun q hq => .inr ?_)⟩
  ·have := HD.out.lt x hx
   simp; omega
  ·simp at hq; omega
 case stop =>
  rintro DD c pre W' hD ⟨kk, hkk, rfl⟩ ⟨⟨rfl, ini, last, e1, e2, e3, e4, e5⟩, hB⟩ hK
  refine (wpIn_wide (n := 6)).2 ?_
  have HK := Lib.hid hK
  clear hK
  go_wp2_with fail
  refine ⟨by simp, .inl ⟨_, _, rfl, run_takeDeferred HK.out, ?_⟩⟩
  have c4 := cell_kept e4 (grownBy_putObj' _ DD (.deferred none)) (fun r e => by cases e; exact ⟨_, HK.out, rfl⟩)
  have c5 := cell_kept e5 (grownBy_putObj' _ DD (.deferred none)) (fun r e => by cases e; exact ⟨_, HK.out, rfl⟩)
  refine ⟨_, results_cc rfl rfl rfl (load_str1 c4) (load_err1 c5), ?_⟩
  have hcur : D.cur k = last.2.2 := by
   unfold Dev.cur
   rw [late_stop hkk e1 e2 e3]; rfl
  rw [hcur]
  have hb2 : Below W.heap.size wl (W'.putObj DD (.deferred none)) := hB.trans (belowK_b (w := wl) (by omega) W' DD _ _ hD HK.out rfl rfl)
  have hm3 := below_mods hb2
  refine ⟨rfl, HINl.out.keep hm3 (fun x hx => ?_), HM2.out.trans hm3 (fun q hq => .inr ?_)⟩
  ·have := HD.out.lt x hx
   simp; omega
  ·simp at hq; omega
theorem dRead_any {W : World} {b : Nat} {fp : List Nat} {D : Dev} (h : IsDev W b fp D) (hc : D.cache.length < 1000000) (i : Int) :
  Calls Tryz.prog 135 #[.pointer (some ⟨b, 0, none⟩), .int .i64 i] W fun e w' => e = .returned (.tuple #[.string (D.read i).1, .int .i64 ((D.read i).2 : Nat)]) ∧ IsDev w' b fp D ∧ Mods [b] W w' := by
 by_cases hE : D.ready ≠ 0 ∨ D.isS i = false ∨ D.bad.getD i.toNat false = true
 ·exact (dRead_early h i hE).mono fun e w' ⟨h1, h2⟩ => ⟨h1, h.keep h2 (by simp), h2.mono (by simp)⟩
 ·simp only [not_or, ne_eq, Decidable.not_not, Bool.not_eq_false, Bool.not_eq_true] at hE
  obtain ⟨h1, h2, h3⟩ := hE
  obtain ⟨k, rfl, hk⟩ := Dev.isS_nat h2
  rw [Dev.read_ok h1 h2 h3]
  exact dRead_last h hc k hk h1 h3
end Go.Proofs.YtkjpdfomppjiiaaGreatDoor
/- A table: where a device's blocks are; its small methods. -/
namespace Go.Proofs.YtkjpdfomppjiiaaGreatDoor
open Go.RowKit

structure Tab where
 blocks : Nat
 spares : Nat
 moved : List Nat
namespace Tab
structure Ok (t : Tab) : Prop where
 blocks : t.blocks ≤ 4096
 spares : t.spares ≤ 32
 len : t.moved.length ≤ t.spares
 each : ∀ x ∈ t.moved, x < t.blocks
def zero : Tab := ⟨0, 0, []⟩
def isB (t : Tab) (i : Int) : Bool := decide (0 ≤ i) && decide (i < (t.blocks : Int))
def spareOf (l : List Nat) (i : Nat) : Option Nat := ((bw l 0 l.length).find? fun p => decide (p.2 = i)).map (·.1)
def at_ (t : Tab) (i : Int) : Nat × Nat := if t.isB i = false then (0, 3) else (match spareOf t.moved i.toNat with | some k => t.blocks + k | none => i.toNat, 0)
def move (t : Tab) (i : Int) : Tab × Nat := if t.isB i = false then (zero, 3) else if t.spares - t.moved.length = 0 then (zero, 9) else ({ t with moved := t.moved ++ [i.toNat] }, 0)
end Tab
def mvRow (l : List Nat) : List Value := l.map fun x => Value.int .i64 (x : Nat)
def tabV (t : Tab) (mv : Value) : Value := .agg #[.int .i64 (t.blocks : Nat), .int .i64 (t.spares : Nat), mv]
def IsMv (w : World) (mv : Value) (l : List Nat) : Prop := w.ownsRow 0 3 1 mv l.length (mvRow l)
theorem IsMv.nil (w : World) : IsMv w (.slice none 0 0) [] := World.ownsRow_nil _ _ _ _
theorem IsMv.keep {w w1 : World} {mv : Value} {l : List Nat} (h : IsMv w mv l) {L : List Nat} (hm : Mods L w w1) (hL : ∀ g, mv.ownBlock = some g → g ∉ L) : IsMv w1 mv l := owns_keepF h hm hL
theorem tIs_any {W : World} (t : Tab) (mv : Value) (i : Int) : Calls Tryz.prog 261 #[tabV t mv, .int .i64 i] W fun e w' => e = .returned (.bool (t.isB i)) ∧ Mods [] W w' := by
 unfold tabV
 go_enter Tryz.func261, Tryz.ntmps261
 go_wp2_with fail
 all_goals go_ret
 all_goals refine ⟨?_, (Mods.refl _ _).alloc _⟩
 all_goals simp [Tab.isB, *]
 all_goals (intros; omega)
theorem tLeft_any {W : World} (t : Tab) {mv : Value} (hm : IsMv W mv t.moved) (ho : t.Ok) : Calls Tryz.prog 262 #[tabV t mv] W fun e w' => e = .returned (.int .i64 ((t.spares - t.moved.length : Nat) : Nat)) ∧ Mods [] W w' := by
 obtain ⟨A, cap, rfl, _⟩ := owns_shapeD hm
 obtain ⟨n, hn⟩ : ∃ n, t.moved.length = n := ⟨_, rfl⟩
 have h1 := ho.len
 have h2 := ho.spares
 obtain ⟨y, hy⟩ : ∃ y, t.spares - n = y := ⟨_, rfl⟩
 rw [hn] at h1 ⊢
 have hw : IntKind.i64.wrap ((t.spares : Int) - (n : Int)) = (y : Int) := by rw [IntKind.wrap_i64]; omega
 rw [hy]
 unfold tabV
 clear hm ho hn
 go_enter Tryz.func262, Tryz.ntmps262
 go_wp2_with fail
 go_ret
 exact ⟨rfl, (Mods.refl _ _).alloc _⟩
theorem tGen_any {W : World} (t : Tab) {mv : Value} (hm : IsMv W mv t.moved) (ho : t.Ok) : Calls Tryz.prog 104 #[tabV t mv] W fun e w' => e = .returned (.int .u64 (t.moved.length : Nat)) ∧ Mods [] W w' := by
 obtain ⟨A, cap, rfl, _⟩ := owns_shapeD hm
 obtain ⟨n, hn⟩ : ∃ n, t.moved.length = n := ⟨_, rfl⟩
 have h1 := ho.len
 have h2 := ho.spares
 rw [hn] at h1 ⊢
 have hw : IntKind.u64.wrap (n : Int) = (n : Int) := by rw [IntKind.wrap_u64]; omega
 unfold tabV
 clear hm ho hn
 go_enter Tryz.func104, Tryz.ntmps104
 go_wp2_with fail
 go_ret
 exact ⟨rfl, (Mods.refl _ _).alloc _⟩
end Go.Proofs.YtkjpdfomppjiiaaGreatDoor
/-
  DERIVED: THE SHELF's CONTRACTS AT THIS DUMP, IN PLAIN WORDS (tools/lay-plain.mjs out of 'TryzShelf.lean', which tools/lay-shelf.mjs wrote): THE SAME DECLARATIONS UNDER THE SAME NAMES: 'import', 'namespace', 'open', 'def', 'theorem' AND NOTHING ELSE: no command of the shelf's: FOR A HAND-IN. Each laying: the table of numbers ('.._ren') and one theorem, a field a fact of the dump's own or the kernel's comparison; each contract: ONE APPLICATION.
-/
namespace Go.Proofs
open Go.Shelf
def Tryz.lays169_ren : Go.Shelf.Ren := ⟨fun | 169 => 98 | n => n, fun | 70 => 196 | 9 => 9 | 0 => 0 | 72 => 199 | 37 => 197 | 127 => 269 | 3 => 3 | 5 => 5 | n => n, fun | n => n⟩
theorem Tryz.lays169 : Go.Proofs.Lays.n169 Tryz.prog Tryz.lays169_ren := {
 mixed := by kernel_rfl
 f169 := Tryz.func98.trans (congrArg some (by kernel_rfl))
 t0 := Tryz.underlying0
 a0 := Tryz.isAgg0
 z0 := Tryz.sizeOf0
 v0 := Tryz.zeroValue0
 t3 := Tryz.underlying3
 a3 := Tryz.isAgg3
 z3 := Tryz.sizeOf3
 v3 := Tryz.zeroValue3
 t9 := Tryz.underlying9
 a9 := Tryz.isAgg9
 z9 := Tryz.sizeOf9
 v9 := Tryz.zeroValue9
 t37 := Tryz.underlying197
 a37 := Tryz.isAgg197
 z37 := Tryz.sizeOf197
 v37 := Tryz.zeroValue197
 t70 := Tryz.underlying196
 a70 := Tryz.isAgg196
 z70 := Tryz.sizeOf196
 v70 := Tryz.zeroValue196
 t72 := Tryz.underlying199
 a72 := Tryz.isAgg199
 z72 := Tryz.sizeOf199
 v72 := Tryz.zeroValue199
 t127 := Tryz.underlying269
 a127 := Tryz.isAgg269
 z127 := Tryz.sizeOf269
 v127 := Tryz.zeroValue269 }
theorem Tryz.Builder_Extra_169 : Builder.Extra Tryz.prog Tryz.lays169_ren := {
 sizeBuilder := by kernel_rfl
 liesBuilder := by kernel_rfl
 t5 := Tryz.underlying5
 a5 := Tryz.isAgg5
 z5 := Tryz.sizeOf5
 v5 := Tryz.zeroValue5
 infoByte := by kernel_rfl
 cellsByte := by kernel_rfl
 sizeByte := by kernel_rfl
 neB5 := by decide }
open Go.RowKit in
theorem Tryz.Builder_String_any (B b : Nat) (l : List UInt8) (w : World) (h : Lib.IsBuilder 199 5 B b (Lib.byteCells l) w) (hBw : B ≤ w.heap.size) :
  Calls Tryz.prog 98 #[.pointer (some ⟨b, 0, none⟩)] w fun e w' => e = .returned (.string ⟨l.toArray⟩) ∧ Below B w w' := Any.Builder_String_any Tryz.lays169 Tryz.Builder_Extra_169 B b l w h hBw
def Tryz.lays103_ren : Go.Shelf.Ren := ⟨fun | 103 => 219 | 210 => 252 | 206 => 150 | n => n, fun | 9 => 9 | 4 => 4 | 24 => 272 | 3 => 3 | n => n, fun | n => n⟩
theorem Tryz.lays103 : Go.Proofs.Lays.n103 Tryz.prog Tryz.lays103_ren := {
 mixed := by kernel_rfl
 f103 := Tryz.func219.trans (congrArg some (by kernel_rfl))
 f206 := Tryz.func150.trans (congrArg some (by kernel_rfl))
 f210 := Tryz.func252.trans (congrArg some (by kernel_rfl))
 t3 := Tryz.underlying3
 a3 := Tryz.isAgg3
 z3 := Tryz.sizeOf3
 v3 := Tryz.zeroValue3
 t4 := Tryz.underlying4
 a4 := Tryz.isAgg4
 z4 := Tryz.sizeOf4
 v4 := Tryz.zeroValue4
 t9 := Tryz.underlying9
 a9 := Tryz.isAgg9
 z9 := Tryz.sizeOf9
 v9 := Tryz.zeroValue9
 t24 := Tryz.underlying272
 a24 := Tryz.isAgg272
 z24 := Tryz.sizeOf272
 v24 := Tryz.zeroValue272 }
open Go.RowKit in
theorem Tryz.strings_CutPrefix (s p : ByteArray) (w : World) :
  Calls Tryz.prog 219 #[.string s, .string p] w fun e w' => e = .returned (.tuple #[.string ⟨(Lib.trimPrefix s.data.toList p.data.toList).toArray⟩, .bool (Lib.hasPrefix s.data.toList p.data.toList)]) ∧ w' = w := Any.strings_CutPrefix Tryz.lays103 s p w
def Tryz.lays212_ren : Go.Shelf.Ren := ⟨fun | 212 => 93 | 263 => 148 | 264 => 149 | n => n, fun | 46 => 192 | 51 => 77 | 146 => 265 | 53 => 42 | 148 => 267 | n => n, fun | n => n⟩
theorem Tryz.lays212 : Go.Proofs.Lays.n212 Tryz.prog Tryz.lays212_ren := {
 mixed := by kernel_rfl
 f212 := Tryz.func93.trans (congrArg some (by kernel_rfl))
 f263 := Tryz.func148.trans (congrArg some (by kernel_rfl))
 f264 := Tryz.func149.trans (congrArg some (by kernel_rfl))
 t46 := Tryz.underlying192
 a46 := Tryz.isAgg192
 z46 := Tryz.sizeOf192
 v46 := Tryz.zeroValue192
 t51 := Tryz.underlying77
 a51 := Tryz.isAgg77
 z51 := Tryz.sizeOf77
 v51 := Tryz.zeroValue77
 t53 := Tryz.underlying42
 a53 := Tryz.isAgg42
 z53 := Tryz.sizeOf42
 v53 := Tryz.zeroValue42
 t146 := Tryz.underlying265
 a146 := Tryz.isAgg265
 z146 := Tryz.sizeOf265
 v146 := Tryz.zeroValue265
 t148 := Tryz.underlying267
 a148 := Tryz.isAgg267
 z148 := Tryz.sizeOf267
 v148 := Tryz.zeroValue267 }
open Go.RowKit Go.Lib in
theorem Tryz.bits_Mul (x y : Nat) (hx : x < 18446744073709551616) (hy : y < 18446744073709551616) (w : World) :
  Calls Tryz.prog 93 #[.int .u64 x, .int .u64 y] w fun e w' => e = .returned (.tuple #[.int .u64 ((x * y / 18446744073709551616 : Nat) : Int), .int .u64 ((x * y % 18446744073709551616 : Nat) : Int)]) ∧ w' = w := Any.bits_Mul Tryz.lays212 x y hx hy w
def Tryz.lays105_ren : Go.Shelf.Ren := ⟨fun | 105 => 46 | 212 => 93 | 99 => 94 | 165 => 95 | 166 => 96 | 170 => 97 | 169 => 98 | 263 => 148 | 264 => 149 | 206 => 150 | 240 => 151 | 241 => 152 | 276 => 208 | 277 => 209 | n => n, fun | 9 => 9 | 3 => 3 | 4 => 4 | 20 => 20 | 0 => 0 | 46 => 192 | 109 => 193 | 5 => 5 | 72 => 199 | 76 => 202 | 51 => 77 | 146 => 265 | 53 => 42 | 148 => 267 | 70 => 196 | 37 => 197 | 75 => 201 | 127 => 269 | 164 => 334 | 80 => 204 | n => n, fun | n => n⟩
theorem Tryz.lays105 : Go.Proofs.Lays.n105 Tryz.prog Tryz.lays105_ren := {
 mixed := by kernel_rfl
 f99 := Tryz.func94.trans (congrArg some (by kernel_rfl))
 f105 := Tryz.func46.trans (congrArg some (by kernel_rfl))
 f165 := Tryz.func95.trans (congrArg some (by kernel_rfl))
 f166 := Tryz.func96.trans (congrArg some (by kernel_rfl))
 f169 := Tryz.func98.trans (congrArg some (by kernel_rfl))
 f170 := Tryz.func97.trans (congrArg some (by kernel_rfl))
 f206 := Tryz.func150.trans (congrArg some (by kernel_rfl))
 f212 := Tryz.func93.trans (congrArg some (by kernel_rfl))
 f240 := Tryz.func151.trans (congrArg some (by kernel_rfl))
 f241 := Tryz.func152.trans (congrArg some (by kernel_rfl))
 f263 := Tryz.func148.trans (congrArg some (by kernel_rfl))
 f264 := Tryz.func149.trans (congrArg some (by kernel_rfl))
 f276 := Tryz.func208.trans (congrArg some (by kernel_rfl))
 f277 := Tryz.func209.trans (congrArg some (by kernel_rfl))
 t0 := Tryz.underlying0
 a0 := Tryz.isAgg0
 z0 := Tryz.sizeOf0
 v0 := Tryz.zeroValue0
 t3 := Tryz.underlying3
 a3 := Tryz.isAgg3
 z3 := Tryz.sizeOf3
 v3 := Tryz.zeroValue3
 t4 := Tryz.underlying4
 a4 := Tryz.isAgg4
 z4 := Tryz.sizeOf4
 v4 := Tryz.zeroValue4
 t5 := Tryz.underlying5
 a5 := Tryz.isAgg5
 z5 := Tryz.sizeOf5
 v5 := Tryz.zeroValue5
 t9 := Tryz.underlying9
 a9 := Tryz.isAgg9
 z9 := Tryz.sizeOf9
 v9 := Tryz.zeroValue9
 t20 := Tryz.underlying20
 a20 := Tryz.isAgg20
 z20 := Tryz.sizeOf20
 v20 := Tryz.zeroValue20
 t37 := Tryz.underlying197
 a37 := Tryz.isAgg197
 z37 := Tryz.sizeOf197
 v37 := Tryz.zeroValue197
 t46 := Tryz.underlying192
 a46 := Tryz.isAgg192
 z46 := Tryz.sizeOf192
 v46 := Tryz.zeroValue192
 t51 := Tryz.underlying77
 a51 := Tryz.isAgg77
 z51 := Tryz.sizeOf77
 v51 := Tryz.zeroValue77
 t53 := Tryz.underlying42
 a53 := Tryz.isAgg42
 z53 := Tryz.sizeOf42
 v53 := Tryz.zeroValue42
 t70 := Tryz.underlying196
 a70 := Tryz.isAgg196
 z70 := Tryz.sizeOf196
 v70 := Tryz.zeroValue196
 t72 := Tryz.underlying199
 a72 := Tryz.isAgg199
 z72 := Tryz.sizeOf199
 v72 := Tryz.zeroValue199
 t75 := Tryz.underlying201
 a75 := Tryz.isAgg201
 z75 := Tryz.sizeOf201
 v75 := Tryz.zeroValue201
 t76 := Tryz.underlying202
 a76 := Tryz.isAgg202
 z76 := Tryz.sizeOf202
 v76 := Tryz.zeroValue202
 t109 := Tryz.underlying193
 a109 := Tryz.isAgg193
 z109 := Tryz.sizeOf193
 v109 := Tryz.zeroValue193
 t127 := Tryz.underlying269
 a127 := Tryz.isAgg269
 z127 := Tryz.sizeOf269
 v127 := Tryz.zeroValue269
 t146 := Tryz.underlying265
 a146 := Tryz.isAgg265
 z146 := Tryz.sizeOf265
 v146 := Tryz.zeroValue265
 t148 := Tryz.underlying267
 a148 := Tryz.isAgg267
 z148 := Tryz.sizeOf267
 v148 := Tryz.zeroValue267
 t164 := Tryz.underlying334
 a164 := Tryz.isAgg334
 z164 := Tryz.sizeOf334
 v164 := Tryz.zeroValue334 }
theorem Tryz.Builder_Extra_105 : Builder.Extra Tryz.prog Tryz.lays105_ren := {
 sizeBuilder := by kernel_rfl
 liesBuilder := by kernel_rfl
 t5 := Tryz.underlying5
 a5 := Tryz.isAgg5
 z5 := Tryz.sizeOf5
 v5 := Tryz.zeroValue5
 infoByte := by kernel_rfl
 cellsByte := by kernel_rfl
 sizeByte := by kernel_rfl
 neB5 := by decide }
open Go.RowKit Go.Lib in
theorem Tryz.strings_Repeat (s : ByteArray) (c : Nat) (w : World) (hc : c ≤ 9223372036854775807) (hlen : s.size * c ≤ 140737488355328) :
  Calls Tryz.prog 46 #[.string s, .int .i64 c] w fun e w' => e = .returned (.string ⟨(Lib.repeatL s.data.toList c).toArray⟩) ∧ Below w.heap.size w w' := Any.strings_Repeat Tryz.lays105 Tryz.Builder_Extra_105 s c w hc hlen
def Tryz.laysNm215_ren : Go.Shelf.Ren := ⟨fun | 15 => 176 | n => n, fun | 22 => 69 | 3 => 3 | 4 => 4 | n => n, fun | n => n⟩
theorem Tryz.laysNm215 : Go.Proofs.Lays2.n15 Tryz.prog Tryz.laysNm215_ren := {
 mixed := by kernel_rfl
 f15 := Tryz.func176.trans (congrArg some (by kernel_rfl))
 t3 := Tryz.underlying3
 a3 := Tryz.isAgg3
 z3 := Tryz.sizeOf3
 v3 := Tryz.zeroValue3
 t4 := Tryz.underlying4
 a4 := Tryz.isAgg4
 z4 := Tryz.sizeOf4
 v4 := Tryz.zeroValue4
 t22 := Tryz.underlying69
 a22 := Tryz.isAgg69
 z22 := Tryz.sizeOf69
 v22 := Tryz.zeroValue69
 i3 := by kernel_rfl }
open Go.RowKit Go.Lib in
theorem Tryz.slices_Clone_int_nil (n c : Nat) (w : World) :
  Calls Tryz.prog 176 #[.slice none n c] w fun e w' => e = .returned (.slice none 0 0) ∧ w' = w := Any.slices_Clone_int_nil Tryz.laysNm215 n c w
def Tryz.laysSlE041_f176_ren : Go.Shelf.Ren := ⟨fun | 41 => 176 | n => n, fun | 22 => 69 | 23 => 3 | 4 => 4 | n => n, fun | n => n⟩
theorem Tryz.laysSlE041_f176 : Go.Proofs.SlLaysE0.n41 Tryz.prog Tryz.laysSlE041_f176_ren := {
 mixed := by kernel_rfl
 f41 := ⟨Tryz.f176.name, by decide, Tryz.func176.trans (congrArg some (by kernel_rfl))⟩
 t4 := Tryz.underlying4
 a4 := Tryz.isAgg4
 z4 := Tryz.sizeOf4
 v4 := Tryz.zeroValue4
 t22 := Tryz.underlying69
 a22 := Tryz.isAgg69
 z22 := Tryz.sizeOf69
 v22 := Tryz.zeroValue69 }
open Go.RowKit Go.Lib in
theorem Tryz.slices_Clone (i0 : TypeInfo) (z : Value) (size bytes : Nat) (hi : Tryz.prog.info? 3 = some i0) (hz0 : i0.zero = some z) (hz1 : i0.size = size) (hz2 : i0.bytes = bytes) (hzs : z.cells.size = size) (hsz : 0 < size) (z23 : ∀ w, (Go.sizeOf 3).run Tryz.prog w = .ok size w) (b off n c : Nat) (news : List Value) (w : World) (hl : news.length = n * size) (hn : n ≤ maxLen) (hbig : n * bytes ≤ 140737488355328) (hc : ∀ j u, news[j]? = some u → w.cell? ⟨b, off + j, none⟩ = some u) (h1 : ∀ u ∈ news, u.oneCell' = true) :
  Calls Tryz.prog 176 #[.slice (some ⟨b, off, none⟩) n c] w fun e w' => ∃ v', e = .returned v' ∧ w'.ownsRow w.heap.size 3 size v' n news ∧ v' ≠ .slice none 0 0 ∧ Below w.heap.size w w' := AnyE.slices_Clone Tryz.laysSlE041_f176 i0 z size bytes hi hz0 hz1 hz2 hzs hsz z23 b off n c news w hl hn hbig hc h1
end Go.Proofs
/- A table's Move. -/
namespace Go.Proofs.YtkjpdfomppjiiaaGreatDoor
open Go.RowKit

theorem mvRow_len (l : List Nat) : (mvRow l).length = l.length := by simp [mvRow]
theorem cloneI_any {W : World} {mv : Value} {l : List Nat} (hm : IsMv W mv l) (hl : l.length < 1000000) :
  Calls Tryz.prog 176 #[mv] W fun e w' => ∃ v', e = .returned v' ∧ w'.ownsRow W.heap.size 3 1 v' l.length (mvRow l) ∧ Mods [] W w' := by
 have hc := fun g hg => World.ownsRow.cells hm (g := g) hg
 rcases hm.2 with ⟨rfl, h0⟩ | ⟨g, cap, cur, rfl, _, hh, hn, _⟩
 ·refine (Tryz.slices_Clone_int_nil 0 0 W).mono fun e w' ⟨he, hw⟩ => ⟨_, he, ?_, by rw [hw]; exact Mods.refl _ _⟩
  obtain rfl : l = [] := List.eq_nil_of_length_eq_zero h0
  exact World.ownsRow_nil _ _ _ _
 ·obtain ⟨i0, hi, hz0, hz1, hz2⟩ := info_parts (show (Tryz.prog.info? 3).map (fun i => (i.zero, i.size, i.bytes)) = some (some (.int .i64 0), 1, 8) by kernel_rfl)
  refine (Tryz.slices_Clone i0 (.int .i64 0) 1 8 hi hz0 hz1 hz2 rfl (by decide) (fun w => by simp [sizeOf, typeInfo, hi, hz1]) g 0 l.length cap (mvRow l) W (by rw [mvRow_len]; omega) (by unfold maxLen; omega) (by omega) (fun j u hj => ?_) (fun u hu => ?_)).mono fun e w' ⟨v', he, ho, _, hb⟩ => ⟨v', he, ho, Mods.of_below hb []⟩
  ·have h := hc g rfl j u hj
   rw [addr_add0] at h
   rw [Nat.zero_add]; exact h
  ·obtain ⟨x, _, rfl⟩ := List.mem_map.1 hu
   rfl
theorem load_tab {w : World} {b : Nat} {a0 a1 a2 : Value} (h : Blk w b 71 [a0, a1, a2]) : (loadVar 71 ⟨b, 0, none⟩).run Tryz.prog w = .ok (.agg #[a0, a1, a2]) w := by
 have c0 := h.cell (i := 0) (v := a0) rfl
 have c1 := h.cell (i := 1) (v := a1) rfl
 have c2 := h.cell (i := 2) (v := a2) rfl
 go_simp
theorem results_ct {fn : Func} {p q : Tmp} {ty : TypeId} (h : fn.results = #[.cell p ty, .tmp q]) {tmps : Array Value} {P : Program} {w : World} {ad : Addr} {v : Value} (hp : tmps.getD p undef = .pointer (some ad)) (hl : (loadVar ty ad).run P w = .ok v w) :
  (results fn tmps).run P w = .ok (.tuple #[v, tmps.getD q undef]) w := by
 have e : (results fn tmps).run P w = ((asAddr (tmps.getD p undef)).run P w).andThen fun ad w1 => ((loadVar ty ad).run P w1).andThen fun v w2 => .ok (.tuple #[v, tmps.getD q undef]) w2 := by
  simp only [results, h]
  simp [Sem.run_bind, Result.andThen]
 rw [e, hp]
 simp only [asAddr, Sem.run_pure, Result.andThen_ok, hl]
theorem Tab.isB_nat {t : Tab} {i : Int} (h : t.isB i = true) : ∃ k : Nat, i = (k : Int) ∧ k < t.blocks := by
 unfold Tab.isB at h
 simp only [Bool.and_eq_true, decide_eq_true_eq] at h
 exact ⟨i.toNat, by omega, by omega⟩
theorem three_sets {w : World} {b : Nat} {t : TypeId} {x0 x1 x2 : Value} (h : Blk w b t [x0, x1, x2]) (a0 a1 a2 : Value) :
  Blk (((w.setCell ⟨b, 0, none⟩ a0).setCell ⟨b, 1, none⟩ a1).setCell ⟨b, 2, none⟩ a2) b t [a0, a1, a2] ∧ Mods [b] w (((w.setCell ⟨b, 0, none⟩ a0).setCell ⟨b, 1, none⟩ a1).setCell ⟨b, 2, none⟩ a2) :=
 ⟨((h.set 0 a0).set 1 a1).set 2 a2, (((Mods.refl _ _).setCell (.inl (by simp)) _).setCell (.inl (by simp)) _).setCell (.inl (by simp)) _⟩
namespace Tab
theorem move_is {t : Tab} {i : Int} (h : t.isB i = false) : t.move i = (zero, 3) := by unfold move; rw [if_pos h]
theorem move_full {t : Tab} {i : Int} (h : t.isB i = true) (h1 : t.spares - t.moved.length = 0) : t.move i = (zero, 9) := by unfold move; rw [if_neg (by rw [h]; simp), if_pos h1]
theorem move_ok {t : Tab} {i : Int} (h : t.isB i = true) (h1 : t.spares - t.moved.length ≠ 0) : t.move i = ({ t with moved := t.moved ++ [i.toNat] }, 0) := by unfold move; rw [if_neg (by rw [h]; simp), if_neg h1]
end Tab
set_option maxRecDepth 100000 in
set_option maxHeartbeats 3200000 in
theorem tMove_any {W : World} {t : Tab} {mv : Value} (hm : IsMv W mv t.moved) (ho : t.Ok) (i : Int) :
  Calls Tryz.prog 229 #[tabV t mv, .int .i64 i] W fun e w' => ∃ mv', e = .returned (.tuple #[tabV (t.move i).1 mv', .int .i64 ((t.move i).2 : Nat)]) ∧ IsMv w' mv' (t.move i).1.moved ∧ Mods [] W w' ∧ (∀ g, mv'.ownBlock = some g → W.heap.size ≤ g) := by
 have HMV := Lib.hid hm
 have HO := Lib.hid ho
 obtain ⟨i0, hi0, hz0, hz1, hz2⟩ := info_parts (show (Tryz.prog.info? 3).map (fun i => (i.zero, i.size, i.bytes)) = some (some (.int .i64 0), 1, 8) by kernel_rfl)
 obtain ⟨w1, hw1⟩ : ∃ w1, (W.alloc (.cells #[.int .i64 (t.blocks : Nat), .int .i64 (t.spares : Nat), mv] 71)).alloc (.cells #[.int .i64 0, .int .i64 0, .slice none 0 0] 71) = w1 := ⟨_, rfl⟩
 have hb0 : Blk w1 W.heap.size 71 [.int .i64 (t.blocks : Nat), .int .i64 (t.spares : Nat), mv] := by rw [← hw1]; exact (Blk.new W 71 [.int .i64 (t.blocks : Nat), .int .i64 (t.spares : Nat), mv]).alloc _
 have hb1 : Blk w1 (W.heap.size + 1) 71 [.int .i64 0, .int .i64 0, .slice none 0 0] := by
  have h := Blk.new (W.alloc (.cells #[.int .i64 (t.blocks : Nat), .int .i64 (t.spares : Nat), mv] 71)) 71 [.int .i64 0, .int .i64 0, .slice none 0 0]
  have e : (W.alloc (.cells #[.int .i64 (t.blocks : Nat), .int .i64 (t.spares : Nat), mv] 71)).heap.size = W.heap.size + 1 := by simp
  rw [e] at h
  rw [← hw1]; exact h
 have hm1 : Mods [] W w1 := by rw [← hw1]; exact ((Mods.refl _ _).alloc _).alloc _
 have HB0 := Lib.hid hb0
 have HB1 := Lib.hid hb1
 have HM1 := Lib.hid hm1
 have hw1' := Lib.hid hw1
 have q0 := hb0.cell (i := 0) rfl
 have q1 := hb0.cell (i := 1) rfl
 have q2 := hb0.cell (i := 2) rfl
 have p0 := hb1.cell (i := 0) rfl
 have p1 := hb1.cell (i := 1) rfl
 have p2 := hb1.cell (i := 2) rfl
 have f0 := hb1.free 0
 have f1 := hb1.free 1
 have f2 := hb1.free 2
 clear hm ho hb0 hb1 hm1 hw1
 rw [tabV]
 go_enter Tryz.func229, Tryz.ntmps229
 go_wp2_with fail
 rw [hw1'.out]
 go_wp2_with fail
 refine (tIs_any t mv i).mono ?_
 rintro x w2 ⟨rfl, hm2⟩
 replace HMV := Lib.hid (HMV.out.keep HM1.out (by simp))
 replace HB0 := Lib.hid (HB0.out.keep hm2 (by simp))
 replace HB1 := Lib.hid (HB1.out.keep hm2 (by simp))
 replace HMV := Lib.hid (HMV.out.keep hm2 (by simp))
 replace HM1 := Lib.hid (HM1.out.trans hm2 (by simp))
 clear q0 q1 q2 p0 p1 p2 f0 f1 f2
 clear hm2 hw1'
 have q0 := HB0.out.cell (i := 0) rfl
 have q1 := HB0.out.cell (i := 1) rfl
 have q2 := HB0.out.cell (i := 2) rfl
 have p0 := HB1.out.cell (i := 0) rfl
 have p1 := HB1.out.cell (i := 1) rfl
 have p2 := HB1.out.cell (i := 2) rfl
 have e2 := HB0.out.free 2
 have f0 := HB1.out.free 0
 have f1 := HB1.out.free 1
 have f2 := HB1.out.free 2
 cases his : t.isB i with
 | false =>
  have hi' := Lib.hid his
  clear his
  go_wp2_with fail
  obtain ⟨k1, k2⟩ := three_sets HB1.out (.int .i64 0) (.int .i64 0) (.slice none 0 0)
  refine bodyPost_ret (results_ct rfl rfl (load_tab k1)) rfl ?_
  rw [Tab.move_is hi'.out]
  exact ⟨.slice none 0 0, rfl, IsMv.nil _, HM1.out.trans k2 (fun q hq => .inr (by rw [List.mem_singleton.1 hq]; omega)), fun g hg => by cases hg⟩
 | true =>
  obtain ⟨k, rfl, hk⟩ := Tab.isB_nat his
  have hi' := Lib.hid his
  clear his
  go_wp2_with fail
  refine (tLeft_any t HMV.out HO.out).mono ?_
  rintro x w3 ⟨rfl, hm3⟩
  replace HB0 := Lib.hid (HB0.out.keep hm3 (by simp))
  replace HB1 := Lib.hid (HB1.out.keep hm3 (by simp))
  replace HMV := Lib.hid (HMV.out.keep hm3 (by simp))
  replace HM1 := Lib.hid (HM1.out.trans hm3 (by simp))
  clear q0 q1 q2 p0 p1 p2 f0 f1 f2 e2 hm3
  have q0 := HB0.out.cell (i := 0) rfl
  have q1 := HB0.out.cell (i := 1) rfl
  have q2 := HB0.out.cell (i := 2) rfl
  have p0 := HB1.out.cell (i := 0) rfl
  have p1 := HB1.out.cell (i := 1) rfl
  have p2 := HB1.out.cell (i := 2) rfl
  have e2 := HB0.out.free 2
  have f0 := HB1.out.free 0
  have f1 := HB1.out.free 1
  have f2 := HB1.out.free 2
  obtain ⟨y, hy⟩ : ∃ y, t.spares - t.moved.length = y := ⟨_, rfl⟩
  have HY := Lib.hid hy
  rw [hy]
  by_cases h0 : y = 0
  ·have H0 := Lib.hid h0
   clear hy
   subst h0
   go_wp2_with fail
   obtain ⟨k1, k2⟩ := three_sets HB1.out (.int .i64 0) (.int .i64 0) (.slice none 0 0)
   refine bodyPost_ret (results_ct rfl rfl (load_tab k1)) rfl ?_
   rw [Tab.move_full hi'.out HY.out]
   exact ⟨.slice none 0 0, rfl, IsMv.nil _, HM1.out.trans k2 (fun q hq => .inr (by rw [List.mem_singleton.1 hq]; omega)), fun g hg => by cases hg⟩
  ·have H0 := Lib.hid h0
   have hl1 := HO.out.len
   have hl2 := HO.out.spares
   clear hy
   obtain ⟨n, hn⟩ : ∃ n, t.moved.length = n := ⟨_, rfl⟩
   have hn1 : n < 33 := by omega
   have HN := Lib.hid hn
   clear hl1 hl2 hn
   go_wp2_with fail
   refine (cloneI_any HMV.out (by rw [HN.out]; omega)).mono ?_
   rintro x w4 ⟨v', rfl, hown, hm4⟩
   rw [HN.out] at hown
   have hsz4 := hm4.size
   have hb3 := HB1.out.lt
   replace HB0 := Lib.hid (HB0.out.keep hm4 (by simp))
   replace HB1 := Lib.hid (HB1.out.keep hm4 (by simp))
   replace HMV := Lib.hid (HMV.out.keep hm4 (by simp))
   replace HM1 := Lib.hid (HM1.out.trans hm4 (by simp))
   have hsz := HM1.out.size
   have hbl := HB1.out.lt
   have HOW := Lib.hid hown
   clear q0 q1 q2 p0 p1 p2 f0 f1 f2 e2 hm4 hown
   have q0 := HB0.out.cell (i := 0) rfl
   have q1 := HB0.out.cell (i := 1) rfl
   have q2 := HB0.out.cell (i := 2) rfl
   have p0 := HB1.out.cell (i := 0) rfl
   have p1 := HB1.out.cell (i := 1) rfl
   have p2 := HB1.out.cell (i := 2) rfl
   have e2 := HB0.out.free 2
   have f0 := HB1.out.free 0
   have f1 := HB1.out.free 1
   have f2 := HB1.out.free 2
   go_wp2_with (at_builtin; refine wpList_append_lies _ rfl (.tmp 19) (.tmp 21) 69 rfl w3.heap.size 3 i0 (.int .i64 0) 1 8 Tryz.underlying69 hi0 hz0 hz1 hz2 rfl (by decide) _ _ _ rfl (HOW.out.alloc _) ⟨w4.heap.size, 0, none⟩ 1 1 [.int .i64 (k : Nat)] rfl rfl (fun j u hj => by rw [addr_add0]; exact (Blk.new w4 3 [.int .i64 (k : Nat)]).cell hj) (by simp [Value.oneCell']) (by decide) (by unfold maxLen; omega) (by omega) (by simp; omega) (w4.heap.size + 1) (by simp) ?_; intro g cap w8 hown8 hg8 hat8 _; have hm8 : Mods (Value.ownBlock v').toList w4 w8 := ((Mods.refl _ _).alloc _).grown hg8 (fun q hq => .inl (by have hq2 : Value.ownBlock v' = some q := hq; simp [hq2])); have hv0 : W.heap.size ∉ (Value.ownBlock v').toList := fun hx => by { have := (HOW.out.lt _ (by simpa using hx)).1; omega }; have r2 := (HB0.out.keep hm8 hv0).cell (i := 2) rfl; have s2 := (HB0.out.keep hm8 hv0).free 2; have r0 := (HB0.out.keep hm8 hv0).cell (i := 0) rfl; have r1 := (HB0.out.keep hm8 hv0).cell (i := 1) rfl; have hv1 : W.heap.size + 1 ∉ (Value.ownBlock v').toList := fun hx => by { have := (HOW.out.lt _ (by simpa using hx)).1; omega }; have u0 := (HB1.out.keep hm8 hv1).cell (i := 0) rfl; have u1 := (HB1.out.keep hm8 hv1).cell (i := 1) rfl; have u2 := (HB1.out.keep hm8 hv1).cell (i := 2) rfl; have x0 := (HB1.out.keep hm8 hv1).free 0; have x1 := (HB1.out.keep hm8 hv1).free 1; have x2 := (HB1.out.keep hm8 hv1).free 2)
   have hge : w3.heap.size ≤ g := by
    rcases hat8 with h | h
    ·exact (HOW.out.lt _ h).1
    ·have e2 : g = w4.heap.size + 1 := h
     omega
   have hb0' := (HB0.out.keep hm8 hv0).set 2 (.slice (some ⟨g, 0, none⟩) (n + 1) cap)
   have hm9 : Mods [W.heap.size] w8 (w8.setCell ⟨W.heap.size, 2, none⟩ (.slice (some ⟨g, 0, none⟩) (n + 1) cap)) := (Mods.refl _ _).setCell (.inl (by simp)) _
   have hb1' := (HB1.out.keep hm8 hv1).keep hm9 (by simp)
   have hown9 := owns_keepF hown8 hm9 (fun q hq => by have hq2 : some g = some q := hq; injection hq2 with hq2; simp; omega)
   obtain ⟨k1, k2⟩ := three_sets hb1' (.int .i64 (t.blocks : Nat)) (.int .i64 (t.spares : Nat)) (.slice (some ⟨g, 0, none⟩) (n + 1) cap)
   have hown10 := owns_keepF hown9 k2 (fun q hq => by have hq2 : some g = some q := hq; injection hq2 with hq2; simp; omega)
   refine bodyPost_ret (results_ct rfl rfl (load_tab k1)) rfl ?_
   rw [Tab.move_ok hi'.out (by rw [HY.out]; exact H0.out)]
   refine ⟨.slice (some ⟨g, 0, none⟩) (n + 1) cap, rfl, ?_, ?_, ?_⟩
   ·show World.ownsRow _ 0 _ 1 _ (t.moved ++ [k]).length (mvRow (t.moved ++ [k]))
    have e1 : (t.moved ++ [k]).length = n + 1 := by rw [List.length_append, HN.out]; rfl
    have e2 : mvRow (t.moved ++ [k]) = mvRow t.moved ++ [.int .i64 (k : Nat)] := by simp [mvRow]
    rw [e1, e2]
    exact ⟨hown10.1, hown10.2.imp id fun ⟨g, c, cur, a1, _, a3⟩ => ⟨g, c, cur, a1, Nat.zero_le _, a3⟩⟩
   ·have h1 : Mods [] W w8 := HM1.out.trans hm8 (fun q hq => .inr (by have := (HOW.out.lt _ (by simpa using hq)).1; omega))
    exact (h1.trans hm9 (fun q hq => .inr (by rw [List.mem_singleton.1 hq]; exact Nat.le_refl _))).trans k2 (fun q hq => .inr (by rw [List.mem_singleton.1 hq]; omega))
   ·intro q hq
    have hq2 : some g = some q := hq
    injection hq2 with hq2
    omega
end Go.Proofs.YtkjpdfomppjiiaaGreatDoor
/- slices.Backward over a row of numbers: the iterator's contract. -/
namespace Go.Proofs.YtkjpdfomppjiiaaGreatDoor
open Go.RowKit Go.Shelf

attribute [local go_sem] Oper.semAt_some

def IRows (n₀ : Nat) (W : World) (sv : Value) (c : List Nat) : Prop :=
 (sv = .slice none 0 0 ∧ c = []) ∨ ∃ g cap, sv = .slice (some ⟨g, 0, none⟩) c.length cap ∧ g < n₀ ∧ ∀ j x, c[j]? = some x → W.cell? ⟨g, j, none⟩ = some (.int .i64 (x : Nat))
theorem IRows.below {n₀ : Nat} {A B : World} (h : Below n₀ A B) {sv : Value} {c : List Nat} : IRows n₀ A sv c → IRows n₀ B sv c
 | .inl e => .inl e
 | .inr ⟨g, cap, e, hg, hc⟩ => .inr ⟨g, cap, e, hg, fun j x hj => (h.cell (p := ⟨g, j, none⟩) hg).trans (hc j x hj)⟩
abbrev encI (x : Nat × Nat) : Array Value := #[.int .i64 (x.1 : Nat), .int .i64 (x.2 : Nat)]

set_option maxRecDepth 100000 in
set_option maxHeartbeats 2000000 in
theorem backI1_in (F : Fence) (n : Nat) (h8 : F.fn 301) (hro : F.round = none) (hn : 1 ≤ n) (l Bs n₀ g cap : Nat) (c : List Nat) (len : Nat) (hlen : c.length = len) (hsm : len < 1000000) (hg : g < n₀) (J Jx : List (Nat × Nat) → World → Prop)
  (hY : ∀ pre x W, J pre W → pre.length < len → YieldAt F (n - 1) Tryz.prog l (encI x) W fun e W' =>
   (e = .returned (.bool true) ∧ J (pre ++ [x]) W' ∧ Below n₀ W W') ∨ (e = .returned (.bool false) ∧ Jx (pre ++ [x]) W'))
  (W : World) (hb : Bs < n₀) (hBs : W.cell? ⟨Bs, 0, none⟩ = some (.slice (some ⟨g, 0, none⟩) len cap)) (hc : ∀ j x, c[j]? = some x → W.cell? ⟨g, j, none⟩ = some (.int .i64 (x : Nat))) (h0 : J [] W) :
  CallsIn F n Tryz.prog 301 #[.func (.yield l) #[] #[], .pointer (some ⟨Bs, 0, none⟩)] W fun e W' => (∃ v, e = .returned v) ∧
   ((∃ ys, ys = bw c 0 len ∧ J ys W') ∨ (∃ pre, (∃ k, k ≤ len ∧ pre = bw c 0 k) ∧ Jx pre W')) := by
 have HC := Lib.hid hc
 have HL := Lib.hid hlen
 clear hc hlen
 have hwl : IntKind.i64.wrap ((len : Int) - 1) = (len : Int) - 1 := by rw [IntKind.wrap_i64]; omega
 refine callsIn_of_wp Tryz.func301 rfl h8 ?_ hro
 simp only [Tryz.ntmps301, List.size_toArray, List.length_cons, List.length_nil, Nat.reduceAdd, Nat.reduceSub, Array.replicate_succ, Array.replicate_zero, List.push_toArray, List.append_toArray, List.nil_append, List.cons_append]
 gi_wp2
 gi_loopw [3] (fun i wr => ∃ k : Nat, k ≤ len ∧ i = .int .i64 ((len : Int) - 1 - k) ∧ J (bw c 0 k) wr ∧ Below n₀ W wr)
  (fun i _ => (intOf i + 1).toNat)
 case atStart => exact ⟨0, Nat.zero_le _, by simp, h0, Below.refl _ _⟩
 case round =>
  obtain ⟨k, hk, rfl, hJs, hnx⟩ := hrel
  by_cases hlt : k < len
  ·obtain ⟨q, hq⟩ : ∃ q : Nat, (len : Int) - 1 - k = (q : Int) := ⟨len - 1 - k, by omega⟩
   have hq2 : len - 1 - k = q := by omega
   obtain ⟨x, hx⟩ : ∃ x, c[q]? = some x := ⟨_, List.getElem?_eq_getElem (by rw [HL.out]; omega)⟩
   have hb1 := (hnx.cell (p := ⟨Bs, 0, none⟩) hb).trans hBs
   have hc0 := (hnx.cell (p := ⟨g, q, none⟩) hg).trans (HC.out q x hx)
   have hbs : bw c 0 (k + 1) = bw c 0 k ++ [(q, x)] := by rw [bw_succ, HL.out, hq2, hx]; rfl
   have hw2 : IntKind.i64.wrap ((q : Int) - 1) = (q : Int) - 1 := by rw [IntKind.wrap_i64]; omega
   have hql : q < len := by omega
   have HBS := Lib.hid hbs
   have HQ := Lib.hid (And.intro hq hq2)
   obtain ⟨fn, tmps, assign, body, hy, hR⟩ := hY _ (q, x) wr hJs (by rw [bw_length]; exact hlt)
   rw [hq]
   clear hbs hq hq2 hx
   dsimp only [encI] at hy
   gi_wp2
   refine hR.mono ?_
   rintro e W3 (⟨rfl, hJ3, hk3⟩ | ⟨rfl, hJx3⟩)
   ·gi_wp2
    go_roundw
    case rel => exact ⟨k + 1, by omega, by have := HQ.out.1; simp; omega, by rw [HBS.out]; exact hJ3, hnx.trans hk3⟩
    case measure => simp [intOf]
   ·gi_wp2
    refine bodyPost_ret (results_none rfl _ _ _) rfl ?_
    exact ⟨⟨_, rfl⟩, .inr ⟨_, ⟨k + 1, by omega, HBS.out.symm⟩, hJx3⟩⟩
  ·obtain rfl : k = len := by omega
   have hm1 : (k : Int) - 1 - k = -1 := by omega
   rw [hm1]
   gi_wp2
   go_end0
   exact ⟨⟨_, rfl⟩, .inl ⟨_, rfl, hJs⟩⟩
set_option maxRecDepth 100000 in
set_option maxHeartbeats 1000000 in
theorem backI1_nil_in (F : Fence) (n : Nat) (h8 : F.fn 301) (hro : F.round = none) (l Bs : Nat) (J : List (Nat × Nat) → World → Prop) (W : World) (hBs : W.cell? ⟨Bs, 0, none⟩ = some (.slice none 0 0)) (h0 : J [] W) :
  CallsIn F n Tryz.prog 301 #[.func (.yield l) #[] #[], .pointer (some ⟨Bs, 0, none⟩)] W fun e W' => (∃ v, e = .returned v) ∧ J [] W' := by
 refine callsIn_of_wp Tryz.func301 rfl h8 ?_ hro
 simp only [Tryz.ntmps301, List.size_toArray, List.length_cons, List.length_nil, Nat.reduceAdd, Nat.reduceSub, Array.replicate_succ, Array.replicate_zero, List.push_toArray, List.append_toArray, List.nil_append, List.cons_append]
 gi_wp2
 gi_loopw [3] (fun i wr => i = .int .i64 (-1) ∧ J [] wr) (fun _ _ => 0)
 case atStart => exact ⟨rfl, h0⟩
 case round =>
  obtain ⟨rfl, hJs⟩ := hrel
  gi_wp2
  go_end0
  exact ⟨⟨_, rfl⟩, hJs⟩
set_option maxHeartbeats 1000000 in
theorem backI_in (F : Fence) (n : Nat) (h6 : F.fn 263) (hro : F.round = none) (a : Option Addr) (len cap : Nat) (w : World) :
  CallsIn F n Tryz.prog 263 #[.slice a len cap] w fun e w' => e = .returned (.func (.func 301) #[] #[.pointer (some ⟨w.heap.size, 0, none⟩)]) ∧ w' = w.alloc (.cells #[.slice a len cap] 69) := by
 refine callsIn_of_wp Tryz.func263 rfl h6 ?_ hro
 simp only [Tryz.ntmps263, List.size_toArray, List.length_cons, List.length_nil, Nat.reduceAdd, Nat.reduceSub, Array.replicate_succ, Array.replicate_zero, List.push_toArray, List.append_toArray, List.nil_append, List.cons_append]
 gi_wp2
 go_ret
 exact ⟨rfl, rfl⟩
theorem backI_stops (F : Fence) (n : Nat) (h8 : F.fn 301) (hro : F.round = none) (hn : 1 ≤ n) (Bs n₀ : Nat) (sv : Value) (c : List Nat) (hsm : c.length < 1000000) (w : World) (hb : Bs < n₀) (hn₀ : n₀ ≤ w.heap.size)
  (hc : w.cell? ⟨Bs, 0, none⟩ = some sv) (hI : IRows n₀ w sv c) :
  SeqStopsK F n Tryz.prog 301 #[.pointer (some ⟨Bs, 0, none⟩)] encI (Below n₀) (fun ys => ys = bw c 0 c.length) (fun pre => ∃ k, k ≤ c.length ∧ pre = bw c 0 k) c.length w := fun l J Jx W hW _ _ hY h0 => by
 have hc' := (hW.cell (p := ⟨Bs, 0, none⟩) (by show Bs < _; omega)).trans hc
 rcases hI.below (hW.mono hn₀) with ⟨rfl, rfl⟩ | ⟨g, cap, rfl, hg, hcs⟩
 ·exact (backI1_nil_in F n h8 hro l Bs J W hc' h0).mono fun e W' ⟨he, hj⟩ => ⟨he, .inl ⟨_, rfl, hj⟩⟩
 ·exact backI1_in F n h8 hro hn l Bs n₀ g cap c c.length rfl hsm hg J Jx hY W hb hc' hcs h0
end Go.Proofs.YtkjpdfomppjiiaaGreatDoor
/- A table's At. -/
namespace Go.Proofs.YtkjpdfomppjiiaaGreatDoor
open Go.RowKit Go.Shelf

attribute [local go_sem] Oper.semAt_some

theorem load_int1 {w : World} {r : Nat} {x : Int} (h : w.cell? ⟨r, 0, none⟩ = some (.int .i64 x)) : (loadVar 3 ⟨r, 0, none⟩).run Tryz.prog w = .ok (.int .i64 x) w := by go_simp
theorem IsMv.rows {w : World} {mv : Value} {l : List Nat} (h : IsMv w mv l) : IRows w.heap.size w mv l := by
 rcases h.2 with ⟨h1, h2⟩ | ⟨g, cp, cur, h1, h2, h3, h4⟩
 ·exact .inl ⟨h1, List.eq_nil_of_length_eq_zero h2⟩
 ·subst h1
  refine .inr ⟨g, cp, rfl, lt_of_block h3, fun j x hx => ?_⟩
  have k0 := World.ownsRow.cells h (g := g) rfl j (.int .i64 (x : Nat)) (by simp [mvRow, hx])
  rw [addr_add0] at k0
  exact k0
namespace Tab
theorem at_is {t : Tab} {i : Int} (h : t.isB i = false) : t.at_ i = (0, 3) := by unfold at_; rw [if_pos h]
theorem at_at {t : Tab} {k j : Nat} (h : t.isB (k : Int) = true) (h1 : spareOf t.moved k = some j) : t.at_ (k : Int) = (t.blocks + j, 0) := by unfold at_; rw [if_neg (by rw [h]; simp), Int.toNat_natCast, h1]
theorem at_own {t : Tab} {k : Nat} (h : t.isB (k : Int) = true) (h1 : spareOf t.moved k = none) : t.at_ (k : Int) = (k, 0) := by unfold at_; rw [if_neg (by rw [h]; simp), Int.toNat_natCast, h1]
end Tab
theorem bw_take {α : Type} (c : List α) (d : α) {k : Nat} (hk : k ≤ c.length) : bw c d c.length = bw c d k ++ (bw c d c.length).drop k := by
 have h : (bw c d c.length).take k = bw c d k := by
  unfold bw
  rw [← List.map_take, List.take_range, Nat.min_eq_left hk]
 rw [← h, List.take_append_drop]
theorem spare_none {c : List Nat} {k : Nat} (h : ∀ p ∈ bw c 0 c.length, p.2 ≠ k) : Tab.spareOf c k = none := by
 unfold Tab.spareOf
 rw [List.find?_eq_none.2]
 ·rfl
 ·intro x hx; simpa using h x hx
theorem spare_stop {c : List Nat} {k kk : Nat} (hk : kk ≤ c.length) {ini : List (Nat × Nat)} {last : Nat × Nat} (e : bw c 0 kk = ini ++ [last]) (h : ∀ p ∈ ini, p.2 ≠ k) (hl : last.2 = k) : Tab.spareOf c k = some last.1 := by
 unfold Tab.spareOf
 rw [bw_take c 0 hk, e, List.find?_append, List.find?_append, List.find?_eq_none.2]
 ·simp [hl]
 ·intro x hx; simpa using h x hx
theorem spare_lt {c : List Nat} {kk : Nat} {ini : List (Nat × Nat)} {last : Nat × Nat} (hk : kk ≤ c.length) (e : bw c 0 kk = ini ++ [last]) : last.1 ≤ c.length := by
 have h : last ∈ bw c 0 kk := by rw [e]; simp
 unfold bw at h
 obtain ⟨j, _, rfl⟩ := List.mem_map.1 h
 show c.length - 1 - j ≤ _
 omega
set_option maxRecDepth 100000 in
set_option maxHeartbeats 3200000 in
theorem tAt_any {W : World} {t : Tab} {mv : Value} (hm : IsMv W mv t.moved) (ho : t.Ok) (i : Int) :
  Calls Tryz.prog 230 #[tabV t mv, .int .i64 i] W fun e w' => e = .returned (.tuple #[.int .i64 ((t.at_ i).1 : Nat), .int .i64 ((t.at_ i).2 : Nat)]) ∧ Mods [] W w' := by
 have HMV := Lib.hid hm
 have HO := Lib.hid ho
 obtain ⟨w1, hw1⟩ : ∃ w1, (((W.alloc (.cells #[.int .i64 (t.blocks : Nat), .int .i64 (t.spares : Nat), mv] 71)).alloc (.cells #[.int .i64 i] 3)).alloc (.cells #[.int .i64 0] 3)).alloc (.cells #[.int .i64 0] 28) = w1 := ⟨_, rfl⟩
 have hm1 : Mods [] W w1 := by rw [← hw1]; exact ((((Mods.refl _ _).alloc _).alloc _).alloc _).alloc _
 obtain ⟨wa, hwa⟩ : ∃ wa, W.alloc (.cells #[.int .i64 (t.blocks : Nat), .int .i64 (t.spares : Nat), mv] 71) = wa := ⟨_, rfl⟩
 have sa : wa.heap.size = W.heap.size + 1 := by rw [← hwa]; simp
 rw [hwa] at hw1
 obtain ⟨wb, hwb⟩ : ∃ wb, wa.alloc (.cells #[.int .i64 i] 3) = wb := ⟨_, rfl⟩
 have sb : wb.heap.size = W.heap.size + 2 := by rw [← hwb]; simp [sa]
 rw [hwb] at hw1
 obtain ⟨wc, hwc⟩ : ∃ wc, wb.alloc (.cells #[.int .i64 0] 3) = wc := ⟨_, rfl⟩
 have sc : wc.heap.size = W.heap.size + 3 := by rw [← hwc]; simp [sb]
 rw [hwc] at hw1
 have hb0 : Blk w1 W.heap.size 71 [.int .i64 (t.blocks : Nat), .int .i64 (t.spares : Nat), mv] := by rw [← hw1, ← hwc, ← hwb, ← hwa]; exact (((Blk.new W 71 [.int .i64 (t.blocks : Nat), .int .i64 (t.spares : Nat), mv]).alloc _).alloc _).alloc _
 have hb1 : Blk w1 (W.heap.size + 1) 3 [.int .i64 i] := by rw [← hw1, ← hwc, ← hwb, ← sa]; exact ((Blk.new wa 3 [.int .i64 i]).alloc _).alloc _
 have hb2 : Blk w1 (W.heap.size + 2) 3 [.int .i64 0] := by rw [← hw1, ← hwc, ← sb]; exact (Blk.new wb 3 [.int .i64 0]).alloc _
 have hb3 : Blk w1 (W.heap.size + 3) 28 [.int .i64 0] := by rw [← hw1, ← sc]; exact Blk.new wc 28 [.int .i64 0]
 have HB0 := Lib.hid hb0
 have HB1 := Lib.hid hb1
 have HB2 := Lib.hid hb2
 have HB3 := Lib.hid hb3
 have HM1 := Lib.hid hm1
 have hw1' : Hid ((((W.alloc (.cells #[.int .i64 (t.blocks : Nat), .int .i64 (t.spares : Nat), mv] 71)).alloc (.cells #[.int .i64 i] 3)).alloc (.cells #[.int .i64 0] 3)).alloc (.cells #[.int .i64 0] 28) = w1) := by rw [hwa, hwb, hwc]; exact hw1
 have q0 := hb0.cell (i := 0) rfl
 have q1 := hb0.cell (i := 1) rfl
 have q2 := hb0.cell (i := 2) rfl
 have p1 := hb1.cell (i := 0) rfl
 clear hm ho hb0 hb1 hb2 hb3 hm1 hw1 hwa hwb hwc sa sb sc
 rw [tabV]
 refine (callsIn_wide (n := 6)).1 ?_
 refine callsIn_of_wp_marks Tryz.func230 rfl trivial ?_ rfl
 simp only [Tryz.ntmps230, List.size_toArray, List.length_cons, List.length_nil, Nat.reduceAdd, Nat.reduceSub, Array.replicate_succ, Array.replicate_zero, List.push_toArray, List.append_toArray, List.nil_append, List.cons_append]
 refine wpIn_wide.2 ?_
 go_wp2_with fail
 rw [hw1'.out]
 go_wp2_with fail
 refine (tIs_any t mv i).mono ?_
 rintro x w2 ⟨rfl, hm2⟩
 replace HB0 := Lib.hid (HB0.out.keep hm2 (by simp))
 replace HB1 := Lib.hid (HB1.out.keep hm2 (by simp))
 replace HB2 := Lib.hid (HB2.out.keep hm2 (by simp))
 replace HB3 := Lib.hid (HB3.out.keep hm2 (by simp))
 replace HMV := Lib.hid ((HMV.out.keep HM1.out (by simp)).keep hm2 (by simp))
 replace HM1 := Lib.hid (HM1.out.trans hm2 (by simp))
 clear q0 q1 q2 p1 hm2 hw1'
 have q0 := HB0.out.cell (i := 0) rfl
 have q1 := HB0.out.cell (i := 1) rfl
 have q2 := HB0.out.cell (i := 2) rfl
 have p1 := HB1.out.cell (i := 0) rfl
 have p2 := HB2.out.cell (i := 0) rfl
 have p3 := HB3.out.cell (i := 0) rfl
 have f2 := HB2.out.free 0
 have f3 := HB3.out.free 0
 cases his : t.isB i with
 | false =>
  have hi' := Lib.hid his
  clear his
  go_wp2_with fail
  obtain ⟨k1, k2⟩ := two_sets HB2.out HB3.out (by omega) (.int .i64 0) (.int .i64 3)
  refine ⟨_, results_cc rfl rfl rfl (load_int1 k1) (load_err1 k2), ?_⟩
  rw [Tab.at_is hi'.out]
  exact ⟨rfl, (HM1.out.setCell (.inr (show W.heap.size ≤ W.heap.size + 2 by omega)) _).setCell (.inr (show W.heap.size ≤ W.heap.size + 3 by omega)) _⟩
 | true =>
  obtain ⟨k, rfl, hk⟩ := Tab.isB_nat his
  have hi' := Lib.hid his
  clear his
  obtain ⟨A, cap, rfl, _⟩ := owns_shapeD HMV.out
  go_wp2_with fail
  refine (callsIn_wide.1 (backI_in Fence.wide 6 trivial rfl A _ cap w2)).mono ?_
  rintro x w' ⟨rfl, rfl⟩
  go_wp2_with fail
  obtain ⟨wl, hwl⟩ : ∃ wl, w2.alloc (.cells #[.slice A t.moved.length cap] 69) = wl := ⟨_, rfl⟩
  have hml : Mods [] w2 wl := by rw [← hwl]; exact (Mods.refl _ _).alloc _
  have hbs : Blk wl w2.heap.size 69 [.slice A t.moved.length cap] := by rw [← hwl]; exact Blk.new w2 69 _
  have hsl : W.heap.size + 4 ≤ wl.heap.size := by have := HB3.out.lt; have := hml.size; omega
  have hbsl := hbs.lt
  replace HB0 := Lib.hid (HB0.out.keep hml (by simp))
  replace HB1 := Lib.hid (HB1.out.keep hml (by simp))
  replace HB2 := Lib.hid (HB2.out.keep hml (by simp))
  replace HB3 := Lib.hid (HB3.out.keep hml (by simp))
  replace HM1 := Lib.hid (HM1.out.trans hml (by simp))
  replace HMV := Lib.hid (HMV.out.keep hml (by simp))
  have hl1 := HO.out.len
  have hl2 := HO.out.spares
  have hl3 := HO.out.blocks
  clear q0 q1 q2 p1 p2 p3 f2 f3
  rw [hwl]
  refine (wpIn_wide (n := 6)).1 ?_
  refine wpIn_rangeFunc_ownG rfl (by decide) (gf := 301) (lb := #[.pointer (some ⟨w2.heap.size, 0, none⟩)]) rfl trivial (enters_of Tryz.func301 (by kernel_rfl) rfl)
   (backI_stops Fence.wide 5 trivial rfl (by decide) w2.heap.size wl.heap.size _ t.moved (by omega) wl hbsl (Nat.le_refl _) (hbs.cell (i := 0) rfl) HMV.out.rows) belowK_t (belowK_b (Nat.le_refl _)) (Below.refl _ _) (fun _ => rfl)
   (fun pre W' => (∀ p ∈ pre, p.2 ≠ k) ∧ Below wl.heap.size wl W')
   (fun c pre W' => (c = .ret ∧ ∃ ini last, pre = ini ++ [last] ∧ (∀ p ∈ ini, p.2 ≠ k) ∧ last.2 = k ∧ W'.cell? ⟨W.heap.size + 2, 0, none⟩ = some (.int .i64 (wrap64 ((t.blocks : Int) + (last.1 : Int)))) ∧ W'.cell? ⟨W.heap.size + 3, 0, none⟩ = some (.int .i64 0)) ∧ Below W.heap.size wl W')
   (OwnFrom.and (Own.from (fun s A B row hs hg hr => hs) _) (ownFrom_below (Nat.le_refl _) (Nat.le_refl _)))
   (fun c => OwnFrom.and (Own.from (fun s A B row hs hg hr => by obtain ⟨hc, ini, last, e1, e2, e3, e4, e5⟩ := hs; exact ⟨hc, ini, last, e1, e2, e3, cell_kept e4 hg hr, cell_kept e5 hg hr⟩) _) (ownFrom_below (by omega) (by omega)))
   ⟨by simp, Below.refl _ _⟩
   (fun x => { tmps := #[.agg #[.int .i64 (t.blocks : Nat), .int .i64 (t.spares : Nat), .slice A t.moved.length cap], .int .i64 (k : Nat), .pointer (some ⟨W.heap.size, 0, none⟩), .pointer (some ⟨W.heap.size + 1, 0, none⟩), .pointer (some ⟨W.heap.size + 1 + 1, 0, none⟩), .pointer (some ⟨W.heap.size + 1 + 1 + 1, 0, none⟩), .int .i64 (x.1 : Nat), .int .i64 (x.2 : Nat), .agg #[.int .i64 (t.blocks : Nat), .int .i64 (t.spares : Nat), .slice A t.moved.length cap], .int .i64 (k : Nat), .bool true, .bool false, .pointer (some ⟨W.heap.size, 2, none⟩), .slice A t.moved.length cap, .func (.func 301) #[] #[.pointer (some ⟨w2.heap.size, 0, none⟩)], .int .i64 (x.1 : Nat), .int .i64 (x.2 : Nat), undef, undef, undef, undef, undef, undef, undef, undef], defers := [] }) ?assign ?body ?done ?stop
  case assign =>
   intro l x W' K hK
   gi_wp2
   exact hK
  case body =>
   rintro l pre x W' ⟨hp, hB⟩ _
   have hmb := Mods.of_below hB []
   have b0 := HB0.out.keep hmb (by simp)
   have b1 := HB1.out.keep hmb (by simp)
   have b2 := HB2.out.keep hmb (by simp)
   have b3 := HB3.out.keep hmb (by simp)
   have q0 := b0.cell (i := 0) rfl
   have q1 := b1.cell (i := 0) rfl
   have q2 := b2.cell (i := 0) rfl
   have q3 := b3.cell (i := 0) rfl
   have g2 := b2.free 0
   have g3 := b3.free 0
   have HBB := Lib.hid hB
   have HP := Lib.hid hp
   have HB2' := Lib.hid b2
   have HB3' := Lib.hid b3
   clear hmb b0 b1 b2 b3 hB hp
   obtain ⟨x0, x1⟩ := x
   by_cases hx : x1 = k
   ·subst hx
    gi_wp2
    obtain ⟨k1, k2⟩ := two_sets HB2'.out HB3'.out (by omega) (.int .i64 (wrap64 ((t.blocks : Int) + (x0 : Int)))) (.int .i64 0)
    exact ⟨((KeepsOthers.setCell _ _ _).trans (KeepsOthers.setCell _ _ _)).from _, ⟨rfl, pre, (x0, x1), rfl, HP.out, rfl, k1, k2⟩, ((HBB.out.mono (by omega)).setCell (p := ⟨W.heap.size + 2, 0, none⟩) (show W.heap.size ≤ W.heap.size + 2 by omega) _).setCell (p := ⟨W.heap.size + 3, 0, none⟩) (show W.heap.size ≤ W.heap.size + 3 by omega) _⟩
   ·have hx2 : ¬ ((x1 : Nat) : Int) = ((k : Nat) : Int) := by omega
    gi_wp2
    exact ⟨KeepsFrom.refl _ _, Below.refl _ _, fun p hp' => (List.mem_append.1 hp').elim (HP.out p) (fun e => by simp at e; subst e; exact hx), HBB.out⟩
  case done =>
   rintro DD ys W' hD rfl ⟨hp, hB⟩ hK
   have hmb := Mods.of_below hB []
   have b1 := HB1.out.keep hmb (by simp)
   have b2 := HB2.out.keep hmb (by simp)
   have b3 := HB3.out.keep hmb (by simp)
   have q1 := b1.cell (i := 0) rfl
   have q2 := b2.cell (i := 0) rfl
   have q3 := b3.cell (i := 0) rfl
   have g2 := b2.free 0
   have g3 := b3.free 0
   have hcur := Lib.hid (Tab.at_own hi'.out (spare_none hp))
   have HB2' := Lib.hid b2
   have HB3' := Lib.hid b3
   have HK := Lib.hid hK
   have HHD := Lib.hid hD
   have HBB := Lib.hid hB
   clear hmb b1 b2 b3 hp hB hK hD
   go_wp2_with fail
   obtain ⟨k1, k2⟩ := two_sets HB2'.out HB3'.out (by omega) (.int .i64 (k : Nat)) (.int .i64 0)
   have hb1 : Below W.heap.size wl ((W'.setCell ⟨W.heap.size + 2, 0, none⟩ (.int .i64 (k : Nat))).setCell ⟨W.heap.size + 3, 0, none⟩ (.int .i64 0)) := ((HBB.out.mono (by omega)).setCell (p := ⟨W.heap.size + 2, 0, none⟩) (show W.heap.size ≤ W.heap.size + 2 by omega) _).setCell (p := ⟨W.heap.size + 3, 0, none⟩) (show W.heap.size ≤ W.heap.size + 3 by omega) _
   have hK1 := ((KeepsOthers.setCell W' ⟨W.heap.size + 2, 0, none⟩ (.int .i64 (k : Nat))).trans (KeepsOthers.setCell _ ⟨W.heap.size + 3, 0, none⟩ (.int .i64 0))).same DD _ HK.out rfl
   obtain ⟨wf, hwf⟩ : ∃ wf, (W'.setCell ⟨W.heap.size + 1 + 1, 0, none⟩ (.int .i64 (k : Nat))).setCell ⟨W.heap.size + 1 + 1 + 1, 0, none⟩ (.int .i64 0) = wf := ⟨_, rfl⟩
   have hK2 : wf.heap[DD]? = some (.deferred (some [])) := by rw [← hwf]; exact hK1
   have k3 : wf.cell? ⟨W.heap.size + 2, 0, none⟩ = some (.int .i64 (k : Nat)) := by rw [← hwf]; exact k1
   have k4 : wf.cell? ⟨W.heap.size + 3, 0, none⟩ = some (.int .i64 0) := by rw [← hwf]; exact k2
   have hb3 : Below W.heap.size wl wf := by rw [← hwf]; exact hb1
   rw [hwf]
   refine ⟨by simp, .inl ⟨_, _, rfl, run_takeDeferred hK2, ?_⟩⟩
   have c4 := cell_kept k3 (grownBy_putObj' _ DD (.deferred none)) (fun r e => by cases e; exact ⟨_, hK2, rfl⟩)
   have c5 := cell_kept k4 (grownBy_putObj' _ DD (.deferred none)) (fun r e => by cases e; exact ⟨_, hK2, rfl⟩)
   refine ⟨_, results_cc rfl rfl rfl (load_int1 c4) (load_err1 c5), ?_⟩
   rw [hcur.out]
   have hb2 : Below W.heap.size wl (wf.putObj DD (.deferred none)) := hb3.trans (belowK_b (w := wl) (by omega) wf DD _ _ HHD.out hK2 rfl rfl)
   exact ⟨rfl, HM1.out.trans (below_mods hb2) (fun q hq => .inr (by simp at hq; omega))⟩
  case stop =>
   rintro DD c pre W' hD ⟨kk, hkk, rfl⟩ ⟨⟨rfl, ini, last, e1, e2, e3, e4, e5⟩, hB⟩ hK
   refine (wpIn_wide (n := 6)).2 ?_
   have HK := Lib.hid hK
   clear hK
   go_wp2_with fail
   refine ⟨by simp, .inl ⟨_, _, rfl, run_takeDeferred HK.out, ?_⟩⟩
   have c4 := cell_kept e4 (grownBy_putObj' _ DD (.deferred none)) (fun r e => by cases e; exact ⟨_, HK.out, rfl⟩)
   have c5 := cell_kept e5 (grownBy_putObj' _ DD (.deferred none)) (fun r e => by cases e; exact ⟨_, HK.out, rfl⟩)
   refine ⟨_, results_cc rfl rfl rfl (load_int1 c4) (load_err1 c5), ?_⟩
   rw [Tab.at_at hi'.out (spare_stop hkk e1 e2 e3)]
   have hll := spare_lt hkk e1
   have hb2 : Below W.heap.size wl (W'.putObj DD (.deferred none)) := hB.trans (belowK_b (w := wl) (by omega) W' DD _ _ hD HK.out rfl rfl)
   refine ⟨?_, HM1.out.trans (below_mods hb2) (fun q hq => .inr (by simp at hq; omega))⟩
   have hw : wrap64 ((t.blocks : Int) + (last.1 : Int)) = ((t.blocks + last.1 : Nat) : Int) := by unfold wrap64; omega
   rw [hw]
   rfl
end Go.Proofs.YtkjpdfomppjiiaaGreatDoor
namespace Go.Proofs.YtkjpdfomppjiiaaGreatDoor
open Go.RowKit

set_option maxRecDepth 100000 in
set_option maxHeartbeats 1600000 in
theorem tNew_any {W : World} (n s : Nat) (hn0 : 1 ≤ n) (hn1 : n ≤ 4096) (hs : s ≤ 32) :
  Calls Tryz.prog 111 #[.int .i64 (n : Nat), .int .i64 (s : Nat)] W fun e w' => e = .returned (.tuple #[tabV ⟨n, s, []⟩ (.slice none 0 0), .int .i64 0]) ∧ Mods [] W w' := by
 go_enter Tryz.func111, Tryz.ntmps111
 go_wp2_with fail
 refine bodyPost_ret (results_ct rfl rfl (load_tab (Blk.new W 71 [.int .i64 (n : Nat), .int .i64 (s : Nat), .slice none 0 0]))) rfl ?_
 exact ⟨rfl, (Mods.refl _ _).alloc _⟩
theorem tBlocks_any {W : World} (t : Tab) (mv : Value) : Calls Tryz.prog 32 #[tabV t mv] W fun e w' => e = .returned (.int .i64 (t.blocks : Nat)) ∧ Mods [] W w' := by
 unfold tabV
 go_enter Tryz.func32, Tryz.ntmps32
 go_wp2_with fail
 go_ret
 exact ⟨rfl, (Mods.refl _ _).alloc _⟩
end Go.Proofs.YtkjpdfomppjiiaaGreatDoor
